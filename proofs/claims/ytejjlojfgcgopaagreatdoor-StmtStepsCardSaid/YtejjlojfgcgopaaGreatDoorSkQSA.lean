/- 'StmtSteps' returns true, whatever it is handed; the tied card. -/
import Derived.Test.YtejjlojfgcgopaaGreatDoorSkD
import Derived.Test.YtejjlojfgcgopaaGreatDoorSkP
set_option linter.unusedSimpArgs false
set_option linter.unusedVariables false
namespace Go.Proofs.YtejjlojfgcgopaaGreatDoor
open Go.ChangeShapes Go.WideShapes Go.ChangeAt Go.ChangeMaps Go.RowKit Go.Proofs.Fw
set_option maxRecDepth 100000

namespace stmtSteps
theorem walk (a0 : Int) (w0 : (Lit.int .u32 a0).wf = true) (a1 : Bool) (W : World) (hL : laidMetH Tryz.prog Rows.stmtStepsRow.laid W) :
    Calls Tryz.prog 5 #[.int .u32 a0, .bool a1] W fun e W' => e = .returned (.bool true) ∧ Below W.heap.size W W' := by
  have e1 : IntKind.u32.min = 0 := rfl
  have e2 : IntKind.u32.max = 4294967295 := rfl
  have ha : 0 ≤ a0 ∧ a0 ≤ 4294967295 := by simpa [Lit.wf, e1, e2] using w0
  obtain ⟨n, rfl⟩ := Int.eq_ofNat_of_zero_le ha.1
  exact (stepsLaw_cs n (by omega) a1 []).lift_bool (globsF hL) (cargs := [.int .u32 (n : Int), .bool a1]) (by simp [RepL, RepV])

theorem contract (H : Type) (enc : TypeId × Value → H) (W : World) (base : Nat) (args : Array Value) (ds gs : List (DataW H)) (before : List MemPlace)
    (hval : ∀ (j : Nat) t v, Tryz.f5.params[j]? = some t → args[j]? = some v → Value.okWide Tryz.prog W .any base t v)
    (hW : DataW.Whole enc Tryz.prog Tryz.f5.params.toList Rows.stmtStepsSpec.vars false W args.toList ds gs before) (hL : laidMetH Tryz.prog Rows.stmtStepsRow.laid W) :
    Calls Tryz.prog 5 args W fun e W' => ∃ v, e = .returned v ∧ Rows.stmtStepsSpec.post enc Tryz.prog Tryz.f5 false true false false W args v W' := by
  have hW' := hW
  obtain ⟨p, q, hA0, hV, rfl, hfz, hnd⟩ := hW
  have hA : DataW.TrodAll enc Tryz.prog W 0 (fun _ => true) true Tryz.f5.params.toList args.toList ds p := hA0
  rw [Tryz.params5] at hA hval
  obtain ⟨v0, vs0, d0, ds0, p0, q0, hargs, rfl, rfl, h0, r0⟩ := trodAll_cons hA
  obtain ⟨v1, vs1, d1, ds1, p1, q1, rfl, rfl, rfl, h1, r1⟩ := trodAll_cons r0
  obtain ⟨rfl, rfl, rfl⟩ := trodAll_nil r1
  obtain rfl : args = #[v0, v1] := by cases args; simp_all
  obtain ⟨rfl, rfl⟩ := trodVars_none hV
  obtain ⟨a0, rfl, rfl, rfl, w0⟩ := open_int Tryz.underlying65 (hval 0 65 v0 rfl rfl) h0
  obtain ⟨a1, rfl, rfl, rfl, w1⟩ := open_bool Tryz.underlying4 (hval 1 4 v1 rfl rfl) h1
  clear hA0
  refine (walk a0 w0 a1 W hL).mono fun e W' ⟨he, bel⟩ => ?_
  subst he
  exact ⟨_, rfl, _, _, _, [], _, [], hW', trodAll_mk1 (shut_bool Tryz.underlying4 _), trodAll_cons_mk (shut_int Tryz.underlying65 w0) (trodAll_cons_mk (shut_bool Tryz.underlying4 a1) trodAll_mk0), rfl, bel.frame _, fun h => by cases h⟩

end stmtSteps
end Go.Proofs.YtejjlojfgcgopaaGreatDoor
