/- 'StmtItems' returns true, whatever it is handed; the tied card. -/
import Derived.Test.YtejjlojfgcgopaaGreatDoorZi9
set_option linter.unusedSimpArgs false
set_option linter.unusedVariables false
namespace Go.Proofs.YtejjlojfgcgopaaGreatDoor
open Go.ChangeShapes Go.WideShapes Go.ChangeAt Go.ChangeMaps Go.RowKit Go.Proofs.Fw
set_option maxRecDepth 100000
namespace stmtItems
theorem walk (a0 : Value) (lv0 : AV) (hz0 : lv0 = .emp ∨ ∃ ls : List Ur, lv0 = ruE.av ls ∧ ∀ r ∈ ls, ∀ u ∈ r.l, u < 65536) (W : World) (hr0 : RepV (ghAll W) lv0 a0) (hL : laidMetH Tryz.prog Rows.stmtItemsRow.laid W) :
    Calls Tryz.prog 4 #[a0] W fun e W' => e = .returned (.bool true) ∧ Below W.heap.size W W' := by
  rcases hz0 with rfl | ⟨ls, rfl, hu⟩
  · exact (itemsLaw_emp []).lift_bool (globsF hL) (cargs := [a0]) (by simp only [RepL]; exact ⟨a0, [], rfl, hr0, rfl⟩)
  · exact (itemsLaw_cs ls hu []).lift_bool (globsF hL) (cargs := [a0]) (by simp only [RepL]; exact ⟨a0, [], rfl, hr0, rfl⟩)
theorem laidOutAll : laidOutB Tryz.prog = true := by kernel_rfl
theorem contract (H : Type) (enc : TypeId × Value → H) (W : World) (base : Nat) (args : Array Value) (ds gs : List (DataW H)) (before : List MemPlace)
    (hval : ∀ (j : Nat) t v, Tryz.f4.params[j]? = some t → args[j]? = some v → Value.okWide Tryz.prog W .any base t v)
    (hW : DataW.Whole enc Tryz.prog Tryz.f4.params.toList Rows.stmtItemsSpec.vars false W args.toList ds gs before) (hL : laidMetH Tryz.prog Rows.stmtItemsRow.laid W) :
    Calls Tryz.prog 4 args W fun e W' => ∃ v, e = .returned v ∧ Rows.stmtItemsSpec.post enc Tryz.prog Tryz.f4 false true false false W args v W' := by
  have hW' := hW
  obtain ⟨p, q, hA0, hV, rfl, hfz, hnd⟩ := hW
  have hA : DataW.TrodAll enc Tryz.prog W 0 (fun _ => true) true Tryz.f4.params.toList args.toList ds p := hA0
  rw [Tryz.params4] at hA hval
  obtain ⟨v0, vs0, d0, ds0, p0, q0, hargs, rfl, rfl, h0, r0⟩ := trodAll_cons hA
  obtain ⟨rfl, rfl, rfl⟩ := trodAll_nil r0
  obtain rfl : args = #[v0] := by cases args; simp_all
  obtain ⟨rfl, rfl⟩ := trodVars_none hV
  have hv0 := hval 0 38 v0 rfl rfl
  have hlt0 : ∀ x ∈ p0, x.block < W.heap.size := fun x hx => hW'.lt x (by simp [hx])
  obtain ⟨lv0, hz0, hr0⟩ := open_uRows hv0 h0
  clear hA0
  refine (walk v0 lv0 hz0 W hr0 hL).mono fun e W' ⟨he, bel⟩ => ?_
  subst he
  exact ⟨_, rfl, _, _, _, [], _, [], hW', trodAll_mk1 (shut_bool Tryz.underlying4 _), trodAll_cons_mk (Below.trod laidOutAll (by kernel_rfl) (of_decide_eq_true (by kernel_rfl)) h0 bel hlt0) trodAll_mk0, rfl, bel.frame _, fun h => by cases h⟩
end stmtItems
end Go.Proofs.YtejjlojfgcgopaaGreatDoor
