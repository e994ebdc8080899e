/- 'TokJoined' returns true, whatever its two bytes are; the tied card. -/
import Derived.Test.YtpmonaempgjgbaaDoorTjD0
import Derived.Test.YtpmonaempgjgbaaDoorTjD1
import Derived.Test.YtpmonaempgjgbaaDoorTjD2
import Derived.Test.YtpmonaempgjgbaaDoorTjD3
import Derived.Test.YtpmonaempgjgbaaDoorTjD4
import Derived.Test.YtpmonaempgjgbaaDoorCards
import Derived.Test.YtpmonaempgjgbaaDoorTie
import Derived.WalkKit
import Derived.ProofKit
import Derived.OpenShut
import Derived.Deep.DeepHandedRow
import Derived.Deep.DeepWitnessRowRef
import Derived.LaidMore
namespace Go.Proofs.YtpmonaempgjgbaaDoor
open Go.ChangeShapes Go.WideShapes Go.ChangeAt Go.RowKit Go.Proofs.Fw
set_option maxRecDepth 100000

theorem tails0 (a b : Int) (y : Nat) (hy : y < 10) : fin Tryd.prog Tryd.f5 (evCode oT Tryd.prog envT 100 k5 (S5 a b 0 y) []) = some (.bool true, []) := by
  have h : y = 0 ∨ y = 1 ∨ y = 2 ∨ y = 3 ∨ y = 4 ∨ y = 5 ∨ y = 6 ∨ y = 7 ∨ y = 8 ∨ y = 9 := by omega
  rcases h with rfl | rfl | rfl | rfl | rfl | rfl | rfl | rfl | rfl | rfl
  · exact t0_0 a b
  · exact t0_1 a b
  · exact t0_2 a b
  · exact t0_3 a b
  · exact t0_4 a b
  · exact t0_5 a b
  · exact t0_6 a b
  · exact t0_7 a b
  · exact t0_8 a b
  · exact t0_9 a b
theorem tails1 (a b : Int) (y : Nat) (hy : y < 10) : fin Tryd.prog Tryd.f5 (evCode oT Tryd.prog envT 100 k5 (S5 a b 1 y) []) = some (.bool true, []) := by
  have h : y = 0 ∨ y = 1 ∨ y = 2 ∨ y = 3 ∨ y = 4 ∨ y = 5 ∨ y = 6 ∨ y = 7 ∨ y = 8 ∨ y = 9 := by omega
  rcases h with rfl | rfl | rfl | rfl | rfl | rfl | rfl | rfl | rfl | rfl
  · exact t1_0 a b
  · exact t1_1 a b
  · exact t1_2 a b
  · exact t1_3 a b
  · exact t1_4 a b
  · exact t1_5 a b
  · exact t1_6 a b
  · exact t1_7 a b
  · exact t1_8 a b
  · exact t1_9 a b
theorem tails2 (a b : Int) (y : Nat) (hy : y < 10) : fin Tryd.prog Tryd.f5 (evCode oT Tryd.prog envT 100 k5 (S5 a b 2 y) []) = some (.bool true, []) := by
  have h : y = 0 ∨ y = 1 ∨ y = 2 ∨ y = 3 ∨ y = 4 ∨ y = 5 ∨ y = 6 ∨ y = 7 ∨ y = 8 ∨ y = 9 := by omega
  rcases h with rfl | rfl | rfl | rfl | rfl | rfl | rfl | rfl | rfl | rfl
  · exact t2_0 a b
  · exact t2_1 a b
  · exact t2_2 a b
  · exact t2_3 a b
  · exact t2_4 a b
  · exact t2_5 a b
  · exact t2_6 a b
  · exact t2_7 a b
  · exact t2_8 a b
  · exact t2_9 a b
theorem tails3 (a b : Int) (y : Nat) (hy : y < 10) : fin Tryd.prog Tryd.f5 (evCode oT Tryd.prog envT 100 k5 (S5 a b 3 y) []) = some (.bool true, []) := by
  have h : y = 0 ∨ y = 1 ∨ y = 2 ∨ y = 3 ∨ y = 4 ∨ y = 5 ∨ y = 6 ∨ y = 7 ∨ y = 8 ∨ y = 9 := by omega
  rcases h with rfl | rfl | rfl | rfl | rfl | rfl | rfl | rfl | rfl | rfl
  · exact t3_0 a b
  · exact t3_1 a b
  · exact t3_2 a b
  · exact t3_3 a b
  · exact t3_4 a b
  · exact t3_5 a b
  · exact t3_6 a b
  · exact t3_7 a b
  · exact t3_8 a b
  · exact t3_9 a b
theorem tails4 (a b : Int) (y : Nat) (hy : y < 10) : fin Tryd.prog Tryd.f5 (evCode oT Tryd.prog envT 100 k5 (S5 a b 4 y) []) = some (.bool true, []) := by
  have h : y = 0 ∨ y = 1 ∨ y = 2 ∨ y = 3 ∨ y = 4 ∨ y = 5 ∨ y = 6 ∨ y = 7 ∨ y = 8 ∨ y = 9 := by omega
  rcases h with rfl | rfl | rfl | rfl | rfl | rfl | rfl | rfl | rfl | rfl
  · exact t4_0 a b
  · exact t4_1 a b
  · exact t4_2 a b
  · exact t4_3 a b
  · exact t4_4 a b
  · exact t4_5 a b
  · exact t4_6 a b
  · exact t4_7 a b
  · exact t4_8 a b
  · exact t4_9 a b
theorem tails5 (a b : Int) (y : Nat) (hy : y < 10) : fin Tryd.prog Tryd.f5 (evCode oT Tryd.prog envT 100 k5 (S5 a b 5 y) []) = some (.bool true, []) := by
  have h : y = 0 ∨ y = 1 ∨ y = 2 ∨ y = 3 ∨ y = 4 ∨ y = 5 ∨ y = 6 ∨ y = 7 ∨ y = 8 ∨ y = 9 := by omega
  rcases h with rfl | rfl | rfl | rfl | rfl | rfl | rfl | rfl | rfl | rfl
  · exact t5_0 a b
  · exact t5_1 a b
  · exact t5_2 a b
  · exact t5_3 a b
  · exact t5_4 a b
  · exact t5_5 a b
  · exact t5_6 a b
  · exact t5_7 a b
  · exact t5_8 a b
  · exact t5_9 a b
theorem tails6 (a b : Int) (y : Nat) (hy : y < 10) : fin Tryd.prog Tryd.f5 (evCode oT Tryd.prog envT 100 k5 (S5 a b 6 y) []) = some (.bool true, []) := by
  have h : y = 0 ∨ y = 1 ∨ y = 2 ∨ y = 3 ∨ y = 4 ∨ y = 5 ∨ y = 6 ∨ y = 7 ∨ y = 8 ∨ y = 9 := by omega
  rcases h with rfl | rfl | rfl | rfl | rfl | rfl | rfl | rfl | rfl | rfl
  · exact t6_0 a b
  · exact t6_1 a b
  · exact t6_2 a b
  · exact t6_3 a b
  · exact t6_4 a b
  · exact t6_5 a b
  · exact t6_6 a b
  · exact t6_7 a b
  · exact t6_8 a b
  · exact t6_9 a b
theorem tails7 (a b : Int) (y : Nat) (hy : y < 10) : fin Tryd.prog Tryd.f5 (evCode oT Tryd.prog envT 100 k5 (S5 a b 7 y) []) = some (.bool true, []) := by
  have h : y = 0 ∨ y = 1 ∨ y = 2 ∨ y = 3 ∨ y = 4 ∨ y = 5 ∨ y = 6 ∨ y = 7 ∨ y = 8 ∨ y = 9 := by omega
  rcases h with rfl | rfl | rfl | rfl | rfl | rfl | rfl | rfl | rfl | rfl
  · exact t7_0 a b
  · exact t7_1 a b
  · exact t7_2 a b
  · exact t7_3 a b
  · exact t7_4 a b
  · exact t7_5 a b
  · exact t7_6 a b
  · exact t7_7 a b
  · exact t7_8 a b
  · exact t7_9 a b
theorem tails8 (a b : Int) (y : Nat) (hy : y < 10) : fin Tryd.prog Tryd.f5 (evCode oT Tryd.prog envT 100 k5 (S5 a b 8 y) []) = some (.bool true, []) := by
  have h : y = 0 ∨ y = 1 ∨ y = 2 ∨ y = 3 ∨ y = 4 ∨ y = 5 ∨ y = 6 ∨ y = 7 ∨ y = 8 ∨ y = 9 := by omega
  rcases h with rfl | rfl | rfl | rfl | rfl | rfl | rfl | rfl | rfl | rfl
  · exact t8_0 a b
  · exact t8_1 a b
  · exact t8_2 a b
  · exact t8_3 a b
  · exact t8_4 a b
  · exact t8_5 a b
  · exact t8_6 a b
  · exact t8_7 a b
  · exact t8_8 a b
  · exact t8_9 a b
theorem tails9 (a b : Int) (y : Nat) (hy : y < 10) : fin Tryd.prog Tryd.f5 (evCode oT Tryd.prog envT 100 k5 (S5 a b 9 y) []) = some (.bool true, []) := by
  have h : y = 0 ∨ y = 1 ∨ y = 2 ∨ y = 3 ∨ y = 4 ∨ y = 5 ∨ y = 6 ∨ y = 7 ∨ y = 8 ∨ y = 9 := by omega
  rcases h with rfl | rfl | rfl | rfl | rfl | rfl | rfl | rfl | rfl | rfl
  · exact t9_0 a b
  · exact t9_1 a b
  · exact t9_2 a b
  · exact t9_3 a b
  · exact t9_4 a b
  · exact t9_5 a b
  · exact t9_6 a b
  · exact t9_7 a b
  · exact t9_8 a b
  · exact t9_9 a b
theorem tails (a b : Int) (x y : Nat) (hx : x < 10) (hy : y < 10) : fin Tryd.prog Tryd.f5 (evCode oT Tryd.prog envT 100 k5 (S5 a b x y) []) = some (.bool true, []) := by
  have h : x = 0 ∨ x = 1 ∨ x = 2 ∨ x = 3 ∨ x = 4 ∨ x = 5 ∨ x = 6 ∨ x = 7 ∨ x = 8 ∨ x = 9 := by omega
  rcases h with rfl | rfl | rfl | rfl | rfl | rfl | rfl | rfl | rfl | rfl
  · exact tails0 a b y hy
  · exact tails1 a b y hy
  · exact tails2 a b y hy
  · exact tails3 a b y hy
  · exact tails4 a b y hy
  · exact tails5 a b y hy
  · exact tails6 a b y hy
  · exact tails7 a b y hy
  · exact tails8 a b y hy
  · exact tails9 a b y hy

theorem hb5 : Tryd.f5.body = some c5 := by kernel_rfl
theorem law_run (a b : Int) (x y : Nat) (hx : x < 10) (hy : y < 10) (ha : a.tmod 10 = x) (hb : b.tmod 10 = y) : evFunc oT Tryd.prog envT 100 5 [.int .u8 a, .int .u8 b] [] = some (.bool true, []) :=
  (evFunc_fin (O := oT) (P := Tryd.prog) (E := envT) (n := 100) (f := 5) (fn := Tryd.f5) (c := c5) Tryd.func5 hb5 [.int .u8 a, .int .u8 b] []).trans
    ((congrArg (fin Tryd.prog Tryd.f5) (law_front a b x y hx hy ha hb)).trans (tails a b x y hx hy))

theorem law_cs (a b : Int) (ha : 0 ≤ a) (hb : 0 ≤ b) : CS Tryd.prog envT 5 [.int .u8 a, .int .u8 b] [] (.bool true) [] := by
  have h1 : ∃ x : Nat, x < 10 ∧ a.tmod 10 = x := ⟨(a % 10).toNat, by omega, by rw [Int.tmod_eq_emod_of_nonneg ha]; omega⟩
  have h2 : ∃ y : Nat, y < 10 ∧ b.tmod 10 = y := ⟨(b % 10).toNat, by omega, by rw [Int.tmod_eq_emod_of_nonneg hb]; omega⟩
  obtain ⟨x, hx, hax⟩ := h1
  obtain ⟨y, hy, hby⟩ := h2
  exact evFunc_ok (O := oT) (n := 100) oT_sound methT mixed (law_run a b x y hx hy hax hby)

theorem gSpace : Tryd.prog.globalNamed "strings.asciiSpace" = some 1 := by kernel_rfl
theorem tSpace : (Tryd.prog.globals[1]?).map (·.type) = some 90 := by kernel_rfl
theorem rowSpace : avRow (H := Unit) Tryd.prog 3 90 Rows.laid_strings_asciiSpace = spaceCells := by kernel_rfl

/-- What the row's list gives: the table of the blanks. -/
theorem glob_of {l : List (String × DataW Unit)} {W : World} (h : laidMet Tryd.prog l W) (hm : ("strings.asciiSpace", Rows.laid_strings_asciiSpace) ∈ l) : GlobOk envT (ghAll W) := by
  obtain ⟨ps, h, _⟩ := h
  refine globOk_of (tab := [(1, .vptr spaceCells 0)]) rfl fun x hx => ?_
  simp only [List.mem_singleton] at hx
  subst hx
  have := laid_rep h hm 3 gSpace tSpace
  rw [rowSpace] at this
  exact this

namespace tokJoined
theorem own : ownKnob Tryd.prog.godebug = none := by kernel_rfl

theorem walk (a b : Int) (ha : (Lit.int .u8 a).wf = true) (hb : (Lit.int .u8 b).wf = true) (W : World) (hL : laidMetH Tryd.prog Rows.tokJoinedRow.laid W) :
    Calls Tryd.prog 5 #[.int .u8 a, .int .u8 b] W fun e W' => e = .returned (.bool true) ∧ Below W.heap.size W W' := by
  have h : laidMet Tryd.prog Rows.tokJoinedRow.laid W := hL
  have hg := glob_of h (by simp [Rows.tokJoinedRow])
  have h0 : 0 ≤ a := by simp [Lit.wf, IntKind.min, IntKind.max, IntKind.bits, IntKind.signed] at ha; omega
  have h1 : 0 ≤ b := by simp [Lit.wf, IntKind.min, IntKind.max, IntKind.bits, IntKind.signed] at hb; omega
  exact (law_cs a b h0 h1).lift_bool hg (cargs := [.int .u8 a, .int .u8 b]) (by simp [RepL, RepV])

/-- What the walk gives, for every argument and every world that holds the tables. -/
theorem contract (H : Type) (enc : TypeId × Value → H) (W : World) (base : Nat) (args : Array Value) (ds gs : List (DataW H)) (before : List MemPlace)
    (hval : ∀ (j : Nat) t v, Tryd.f5.params[j]? = some t → args[j]? = some v → Value.okWide Tryd.prog W .any base t v)
    (hW : DataW.Whole enc Tryd.prog Tryd.f5.params.toList Rows.tokJoinedSpec.vars false W args.toList ds gs before) (hL : laidMetH Tryd.prog Rows.tokJoinedRow.laid W) :
    Calls Tryd.prog 5 args W fun e W' => ∃ v, e = .returned v ∧ Rows.tokJoinedSpec.post enc Tryd.prog Tryd.f5 false true false false W args v W' := by
  have hW' := hW
  obtain ⟨p, q, hA0, hV, rfl, hfz, hnd⟩ := hW
  have hA : DataW.TrodAll enc Tryd.prog W 0 (fun _ => true) true Tryd.f5.params.toList args.toList ds p := hA0
  rw [Tryd.params5] at hA hval
  obtain ⟨v0, vs0, d0, ds0, p0, q0, hargs, rfl, rfl, h0, r0⟩ := trodAll_cons hA
  obtain ⟨v1, vs1, d1, ds1, p1, q1, rfl, rfl, rfl, h1, r1⟩ := trodAll_cons r0
  obtain ⟨rfl, rfl, rfl⟩ := trodAll_nil r1
  obtain rfl : args = #[v0, v1] := by cases args; simp_all
  obtain ⟨rfl, rfl⟩ := trodVars_none hV
  obtain ⟨a, rfl, rfl, rfl, wa⟩ := open_int Tryd.underlying5 (hval 0 5 v0 rfl rfl) h0
  obtain ⟨b, rfl, rfl, rfl, wb⟩ := open_int Tryd.underlying5 (hval 1 5 v1 rfl rfl) h1
  clear hA0
  refine (walk a b wa wb W hL).mono fun e W' ⟨he, bel⟩ => ?_
  subst he
  exact ⟨_, rfl, _, _, _, [], _, [], hW', trodAll_mk1 (shut_bool Tryd.underlying4 _), trodAll_cons_mk (shut_int Tryd.underlying5 wa) (trodAll_cons_mk (shut_int Tryd.underlying5 wb) trodAll_mk0), rfl, bel.frame _, fun h => by cases h⟩

theorem laid_met (os : Os) : laidMetH Tryd.prog Rows.tokJoinedRow.laid ((World.doorLaid Tryd.prog 93 os).forCall (fun _ _ => 0) ⟨#[], #[.int .u8 0, .int .u8 0], []⟩).memory :=
  laidMetH_of_parts3 (fuel := 8) (laidMet_of_run' 8 (by kernel_rfl) (by kernel_rfl)) (by kernel_rfl) (by kernel_rfl)
theorem reads (os : Os) {H : Type} (enc : TypeId × Value → H) : ∃ places, DataW.whole enc Tryd.prog ((World.doorLaid Tryd.prog 93 os).forCall (fun _ _ => 0) ⟨#[], #[.int .u8 0, .int .u8 0], []⟩).memory Tryd.f5.params.toList Rows.tokJoinedSpec.vars false #[Value.int .u8 0, Value.int .u8 0].toList 8 = some ([.lit (.int .u8 0), .lit (.int .u8 0)], [], places) :=
  ⟨[], by kernel_rfl⟩

theorem lifted (os : Os) (started : os.Started) (H : Type) (enc : TypeId × Value → H) (F : Stop.Interp) :
    ReturnsInHanded {} Tryd.checked os 5 .any ((OpenSpec.ofChange Rows.tokJoinedSpec).preRow enc Tryd.prog Tryd.f5 Rows.tokJoinedRow.domain false Rows.tokJoinedRow.laid) (((OpenSpec.ofChange Rows.tokJoinedSpec).at F).post enc Tryd.prog Tryd.f5 false true false false) := by
  obtain ⟨places, hx⟩ := reads os enc
  refine returnsInHanded_of_row (C := Tryd.checked) (s := OpenSpec.ofChange Rows.tokJoinedSpec) own started (by kernel_rfl) Tryd.func5
    (witness_row_atRef (enc := enc) (C := Tryd.checked) false (World.doorLaid Tryd.prog 93 os) #[.int .u8 0, .int .u8 0] rfl (by kernel_rfl) (by kernel_rfl) (by kernel_rfl)
      (OpenSpec.preRow_of_cond 8 hx (by kernel_rfl) (fun k hk => by cases hk) (by kernel_rfl) (laid_met os))) ?_
  intro W base args ds gs before hval hW _ _ _ hL _ _
  exact contract H enc W base args ds gs before hval hW hL

theorem said : Rows.TokJoinedSaid :=
  OpenClaim.holds_of_cond 5 Tryd.f5 rfl rfl rfl rfl rfl rfl rfl ⟨rfl, rfl, rfl, rfl, rfl⟩ rfl rfl rfl rfl rfl (by kernel_rfl) Tryd.func5 (by kernel_rfl)
    (of_decide_eq_true (by kernel_rfl)) (by unfold Func.isWrapper; first | (rw [if_pos (by decide +kernel)]; kernel_rfl) | (rw [if_neg (by decide +kernel)]; exact ⟨rfl, rfl⟩))
    (fun os started H enc _ F => by rw [OpenClaim.pre_eq_preRow]; exact lifted os started H enc F)

theorem plain (f : FuncId) (fn : Func) (hf : Tryd.pinned.checked.prog.funcNamed "furrow/furrowlaw4.TokJoined" = some f) (hfn : Tryd.pinned.checked.prog.funcs[f]? = some fn) :
    true = Tryd.pinned.checked.prog.looks [] ∧ ∀ (j : Nat) t, fn.params[j]? = some t → Tryd.pinned.checked.prog.wantsStandIn t = false := by
  obtain rfl : f = 5 := Option.some.inj ((show Tryd.prog.funcNamed "furrow/furrowlaw4.TokJoined" = some 5 by kernel_rfl).symm.trans hf) |>.symm
  obtain rfl : fn = Tryd.f5 := (Option.some.inj (Tryd.func5.symm.trans hfn)).symm
  refine ⟨by kernel_rfl, fun j t ht => ?_⟩
  rw [Tryd.params5] at ht
  have ht' := Array.mem_of_getElem? ht
  simp only [List.mem_toArray, List.mem_cons, List.not_mem_nil, or_false, or_self] at ht'
  subst ht'
  exact (show Tryd.prog.wantsStandIn 5 = false by kernel_rfl)

theorem card : Rows.TokJoinedCardSaid :=
  Claim7.holds_tied_plain_at .later [] _ _ _ _ said (fun _ h => by cases h) (by kernel_rfl) (fun _ h => by cases h) tokJoined_row_tie rfl ⟨rfl, rfl⟩ (by kernel_rfl) rfl plain (by kernel_rfl)
end tokJoined

/-- The card, under a short name, for the claim. -/
theorem tokJoined_card : Rows.TokJoinedCardSaid := tokJoined.card
#print axioms tokJoined_card
end Go.Proofs.YtpmonaempgjgbaaDoor
