/- 'TokBlanks' returns true, whatever its text and its row of blanks are; the tied card. -/
import Derived.Test.YtpmonaempgjgbaaDoorTbB
import Derived.Test.YtpmonaempgjgbaaDoorTrP
import Derived.ChangeSlices
import Derived.Carry
set_option linter.unusedSimpArgs false
set_option linter.unusedVariables false
namespace Go.Proofs.YtpmonaempgjgbaaDoor
open Go.ChangeShapes Go.WideShapes Go.ChangeAt Go.ChangeMaps Go.RowKit Go.Proofs.Fw
set_option maxRecDepth 100000

namespace tokBlanks
theorem walk (a : ByteArray) (v : Value) (lv : AV) (lb : List UInt8) (hlv : bytesOf lv lb) (W : World) (hv : RepV (ghAll W) lv v) (hL : laidMetH Tryd.prog Rows.tokBlanksRow.laid W) :
    Calls Tryd.prog 4 #[.string a, v] W fun e W' => e = .returned (.bool true) ∧ Below W.heap.size W W' := by
  have h : laidMet Tryd.prog Rows.tokBlanksRow.laid W := hL
  have hg := glob_ofT h (by simp [Rows.tokBlanksRow]) (by kernel_rfl)
  exact (blanksLaw_cs a.data.toList lv lb hlv).lift_bool hg (cargs := [.string a, v]) (by simp only [RepL]; exact ⟨_, _, rfl, by simp [RepV], _, _, rfl, hv, rfl⟩)

theorem cellsB : Tryd.prog.cellsOf 5 = 1 := by kernel_rfl
theorem lits_cells {H : Type} : ∀ (zs : List Int), (∀ n ∈ zs, (Lit.int .u8 n).wf = true) → (lits (H := H) .u8 zs).flatMap (avRow Tryd.prog 8 5) = strCells (zs.map fun n => UInt8.ofNat n.toNat)
  | [], _ => rfl
  | z :: zs, h => by
    have h1 := h z List.mem_cons_self
    have ih := lits_cells (H := H) zs fun n hn => h n (List.mem_cons_of_mem _ hn)
    have e1 : IntKind.u8.min = 0 := rfl
    have e2 : IntKind.u8.max = 255 := rfl
    have h2 : 0 ≤ z ∧ z ≤ 255 := by simpa [Lit.wf, e1, e2] using h1
    have h3 : (((UInt8.ofNat z.toNat).toNat : Nat) : Int) = z := by
      rw [UInt8.toNat_ofNat']
      omega
    simp only [lits, List.map_cons, List.flatMap_cons] at ih ⊢
    rw [ih]
    simp [avRow, Tryd.underlying5, strCells, h3]
    omega

theorem contract (H : Type) (enc : TypeId × Value → H) (W : World) (base : Nat) (args : Array Value) (ds gs : List (DataW H)) (before : List MemPlace)
    (hval : ∀ (j : Nat) t v, Tryd.f4.params[j]? = some t → args[j]? = some v → Value.okWide Tryd.prog W .any base t v)
    (hW : DataW.Whole enc Tryd.prog Tryd.f4.params.toList Rows.tokBlanksSpec.vars false W args.toList ds gs before) (hL : laidMetH Tryd.prog Rows.tokBlanksRow.laid W) :
    Calls Tryd.prog 4 args W fun e W' => ∃ v, e = .returned v ∧ Rows.tokBlanksSpec.post enc Tryd.prog Tryd.f4 false true false false W args v W' := by
  have hW' := hW
  obtain ⟨p, q, hA0, hV, rfl, hfz, hnd⟩ := hW
  have hA : DataW.TrodAll enc Tryd.prog W 0 (fun _ => true) true Tryd.f4.params.toList args.toList ds p := hA0
  rw [Tryd.params4] at hA hval
  obtain ⟨v0, vs0, d0, ds0, p0, q0, hargs, rfl, rfl, h0, r0⟩ := trodAll_cons hA
  obtain ⟨v1, vs1, d1, ds1, p1, q1, rfl, rfl, rfl, h1, r1⟩ := trodAll_cons r0
  obtain ⟨rfl, rfl, rfl⟩ := trodAll_nil r1
  obtain rfl : args = #[v0, v1] := by cases args; simp_all
  obtain ⟨rfl, rfl⟩ := trodVars_none hV
  obtain ⟨a, rfl, rfl, rfl, wa⟩ := open_string Tryd.underlying9 (hval 0 9 v0 rfl rfl) h0
  obtain ⟨a1, len, cap, rfl⟩ := okWide_slice Tryd.underlying25 (hval 1 25 v1 rfl rfl)
  have h1k := h1
  obtain ⟨fuel, hf⟩ := h1
  clear hA0
  have hlt : ∀ x ∈ p1, x.block < W.heap.size := fun x hx => by simpa using hW'.lt x (by simp [hx])
  have hargs : ∀ (W' : World), Below W.heap.size W W' → DataW.Trod enc Tryd.prog W' 0 (fun b => decide (b < W.heap.size)) true 25 (.slice a1 len cap) d1 p1 :=
    fun W' hn => Below.trod (show laidOutB Tryd.prog = true by kernel_rfl) (by kernel_rfl) (of_decide_eq_true (by kernel_rfl)) h1k hn hlt
  have key : ∃ lv lb, bytesOf lv lb ∧ RepV (ghAll W) lv (.slice a1 len cap) := by
    rcases open_ints Tryd.underlying25 Tryd.underlying5 cellsB hf with ⟨hcs, hx⟩ | ⟨x, len', cap', zs, hcs, _, hl, hm, hz, hx, hcell, hwz⟩
    · simp [Value.cells] at hcs
      obtain ⟨rfl, rfl, rfl⟩ := hcs
      exact ⟨.nilSlice, [], .inl ⟨rfl, rfl⟩, by simp [RepV]⟩
    · simp [Value.cells] at hcs
      obtain ⟨rfl, rfl, rfl⟩ := hcs
      simp only [Prod.mk.injEq] at hx
      obtain ⟨rfl, rfl⟩ := hx
      simp only [if_true] at hz
      have hspot : x.spot = none := by
        have := hval 1 25 (.slice (some x) len cap) rfl rfl
        simp only [Value.okWide, Cell.okWide, Cell.ok, Tryd.underlying25, World.has] at this
        exact this.2.2.2.1
      have hs := slice_rep (e := 5) Tryd.underlying25 h1k (fun y hy => by injection hy with hy; subst hy; exact hspot)
      rcases hs with ⟨h, _⟩ | ⟨ds, sp, hd, hdl, h⟩
      · cases h
      · injection hd with hd1 hd2
        subst hd1
        rcases h with h | h
        · rw [cellsB] at h; cases h
        · have hwz' : ∀ n ∈ zs.take len, (Lit.int .u8 n).wf = true := fun n hn => hwz n (List.mem_of_mem_take hn)
          rw [lits_cells _ hwz', cellsB] at h
          have hll : ((zs.take len).map fun n => UInt8.ofNat n.toNat).length = len := by simp; omega
          refine ⟨_, (zs.take len).map fun n => UInt8.ofNat n.toNat, .inr rfl, ?_⟩
          rw [hll]
          exact h
  obtain ⟨lv, lb, hlv, hrep⟩ := key
  refine (walk a _ lv lb hlv W hrep hL).mono fun e W' ⟨he, bel⟩ => ?_
  subst he
  exact ⟨_, rfl, _, _, _, [], _, [], hW', trodAll_mk1 (shut_bool Tryd.underlying4 _), trodAll_cons_mk (shut_string Tryd.underlying9 wa) (trodAll_cons_mk (hargs W' bel) trodAll_mk0), rfl, bel.frame _, fun h => by cases h⟩

theorem laid_met (os : Os) : laidMetH Tryd.prog Rows.tokBlanksRow.laid ((World.doorLaid Tryd.prog 93 os).forCall (fun _ _ => 0) ⟨#[], #[.string ⟨#[]⟩, .slice none 0 0], []⟩).memory :=
  laidMetH_of_parts3 (fuel := 8) (laidMet_of_run' 8 (by kernel_rfl) (by kernel_rfl)) (by kernel_rfl) (by kernel_rfl)
theorem reads (os : Os) {H : Type} (enc : TypeId × Value → H) : ∃ places, DataW.whole enc Tryd.prog ((World.doorLaid Tryd.prog 93 os).forCall (fun _ _ => 0) ⟨#[], #[.string ⟨#[]⟩, .slice none 0 0], []⟩).memory Tryd.f4.params.toList Rows.tokBlanksSpec.vars false #[Value.string ⟨#[]⟩, Value.slice none 0 0].toList 8 = some ([.lit (.string []), .nil], [], places) :=
  ⟨[], by kernel_rfl⟩

theorem lifted (os : Os) (started : os.Started) (H : Type) (enc : TypeId × Value → H) (F : Stop.Interp) :
    ReturnsInHanded {} Tryd.checked os 4 .any ((OpenSpec.ofChange Rows.tokBlanksSpec).preRow enc Tryd.prog Tryd.f4 Rows.tokBlanksRow.domain false Rows.tokBlanksRow.laid) (((OpenSpec.ofChange Rows.tokBlanksSpec).at F).post enc Tryd.prog Tryd.f4 false true false false) := by
  obtain ⟨places, hx⟩ := reads os enc
  refine returnsInHanded_of_row (C := Tryd.checked) (s := OpenSpec.ofChange Rows.tokBlanksSpec) own started (by kernel_rfl) Tryd.func4
    (witness_row_atRef (enc := enc) (C := Tryd.checked) false (World.doorLaid Tryd.prog 93 os) #[.string ⟨#[]⟩, .slice none 0 0] rfl (by kernel_rfl) (by kernel_rfl) (by kernel_rfl)
      (OpenSpec.preRow_of_cond 8 hx (by kernel_rfl) (fun k hk => by cases hk) (by kernel_rfl) (laid_met os))) ?_
  intro W base args ds gs before hval hW _ _ _ hL _ _
  exact contract H enc W base args ds gs before hval hW hL

theorem said : Rows.TokBlanksSaid :=
  OpenClaim.holds_of_cond 4 Tryd.f4 rfl rfl rfl rfl rfl rfl rfl ⟨rfl, rfl, rfl, rfl, rfl⟩ rfl rfl rfl rfl rfl (by kernel_rfl) Tryd.func4 (by kernel_rfl)
    (of_decide_eq_true (by kernel_rfl)) (by unfold Func.isWrapper; first | (rw [if_pos (by decide +kernel)]; kernel_rfl) | (rw [if_neg (by decide +kernel)]; exact ⟨rfl, rfl⟩))
    (fun os started H enc _ F => by rw [OpenClaim.pre_eq_preRow]; exact lifted os started H enc F)

theorem plain (f : FuncId) (fn : Func) (hf : Tryd.pinned.checked.prog.funcNamed "furrow/furrowlaw4.TokBlanks" = some f) (hfn : Tryd.pinned.checked.prog.funcs[f]? = some fn) :
    true = Tryd.pinned.checked.prog.looks [] ∧ ∀ (j : Nat) t, fn.params[j]? = some t → Tryd.pinned.checked.prog.wantsStandIn t = false := by
  obtain rfl : f = 4 := Option.some.inj ((show Tryd.prog.funcNamed "furrow/furrowlaw4.TokBlanks" = some 4 by kernel_rfl).symm.trans hf) |>.symm
  obtain rfl : fn = Tryd.f4 := (Option.some.inj (Tryd.func4.symm.trans hfn)).symm
  refine ⟨by kernel_rfl, fun j t ht => ?_⟩
  rw [Tryd.params4] at ht
  have ht' := Array.mem_of_getElem? ht
  simp only [List.mem_toArray, List.mem_cons, List.not_mem_nil, or_false, or_self] at ht'
  rcases ht' with rfl | rfl
  · exact (show Tryd.prog.wantsStandIn 9 = false by kernel_rfl)
  · exact (show Tryd.prog.wantsStandIn 25 = false by kernel_rfl)

theorem card : Rows.TokBlanksCardSaid :=
  Claim7.holds_tied_plain_at .later [] _ _ _ _ said (fun _ h => by cases h) (by kernel_rfl) (fun _ h => by cases h) tokBlanks_row_tie rfl ⟨rfl, rfl⟩ (by kernel_rfl) rfl plain (by kernel_rfl)
end tokBlanks

/-- The card, under a short name, for the claim. -/
theorem tokBlanks_card : Rows.TokBlanksCardSaid := tokBlanks.card
#print axioms tokBlanks_card
end Go.Proofs.YtpmonaempgjgbaaDoor
