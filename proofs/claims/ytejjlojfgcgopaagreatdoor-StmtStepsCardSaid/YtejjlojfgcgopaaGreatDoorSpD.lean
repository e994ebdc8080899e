/- The program's reader of statements: expr, what stands in an if's brackets; what may be set. The program's reader of statements: what may be set. -/
import Derived.Test.YtejjlojfgcgopaaGreatDoorSpB
set_option linter.unusedSimpArgs false
set_option linter.unusedVariables false
namespace Go.Proofs.YtejjlojfgcgopaaGreatDoor
open Go.RowKit Go.Proofs.Fw
set_option maxRecDepth 100000
set_option maxHeartbeats 4000000

theorem spwQ_cs (ts : List Wd) (hts : ts.length < 1000000) (r : Sr) (hr : r.at_ ≤ ts.length) {H : AH} {id : Nat} (hH : H.at id = some (.box (r.pc ts))) :
    CS Tryz.prog envF 140 [.ptr id 0, .func (.func 141) [] []] H (condT (condW ts r).1) (H.set id (some (.box ((condW ts r).2.pc ts)))) := by
  refine CS.rd lowF Tryz.func140 (by kernel_rfl) 0 (by simp [Tryz.f140]) (fun B hB hG => ?_) (by simp) (by simp [condT]) (spc_low _ _) (spc_low _ _) hH
  have hL : ([fSfault, fAs, fParseC].map (·.f)).Nodup := show ([52, 71, 141] : List Nat).Nodup by decide
  have X := oOf_cx [fSfault, fAs, fParseC] methFOk mixed
  have h1 := fun p l c H => oOf_pure hL (show fSfault ∈ [fSfault, fAs, fParseC] by simp) (p, l, c) trivial H
  have h2 := fun o e0 e1 e2 e3 H => as_at hL (show fAs ∈ [fSfault, fAs, fParseC] by simp) o 4 .nilPtr rfl (e0 :: e1 :: e2 :: e3 :: some (.box [.nilPtr]) :: H) rfl
  have h3 := fun H => oOf_pure hL (show fParseC ∈ [fSfault, fAs, fParseC] by simp) (ts, r.at_) ⟨hts, hr⟩ H
  generalize oOf [fSfault, fAs, fParseC] = O at X h1 h2 h3
  refine Tr.goD X hG (by kernel_rfl) ?_
  obtain ⟨a, e⟩ := r
  obtain ⟨hb1, hb2⟩ := parseC_b (ts.drop a)
  rw [List.length_drop] at hb1 hb2
  simp only at hr
  cases e with
  | some y => simp [Tryz.f140, Sr.pc, condW, withinW, condT, exnone_tn]
  | none =>
    simp only [parseCT] at h3
    generalize hq : parseC (ts.drop a) = q at *
    obtain ⟨⟨op, ea, eb⟩, n, x⟩ := q
    simp only at hb1 hb2 h3
    simp only [condT, tC_eq, List.cons_append, List.nil_append] at h3
    have hx : condW ts ⟨a, none⟩ = match x with
      | some (p, c) => (([], .none, .none), ⟨a, some ([(stmtTxt, a + p), (exprTx, p)], c)⟩)
      | none => ((op, ea, eb), ⟨a + n, none⟩) := by
      simp only [condW, withinW, hq]
      cases x <;> rfl
    rw [hx]
    simp [Tryz.f140, Sr.pc]
    refine LpD.turns X hG [10, 15, 16] [(0, 15), (1, 15), (2, 15), (3, 15), (4, 15), (5, 15), (6, 15), (7, 15), (8, 15), (9, 15), (10, 15), (11, 15), (12, 15), (13, 15), (13, 16), (14, 15), (14, 16)] (by kernel_rfl) ?_
    simp [hr, h3]
    cases x with
    | none =>
      have h2 := h2 none
      simp at h2
      have w1 : IntKind.i64.wrap ((a : Int) + (n : Int)) = (a : Int) + (n : Int) := wrap_i64 (by omega) (by omega)
      simp [eAV, h2, w1, condT]
    | some y =>
      obtain ⟨p, c⟩ := y
      have hp := hb2 p c rfl
      have w1 : IntKind.i64.wrap ((a : Int) + (p : Int)) = (a : Int) + (p : Int) := wrap_i64 (by omega) (by omega)
      have h2 := h2 (some [.str exprTxt, .int .i64 (p : Int), errAV [] (c : Int)])
      have h1 := h1 ((a : Int) + (p : Int)) [(exprTxt, (p : Int))] (c : Int)
      simp [errAV, exprTxt, stmtTxt] at h1 h2
      simp [eAV, errAV, exprTxt, h2]
      refine LpD.turns X hG [11, 14] [(0, 11)] (by kernel_rfl) ?_
      simp [w1, h1, erI, errAV, castP, stmtTxt, exprTx, exprTxt, condT, exnone_tn]
noncomputable def fPwQ (ts : List Wd) (hts : ts.length < 1000000) : Fact Tryz.prog envF := Fact.meth 140 (Sr.pc ts) (spc_inj ts) (fun (_ : Unit) r => r.at_ ≤ ts.length) (fun _ _ => [.func (.func 141) [] []]) (fun _ r => condT (condW ts r).1) (fun _ r => (condW ts r).2)
  (fun _ r h H id hH => spwQ_cs ts hts r h hH) (fun id x y r _ _ h => ⟨rfl, rfl⟩)
noncomputable def fPwE (ts : List Wd) (hts : ts.length < 1000000) : Fact Tryz.prog envF := Fact.meth 143 (Sr.pc ts) (spc_inj ts) (fun (_ : Unit) r => r.at_ ≤ ts.length) (fun _ _ => [.func (.func 145) [] []]) (fun _ r => .agg (tC (exprW ts r).1.tn)) (fun _ r => (exprW ts r).2)
  (fun _ r h H id hH => spwE_cs ts hts r h hH) (fun id x y r _ _ h => ⟨rfl, rfl⟩)
theorem spexpr_cs (ts : List Wd) (hts : ts.length < 1000000) (r : Sr) (hr : r.at_ ≤ ts.length) {H : AH} {id : Nat} (hH : H.at id = some (.box (r.pc ts))) :
    CS Tryz.prog envF 92 [.ptr id 0] H (.agg (tC (exprW ts r).1.tn)) (H.set id (some (.box ((exprW ts r).2.pc ts)))) := by
  refine CS.rd lowF Tryz.func92 (by kernel_rfl) 0 (by simp [Tryz.f92]) (fun B hB hG => ?_) (by simp) (by simp) (spc_low _ _) (spc_low _ _) hH
  have hL : ([fPwE ts hts].map (·.f)).Nodup := show ([143] : List Nat).Nodup by decide
  have X := oOf_cx [fPwE ts hts] methFOk mixed
  have h1 := fun e0 H => oOf_meth hL (show fPwE ts hts ∈ [fPwE ts hts] by simp) () r (H := some (.box (r.pc ts)) :: e0 :: H) (id := 0) rfl hr
  generalize oOf [fPwE ts hts] = O at X h1
  refine Tr.goD X hG (by kernel_rfl) ?_
  simp only [tC_eq, Sr.pc] at h1
  simp at h1
  simp [Tryz.f92, Sr.pc, h1]

/-! What may be set. -/
theorem tailAV_0 (us : List Wd) : tailAV us 0 = wdsAV us := by
  unfold tailAV
  rw [if_neg (by rintro ⟨h1, h2⟩; exact h2 (List.length_eq_zero_iff.1 h1.symm)), List.drop_zero]
@[simp high] theorem aslTake {ts : List Wd} {a e : Nat} (ha : a < ts.length) (h : a ≤ e) (he : e ≤ ts.length) : aslice Tryz.prog 125 (tailAV ts a) none (some (.int .i64 ((e - a : Nat) : Int))) none = some (if e = a then .slice .unk 4 0 [] else wdsAV ((ts.drop a).take (e - a))) := by
  have hd : ts.drop a ≠ [] := by
    intro h2
    have := congrArg List.length h2
    rw [List.length_drop] at this
    simp at this
    omega
  have hl := List.length_drop (i := a) (l := ts)
  have h1 : ((e - a : Nat) : Int) ≤ ((ts.length - a : Nat) : Int) := by omega
  unfold tailAV
  rw [if_neg (by omega)]
  unfold wdsAV
  rw [if_neg hd]
  by_cases hea : e = a
  · subst hea
    simp [aslice, hl]
  · have ht : (ts.drop a).take (e - a) ≠ [] := by
      intro h2
      have := congrArg List.length h2
      rw [List.length_take, hl] at this
      simp at this
      omega
    have hlt : ((ts.drop a).take (e - a)).length = e - a := by rw [List.length_take, hl]; omega
    rw [if_neg hea, if_neg ht, hlt]
    simp [aslice, hl, h1]
    rw [← wdsCells_take]

/-- A reader's words up to a place. -/
def upW (ts : List Wd) (r : Sr) (e : Nat) : Ex × Sr := withinW ts .none (fun l => parseX (l.take (e - r.at_))) r
structure CloOk (ts : List Wd) (H : AH) (r : Sr) (e i0 i1 i2 : Nat) : Prop where
  d01 : i0 ≠ i1
  d02 : i0 ≠ i2
  d12 : i1 ≠ i2
  h0 : H.at i0 = some (.box (r.pc ts))
  h1 : H.at i1 = some (.box [.ptr i0 0])
  h2 : H.at i2 = some (.box [.int .i64 (e : Int)])
  lt : r.at_ < ts.length
  le : r.at_ < e
  up : e ≤ ts.length
def φ3 (i0 i1 i2 : Nat) : Nat → Nat := fun i => if i = 0 then i0 else if i = 1 then i1 else i2
theorem φ3_inj {i0 i1 i2 : Nat} (h1 : i0 ≠ i1) (h2 : i0 ≠ i2) (h3 : i1 ≠ i2) : ∀ i j, i < 3 → j < 3 → φ3 i0 i1 i2 i = φ3 i0 i1 i2 j → i = j := by
  intro i j hi hj h
  rcases (by omega : i = 0 ∨ i = 1 ∨ i = 2) with rfl | rfl | rfl <;> rcases (by omega : j = 0 ∨ j = 1 ∨ j = 2) with rfl | rfl | rfl <;> simp [φ3] at h ⊢ <;> omega
theorem clo_same {ts : List Wd} {H : AH} {r r' : Sr} {e e' i0 i0' i1 i2 : Nat} (h : CloOk ts H r e i0 i1 i2) (k : CloOk ts H r' e' i0' i1 i2) : r = r' ∧ e = e' ∧ i0 = i0' := by
  have e1 := h.h1.symm.trans k.h1
  simp only [Option.some.injEq, Ent.box.injEq, List.cons.injEq, AV.ptr.injEq, and_true] at e1
  subst e1
  have e0 := h.h0.symm.trans k.h0
  simp only [Option.some.injEq, Ent.box.injEq] at e0
  have e2 := h.h2.symm.trans k.h2
  simp only [Option.some.injEq, Ent.box.injEq, List.cons.injEq, AV.int.injEq, true_and, and_true] at e2
  exact ⟨spc_inj ts _ _ e0, by omega, rfl⟩

theorem pc_ren (ψ : Nat → Nat) (ts : List Wd) (r : Sr) : renL ψ (r.pc ts) = r.pc ts := renL_low ψ _ (spc_low ts r)
theorem spclo_cs (ts : List Wd) (hts : ts.length < 1000000) {r : Sr} {e i0 i1 i2 : Nat} {H : AH} (h : CloOk ts H r e i0 i1 i2) :
    CS Tryz.prog envF 144 [tailAV ts r.at_, .ptr i2 0, .ptr i1 0] H (parseT (parseX ((ts.drop r.at_).take (e - r.at_)))) H := by
  obtain ⟨d01, d02, d12, h0, h1, h2, hlt, hle, hup⟩ := h
  have hL : ([fParse].map (·.f)).Nodup := show ([145] : List Nat).Nodup by decide
  have X := oOf_cx [fParse] methFOk mixed
  have hl : ((ts.drop r.at_).take (e - r.at_)).length < 1000000 := by rw [List.length_take, List.length_drop]; omega
  have h3 := fun H => oOf_pure hL (show fParse ∈ [fParse] by simp) ((ts.drop r.at_).take (e - r.at_), 0) ⟨hl, Nat.zero_le _⟩ H
  simp only [tailAV_0, List.drop_zero] at h3
  generalize oOf [fParse] = O at X h3
  have key := CS.of_Tr (P := Tryz.prog) (E := envF) (f := 144) (c := bodyOf Tryz.f144) (args := [tailAV ts r.at_, .ptr 2 0, .ptr 1 0]) (H0 := [some (.box (r.pc ts)), some (.box [.ptr 0 0]), some (.box [.int .i64 (e : Int)])]) (H1 := [some (.box (r.pc ts)), some (.box [.ptr 0 0]), some (.box [.int .i64 (e : Int)])])
    (v := parseT (parseX ((ts.drop r.at_).take (e - r.at_)))) Tryz.func144 (by kernel_rfl) 0 (by simp [Tryz.f144]) (fun B hB hG => by
      refine Tr.goD X hG (by kernel_rfl) ?_
      have w1 : IntKind.i64.wrap ((e : Int) - (r.at_ : Int)) = ((e - r.at_ : Nat) : Int) := by rw [wrap_i64 (by omega) (by omega)]; omega
      have hne : ¬ e = r.at_ := by omega
      have hle' : r.at_ ≤ e := by omega
      simp only [parseT, tC_eq] at h3
      generalize hus : (ts.drop r.at_).take (e - r.at_) = us at *
      generalize parseX us = q at *
      simp [Tryz.f144, Sr.pc]
      refine LpD.turns X hG [8, 12] [] (by kernel_rfl) ?_
      simp [w1, hlt, hle', hup, hne, hus, h3, parseT]) (by simp [parseT]) (by simp [Sr.pc])
  have := CS.embed (φ3 i0 i1 i2) (k := 3) (H := H) (H' := H) key rfl rfl (φ3_inj d01 d02 d12) lowF (by simp) (by simp [parseT]) (by simp [Sr.pc]) (by simp [Sr.pc]) (by
    intro i hi
    rcases (by omega : i = 0 ∨ i = 1 ∨ i = 2) with rfl | rfl | rfl
    · simp [φ3, AH.at, renE, pc_ren]; exact h0
    · simp [φ3, AH.at, renE, renL, ren]; exact h1
    · simp [φ3, AH.at, renE, renL, ren]; exact h2) (by
    intro i hi
    rcases (by omega : i = 0 ∨ i = 1 ∨ i = 2) with rfl | rfl | rfl
    · simp [φ3, AH.at, renE, pc_ren]; exact h0
    · simp [φ3, AH.at, renE, renL, ren]; exact h1
    · simp [φ3, AH.at, renE, renL, ren]; exact h2) (fun j hj => rfl)
  rw [ren_low _ _ (by simp [parseT] : low 0 (parseT (parseX ((ts.drop r.at_).take (e - r.at_)))) = true)] at this
  simpa [renL, ren, φ3, ren_low _ (tailAV ts r.at_) (tailAV_low 0 ts r.at_)] using this
noncomputable def fClo (ts : List Wd) (hts : ts.length < 1000000) : Fact Tryz.prog envF where
  f := 144
  α := Sr × Nat × Nat × Nat × Nat
  ok := fun x H => CloOk ts H x.1 x.2.1 x.2.2.1 x.2.2.2.1 x.2.2.2.2
  args := fun x => [tailAV ts x.1.at_, .ptr x.2.2.2.2 0, .ptr x.2.2.2.1 0]
  out := fun x => parseT (parseX ((ts.drop x.1.at_).take (x.2.1 - x.1.at_)))
  up := fun _ H => H
  cs := fun x H h => ⟨spclo_cs ts hts h, Keeps.refl H⟩
  same := fun x y H hx hy h => by
    obtain ⟨r, e, i0, i1, i2⟩ := x
    obtain ⟨r', e', i0', i1', i2'⟩ := y
    simp only [List.cons.injEq, AV.ptr.injEq, and_true] at h hx hy
    obtain ⟨_, rfl, rfl⟩ := h
    obtain ⟨rfl, rfl, _⟩ := clo_same hx hy
    exact ⟨rfl, rfl⟩

theorem spwC_cs (ts : List Wd) (hts : ts.length < 1000000) {r : Sr} {e i0 i1 i2 : Nat} {H : AH} (h : CloOk ts H r e i0 i1 i2) :
    CS Tryz.prog envF 143 [.ptr i0 0, .func (.func 144) [] [.ptr i2 0, .ptr i1 0]] H (.agg (tC (upW ts r e).1.tn)) (H.set i0 (some (.box ((upW ts r e).2.pc ts)))) := by
  obtain ⟨d01, d02, d12, h0, hb1, hb2, hlt, hle, hup⟩ := h
  have hL : ([fSfault, fAs, fClo ts hts].map (·.f)).Nodup := show ([52, 71, 144] : List Nat).Nodup by decide
  have X := oOf_cx [fSfault, fAs, fClo ts hts] methFOk mixed
  have h1 := fun p l c H => oOf_pure hL (show fSfault ∈ [fSfault, fAs, fClo ts hts] by simp) (p, l, c) trivial H
  have h2 := fun o e0 e1 e2 e3 e4 e5 H => as_at hL (show fAs ∈ [fSfault, fAs, fClo ts hts] by simp) o 6 .nilPtr rfl (e0 :: e1 :: e2 :: e3 :: e4 :: e5 :: some (.box [.nilPtr]) :: H) rfl
  have h3 := fun H => oOf_mem hL (fClo ts hts) (show fClo ts hts ∈ [fSfault, fAs, fClo ts hts] by simp) (x := (r, e, 0, 1, 2)) (H := some (.box (r.pc ts)) :: some (.box [.ptr 0 0]) :: some (.box [.int .i64 (e : Int)]) :: H) ⟨Nat.zero_ne_one, (by simp), (by simp), rfl, rfl, rfl, hlt, hle, hup⟩
  generalize oOf [fSfault, fAs, fClo ts hts] = O at X h1 h2 h3
  have key := CS.of_Tr (P := Tryz.prog) (E := envF) (f := 143) (c := bodyOf Tryz.f143) (args := [.ptr 0 0, .func (.func 144) [] [.ptr 2 0, .ptr 1 0]]) (H0 := [some (.box (r.pc ts)), some (.box [.ptr 0 0]), some (.box [.int .i64 (e : Int)])]) (H1 := [some (.box ((upW ts r e).2.pc ts)), some (.box [.ptr 0 0]), some (.box [.int .i64 (e : Int)])])
    (v := .agg (tC (upW ts r e).1.tn)) Tryz.func143 (by kernel_rfl) 0 (by simp [Tryz.f143]) (fun B hB hG => by
      refine Tr.goD X hG (by kernel_rfl) ?_
      obtain ⟨a, er⟩ := r
      obtain ⟨hb1, hb2⟩ := parseX_b ((ts.drop a).take (e - a))
      rw [List.length_take, List.length_drop] at hb1 hb2
      simp only at hlt hle
      have hr : a ≤ ts.length := by omega
      cases er with
      | some y => simp [Tryz.f143, Sr.pc, upW, withinW, exnone_tn]
      | none =>
        simp only [fClo, parseT] at h3
        generalize hq : parseX ((ts.drop a).take (e - a)) = q at *
        obtain ⟨ex, n, x⟩ := q
        simp only at hb1 hb2 h3
        simp only [tC_eq, Sr.pc, erI_none] at h3
        have hx : upW ts ⟨a, none⟩ e = match x with
          | some (p, c) => (.none, ⟨a, some ([(stmtTxt, a + p), (exprTx, p)], c)⟩)
          | none => (ex, ⟨a + n, none⟩) := by
          simp only [upW, withinW, hq]
          cases x <;> rfl
        rw [hx]
        simp [Tryz.f143, Sr.pc]
        refine LpD.turns X hG [10, 15, 16] [(0, 15), (1, 15), (2, 15), (3, 15), (4, 15), (5, 15), (6, 15), (7, 15), (8, 15), (9, 15), (10, 15), (11, 15), (12, 15), (13, 15), (13, 16), (14, 15), (14, 16)] (by kernel_rfl) ?_
        simp [hr, h3]
        cases x with
        | none =>
          have h2 := h2 none
          simp at h2
          have w1 : IntKind.i64.wrap ((a : Int) + (n : Int)) = (a : Int) + (n : Int) := wrap_i64 (by omega) (by omega)
          simp [eAV, h2, w1]
        | some y =>
          obtain ⟨p, c⟩ := y
          have hp := hb2 p c rfl
          have w1 : IntKind.i64.wrap ((a : Int) + (p : Int)) = (a : Int) + (p : Int) := wrap_i64 (by omega) (by omega)
          have h2 := h2 (some [.str exprTxt, .int .i64 (p : Int), errAV [] (c : Int)])
          have h1 := h1 ((a : Int) + (p : Int)) [(exprTxt, (p : Int))] (c : Int)
          simp [errAV, exprTxt, stmtTxt] at h1 h2
          simp [eAV, errAV, exprTxt, h2]
          refine LpD.turns X hG [11, 14] [(0, 11)] (by kernel_rfl) ?_
          simp [w1, h1, erI, errAV, castP, stmtTxt, exprTx, exprTxt, exnone_tn]) (by simp) (by simp [Sr.pc])
  have := CS.embed (φ3 i0 i1 i2) (k := 3) (H := H) (H' := H.set i0 (some (.box ((upW ts r e).2.pc ts)))) key rfl rfl (φ3_inj d01 d02 d12) lowF (by simp) (by simp) (by simp [Sr.pc]) (by simp [Sr.pc]) (by
    intro i hi
    rcases (by omega : i = 0 ∨ i = 1 ∨ i = 2) with rfl | rfl | rfl
    · simp [φ3, AH.at, renE, pc_ren]; exact h0
    · simp [φ3, AH.at, renE, renL, ren]; exact hb1
    · simp [φ3, AH.at, renE, renL, ren]; exact hb2) (by
    intro i hi
    rcases (by omega : i = 0 ∨ i = 1 ∨ i = 2) with rfl | rfl | rfl
    · have : φ3 i0 i1 i2 0 = i0 := rfl
      rw [this, at_set_self h0]
      simp [AH.at, renE, pc_ren]
    · have : φ3 i0 i1 i2 1 = i1 := rfl
      rw [this, at_set_ne d01]
      simp [φ3, AH.at, renE, renL, ren]; exact hb1
    · have : φ3 i0 i1 i2 2 = i2 := rfl
      rw [this, at_set_ne d02]
      simp [φ3, AH.at, renE, renL, ren]; exact hb2) (fun j hj => at_set_ne (hj 0 (by omega)))
  rw [ren_low _ _ (by simp : low 0 (.agg (tC (upW ts r e).1.tn)) = true)] at this
  simpa [renL, ren, φ3] using this
noncomputable def fPwC (ts : List Wd) (hts : ts.length < 1000000) : Fact Tryz.prog envF where
  f := 143
  α := Sr × Nat × Nat × Nat × Nat
  ok := fun x H => CloOk ts H x.1 x.2.1 x.2.2.1 x.2.2.2.1 x.2.2.2.2
  args := fun x => [.ptr x.2.2.1 0, .func (.func 144) [] [.ptr x.2.2.2.2 0, .ptr x.2.2.2.1 0]]
  out := fun x => .agg (tC (upW ts x.1 x.2.1).1.tn)
  up := fun x H => H.set x.2.2.1 (some (.box ((upW ts x.1 x.2.1).2.pc ts)))
  cs := fun x H h => ⟨spwC_cs ts hts h, Keeps.set h.h0⟩
  same := fun x y H hx hy h => by
    obtain ⟨r, e, i0, i1, i2⟩ := x
    obtain ⟨r', e', i0', i1', i2'⟩ := y
    simp only [List.cons.injEq, AV.ptr.injEq, AV.func.injEq, and_true, true_and] at h hx hy
    obtain ⟨rfl, rfl, rfl⟩ := h
    obtain ⟨rfl, rfl, _⟩ := clo_same hx hy
    exact ⟨rfl, rfl⟩
end Go.Proofs.YtejjlojfgcgopaaGreatDoor

namespace Go.Proofs.YtejjlojfgcgopaaGreatDoor
open Go.RowKit Go.Proofs.Fw
set_option maxRecDepth 100000
set_option maxHeartbeats 4000000

@[simp] theorem immFSp : envF.imm 129 = false := by decide
@[simp] theorem immFSs : envF.imm 31 = false := by decide
theorem drop_cons_at {ts : List Wd} {e : Nat} {w : Wd} (h : ts[e]? = some w) : ts.drop e = w :: ts.drop (e + 1) := by
  obtain ⟨hl, he⟩ := List.getElem?_eq_some_iff.1 h
  rw [← he]
  exact List.drop_eq_getElem_cons hl
def TopI (ts : List Wd) (r : Sr) (E : Nat) (k : Nat) (t : List AV) (H : AH) : Prop :=
  ∃ (e d : Nat), e + k = ts.length ∧ r.at_ < e ∧ e + closeN (ts.drop e) d = E ∧ (d = 0 → isK ts e 3 openT = true) ∧ d ≤ e ∧
    t = mkT 90 [(1, .ptr 1 0), (2, .ptr 2 0), (3, .ptr 3 0), (4, .int .i64 (d : Int))] ∧ H = [pbx ts r, some (.box [.ptr 0 0]), some (.box [.int .i64 0, .int .i64 0, .str [], .nilSlice]), some (.box [.int .i64 (e : Int)])]
theorem closeN_le : ∀ (l : List Wd) (d : Nat), closeN l d ≤ l.length
  | [], d => Nat.le_refl _
  | w :: l, d => by
    have h1 := closeN_le l
    have h2 := closeN_le l d
    simp only [closeN, List.length_cons]
    generalize (if w.text = openT then d + 1 else if w.text = shutT then d - 1 else d) = d2
    have h3 := h1 d2
    split
    · split <;> omega
    · omega
theorem endW_b {ts : List Wd} {i : Nat} (h : i < ts.length) : i < endW ts i ∧ endW ts i ≤ ts.length := by
  unfold endW
  split
  · have h1 := closeN_le (ts.drop (i + 1)) 0
    rw [List.length_drop] at h1
    omega
  · omega
theorem toW_eq {ts : List Wd} {r : Sr} (h : isW ts r 1 [] = true) : toW ts r = upW ts r (endW ts r.at_) := by
  simp [toW, upW, h]
theorem isK_some {ts : List Wd} {i : Nat} {w : Wd} (h : ts[i]? = some w) (k : Nat) (s : List UInt8) : isK ts i k s = (w.kind == k && (s == [] || w.text == s)) := by simp only [isK, h]

theorem spto_cs (ts : List Wd) (hts : ts.length < 1000000) (r : Sr) (hr : r.at_ ≤ ts.length) {H : AH} {id : Nat} (hH : H.at id = some (.box (r.pc ts))) :
    CS Tryz.prog envF 90 [.ptr id 0] H (.agg (tC (toW ts r).1.tn)) (H.set id (some (.box ((toW ts r).2.pc ts)))) := by
  refine CS.rd lowF Tryz.func90 (by kernel_rfl) 0 (by simp [Tryz.f90]) (fun B hB hG => ?_) (by simp) (by simp) (spc_low _ _) (spc_low _ _) hH
  have hL : ([fPfail ts, fPis ts, fPwC ts hts].map (·.f)).Nodup := show ([54, 142, 143] : List Nat).Nodup by decide
  have X := oOf_cx [fPfail ts, fPis ts, fPwC ts hts] methFOk mixed
  have h0 := fun H => pfail_s (ts := ts) hL (by simp) r r.at_ 2 H
  have h1 := fun H => pis_s (ts := ts) hL (by simp) r 1 [] H
  have h2 := fun (e : Nat) (e2 : Option Ent) (h : r.at_ < ts.length) (h' : r.at_ < e) (h'' : e ≤ ts.length) H => oOf_mem hL (fPwC ts hts) (show fPwC ts hts ∈ [fPfail ts, fPis ts, fPwC ts hts] by simp) (x := (r, e, 0, 1, 3)) (H := pbx ts r :: some (.box [.ptr 0 0]) :: e2 :: some (.box [.int .i64 (e : Int)]) :: H) ⟨Nat.zero_ne_one, (by simp), (by simp), rfl, rfl, rfl, h, h', h''⟩
  generalize oOf [fPfail ts, fPis ts, fPwC ts hts] = O at X h0 h1 h2
  refine Tr.goD X hG (by kernel_rfl) ?_
  simp [pbx] at h0 h1
  cases hw : isW ts r 1 [] with
  | false =>
    rw [hw] at h1
    have hx : toW ts r = (.none, r.fail r.at_ 2) := by simp [toW, hw]
    rw [hx]
    simp [Tryz.f90, Sr.pc, h1]
    refine LpD.turns X hG [5] [] (by kernel_rfl) ?_
    simp [h0, exnone_tn]
  | true =>
    rw [hw] at h1
    obtain ⟨hlt, he⟩ := isW_lt hw
    rw [toW_eq hw]
    obtain ⟨b1, b2⟩ := endW_b hlt
    have h2' := h2 (endW ts r.at_) (some (.box [.int .i64 0, .int .i64 0, .str [], .nilSlice])) hlt b1 b2
    simp only [fPwC, tC_eq, Sr.pc] at h2'
    obtain ⟨E1, hE1⟩ : ∃ E1, E1 = r.at_ + 1 := ⟨_, rfl⟩
    have hE : endW ts r.at_ = if isK ts E1 3 openT then E1 + closeN (ts.drop E1) 0 else E1 := by rw [hE1]; rfl
    have w1 : IntKind.i64.wrap ((r.at_ : Int) + 1) = (E1 : Int) := by rw [wrap_i64 (by omega) (by omega)]; omega
    simp [Tryz.f90, Sr.pc, h1, w1]
    generalize upW ts r (endW ts r.at_) = res at *
    refine LpD.turns X hG [] [] (by kernel_rfl) ?_
    by_cases hl : E1 < ts.length
    · have hl' : (E1 : Int) < ts.length := by omega
      obtain ⟨w, hx⟩ : ∃ w, ts[E1]? = some w := ⟨_, List.getElem?_eq_getElem hl⟩
      obtain ⟨c0, c1, c3⟩ := cellX hx
      have hk := isK_some hx 3 openT
      by_cases hk3 : w.kind = 3
      · by_cases hkt : w.text = [40]
        · have hkk : isK ts E1 3 openT = true := by rw [hk]; simp [hk3, hkt, openT]
          rw [hkk] at hE
          simp only [if_true] at hE
          simp [hl, hl', c0, c1, hk3, hkt]
          generalize hEn : endW ts r.at_ = En at *
          refine LpD.loopN X hG (by kernel_rfl) (TopI ts r En) (ts.length - E1) (t' := mkT 90 [(1, .ptr 1 0), (2, .ptr 2 0), (3, .ptr 3 0), (4, .int .i64 ((0 : Nat) : Int))])
            (H' := [pbx ts r, some (.box [.ptr 0 0]), some (.box [.int .i64 0, .int .i64 0, .str [], .nilSlice]), some (.box [.int .i64 (E1 : Int)])])
            (Less.mkK 4 (by simp [hB]) (by simp) (by simp [pbx]) (by simp [pbx])) ⟨E1, 0, by omega, by omega, hE.symm, fun _ => hkk, by omega, rfl, rfl⟩ ?_
          clear hk hk3 hkt hkk c0 c1 c3 hx hl hl' hE w
          rintro k t H ⟨e, d, hek, hre, hcl, hd0, hdb, rfl, rfl⟩
          cases k with
          | zero =>
            have hn : ¬ (e : Int) < ts.length := by omega
            rw [List.drop_of_length_le (by omega)] at hcl
            have hcl : e = En := hcl
            subst hcl
            simp at h2'
            simp [pbx]
            refine LpD.turns X hG [] [] (by kernel_rfl) ?_
            simp [Blk_exit, hn, h2']
          | succ k =>
            have hl : e < ts.length := by omega
            have hl' : (e : Int) < ts.length := by omega
            obtain ⟨w, hx⟩ : ∃ w, ts[e]? = some w := ⟨_, List.getElem?_eq_getElem hl⟩
            obtain ⟨c0, c1, c3⟩ := cellX hx
            have hk := isK_some hx 3 openT
            have we : IntKind.i64.wrap ((e : Int) + 1) = ((e + 1 : Nat) : Int) := by rw [wrap_i64 (by omega) (by omega)]; omega
            rw [drop_cons_at hx] at hcl
            simp [pbx]
            refine LpD.turns X hG [] [] (by kernel_rfl) ?_
            simp [hl, hl']
            refine LpD.turns X hG [] [] (by kernel_rfl) ?_
            by_cases hk3 : w.kind = 3
            · simp only [closeN, hk3, if_true] at hcl
              simp [hl, c0, hk3]
              refine LpD.turns X hG [] [] (by kernel_rfl) ?_
              by_cases hkt : w.text = [40]
              · have hkt' : w.text = openT := hkt
                rw [if_pos hkt', if_neg (by omega)] at hcl
                have wd : IntKind.i64.wrap ((d : Int) + 1) = ((d + 1 : Nat) : Int) := by rw [wrap_i64 (by omega) (by omega)]; omega
                have hd1 : ¬ ((d + 1 : Nat) : Int) = 0 := by omega
                have hd2 : (((d + 1 : Nat) : Int) == 0) = false := by rw [beq_eq_false_iff_ne]; exact hd1
                simp [hl, c1, hkt, wd, we, hd1, hd2, Blk_exit, -Int.natCast_add]
                exact Nxt.mk k (by omega) (Less.mkK 4 (by simp [hB]) (by simp) (by simp [pbx]) (by simp [pbx])) ⟨e + 1, d + 1, by omega, by omega, by omega, fun h => by omega, by omega, rfl, rfl⟩
              · have hkt' : ¬ w.text = openT := hkt
                have hd : d ≠ 0 := fun h => by
                  have := hd0 h
                  rw [hk] at this
                  simp [openT, hkt] at this
                rw [if_neg hkt'] at hcl
                by_cases hks : w.text = [41]
                · have hks' : w.text = shutT := hks
                  rw [if_pos hks'] at hcl
                  have wd : IntKind.i64.wrap ((d : Int) - 1) = ((d - 1 : Nat) : Int) := by rw [wrap_i64 (by omega) (by omega)]; omega
                  by_cases hz : d - 1 = 0
                  · rw [if_pos hz] at hcl
                    subst hcl
                    have hz' : ((d - 1 : Nat) : Int) = 0 := by omega
                    simp [hl, c1, hkt, hks, wd, hz', we, Blk_exit, h2', -Int.natCast_add]
                  · rw [if_neg hz] at hcl
                    have hd1 : ¬ ((d - 1 : Nat) : Int) = 0 := by omega
                    have hd2 : (((d - 1 : Nat) : Int) == 0) = false := by rw [beq_eq_false_iff_ne]; exact hd1
                    simp [hl, c1, hkt, hks, wd, we, hd1, hd2, Blk_exit, -Int.natCast_add]
                    exact Nxt.mk k (by omega) (Less.mkK 4 (by simp [hB]) (by simp) (by simp [pbx]) (by simp [pbx])) ⟨e + 1, d - 1, by omega, by omega, by omega, fun h => by omega, by omega, rfl, rfl⟩
                · have hks' : ¬ w.text = shutT := hks
                  rw [if_neg hks', if_neg hd] at hcl
                  have hd1 : ¬ ((d : Nat) : Int) = 0 := by omega
                  have hd2 : (((d : Nat) : Int) == 0) = false := by rw [beq_eq_false_iff_ne]; exact hd1
                  simp [hl, c1, hkt, hks, we, hd1, hd2, hd, Blk_exit, -Int.natCast_add]
                  exact Nxt.mk k (by omega) (Less.mkK 4 (by simp [hB]) (by simp) (by simp [pbx]) (by simp [pbx])) ⟨e + 1, d, by omega, by omega, by omega, fun h => by omega, by omega, rfl, rfl⟩
            · simp only [closeN, hk3, if_false] at hcl
              have hd : d ≠ 0 := fun h => by
                have := hd0 h
                rw [hk] at this
                simp [hk3] at this
              have hk3' : ((w.kind : Int) == 3) = false := by rw [beq_eq_false_iff_ne]; omega
              have hk4 : ¬ (w.kind : Int) = 3 := by omega
              simp [hl, c0, hk3, hk3', hk4, we, Blk_exit, -Int.natCast_add]
              exact Nxt.mk k (by omega) (Less.mkK 4 (by simp [hB]) (by simp) (by simp [pbx]) (by simp [pbx])) ⟨e + 1, d, by omega, by omega, by omega, fun h => by omega, by omega, rfl, rfl⟩
        · have hkk : isK ts E1 3 openT = false := by rw [hk]; simp [hkt, openT]
          rw [hkk] at hE
          simp only [Bool.false_eq_true, if_false] at hE
          rw [hE] at h2'
          simp at h2'
          simp [hl, hl', c0, c1, hk3, hkt, h2']
      · have hkk : isK ts E1 3 openT = false := by rw [hk]; simp [hk3]
        have hk3' : ((w.kind : Int) == 3) = false := by rw [beq_eq_false_iff_ne]; omega
        have hk4 : ¬ (w.kind : Int) = 3 := by omega
        rw [hkk] at hE
        simp only [Bool.false_eq_true, if_false] at hE
        rw [hE] at h2'
        simp at h2'
        simp [hl, hl', c0, c1, hk3, hk3', hk4, h2']
    · have hl' : ¬ (E1 : Int) < ts.length := by omega
      have hx : ts[E1]? = none := List.getElem?_eq_none (by omega)
      have hkk : isK ts E1 3 openT = false := by simp only [isK, hx]
      rw [hkk] at hE
      simp only [Bool.false_eq_true, if_false] at hE
      rw [hE] at h2'
      simp at h2'
      simp [hl, hl', h2']
end Go.Proofs.YtejjlojfgcgopaaGreatDoor
