/- stmt.Parse: a line's statement, or the first word that is wrong. -/
import Derived.Test.YtejjlojfgcgopaaGreatDoorSpG
import Derived.Test.YtejjlojfgcgopaaGreatDoorRmP
set_option linter.unusedSimpArgs false
set_option linter.unusedVariables false
namespace Go.Proofs.YtejjlojfgcgopaaGreatDoor
open Go.RowKit Go.Proofs.Fw
set_option maxRecDepth 100000
set_option maxHeartbeats 4000000

noncomputable def fPkey (ts : List Wd) (hts : ts.length < 1000000) : Fact Tryz.prog envF := Fact.meth 89 (Sr.pc ts) (spc_inj ts) (fun (_ : List UInt8) r => r.at_ ≤ ts.length) (fun _ w => [.str w]) (fun w r => .agg (keyW ts w r).1.x.c) (fun w r => (keyW ts w r).2)
  (fun w r h H id hH => spkey_cs ts hts w r h hH) (fun id x y r _ _ h => by
    simp only [List.cons.injEq, AV.str.injEq, and_true] at h
    rw [h]
    exact ⟨rfl, rfl⟩)
structure KsO (O : Orc) (ts : List Wd) : Prop where
  fail : ∀ (r : Sr) (p c : Nat) (H : AH), O 54 [.ptr 0 0, .int .i64 (p : Int), .int .i64 (c : Int)] (pbx ts r :: H) = some (.tup [], pbx ts (r.fail p c) :: H)
  must : ∀ (r : Sr) (k : Nat) (s : List UInt8) (H : AH), O 91 [.ptr 0 0, .int .i64 (k : Int), .str s] (pbx ts r :: H) = some (.agg (wdCells (mustW ts r k s).1), pbx ts (mustW ts r k s).2 :: H)
  expr : ∀ (r : Sr) (H : AH), r.at_ ≤ ts.length → O 92 [.ptr 0 0] (pbx ts r :: H) = some (.agg (tC (exprW ts r).1.tn), pbx ts (exprW ts r).2 :: H)
  to : ∀ (r : Sr) (H : AH), r.at_ ≤ ts.length → O 90 [.ptr 0 0] (pbx ts r :: H) = some (.agg (tC (toW ts r).1.tn), pbx ts (toW ts r).2 :: H)
  key : ∀ (w : List UInt8) (r : Sr) (H : AH), r.at_ ≤ ts.length → O 89 [.ptr 0 0, .str w] (pbx ts r :: H) = some (.agg (keyW ts w r).1.x.c, pbx ts (keyW ts w r).2 :: H)
noncomputable def Lks (ts : List Wd) (hts : ts.length < 1000000) : List (Fact Tryz.prog envF) := [fPfail ts, fPmust ts hts, fPexpr ts hts, fPto ts hts, fPkey ts hts]
theorem oKs_ok (ts : List Wd) (hts : ts.length < 1000000) : KsO (oOf (Lks ts hts)) ts := by
  have hL : ((Lks ts hts).map (·.f)).Nodup := show ([54, 91, 92, 90, 89] : List Nat).Nodup by decide
  exact ⟨fun r p c H => pfail_s hL (show fPfail ts ∈ Lks ts hts by simp [Lks]) r p c H, fun r k s H => pmust_s hts hL (show fPmust ts hts ∈ Lks ts hts by simp [Lks]) r k s H,
    fun r H h => oOf_meth hL (show fPexpr ts hts ∈ Lks ts hts by simp [Lks]) () r (H := pbx ts r :: H) (id := 0) rfl h, fun r H h => oOf_meth hL (show fPto ts hts ∈ Lks ts hts by simp [Lks]) () r (H := pbx ts r :: H) (id := 0) rfl h,
    fun w r H h => oOf_meth hL (show fPkey ts hts ∈ Lks ts hts by simp [Lks]) w r (H := pbx ts r :: H) (id := 0) rfl h⟩
theorem oKs_cx (ts : List Wd) (hts : ts.length < 1000000) : Cx (oOf (Lks ts hts)) Tryz.prog envF := oOf_cx _ methFOk mixed
theorem buSpTo0 (t : Tn) : abuild Tryz.prog 31 [(0, .int .i64 2), (2, .agg (tC t))] = some (.agg (Sx.c ⟨2, [], t, t0, [], t0, t0, [], t0, t0, 0⟩)) := by
  cases t <;> kernel_rfl
@[simp] theorem buSpTo (t : Tn) : abuild Tryz.prog 31 [(0, .int .i64 2), (2, .agg [.int .i64 t.k, .int .i64 t.n, .str t.s, t.ar])] = some (.agg (Sx.c ⟨2, [], t, t0, [], t0, t0, [], t0, t0, 0⟩)) := by rw [← tC_eq]; exact buSpTo0 t
@[simp high] theorem aidxX0 {l : List Wd} (h : 0 < l.length) : aindexAddr Tryz.prog 125 (wdsAV l) (.int .i64 0) = some (.vptr (wdsCells l) 0) := by simpa using aidxX (l := l) (i := 0) h

theorem spstmt_cs (ts : List Wd) (hts : ts.length < 1000000) (h0 : 0 < ts.length) {H : AH} {id : Nat} (hH : H.at id = some (.box ((⟨0, none⟩ : Sr).pc ts))) :
    CS Tryz.prog envF 53 [.ptr id 0] H (.agg (stmtW ts).1.x.c) (H.set id (some (.box ((stmtW ts).2.pc ts)))) := by
  refine CS.rd lowF Tryz.func53 (by kernel_rfl) 0 (by simp [Tryz.f53]) (fun B hB hG => ?_) (by simp) (by simp [Sx.c_low]) (spc_low _ _) (spc_low _ _) hH
  have X := oKs_cx ts hts
  have hO := oKs_ok ts hts
  generalize oOf (Lks ts hts) = O at X hO
  refine Tr.goD X hG (by kernel_rfl) ?_
  obtain ⟨w, hw⟩ : ∃ w, ts[0]? = some w := ⟨_, List.getElem?_eq_getElem h0⟩
  obtain ⟨d1, d2⟩ := cells_atX _ _ _ hw
  simp only [Nat.zero_mul, List.drop_zero, Nat.zero_add] at d1 d2
  have hx : stmtW ts = if w.kind = 4 then keyW ts w.text ⟨1, none⟩ else if w.kind = 1 then setW ts ⟨0, none⟩ else ({}, ⟨0, some ([(stmtTxt, 0)], 2)⟩) := by simp only [stmtW, hw]
  rw [hx]
  by_cases h4 : w.kind = 4
  · rw [if_pos h4]
    have f1 := fun H => hO.key w.text ⟨1, none⟩ H h0
    generalize keyW ts w.text ⟨1, none⟩ = m at *
    obtain ⟨m, r⟩ := m
    obtain ⟨M, hM⟩ : ∃ M, M = m.x := ⟨_, rfl⟩
    simp only [← hM, pbx] at f1 ⊢
    simp [Sx.c] at f1
    have w1 : IntKind.i64.wrap 1 = 1 := by decide
    simp [Tryz.f53, Sr.pc, h0, d1, d2, wdCells, h4, w1, f1, Sx.c]
  · rw [if_neg h4]
    have h4' : ((w.kind : Int) == 4) = false := by rw [beq_eq_false_iff_ne]; omega
    have h4i : ¬ (w.kind : Int) = 4 := by omega
    by_cases h1 : w.kind = 1
    · rw [if_pos h1]
      have f1 := fun H => hO.to ⟨0, none⟩ H (Nat.zero_le _)
      have u1 := (toW_up ts ⟨0, none⟩).2 (Nat.zero_le _)
      unfold setW
      generalize toW ts ⟨0, none⟩ = a at *
      obtain ⟨to, r1⟩ := a
      simp only at f1 u1 ⊢
      have f2 := fun H => hO.must r1 3 isT H
      have u2 := (mustW_up ts r1 3 isT).2 u1
      generalize mustW ts r1 3 isT = b at *
      obtain ⟨w2, r2⟩ := b
      simp only at f2 u2 ⊢
      have f3 := fun H => hO.expr r2 H u2
      generalize exprW ts r2 = c at *
      simp only [pbx, isT, tC_eq, wdCells] at f1 f2 f3
      simp at f1 f2
      simp [Tryz.f53, Sr.pc, h0, d1, d2, wdCells, h1, f1, f2, f3, Sx.c, Sm.x, exnone_tn]
    · rw [if_neg h1]
      have h1' : ((w.kind : Int) == 1) = false := by rw [beq_eq_false_iff_ne]; omega
      have h1i : ¬ (w.kind : Int) = 1 := by omega
      have f1 := fun H => hO.fail ⟨0, none⟩ 0 2 H
      have hf : (⟨0, none⟩ : Sr).fail 0 2 = ⟨0, some ([(stmtTxt, 0)], 2)⟩ := rfl
      rw [hf] at f1
      simp [pbx] at f1
      simp [Tryz.f53, Sr.pc, h0, d1, d2, wdCells, h1, h4, h1', h4', h1i, h4i, f1, Sx.c, Sm.x, exnone_tn]

/-! A line's statement. -/
noncomputable def fPart : Fact Tryz.prog envF := Fact.pure 50 (fun s : List UInt8 => s.length < maxS) (fun s => [.str s]) partsAV (fun s h H => CS.toF (CS.toX (CS.toN (part_cs s h H)))) (fun x y _ _ h => by
  simp only [List.cons.injEq, AV.str.injEq, and_true] at h
  rw [h])
noncomputable def fLine : Fact Tryz.prog envF := Fact.pure 51 (fun s : List UInt8 => s.length < maxS) (fun s => [.str s]) (fun s => lineAV (lex (s.length + 1) s 0 false)) (fun s h H => CS.toF (CS.toX (CS.toN (line_cs s h H)))) (fun x y _ _ h => by
  simp only [List.cons.injEq, AV.str.injEq, and_true] at h
  rw [h])
noncomputable def fPstmt (ts : List Wd) (hts : ts.length < 1000000) : Fact Tryz.prog envF := Fact.meth 53 (Sr.pc ts) (spc_inj ts) (fun (_ : Unit) r => r = ⟨0, none⟩ ∧ 0 < ts.length) (fun _ _ => []) (fun _ _ => .agg (stmtW ts).1.x.c) (fun _ _ => (stmtW ts).2)
  (fun _ r h H id hH => by obtain ⟨rfl, h0⟩ := h; exact spstmt_cs ts hts h0 hH) (fun id x y r _ _ h => ⟨rfl, rfl⟩)
def pstmtAV (x : Sm × Er) : AV := .tup [.agg x.1.x.c, erI x.2]
@[simp] theorem buSrd (ts : List Wd) : abuild Tryz.prog 131 [(0, wdsAV ts)] = some (.agg [wdsAV ts, .int .i64 0, .nilIface]) := by
  unfold wdsAV
  split <;> kernel_rfl
theorem body_len (s : List UInt8) : (bodyOfLine s).length ≤ s.length := by
  have h1 := cutNl_len s
  unfold bodyOfLine
  rw [List.length_take]
  omega
theorem pstmt_cs (s : List UInt8) (hs : s.length < 1000000) (H : AH) : CS Tryz.prog envF 16 [.str s] H (pstmtAV (parseS (bodyOfLine s))) H := by
  have hb : (bodyOfLine s).length < 1000000 := by have := body_len s; omega
  have hsm : s.length < maxS := by rw [maxS_eq]; omega
  have hbm : (bodyOfLine s).length < maxS := by rw [maxS_eq]; omega
  unfold parseS
  generalize hlx : lex ((bodyOfLine s).length + 1) (bodyOfLine s) 0 false = lx
  cases lx with
  | error x =>
    obtain ⟨p, e⟩ := x
    have hL : ([fPart, fLine, fSfault].map (·.f)).Nodup := show ([50, 51, 52] : List Nat).Nodup by decide
    have X := oOf_cx [fPart, fLine, fSfault] methFOk mixed
    have f1 := fun H => oOf_pure hL (show fPart ∈ [fPart, fLine, fSfault] by simp) s hsm H
    have f2 := fun H => oOf_pure hL (show fLine ∈ [fPart, fLine, fSfault] by simp) (bodyOfLine s) hbm H
    have f3 := fun H => oOf_pure hL (show fSfault ∈ [fPart, fLine, fSfault] by simp) (0, [(wordTxt, (p : Int))], (e : Int)) trivial H
    generalize oOf [fPart, fLine, fSfault] = O at X f1 f2 f3
    rw [hlx] at f2
    simp [lineAV, faultAV, wordTxt] at f2
    simp [partsAV] at f1
    simp [errAV, stmtTxt, wordTxt] at f3
    refine CS.tr0 lowF Tryz.func16 (by kernel_rfl) 0 (by simp [Tryz.f16]) (fun B hB hG => ?_) (by simp [pstmtAV, Sx.c_low]) (by simp) H
    refine Tr.goD X hG (by kernel_rfl) ?_
    simp [Tryz.f16, f1, f2, f3, Sx.c, pstmtAV, Sm.x, exnone_tn, erI, errAV, castP, stmtTxt, wordTx]
  | ok ts =>
    have hts := lex_count hb hlx
    have hL : ([fPart, fLine, fPstmt ts hts, fPfail ts].map (·.f)).Nodup := show ([50, 51, 53, 54] : List Nat).Nodup by decide
    have X := oOf_cx [fPart, fLine, fPstmt ts hts, fPfail ts] methFOk mixed
    have f1 := fun H => oOf_pure hL (show fPart ∈ [fPart, fLine, fPstmt ts hts, fPfail ts] by simp) s hsm H
    have f2 := fun H => oOf_pure hL (show fLine ∈ [fPart, fLine, fPstmt ts hts, fPfail ts] by simp) (bodyOfLine s) hbm H
    have f3 := fun (h : 0 < ts.length) e0 H => oOf_meth hL (show fPstmt ts hts ∈ [fPart, fLine, fPstmt ts hts, fPfail ts] by simp) () ⟨0, none⟩ (H := e0 :: pbx ts ⟨0, none⟩ :: H) (id := 1) rfl ⟨rfl, h⟩
    have f4 := fun (r : Sr) e0 H => oOf_meth hL (show fPfail ts ∈ [fPart, fLine, fPstmt ts hts, fPfail ts] by simp) (r.at_, 2) r (H := e0 :: pbx ts r :: H) (id := 1) rfl trivial
    generalize oOf [fPart, fLine, fPstmt ts hts, fPfail ts] = O at X f1 f2 f3 f4
    rw [hlx] at f2
    simp [lineAV] at f2
    simp [partsAV] at f1
    refine CS.tr0 lowF Tryz.func16 (by kernel_rfl) 0 (by simp [Tryz.f16]) (fun B hB hG => ?_) (by simp [pstmtAV, Sx.c_low]) (by simp) H
    refine Tr.goD X hG (by kernel_rfl) ?_
    by_cases hne : ts = []
    · have hp0 : parseW ts = ({}, none) := if_pos hne
      simp only
      rw [hp0]
      simp [Tryz.f16, f1, f2, hne, Sx.c, pstmtAV, Sm.x, exnone_tn]
    · have hpos : 0 < ts.length := List.length_pos_iff.2 hne
      have f3 := f3 hpos
      have hp1 : parseW ts = match (if (stmtW ts).2.at_ < ts.length then (stmtW ts).2.fail (stmtW ts).2.at_ 2 else (stmtW ts).2).err with
        | some x => ({}, some x)
        | none => ((stmtW ts).1, none) := by unfold parseW; rw [if_neg hne]; rfl
      simp only
      rw [hp1]
      clear hp1
      generalize stmtW ts = m at *
      obtain ⟨m, r⟩ := m
      have f4 := f4 r
      obtain ⟨M, hM⟩ : ∃ M, M = m.x := ⟨_, rfl⟩
      have hl0 : ¬ (ts.length : Int) = 0 := by omega
      have hl1 : ((ts.length : Int) == 0) = false := by rw [beq_eq_false_iff_ne]; exact hl0
      simp only [← hM, pbx, Sr.pc] at f3 f4
      simp [Sx.c] at f3
      simp at f4
      by_cases hl : r.at_ < ts.length
      · have hl' : (r.at_ : Int) < ts.length := by omega
        simp only [hl, if_true]
        obtain ⟨y, hy⟩ : ∃ y, (r.fail r.at_ 2).err = some y := ⟨_, rfl⟩
        rw [hy] at f4 ⊢
        simp [Tryz.f16, f1, f2, hne, hl0, hl1, f3, f4, hl, hl', Sx.c]
        refine LpD.turns X hG [5] [(1, 5), (2, 5), (3, 5), (4, 5)] (by kernel_rfl) ?_
        simp [pstmtAV, Sx.c, Sm.x, exnone_tn]
      · have hl' : ¬ (r.at_ : Int) < ts.length := by omega
        simp only [hl, if_false]
        cases he : r.err with
        | none =>
          rw [he] at f3
          try simp at f3
          simp [Tryz.f16, f1, f2, hne, hl0, hl1, f3, hl, hl', Sx.c, pstmtAV, ← hM]
        | some y =>
          rw [he] at f3
          try simp at f3
          simp [Tryz.f16, f1, f2, hne, hl0, hl1, f3, hl, hl', Sx.c]
          refine LpD.turns X hG [5] [(1, 5), (2, 5), (3, 5), (4, 5)] (by kernel_rfl) ?_
          simp [pstmtAV, Sx.c, Sm.x, exnone_tn]
end Go.Proofs.YtejjlojfgcgopaaGreatDoor
