/- The program's reader of statements: what is declared; a step .. The program's trees: the plain function of its builder. -/
import Derived.Test.YtejjlojfgcgopaaGreatDoorZ17
import Derived.Test.YtejjlojfgcgopaaGreatDoorZ13
import Derived.Test.YtejjlojfgcgopaaGreatDoorZ11
import Derived.Test.YtejjlojfgcgopaaGreatDoorZ14
import Derived.Test.YtejjlojfgcgopaaGreatDoorZ16
set_option linter.unusedSimpArgs false
set_option linter.unusedVariables false
namespace Go.Proofs.YtejjlojfgcgopaaGreatDoor
open Go.RowKit Go.Proofs.Fw
set_option maxRecDepth 100000
set_option maxHeartbeats 4000000
theorem mustW_up (ts : List Wd) (r : Sr) (k : Nat) (s : List UInt8) : r.at_ ≤ (mustW ts r k s).2.at_ ∧ (r.at_ ≤ ts.length → (mustW ts r k s).2.at_ ≤ ts.length) := by
  unfold mustW
  split
  · rename_i h
    have := (isW_lt h).1
    exact ⟨Nat.le_succ _, fun _ => this⟩
  · exact ⟨Nat.le_refl _, fun h => h⟩
theorem withinW_up {α : Type} {ts : List Wd} {z : α} {of : List Wd → α × Nat × Option (Nat × Nat)} (h : ∀ l, (of l).2.1 ≤ l.length) (r : Sr) : r.at_ ≤ (withinW ts z of r).2.at_ ∧ (r.at_ ≤ ts.length → (withinW ts z of r).2.at_ ≤ ts.length) := by
  unfold withinW
  split
  · exact ⟨Nat.le_refl _, fun h => h⟩
  · split
    · exact ⟨Nat.le_refl _, fun h => h⟩
    · have := h (ts.drop r.at_)
      rw [List.length_drop] at this
      exact ⟨Nat.le_add_right _ _, fun h => by simp only; omega⟩
theorem exprW_up (ts : List Wd) (r : Sr) : r.at_ ≤ (exprW ts r).2.at_ ∧ (r.at_ ≤ ts.length → (exprW ts r).2.at_ ≤ ts.length) := withinW_up (fun l => (parseX_b l).1) r
theorem condW_up (ts : List Wd) (r : Sr) : r.at_ ≤ (condW ts r).2.at_ ∧ (r.at_ ≤ ts.length → (condW ts r).2.at_ ≤ ts.length) := withinW_up (fun l => (parseC_b l).1) r
theorem toW_up (ts : List Wd) (r : Sr) : r.at_ ≤ (toW ts r).2.at_ ∧ (r.at_ ≤ ts.length → (toW ts r).2.at_ ≤ ts.length) := by
  unfold toW
  split
  · refine withinW_up (fun l => ?_) r
    have := (parseX_b (l.take (endW ts r.at_ - r.at_))).1
    rw [List.length_take] at this
    omega
  · exact ⟨Nat.le_refl _, fun h => h⟩
theorem dimL_up (ts : List Wd) : ∀ (n : Nat) (d : List Int) (r : Sr), r.at_ ≤ (dimL ts n d r).2.at_ ∧ (r.at_ ≤ ts.length → (dimL ts n d r).2.at_ ≤ ts.length)
  | 0, d, r => ⟨Nat.le_refl _, fun h => h⟩
  | n + 1, d, r => by
    unfold dimL
    split
    · exact ⟨Nat.le_refl _, fun h => h⟩
    · obtain ⟨a1, a2⟩ := mustW_up ts r 2 []
      generalize mustW ts r 2 [] = m at *
      simp only
      obtain ⟨r1, hr1⟩ : ∃ r1, r1 = if m.1.n = 0 then m.2.fail r.at_ 1 else m.2 := ⟨_, rfl⟩
      rw [← hr1]
      have h1 : r1.at_ = m.2.at_ := by rw [hr1]; split <;> rfl
      split
      · rename_i hc
        have hl := (isW_lt hc).1
        obtain ⟨r2, hr2⟩ : ∃ r2, r2 = (if (d ++ [(m.1.n : Int)]).length = 4 then r1.fail r1.at_ 4 else r1).step := ⟨_, rfl⟩
        rw [← hr2]
        have h2 : r2.at_ = r1.at_ + 1 := by rw [hr2]; split <;> rfl
        obtain ⟨b1, b2⟩ := dimL_up ts n (d ++ [(m.1.n : Int)]) r2
        exact ⟨by omega, fun h => b2 (by omega)⟩
      · exact ⟨by simp only; omega, fun h => by have := a2 h; simp only; omega⟩
theorem itemW_up (ts : List Wd) (r : Sr) : r.at_ ≤ (itemW ts r).2.at_ ∧ (r.at_ ≤ ts.length → (itemW ts r).2.at_ ≤ ts.length) := by
  simp only [itemW]
  obtain ⟨a1, a2⟩ := mustW_up ts r 1 []
  generalize mustW ts r 1 [] = m at *
  split
  · rename_i hc
    have hl := (isW_lt hc).1
    obtain ⟨b1, b2⟩ := dimL_up ts 5 [] m.2.step
    obtain ⟨c1, c2⟩ := mustW_up ts (dimL ts 5 [] m.2.step).2 3 shutT
    have hs : m.2.step.at_ = m.2.at_ + 1 := rfl
    exact ⟨by simp only; omega, fun h => c2 (b2 (by omega))⟩
  · exact ⟨a1, a2⟩
structure PrO (O : Orc) (ts : List Wd) : Prop where
  fail : ∀ (r : Sr) (p c : Nat) (H : AH), O 54 [.ptr 0 0, .int .i64 (p : Int), .int .i64 (c : Int)] (pbx ts r :: H) = some (.tup [], pbx ts (r.fail p c) :: H)
  is : ∀ (r : Sr) (k : Nat) (s : List UInt8) (H : AH), O 142 [.ptr 0 0, .int .i64 (k : Int), .str s] (pbx ts r :: H) = some (.bool (isW ts r k s), pbx ts r :: H)
  takes : ∀ (r : Sr) (k : Nat) (s : List UInt8) (H : AH), O 139 [.ptr 0 0, .int .i64 (k : Int), .str s] (pbx ts r :: H) = some (.bool (isW ts r k s), pbx ts (takesW ts r k s) :: H)
  must : ∀ (r : Sr) (k : Nat) (s : List UInt8) (H : AH), O 91 [.ptr 0 0, .int .i64 (k : Int), .str s] (pbx ts r :: H) = some (.agg (wdCells (mustW ts r k s).1), pbx ts (mustW ts r k s).2 :: H)
noncomputable def Lpr (ts : List Wd) (hts : ts.length < 1000000) : List (Fact Tryz.prog envF) := [fPfail ts, fPis ts, fPtakes ts hts, fPmust ts hts]
theorem oPr_ok (ts : List Wd) (hts : ts.length < 1000000) : PrO (oOf (Lpr ts hts)) ts := by
  have hL : ((Lpr ts hts).map (·.f)).Nodup := show ([54, 142, 139, 91] : List Nat).Nodup by decide
  exact ⟨fun r p c H => pfail_s hL (show fPfail ts ∈ Lpr ts hts by simp [Lpr]) r p c H, fun r k s H => pis_s hL (show fPis ts ∈ Lpr ts hts by simp [Lpr]) r k s H, fun r k s H => ptakes_s hts hL (show fPtakes ts hts ∈ Lpr ts hts by simp [Lpr]) r k s H,
    fun r k s H => pmust_s hts hL (show fPmust ts hts ∈ Lpr ts hts by simp [Lpr]) r k s H⟩
theorem oPr_cx (ts : List Wd) (hts : ts.length < 1000000) : Cx (oOf (Lpr ts hts)) Tryz.prog envF := oOf_cx _ methFOk mixed
def tokL {α : Type} (l : List α) : AH := if l = [] then [] else [some (.tok l.length)]
@[simp] theorem tokL_nil {α : Type} : tokL ([] : List α) = [] := nrfl rfl
@[simp] theorem tokL_cons {α : Type} (x : α) (l : List α) : tokL (x :: l) = [some (.tok (l.length + 1))] := nrfl rfl
@[simp] theorem buSit (s : List UInt8) : abuild Tryz.prog 121 [(0, .str s)] = some (.agg [.str s, .nilSlice]) := by kernel_rfl
@[simp] theorem bsSit (s : List UInt8) (v : AV) : abuildSlice Tryz.prog 24 1 [(0, .agg [.str s, v])] = some (.slice .full 2 1 [.str s, v]) := by kernel_rfl
theorem elemSit : elemChk Tryz.prog 24 2 = true := by kernel_rfl
def DimP (ts : List Wd) (nm : List UInt8) (res : List Int × Sr) (k : Nat) (t : List AV) (H : AH) : Prop :=
  ∃ (d : List Int) (r : Sr), dimL ts k d r = res ∧ k + d.length = 5 ∧ (r.err = none → d.length < 4) ∧ r.at_ ≤ ts.length ∧
    t = mkT 60 [(0, .ptr 0 0), (2, .ptr 1 0), (3, .ptr 2 0)] ∧ H = pbx ts r :: some (.box [.str [], .nilSlice]) :: some (.box [.str nm, dimE.tk 3 d]) :: tokL d
theorem spitem_cs (ts : List Wd) (hts : ts.length < 1000000) (r : Sr) (hr : r.at_ ≤ ts.length) {H : AH} {id : Nat} (hH : H.at id = some (.box (r.pc ts))) :
    CS Tryz.prog envF 177 [.ptr id 0] H (.agg (itE.c (itemW ts r).1)) (H.set id (some (.box ((itemW ts r).2.pc ts)))) := by
  refine CS.rd lowF Tryz.func177 (by kernel_rfl) 0 (by simp [Tryz.f177]) (fun B hB hG => ?_) (by simp) (by simp [it_c]) (spc_low _ _) (spc_low _ _) hH
  have X := oPr_cx ts hts
  have hO := oPr_ok ts hts
  generalize oOf (Lpr ts hts) = O at X hO
  have f1 := fun H => hO.must r 1 [] H
  obtain ⟨a1, a2⟩ := mustW_up ts r 1 []
  have hi : itemW ts r = if isW ts (mustW ts r 1 []).2 3 openT then (⟨(mustW ts r 1 []).1.text, (dimL ts 5 [] (mustW ts r 1 []).2.step).1⟩, (mustW ts (dimL ts 5 [] (mustW ts r 1 []).2.step).2 3 shutT).2) else (⟨(mustW ts r 1 []).1.text, []⟩, (mustW ts r 1 []).2) := rfl
  rw [hi]
  generalize mustW ts r 1 [] = m at *
  obtain ⟨w, r1⟩ := m
  have f2 := fun H => hO.takes r1 3 openT H
  refine Tr.goD X hG (by kernel_rfl) ?_
  simp [pbx, wdCells] at f1
  cases hop : isW ts r1 3 openT with
  | false =>
    rw [hop, takesW_f hop] at f2
    simp [pbx, openT] at f2
    simp [Tryz.f177, Sr.pc, f1, f2, it_c]
  | true =>
    rw [hop, takesW_t hop] at f2
    have hl1 := (isW_lt hop).1
    have hs : r1.step.at_ = r1.at_ + 1 := rfl
    have hb1 : pbx ts r1.step = some (.box [wdsAV ts, .int .i64 ((r1.at_ : Int) + 1), erI r1.err]) := by simp [pbx, Sr.step]
    rw [hb1] at f2
    simp [pbx, openT] at f2
    simp only [if_true]
    generalize hres : dimL ts 5 [] r1.step = res
    obtain ⟨u1, u2⟩ := dimL_up ts 5 [] r1.step
    rw [hres] at u1 u2
    have hu := u2 (by omega)
    simp [Tryz.f177, Sr.pc, f1, f2]
    refine LpD.loopN X hG (by kernel_rfl) (DimP ts w.text res) 5 (t' := mkT 60 [(0, .ptr 0 0), (2, .ptr 1 0), (3, .ptr 2 0)]) (H' := pbx ts r1.step :: some (.box [.str [], .nilSlice]) :: some (.box [.str w.text, .nilSlice]) :: [])
      (Less.mkK 3 (by simp [hB]) (by simp) (by simp [hb1]) (by simp [hb1])) ⟨[], r1.step, hres, rfl, fun _ => by decide, by omega, rfl, by simp⟩ ?_
    clear f1 f2 hop hl1 hs hb1 u1 u2 a1 a2 hi hres
    rintro k t H ⟨d, q, hres, hkd, hd4, hq, rfl, rfl⟩
    have fin := fun (q : Sr) H => hO.must q 3 shutT H
    have hcut := dimE.tk_cut (show ¬ 3 < 1 by omega)
    simp [shutT, pbx] at fin
    cases he : q.err with
    | some y =>
      obtain rfl : res = (d, q) := by
        rw [← hres]
        cases k with
        | zero => rfl
        | succ k => simp only [dimL, he]
      have fin := fun H => fin q H
      rw [he] at fin
      simp [Blk_exit, pbx, he, fin, it_c, hcut, shutT]
    | none =>
      have hd4 := hd4 he
      obtain ⟨k, rfl⟩ : ∃ j, k = j + 1 := ⟨k - 1, by omega⟩
      have fm := fun H => hO.must q 2 [] H
      obtain ⟨a1, a2⟩ := mustW_up ts q 2 []
      obtain ⟨m, hm⟩ : ∃ m, m = mustW ts q 2 [] := ⟨_, rfl⟩
      obtain ⟨q2, hq2⟩ : ∃ q2, q2 = if m.1.n = 0 then m.2.fail q.at_ 1 else m.2 := ⟨_, rfl⟩
      have hdl : dimL ts (k + 1) d q = if isW ts q2 3 commaT then dimL ts k (d ++ [(m.1.n : Int)]) (if (d ++ [(m.1.n : Int)]).length = 4 then q2.fail q2.at_ 4 else q2).step else (d ++ [(m.1.n : Int)], q2) := by
        rw [hq2, hm]
        simp only [dimL, he]
      rw [hdl] at hres
      rw [← hm] at fm a1 a2
      have ha2 : q2.at_ ≤ ts.length := by
        have : q2.at_ = m.2.at_ := by rw [hq2]; split <;> rfl
        have := a2 hq
        omega
      have ff := fun H => hO.fail m.2 q.at_ 1 H
      have fi := fun H => hO.is q2 3 commaT H
      have f4 := fun H => hO.fail q2 q2.at_ 4 H
      clear hm hdl a1 a2
      obtain ⟨w2, q1⟩ := m
      simp only at hq2 hres ff fm
      simp [pbx, wdCells, he] at fm
      simp [pbx] at ff
      simp [pbx, commaT] at fi
      simp [pbx] at f4
      have fin := fun H => fin q2 H
      have hsh : mustW ts q2 3 [41] = mustW ts q2 3 shutT := rfl
      have hz : (w2.n = 0 ∧ q2 = q1.fail q.at_ 1) ∨ (¬ w2.n = 0 ∧ q2 = q1) := by
        by_cases h : w2.n = 0
        · exact .inl ⟨h, by rw [hq2, if_pos h]⟩
        · exact .inr ⟨h, by rw [hq2, if_neg h]⟩
      clear hq2
      have hav : ∀ z : Int, dimE.av [z] = .slice .unk 1 1 [.int .i64 z] := fun z => rfl
      have happ := fun (z : Int) H ow => aappend_nil (P := Tryz.prog) (t := 49) (sz := 1) (m := 1) (H := H) (fid := 3) (ow := ow) (ys := [.int .i64 z]) elemDim (by decide) (by decide) (by simp)
      have hap2 := fun (z x : Int) (d : List Int) H ow (h : AH.at H 3 = some (.tok (x :: d).length)) (hd : d.length < 4) => aappend_tok (P := Tryz.prog) (t := 49) (sz := 1) (n := (x :: d).length) (m := 1) (H := H) (fid := 4) (ow := ow) (xs := dimE.row (x :: d)) (ys := [.int .i64 z]) elemDim h (by decide) (by simp; omega) (by simp)
      have hrw : ∀ (z x : Int) (d : List Int), dimE.row (x :: d) ++ [.int .i64 z] = dimE.row (x :: d ++ [z]) := fun z x d => by rw [dimE.row_append]; rfl
      have htk : ∀ (x : Int) (d : List Int), dimE.tk 3 (x :: d) = .slice (.tok 3) 1 (d.length + 1) (dimE.row (x :: d)) := fun x d => rfl
      have hav2 : ∀ (z x : Int) (d : List Int), dimE.av (x :: (d ++ [z])) = .slice .unk 1 (d.length + 1 + 1) (dimE.row (x :: d ++ [z])) := fun z x d => by rw [dimE.av_cons, List.length_append]; rfl
      have hst := fun l => dimE.row_strip 1 l
      simp only [hrw] at hap2
      simp at hap2 hav2 hst
      cases hc : isW ts q2 3 commaT with
      | false =>
        rw [hc] at hres
        obtain rfl : (d ++ [(w2.n : Int)], q2) = res := hres
        have hc' : isW ts q2 3 [44] = false := hc
        rw [hc'] at fi
        simp only
        rcases hz with ⟨hz, rfl⟩ | ⟨hz, rfl⟩
        · cases d with
          | nil => simp [pbx, he, fm, ff, hz, happ, fi, fin, Blk_exit, it_c, hav, shutT]
          | cons x d =>
            have hd3 : d.length < 4 := by simp at hd4; omega
            simp [pbx, he, fm, ff, hz, htk, hap2, hd3, fi, fin, Blk_exit, it_c, hav2, hst, shutT]
        · have hz' : ((w2.n : Int) == 0) = false := by rw [beq_eq_false_iff_ne]; omega
          cases d with
          | nil => simp [pbx, he, fm, ff, hz, hz', happ, fi, fin, Blk_exit, it_c, hav, shutT]
          | cons x d =>
            have hd3 : d.length < 4 := by simp at hd4; omega
            simp [pbx, he, fm, ff, hz, hz', htk, hap2, hd3, fi, fin, Blk_exit, it_c, hav2, hst, shutT]
      | true =>
        obtain ⟨hl2, he2⟩ := isW_lt hc
        have hzz : ¬ w2.n = 0 ∧ q2 = q1 := by
          rcases hz with ⟨_, h⟩ | h
          · rw [h] at he2
            simp [Sr.fail] at he2
          · exact h
        clear hz
        obtain ⟨hz, rfl⟩ := hzz
        have hz' : ((w2.n : Int) == 0) = false := by rw [beq_eq_false_iff_ne]; omega
        rw [hc] at hres
        simp only [if_true] at hres
        have hc' : isW ts q2 3 [44] = true := hc
        rw [hc'] at fi
        simp only [he2, erI_none] at fi fm f4
        have wa : IntKind.i64.wrap ((q2.at_ : Int) + 1) = (q2.at_ : Int) + 1 := wrap_i64 (by omega) (by omega)
        have hrow : ∀ (m : Nat) (l : List Int), lowL m (dimE.row l) = true := fun m l => dimE.row_lowm m l
        cases d with
        | nil =>
          have hres : dimL ts k [(w2.n : Int)] q2.step = res := by simpa using hres
          simp [pbx, he, he2, fm, hz, hz', happ, fi, wa]
          exact Nxt.mk k (by omega) (Less.mkK 4 (by simp [hB]) (by simp) (by simp [pbx, Sr.step, he2, htk, dim_c, Enc.row]) (by simp [pbx, Sr.step, he2, htk, dim_c, Enc.row])) ⟨[(w2.n : Int)], q2.step, hres, by simp at hkd ⊢; omega, fun _ => by simp, by simp only [Sr.step]; omega, rfl, rfl⟩
        | cons x d =>
          have hd3 : d.length < 4 := by simp at hd4; omega
          have hd5 : d.length < 3 := by simp at hd4; omega
          have htk2 : ∀ z : Int, dimE.tk 3 (x :: (d ++ [z])) = .slice (.tok 3) 1 (d.length + 1 + 1) (dimE.row (x :: (d ++ [z]))) := fun z => by rw [dimE.tk_ne 3 (by simp), List.length_cons, List.length_append]; rfl
          by_cases h4 : d.length + 1 + 1 = 4
          · have h4' : ((d.length : Int) + 1 + 1 == 4) = true := by rw [beq_iff_eq]; omega
            have h4i : (d.length : Int) + 1 + 1 = 4 := by omega
            have hres : dimL ts k (x :: d ++ [(w2.n : Int)]) (q2.fail q2.at_ 4).step = res := by
              have : (x :: d ++ [(w2.n : Int)]).length = 4 := by simp; omega
              rwa [if_pos this] at hres
            have hfa : (q2.fail q2.at_ 4).at_ = q2.at_ := rfl
            simp only [hfa] at f4
            simp [pbx, he, he2, fm, hz, hz', htk, hap2, hd3, fi, wa, h4i, f4]
            exact Nxt.mk k (by omega) (Less.mkK 4 (by simp [hB]) (by simp) (by simp [hrow, pbx, Sr.step, Sr.fail, he2, htk2]) (by simp [hrow, pbx, Sr.step, Sr.fail, he2, htk2])) ⟨x :: d ++ [(w2.n : Int)], (q2.fail q2.at_ 4).step, hres, by simp at hkd ⊢; omega, fun h => by simp [Sr.step, Sr.fail] at h, by simp only [Sr.step, Sr.fail]; omega, rfl, rfl⟩
          · have h4i : ¬ (d.length : Int) + 1 + 1 = 4 := by omega
            have hres : dimL ts k (x :: d ++ [(w2.n : Int)]) q2.step = res := by
              have : ¬ (x :: d ++ [(w2.n : Int)]).length = 4 := by simp; omega
              rwa [if_neg this] at hres
            simp [pbx, he, he2, fm, hz, hz', htk, hap2, hd3, fi, wa, h4i]
            exact Nxt.mk k (by omega) (Less.mkK 4 (by simp [hB]) (by simp) (by simp [hrow, pbx, Sr.step, Sr.fail, he2, htk2]) (by simp [hrow, pbx, Sr.step, Sr.fail, he2, htk2])) ⟨x :: d ++ [(w2.n : Int)], q2.step, hres, by simp at hkd ⊢; omega, fun _ => by simp; omega, by simp only [Sr.step]; omega, rfl, rfl⟩
end Go.Proofs.YtejjlojfgcgopaaGreatDoor
namespace Go.Proofs.YtejjlojfgcgopaaGreatDoor
open Go.RowKit Go.Proofs.Fw
set_option maxRecDepth 100000
set_option maxHeartbeats 4000000
noncomputable def fPitem (ts : List Wd) (hts : ts.length < 1000000) : Fact Tryz.prog envF := Fact.meth 177 (Sr.pc ts) (spc_inj ts) (fun (_ : Unit) r => r.at_ ≤ ts.length) (fun _ _ => []) (fun _ r => .agg (itE.c (itemW ts r).1)) (fun _ r => (itemW ts r).2)
  (fun _ r h H id hH => spitem_cs ts hts r h hH) (fun id x y r _ _ h => ⟨rfl, rfl⟩)
def spOut (l : List It) : AV := if l.length = 1 then .slice .full 2 1 (itE.row l) else .slice (.tok 1) 2 l.length (itE.row l)
def spOutH (l : List It) : AH := if l.length = 1 then [] else [some (.tok l.length)]
def spOutV (l : List It) : AV := if l.length = 1 then .slice .full 2 1 (itE.row l) else .slice .unk 2 l.length (itE.row l)
theorem spOutV_rep {l : List It} (h : l ≠ []) (g : Gh) (cv : Value) (hr : RepV g (spOutV l) cv) : RepV g (itE.av l) cv := by
  rw [itE.av_ne h, it_sz]
  unfold spOutV at hr
  split at hr
  · rename_i h1; rw [h1]; exact rep_unk g cv hr
  · exact hr
theorem itemL_ne (ts : List Wd) : ∀ (n : Nat) (l : List It) (r : Sr), l ≠ [] → (itemL ts n l r).1 ≠ []
  | 0, l, r, h => h
  | n + 1, l, r, h => by
    simp only [itemL]
    split
    · exact itemL_ne ts n _ _ (by simp)
    · exact h
def ItP (ts : List Wd) (res : List It × Sr) (k : Nat) (t : List AV) (H : AH) : Prop :=
  ∃ (l : List It) (r : Sr), itemL ts k l r = res ∧ ts.length < k + r.at_ ∧ r.at_ ≤ ts.length ∧ l.length + k ≤ ts.length + 2 ∧ l ≠ [] ∧
    t = mkT 15 [(0, .ptr 0 0), (3, spOut l)] ∧ H = pbx ts r :: spOutH l
theorem spitems_cs (ts : List Wd) (hts : ts.length < 1000000) (r : Sr) (hr : r.at_ ≤ ts.length) {H : AH} {id : Nat} (hH : H.at id = some (.box (r.pc ts))) :
    CS Tryz.prog envF 137 [.ptr id 0] H (itE.av (itemsW ts r).1) (H.set id (some (.box ((itemsW ts r).2.pc ts)))) := by
  refine CS.weak (v := spOutV (itemsW ts r).1) ?_ (spOutV_rep (itemL_ne ts _ _ _ (by simp)))
  have hlv : ∀ l, low 0 (spOutV l) = true := fun l => by unfold spOutV; split <;> simp [itE.row_lowm]
  refine CS.rd lowF Tryz.func137 (by kernel_rfl) 0 (by simp [Tryz.f137]) (fun B hB hG => ?_) (by simp) (hlv _) (spc_low _ _) (spc_low _ _) hH
  have hL : ([fPitem ts hts, fPtakes ts hts].map (·.f)).Nodup := show ([177, 139] : List Nat).Nodup by decide
  have X := oOf_cx [fPitem ts hts, fPtakes ts hts] methFOk mixed
  have f1 := fun q (h : q.at_ ≤ ts.length) H => oOf_meth hL (show fPitem ts hts ∈ [fPitem ts hts, fPtakes ts hts] by simp) () q (H := pbx ts q :: H) (id := 0) rfl h
  have f2 := fun q H => ptakes_s hts hL (show fPtakes ts hts ∈ [fPitem ts hts, fPtakes ts hts] by simp) q 3 commaT H
  generalize oOf [fPitem ts hts, fPtakes ts hts] = O at X f1 f2
  refine Tr.goD X hG (by kernel_rfl) ?_
  simp only [it_c, Sr.pc, pbx, commaT] at f1 f2
  simp at f1 f2
  simp only [itemsW]
  obtain ⟨a1, a2⟩ := itemW_up ts r
  have g1 := f1 r hr
  have g2 := f2 (itemW ts r).2
  generalize hm : itemW ts r = m at *
  obtain ⟨x, r1⟩ := m
  have hr1 := a2 hr
  simp only at g1 g2 hr1 ⊢
  generalize hres : itemL ts (ts.length + 1) [x] r1 = res
  simp [Tryz.f137, Sr.pc, g1]
  refine LpD.loopN X hG (by kernel_rfl) (ItP ts res) (ts.length + 1) (t' := mkT 15 [(0, .ptr 0 0), (3, spOut [x])]) (H' := [pbx ts r1])
    (Less.mkK 1 (by simp [hB]) (by simp [spOut, Enc.row, it_c]) (by simp [spOut, Enc.row, it_c, pbx]) (by simp [pbx])) ⟨[x], r1, hres, by omega, hr1, by simp; omega, by simp, rfl, by simp [spOutH]⟩ ?_
  clear hres hm a1 a2 g1 g2 hr1
  rintro k t H ⟨l, q, hres, hk0, hq, hlk, hl0, rfl, rfl⟩
  obtain ⟨k, rfl⟩ : ∃ j, k = j + 1 := ⟨k - 1, by omega⟩
  have hst : itemL ts (k + 1) l q = if isW ts q 3 commaT then itemL ts k (l ++ [(itemW ts q.step).1]) (itemW ts q.step).2 else (l, q) := rfl
  rw [hst] at hres
  have h2 := f2 q
  have hlow := fun (m : Nat) (l : List It) => itE.row_lowm m l
  have hstr := fun (n : Nat) (l : List It) => itE.row_strip n l
  cases hc : isW ts q 3 commaT with
  | false =>
    rw [hc] at hres
    obtain rfl : (l, q) = res := hres
    have hc' : isW ts q 3 [44] = false := hc
    have ht' : takesW ts q 3 [44] = q := takesW_f hc
    rw [hc', ht'] at h2
    by_cases h1l : l.length = 1
    · simp [pbx, h2, Blk_exit, spOut, spOutV, h1l, hstr]
    · simp [pbx, h2, Blk_exit, spOut, spOutV, h1l, hstr]
  | true =>
    rw [hc] at hres
    simp only [if_true] at hres
    have hc' : isW ts q 3 [44] = true := hc
    have ht' : takesW ts q 3 [44] = q.step := takesW_t hc
    rw [hc', ht'] at h2
    obtain ⟨hl, he⟩ := isW_lt hc
    have hs : q.step.at_ = q.at_ + 1 := rfl
    have h1 := f1 q.step (by omega)
    obtain ⟨a1, a2⟩ := itemW_up ts q.step
    have ha2 := a2 (by omega)
    generalize itemW ts q.step = m at *
    obtain ⟨y, q2⟩ := m
    simp only at h1 ha2 hres a1
    simp only [Sr.step] at h1 h2
    simp at h1 h2
    by_cases h1l : l.length = 1
    · have happ := fun H => aappend_full (P := Tryz.prog) (t := 24) (sz := 2) (n := 1) (m := 1) (H := H) (fid := 1) (ow := .full) (xs := itE.row l) (ys := [.str y.name, dimE.av y.dims]) elemSit (by decide) (by decide) (by simp)
      have hrw : itE.row l ++ [.str y.name, dimE.av y.dims] = itE.row (l ++ [y]) := by rw [itE.row_append, itE.row_one1]; rfl
      rw [hrw] at happ
      have ho : spOut l = .slice .full 2 1 (itE.row l) := if_pos h1l
      have ho2 : spOut (l ++ [y]) = .slice (.tok 1) 2 2 (itE.row (l ++ [y])) := by unfold spOut; rw [if_neg (by simp; omega)]; simp [h1l]
      have hh : spOutH l = [] := if_pos h1l
      have hh2 : spOutH (l ++ [y]) = [some (.tok 2)] := by unfold spOutH; rw [if_neg (by simp; omega)]; simp [h1l]
      rw [ho, hh]
      simp [pbx, h2, h1, happ]
      exact Nxt.mk k (by omega) (Less.mkK 2 (by simp [hB]) (by simp [ho2, hlow]) (by simp [pbx, hh2, ho2, hlow]) (by simp [pbx, hh2])) ⟨l ++ [y], q2, hres, by omega, ha2, by simp; omega, by simp, rfl, rfl⟩
    · have happ := fun H (h : AH.at H 1 = some (.tok l.length)) => aappend_tok (P := Tryz.prog) (t := 24) (sz := 2) (n := l.length) (m := 1) (H := H) (fid := 2) (ow := .full) (xs := itE.row l) (ys := [.str y.name, dimE.av y.dims]) elemSit h (by decide) (by omega) (by simp)
      have hrw : itE.row l ++ [.str y.name, dimE.av y.dims] = itE.row (l ++ [y]) := by rw [itE.row_append, itE.row_one1]; rfl
      rw [hrw] at happ
      have ho : spOut l = .slice (.tok 1) 2 l.length (itE.row l) := if_neg h1l
      have ho2 : spOut (l ++ [y]) = .slice (.tok 1) 2 (l.length + 1) (itE.row (l ++ [y])) := by
        have : l.length ≠ 0 := fun h => hl0 (List.length_eq_zero_iff.1 h)
        unfold spOut; rw [if_neg (by simp; omega)]; simp
      have hh : spOutH l = [some (.tok l.length)] := if_neg h1l
      have hh2 : spOutH (l ++ [y]) = [some (.tok (l.length + 1))] := by
        have : l.length ≠ 0 := fun h => hl0 (List.length_eq_zero_iff.1 h)
        unfold spOutH; rw [if_neg (by simp; omega)]; simp
      rw [ho, hh]
      simp [pbx, h2, h1, happ]
      exact Nxt.mk k (by omega) (Less.mkK 2 (by simp [hB]) (by simp [ho2, hlow]) (by simp [pbx, hh2, ho2, hlow]) (by simp [pbx, hh2])) ⟨l ++ [y], q2, hres, by omega, ha2, by simp; omega, by simp, rfl, rfl⟩
theorem spstep_cs (ts : List Wd) (hts : ts.length < 1000000) (r : Sr) (hr : r.at_ ≤ ts.length) {H : AH} {id : Nat} (hH : H.at id = some (.box (r.pc ts))) :
    CS Tryz.prog envF 138 [.ptr id 0] H (.int .i64 (stepW ts r).1) (H.set id (some (.box ((stepW ts r).2.pc ts)))) := by
  refine CS.rd lowF Tryz.func138 (by kernel_rfl) 0 (by simp [Tryz.f138]) (fun B hB hG => ?_) (by simp) (by simp) (spc_low _ _) (spc_low _ _) hH
  have X := oPr_cx ts hts
  have hO := oPr_ok ts hts
  generalize oOf (Lpr ts hts) = O at X hO
  refine Tr.goD X hG (by kernel_rfl) ?_
  have f1 := fun H => hO.takes r 3 commaT H
  cases hc : isW ts r 3 commaT with
  | false =>
    rw [hc, takesW_f hc] at f1
    simp [pbx, commaT] at f1
    simp [Tryz.f138, Sr.pc, f1, stepW, hc]
  | true =>
    rw [hc, takesW_t hc] at f1
    have f2 := fun H => hO.takes r.step 3 minusT H
    have hb1 : pbx ts r.step = some (.box [wdsAV ts, .int .i64 ((r.at_ : Int) + 1), erI r.err]) := by simp [pbx, Sr.step]
    cases hm : isW ts r.step 3 minusT with
    | false =>
      rw [hm, takesW_f hm] at f2
      have f3 := fun H => hO.must r.step 2 [] H
      simp only [stepW, hc, hm, if_true, Bool.false_eq_true, if_false]
      generalize mustW ts r.step 2 [] = m at *
      rw [hb1] at f1 f2 f3
      simp [pbx, commaT] at f1
      simp [minusT] at f2
      simp [wdCells, pbx] at f3
      simp [Tryz.f138, Sr.pc, f1, f2, f3]
    | true =>
      rw [hm, takesW_t hm] at f2
      have f3 := fun H => hO.must r.step.step 2 [] H
      have hb2 : pbx ts r.step.step = some (.box [wdsAV ts, .int .i64 ((r.at_ : Int) + 1 + 1), erI r.err]) := by simp [pbx, Sr.step]
      simp only [stepW, hc, hm, if_true]
      generalize mustW ts r.step.step 2 [] = m at *
      rw [hb1] at f1 f2
      rw [hb2] at f2 f3
      simp [pbx, commaT] at f1
      simp [minusT] at f2
      simp [wdCells, pbx] at f3
      simp [Tryz.f138, Sr.pc, f1, f2, f3, negW]
end Go.Proofs.YtejjlojfgcgopaaGreatDoor
namespace Go.Proofs.YtejjlojfgcgopaaGreatDoor
open Go.RowKit Go.Proofs.Fw
set_option maxRecDepth 100000
set_option maxHeartbeats 4000000
noncomputable def fPitems (ts : List Wd) (hts : ts.length < 1000000) : Fact Tryz.prog envF := Fact.meth 137 (Sr.pc ts) (spc_inj ts) (fun (_ : Unit) r => r.at_ ≤ ts.length) (fun _ _ => []) (fun _ r => itE.av (itemsW ts r).1) (fun _ r => (itemsW ts r).2)
  (fun _ r h H id hH => spitems_cs ts hts r h hH) (fun id x y r _ _ h => ⟨rfl, rfl⟩)
noncomputable def fPstep (ts : List Wd) (hts : ts.length < 1000000) : Fact Tryz.prog envF := Fact.meth 138 (Sr.pc ts) (spc_inj ts) (fun (_ : Unit) r => r.at_ ≤ ts.length) (fun _ _ => []) (fun _ r => .int .i64 (stepW ts r).1) (fun _ r => (stepW ts r).2)
  (fun _ r h H id hH => spstep_cs ts hts r h hH) (fun id x y r _ _ h => ⟨rfl, rfl⟩)
noncomputable def fPexpr (ts : List Wd) (hts : ts.length < 1000000) : Fact Tryz.prog envF := Fact.meth 92 (Sr.pc ts) (spc_inj ts) (fun (_ : Unit) r => r.at_ ≤ ts.length) (fun _ _ => []) (fun _ r => .agg (tC (exprW ts r).1.tn)) (fun _ r => (exprW ts r).2)
  (fun _ r h H id hH => spexpr_cs ts hts r h hH) (fun id x y r _ _ h => ⟨rfl, rfl⟩)
noncomputable def fPto (ts : List Wd) (hts : ts.length < 1000000) : Fact Tryz.prog envF := Fact.meth 90 (Sr.pc ts) (spc_inj ts) (fun (_ : Unit) r => r.at_ ≤ ts.length) (fun _ _ => []) (fun _ r => .agg (tC (toW ts r).1.tn)) (fun _ r => (toW ts r).2)
  (fun _ r h H id hH => spto_cs ts hts r h hH) (fun id x y r _ _ h => ⟨rfl, rfl⟩)
structure KpO (O : Orc) (ts : List Wd) : Prop where
  fail : ∀ (r : Sr) (p c : Nat) (H : AH), O 54 [.ptr 0 0, .int .i64 (p : Int), .int .i64 (c : Int)] (pbx ts r :: H) = some (.tup [], pbx ts (r.fail p c) :: H)
  takes : ∀ (r : Sr) (k : Nat) (s : List UInt8) (H : AH), O 139 [.ptr 0 0, .int .i64 (k : Int), .str s] (pbx ts r :: H) = some (.bool (isW ts r k s), pbx ts (takesW ts r k s) :: H)
  must : ∀ (r : Sr) (k : Nat) (s : List UInt8) (H : AH), O 91 [.ptr 0 0, .int .i64 (k : Int), .str s] (pbx ts r :: H) = some (.agg (wdCells (mustW ts r k s).1), pbx ts (mustW ts r k s).2 :: H)
  items : ∀ (r : Sr) (H : AH), r.at_ ≤ ts.length → O 137 [.ptr 0 0] (pbx ts r :: H) = some (itE.av (itemsW ts r).1, pbx ts (itemsW ts r).2 :: H)
  step : ∀ (r : Sr) (H : AH), r.at_ ≤ ts.length → O 138 [.ptr 0 0] (pbx ts r :: H) = some (.int .i64 (stepW ts r).1, pbx ts (stepW ts r).2 :: H)
  expr : ∀ (r : Sr) (H : AH), r.at_ ≤ ts.length → O 92 [.ptr 0 0] (pbx ts r :: H) = some (.agg (tC (exprW ts r).1.tn), pbx ts (exprW ts r).2 :: H)
  to : ∀ (r : Sr) (H : AH), r.at_ ≤ ts.length → O 90 [.ptr 0 0] (pbx ts r :: H) = some (.agg (tC (toW ts r).1.tn), pbx ts (toW ts r).2 :: H)
  cond : ∀ (r : Sr) (H : AH), r.at_ ≤ ts.length → O 140 [.ptr 0 0, .func (.func 141) [] []] (pbx ts r :: H) = some (condT (condW ts r).1, pbx ts (condW ts r).2 :: H)
noncomputable def Lkp (ts : List Wd) (hts : ts.length < 1000000) : List (Fact Tryz.prog envF) := [fPfail ts, fPtakes ts hts, fPmust ts hts, fPitems ts hts, fPstep ts hts, fPexpr ts hts, fPto ts hts, fPwQ ts hts]
theorem oKp_ok (ts : List Wd) (hts : ts.length < 1000000) : KpO (oOf (Lkp ts hts)) ts := by
  have hL : ((Lkp ts hts).map (·.f)).Nodup := show ([54, 139, 91, 137, 138, 92, 90, 140] : List Nat).Nodup by decide
  exact ⟨fun r p c H => pfail_s hL (show fPfail ts ∈ Lkp ts hts by simp [Lkp]) r p c H, fun r k s H => ptakes_s hts hL (show fPtakes ts hts ∈ Lkp ts hts by simp [Lkp]) r k s H, fun r k s H => pmust_s hts hL (show fPmust ts hts ∈ Lkp ts hts by simp [Lkp]) r k s H,
    fun r H h => oOf_meth hL (show fPitems ts hts ∈ Lkp ts hts by simp [Lkp]) () r (H := pbx ts r :: H) (id := 0) rfl h, fun r H h => oOf_meth hL (show fPstep ts hts ∈ Lkp ts hts by simp [Lkp]) () r (H := pbx ts r :: H) (id := 0) rfl h,
    fun r H h => oOf_meth hL (show fPexpr ts hts ∈ Lkp ts hts by simp [Lkp]) () r (H := pbx ts r :: H) (id := 0) rfl h, fun r H h => oOf_meth hL (show fPto ts hts ∈ Lkp ts hts by simp [Lkp]) () r (H := pbx ts r :: H) (id := 0) rfl h,
    fun r H h => oOf_meth hL (show fPwQ ts hts ∈ Lkp ts hts by simp [Lkp]) () r (H := pbx ts r :: H) (id := 0) rfl h⟩
theorem oKp_cx (ts : List Wd) (hts : ts.length < 1000000) : Cx (oOf (Lkp ts hts)) Tryz.prog envF := oOf_cx _ methFOk mixed
@[simp] theorem buSp0 : abuild Tryz.prog 31 [] = some (.agg (Sx.c ⟨0, [], t0, t0, [], t0, t0, [], t0, t0, 0⟩)) := by kernel_rfl
theorem spkey_cs (ts : List Wd) (hts : ts.length < 1000000) (word : List UInt8) (r : Sr) (hr : r.at_ ≤ ts.length) {H : AH} {id : Nat} (hH : H.at id = some (.box (r.pc ts))) :
    CS Tryz.prog envF 89 [.ptr id 0, .str word] H (.agg (keyW ts word r).1.x.c) (H.set id (some (.box ((keyW ts word r).2.pc ts)))) := by
  refine CS.rd lowF Tryz.func89 (by kernel_rfl) 0 (by simp [Tryz.f89]) (fun B hB hG => ?_) (by simp) (by simp [Sx.c_low]) (spc_low _ _) (spc_low _ _) hH
  have X := oKp_cx ts hts
  have hO := oKp_ok ts hts
  generalize oOf (Lkp ts hts) = O at X hO
  refine Tr.goD X hG (by kernel_rfl) ?_
  unfold keyW
  by_cases h1 : word = integerT
  · subst h1
    have f1 := fun H => hO.items r H hr
    simp only [if_true]
    generalize itemsW ts r = m at *
    simp only [pbx] at f1
    simp [Tryz.f89, Sr.pc, f1, Sx.c, Sm.x, exnone_tn, integerT]
  rw [if_neg h1]
  by_cases h2 : word = doT
  · subst h2
    rw [if_pos rfl]
    have f1 := fun H => hO.must r 1 [] H
    have u1 := (mustW_up ts r 1 []).2 hr
    unfold doW
    generalize mustW ts r 1 [] = m at *
    obtain ⟨nm, r1⟩ := m
    simp only at f1 u1 ⊢
    have f2 := fun H => hO.must r1 3 isT H
    have u2 := (mustW_up ts r1 3 isT).2 u1
    generalize mustW ts r1 3 isT = m2 at *
    obtain ⟨w2, r2⟩ := m2
    simp only at f2 u2 ⊢
    have f3 := fun H => hO.expr r2 H u2
    have u3 := (exprW_up ts r2).2 u2
    generalize exprW ts r2 = a at *
    obtain ⟨lo, r3⟩ := a
    simp only at f3 u3 ⊢
    have f4 := fun H => hO.must r3 3 commaT H
    have u4 := (mustW_up ts r3 3 commaT).2 u3
    generalize mustW ts r3 3 commaT = m4 at *
    obtain ⟨w4, r4⟩ := m4
    simp only at f4 u4 ⊢
    have f5 := fun H => hO.expr r4 H u4
    have u5 := (exprW_up ts r4).2 u4
    generalize exprW ts r4 = b at *
    obtain ⟨hi, r5⟩ := b
    simp only at f5 u5 ⊢
    have f6 := fun H => hO.step r5 H u5
    generalize stepW ts r5 = s at *
    obtain ⟨st, r6⟩ := s
    simp only [pbx, isT, commaT, tC_eq, wdCells] at f1 f2 f3 f4 f5 f6
    simp at f1 f2 f4
    simp [Tryz.f89, Sr.pc, f1, f2, f3, f4, f5, f6, Sx.c, Sm.x, exnone_tn, doT]
  rw [if_neg h2]
  by_cases h3 : word = endT
  · subst h3
    rw [if_pos rfl]
    have f1 := fun H => hO.takes r 4 ifT H
    cases hc : isW ts r 4 ifT with
    | true =>
      rw [hc, takesW_t hc] at f1
      generalize r.step = r1 at *
      simp [pbx, ifT] at f1
      simp [Tryz.f89, Sr.pc, f1, Sx.c, Sm.x, exnone_tn, endT, Blk_exit]
    | false =>
      rw [hc, takesW_f hc] at f1
      have f2 := fun H => hO.must r 4 doT H
      simp only [Bool.false_eq_true, if_false]
      generalize mustW ts r 4 doT = m at *
      simp [pbx, ifT] at f1
      simp [pbx, doT, wdCells] at f2
      simp [Tryz.f89, Sr.pc, f1, f2, Sx.c, Sm.x, exnone_tn, endT, Blk_exit]
  rw [if_neg h3]
  by_cases h4 : word = ifT
  · subst h4
    rw [if_pos rfl]
    unfold ifW
    have f1 := fun H => hO.must r 3 openT H
    have u1 := (mustW_up ts r 3 openT).2 hr
    generalize mustW ts r 3 openT = m at *
    obtain ⟨w1, r1⟩ := m
    simp only at f1 u1 ⊢
    have f2 := fun H => hO.cond r1 H u1
    have u2 := (condW_up ts r1).2 u1
    generalize condW ts r1 = c at *
    obtain ⟨⟨op, ca, cb⟩, r2⟩ := c
    simp only at f2 u2 ⊢
    have f3 := fun H => hO.must r2 3 shutT H
    have u3 := (mustW_up ts r2 3 shutT).2 u2
    generalize mustW ts r2 3 shutT = m3 at *
    obtain ⟨w3, r3⟩ := m3
    simp only at f3 u3 ⊢
    have f4 := fun H => hO.must r3 4 thenT H
    generalize mustW ts r3 4 thenT = m4 at *
    obtain ⟨w4, r4⟩ := m4
    simp only [pbx, openT, shutT, thenT, condT, tC_eq, wdCells, List.cons_append, List.nil_append] at f1 f2 f3 f4
    simp at f1 f3 f4
    simp [Tryz.f89, Sr.pc, f1, f2, f3, f4, Sx.c, Sm.x, exnone_tn, ifT]
  rw [if_neg h4]
  by_cases h5 : word = elseT
  · subst h5
    rw [if_pos rfl]
    simp [Tryz.f89, Sr.pc, Sx.c, Sm.x, exnone_tn, elseT]
  rw [if_neg h5]
  by_cases h6 : word = readT
  · subst h6
    rw [if_pos rfl]
    have f1 := fun H => hO.to r H hr
    generalize toW ts r = m at *
    simp only [pbx, tC_eq] at f1
    simp [Tryz.f89, Sr.pc, f1, Sx.c, Sm.x, exnone_tn, readT]
  rw [if_neg h6]
  by_cases h7 : word = printT
  · subst h7
    rw [if_pos rfl]
    have f1 := fun H => hO.expr r H hr
    generalize exprW ts r = m at *
    simp only [pbx, tC_eq] at f1
    simp [Tryz.f89, Sr.pc, f1, Sx.c, Sm.x, exnone_tn, printT]
  rw [if_neg h7]
  have f1 := fun H => hO.fail r 0 2 H
  generalize r.fail 0 2 = r1 at *
  simp [pbx] at f1
  simp only [integerT, doT, endT, ifT, elseT, readT, printT] at h1 h2 h3 h4 h5 h6 h7
  simp [Tryz.f89, Sr.pc, f1, Sx.c, Sm.x, exnone_tn, h1, h2, h3, h4, h5, h6, h7]
end Go.Proofs.YtejjlojfgcgopaaGreatDoor

namespace Go.Proofs.YtejjlojfgcgopaaGreatDoor
open Go.RowKit Go.Proofs.Fw
set_option maxRecDepth 100000
set_option maxHeartbeats 4000000
def notBang (b : UInt8) : Bool := !(b.toNat == 33)
def noteLen (s : List UInt8) : Nat := frontLen notBang s
def bodyOfLine (s : List UInt8) : List UInt8 := (cutNl s).take (noteLen (cutNl s))
def partsAV (s : List UInt8) : AV := .tup [.str (bodyOfLine s), .str ((cutNl s).drop (noteLen (cutNl s))), .str (nlOf s)]
theorem indexByte_note : ∀ s : List UInt8, Lib.indexByte s 33 = if noteLen s < s.length then (noteLen s : Int) else -1
  | [] => rfl
  | b :: s => by
    have ih := indexByte_note s
    have hle := frontLen_le notBang s
    simp only [Lib.indexByte]
    by_cases h : b.toNat = 33
    · have hb : (b == 33) = true := by rw [beq_iff_eq]; exact UInt8.toNat_inj.1 (by rw [h]; rfl)
      have hn : noteLen (b :: s) = 0 := by simp [noteLen, frontLen, notBang, h]
      rw [if_pos hb, hn, if_pos (by simp)]
      rfl
    · have hb : (b == 33) = false := by
        rw [beq_eq_false_iff_ne]
        intro h'
        exact h (by rw [h']; rfl)
      have hn : noteLen (b :: s) = noteLen s + 1 := by
        simp only [noteLen, frontLen, List.takeWhile_cons]
        rw [if_pos (by simp [notBang, h])]
        rfl
      have hns : noteLen s ≤ s.length := hle
      rw [if_neg (by simp [hb]), hn, ih]
      by_cases hl : noteLen s < s.length
      · have h2 : ((noteLen s : Int) == -1) = false := by simp only [beq_eq_false_iff_ne]; omega
        simp only [if_pos hl, h2, Bool.false_eq_true, if_false]
        rw [if_pos (by simp only [List.length_cons]; omega)]
        rfl
      · have h1 : ((-1 : Int) == -1) = true := rfl
        simp only [if_neg hl, List.length_cons, h1, if_true]
        rw [if_neg (by omega)]
def oSuf : Orc := oPure 171 (fun args => match args with
    | [.str s, .str [10]] => if s.length < maxS then some s else none
    | _ => none) fun s => .bool (hasNl s)
theorem oSuf_sound : Sound Tryz.prog envT oSuf := oPure_sound fun args x H h => by
  split at h
  · split at h
    · rename_i s hs
      injection h with h
      subst h
      rw [maxS_eq] at hs
      exact evFunc_ok oIdx_sound methT mixed (suffix_ev oIdx s 0 H (by omega))
    · cases h
  · cases h
def cutAV (s : List UInt8) : AV := .tup [.str (cutNl s), .bool (hasNl s)]
def oCutI : Orc := oPure 129 (fun args => match args with
    | [.str s, .str [10]] => if s.length < maxS then some s else none
    | _ => none) cutAV
theorem oCutI_sound : Sound Tryz.prog envT oCutI := oPure_sound fun args x H h => by
  split at h
  · split at h
    · rename_i s hs
      injection h with h
      subst h
      have hs' := hs
      rw [maxS_eq] at hs'
      exact evFunc_ok oSuf_sound methT mixed (cut46_ev oSuf s 0 H (by omega) (by simp [oSuf, oPure, hs]))
    · cases h
  · cases h
def oCut : Orc := oPure 85 (fun args => match args with
    | [.str s, .str [10]] => if s.length < maxS then some s else none
    | _ => none) cutAV
theorem oCut_sound : Sound Tryz.prog envT oCut := oPure_sound fun args x H h => by
  split at h
  · split at h
    · rename_i s hs
      injection h with h
      subst h
      exact evFunc_ok oCutI_sound methT mixed (cut32_ev oCutI s 0 H (by simp [oCutI, oPure, hs, cutAV]))
    · cases h
  · cases h
def oIxB : Orc := oPure 86 (fun args => match args with
    | [.str s, .int .u8 33] => some s
    | _ => none) fun s => .int .i64 (Lib.indexByte s 33)
theorem oIxB_sound : Sound Tryz.prog envT oIxB := oPure_sound fun args x H h => by
  split at h
  · rename_i s
    injection h with h
    subst h
    exact evFunc_ok oIdx_sound methT mixed (idx33_ev oIdx s 33 _ 0 H (by simp [oIdx]))
  · cases h
def oPp : Orc := oTab [(85, oCut), (86, oIxB)]
theorem oPp_sound : Sound Tryz.prog envT oPp := oTab_sound fun p hp => by
  simp only [List.mem_cons, List.not_mem_nil, or_false] at hp
  rcases hp with rfl | rfl
  · exact oCut_sound
  · exact oIxB_sound
theorem part_cs (s : List UInt8) (hs : s.length < maxS) (H : AH) : CS Tryz.prog envT 50 [.str s] H (partsAV s) H := by
  have h32 : oPp 85 [.str s, .str [10]] H = some (.tup [.str (cutNl s), .bool (hasNl s)], H) := by simp [oPp, oTab, oCut, oPure, hs, cutAV]
  have h33 : oPp 86 [.str (cutNl s), .int .u8 33] H = some (.int .i64 (Lib.indexByte (cutNl s) 33), H) := by simp [oPp, oTab, oIxB, oPure]
  have hle := frontLen_le notBang (cutNl s)
  rw [indexByte_note] at h33
  by_cases h : noteLen (cutNl s) < (cutNl s).length
  · rw [if_pos h] at h33
    exact evFunc_ok oPp_sound methT mixed (part_note oPp s _ 0 H h32 h33 (by omega))
  · rw [if_neg h] at h33
    have heq : noteLen (cutNl s) = (cutNl s).length := by unfold noteLen at h ⊢; omega
    have := evFunc_ok oPp_sound methT mixed (part_plain oPp s _ 0 H h32 h33 (by omega))
    simpa [partsAV, bodyOfLine, heq] using this
theorem cutNl_len (s : List UInt8) : (cutNl s).length ≤ s.length := by
  unfold cutNl
  split
  · rw [List.length_take]; omega
  · exact Nat.le_refl _
end Go.Proofs.YtejjlojfgcgopaaGreatDoor

namespace Go.Proofs.YtejjlojfgcgopaaGreatDoor
open Go.RowKit Go.Proofs.Fw
set_option maxRecDepth 100000
set_option maxHeartbeats 4000000
noncomputable def fPkey (ts : List Wd) (hts : ts.length < 1000000) : Fact Tryz.prog envF := Fact.meth 89 (Sr.pc ts) (spc_inj ts) (fun (_ : List UInt8) r => r.at_ ≤ ts.length) (fun _ w => [.str w]) (fun w r => .agg (keyW ts w r).1.x.c) (fun w r => (keyW ts w r).2)
  (fun w r h H id hH => spkey_cs ts hts w r h hH) (fun id x y r _ _ h => by
    simp only [List.cons.injEq, AV.str.injEq, and_true] at h
    rw [h]
    exact ⟨rfl, rfl⟩)
structure KsO (O : Orc) (ts : List Wd) : Prop where
  fail : ∀ (r : Sr) (p c : Nat) (H : AH), O 54 [.ptr 0 0, .int .i64 (p : Int), .int .i64 (c : Int)] (pbx ts r :: H) = some (.tup [], pbx ts (r.fail p c) :: H)
  must : ∀ (r : Sr) (k : Nat) (s : List UInt8) (H : AH), O 91 [.ptr 0 0, .int .i64 (k : Int), .str s] (pbx ts r :: H) = some (.agg (wdCells (mustW ts r k s).1), pbx ts (mustW ts r k s).2 :: H)
  expr : ∀ (r : Sr) (H : AH), r.at_ ≤ ts.length → O 92 [.ptr 0 0] (pbx ts r :: H) = some (.agg (tC (exprW ts r).1.tn), pbx ts (exprW ts r).2 :: H)
  to : ∀ (r : Sr) (H : AH), r.at_ ≤ ts.length → O 90 [.ptr 0 0] (pbx ts r :: H) = some (.agg (tC (toW ts r).1.tn), pbx ts (toW ts r).2 :: H)
  key : ∀ (w : List UInt8) (r : Sr) (H : AH), r.at_ ≤ ts.length → O 89 [.ptr 0 0, .str w] (pbx ts r :: H) = some (.agg (keyW ts w r).1.x.c, pbx ts (keyW ts w r).2 :: H)
noncomputable def Lks (ts : List Wd) (hts : ts.length < 1000000) : List (Fact Tryz.prog envF) := [fPfail ts, fPmust ts hts, fPexpr ts hts, fPto ts hts, fPkey ts hts]
theorem oKs_ok (ts : List Wd) (hts : ts.length < 1000000) : KsO (oOf (Lks ts hts)) ts := by
  have hL : ((Lks ts hts).map (·.f)).Nodup := show ([54, 91, 92, 90, 89] : List Nat).Nodup by decide
  exact ⟨fun r p c H => pfail_s hL (show fPfail ts ∈ Lks ts hts by simp [Lks]) r p c H, fun r k s H => pmust_s hts hL (show fPmust ts hts ∈ Lks ts hts by simp [Lks]) r k s H,
    fun r H h => oOf_meth hL (show fPexpr ts hts ∈ Lks ts hts by simp [Lks]) () r (H := pbx ts r :: H) (id := 0) rfl h, fun r H h => oOf_meth hL (show fPto ts hts ∈ Lks ts hts by simp [Lks]) () r (H := pbx ts r :: H) (id := 0) rfl h,
    fun w r H h => oOf_meth hL (show fPkey ts hts ∈ Lks ts hts by simp [Lks]) w r (H := pbx ts r :: H) (id := 0) rfl h⟩
theorem oKs_cx (ts : List Wd) (hts : ts.length < 1000000) : Cx (oOf (Lks ts hts)) Tryz.prog envF := oOf_cx _ methFOk mixed
theorem buSpTo0 (t : Tn) : abuild Tryz.prog 31 [(0, .int .i64 2), (2, .agg (tC t))] = some (.agg (Sx.c ⟨2, [], t, t0, [], t0, t0, [], t0, t0, 0⟩)) := by
  cases t <;> kernel_rfl
@[simp] theorem buSpTo (t : Tn) : abuild Tryz.prog 31 [(0, .int .i64 2), (2, .agg [.int .i64 t.k, .int .i64 t.n, .str t.s, t.ar])] = some (.agg (Sx.c ⟨2, [], t, t0, [], t0, t0, [], t0, t0, 0⟩)) := by rw [← tC_eq]; exact buSpTo0 t
@[simp high] theorem aidxX0 {l : List Wd} (h : 0 < l.length) : aindexAddr Tryz.prog 125 (wdsAV l) (.int .i64 0) = some (.vptr (wdsCells l) 0) := by simpa using aidxX (l := l) (i := 0) h
theorem spstmt_cs (ts : List Wd) (hts : ts.length < 1000000) (h0 : 0 < ts.length) {H : AH} {id : Nat} (hH : H.at id = some (.box ((⟨0, none⟩ : Sr).pc ts))) :
    CS Tryz.prog envF 53 [.ptr id 0] H (.agg (stmtW ts).1.x.c) (H.set id (some (.box ((stmtW ts).2.pc ts)))) := by
  refine CS.rd lowF Tryz.func53 (by kernel_rfl) 0 (by simp [Tryz.f53]) (fun B hB hG => ?_) (by simp) (by simp [Sx.c_low]) (spc_low _ _) (spc_low _ _) hH
  have X := oKs_cx ts hts
  have hO := oKs_ok ts hts
  generalize oOf (Lks ts hts) = O at X hO
  refine Tr.goD X hG (by kernel_rfl) ?_
  obtain ⟨w, hw⟩ : ∃ w, ts[0]? = some w := ⟨_, List.getElem?_eq_getElem h0⟩
  obtain ⟨d1, d2⟩ := cells_atX _ _ _ hw
  simp only [Nat.zero_mul, List.drop_zero, Nat.zero_add] at d1 d2
  have hx : stmtW ts = if w.kind = 4 then keyW ts w.text ⟨1, none⟩ else if w.kind = 1 then setW ts ⟨0, none⟩ else ({}, ⟨0, some ([(stmtTxt, 0)], 2)⟩) := by simp only [stmtW, hw]
  rw [hx]
  by_cases h4 : w.kind = 4
  · rw [if_pos h4]
    have f1 := fun H => hO.key w.text ⟨1, none⟩ H h0
    generalize keyW ts w.text ⟨1, none⟩ = m at *
    obtain ⟨m, r⟩ := m
    obtain ⟨M, hM⟩ : ∃ M, M = m.x := ⟨_, rfl⟩
    simp only [← hM, pbx] at f1 ⊢
    simp [Sx.c] at f1
    have w1 : IntKind.i64.wrap 1 = 1 := by decide
    simp [Tryz.f53, Sr.pc, h0, d1, d2, wdCells, h4, w1, f1, Sx.c]
  · rw [if_neg h4]
    have h4' : ((w.kind : Int) == 4) = false := by rw [beq_eq_false_iff_ne]; omega
    have h4i : ¬ (w.kind : Int) = 4 := by omega
    by_cases h1 : w.kind = 1
    · rw [if_pos h1]
      have f1 := fun H => hO.to ⟨0, none⟩ H (Nat.zero_le _)
      have u1 := (toW_up ts ⟨0, none⟩).2 (Nat.zero_le _)
      unfold setW
      generalize toW ts ⟨0, none⟩ = a at *
      obtain ⟨to, r1⟩ := a
      simp only at f1 u1 ⊢
      have f2 := fun H => hO.must r1 3 isT H
      have u2 := (mustW_up ts r1 3 isT).2 u1
      generalize mustW ts r1 3 isT = b at *
      obtain ⟨w2, r2⟩ := b
      simp only at f2 u2 ⊢
      have f3 := fun H => hO.expr r2 H u2
      generalize exprW ts r2 = c at *
      simp only [pbx, isT, tC_eq, wdCells] at f1 f2 f3
      simp at f1 f2
      simp [Tryz.f53, Sr.pc, h0, d1, d2, wdCells, h1, f1, f2, f3, Sx.c, Sm.x, exnone_tn]
    · rw [if_neg h1]
      have h1' : ((w.kind : Int) == 1) = false := by rw [beq_eq_false_iff_ne]; omega
      have h1i : ¬ (w.kind : Int) = 1 := by omega
      have f1 := fun H => hO.fail ⟨0, none⟩ 0 2 H
      have hf : (⟨0, none⟩ : Sr).fail 0 2 = ⟨0, some ([(stmtTxt, 0)], 2)⟩ := rfl
      rw [hf] at f1
      simp [pbx] at f1
      simp [Tryz.f53, Sr.pc, h0, d1, d2, wdCells, h1, h4, h1', h4', h1i, h4i, f1, Sx.c, Sm.x, exnone_tn]
noncomputable def fPart : Fact Tryz.prog envF := Fact.pure 50 (fun s : List UInt8 => s.length < maxS) (fun s => [.str s]) partsAV (fun s h H => CS.toF (CS.toX (CS.toN (part_cs s h H)))) (fun x y _ _ h => by
  simp only [List.cons.injEq, AV.str.injEq, and_true] at h
  rw [h])
noncomputable def fLine : Fact Tryz.prog envF := Fact.pure 51 (fun s : List UInt8 => s.length < maxS) (fun s => [.str s]) (fun s => lineAV (lex (s.length + 1) s 0 false)) (fun s h H => CS.toF (CS.toX (CS.toN (line_cs s h H)))) (fun x y _ _ h => by
  simp only [List.cons.injEq, AV.str.injEq, and_true] at h
  rw [h])
noncomputable def fPstmt (ts : List Wd) (hts : ts.length < 1000000) : Fact Tryz.prog envF := Fact.meth 53 (Sr.pc ts) (spc_inj ts) (fun (_ : Unit) r => r = ⟨0, none⟩ ∧ 0 < ts.length) (fun _ _ => []) (fun _ _ => .agg (stmtW ts).1.x.c) (fun _ _ => (stmtW ts).2)
  (fun _ r h H id hH => by obtain ⟨rfl, h0⟩ := h; exact spstmt_cs ts hts h0 hH) (fun id x y r _ _ h => ⟨rfl, rfl⟩)
def pstmtAV (x : Sm × Er) : AV := .tup [.agg x.1.x.c, erI x.2]
@[simp] theorem buSrd (ts : List Wd) : abuild Tryz.prog 131 [(0, wdsAV ts)] = some (.agg [wdsAV ts, .int .i64 0, .nilIface]) := by
  unfold wdsAV
  split <;> kernel_rfl
theorem body_len (s : List UInt8) : (bodyOfLine s).length ≤ s.length := by
  have h1 := cutNl_len s
  unfold bodyOfLine
  rw [List.length_take]
  omega
theorem pstmt_cs (s : List UInt8) (hs : s.length < 1000000) (H : AH) : CS Tryz.prog envF 16 [.str s] H (pstmtAV (parseS (bodyOfLine s))) H := by
  have hb : (bodyOfLine s).length < 1000000 := by have := body_len s; omega
  have hsm : s.length < maxS := by rw [maxS_eq]; omega
  have hbm : (bodyOfLine s).length < maxS := by rw [maxS_eq]; omega
  unfold parseS
  generalize hlx : lex ((bodyOfLine s).length + 1) (bodyOfLine s) 0 false = lx
  cases lx with
  | error x =>
    obtain ⟨p, e⟩ := x
    have hL : ([fPart, fLine, fSfault].map (·.f)).Nodup := show ([50, 51, 52] : List Nat).Nodup by decide
    have X := oOf_cx [fPart, fLine, fSfault] methFOk mixed
    have f1 := fun H => oOf_pure hL (show fPart ∈ [fPart, fLine, fSfault] by simp) s hsm H
    have f2 := fun H => oOf_pure hL (show fLine ∈ [fPart, fLine, fSfault] by simp) (bodyOfLine s) hbm H
    have f3 := fun H => oOf_pure hL (show fSfault ∈ [fPart, fLine, fSfault] by simp) (0, [(wordTxt, (p : Int))], (e : Int)) trivial H
    generalize oOf [fPart, fLine, fSfault] = O at X f1 f2 f3
    rw [hlx] at f2
    simp [lineAV, faultAV, wordTxt] at f2
    simp [partsAV] at f1
    simp [errAV, stmtTxt, wordTxt] at f3
    refine CS.tr0 lowF Tryz.func16 (by kernel_rfl) 0 (by simp [Tryz.f16]) (fun B hB hG => ?_) (by simp [pstmtAV, Sx.c_low]) (by simp) H
    refine Tr.goD X hG (by kernel_rfl) ?_
    simp [Tryz.f16, f1, f2, f3, Sx.c, pstmtAV, Sm.x, exnone_tn, erI, errAV, castP, stmtTxt, wordTx]
  | ok ts =>
    have hts := lex_count hb hlx
    have hL : ([fPart, fLine, fPstmt ts hts, fPfail ts].map (·.f)).Nodup := show ([50, 51, 53, 54] : List Nat).Nodup by decide
    have X := oOf_cx [fPart, fLine, fPstmt ts hts, fPfail ts] methFOk mixed
    have f1 := fun H => oOf_pure hL (show fPart ∈ [fPart, fLine, fPstmt ts hts, fPfail ts] by simp) s hsm H
    have f2 := fun H => oOf_pure hL (show fLine ∈ [fPart, fLine, fPstmt ts hts, fPfail ts] by simp) (bodyOfLine s) hbm H
    have f3 := fun (h : 0 < ts.length) e0 H => oOf_meth hL (show fPstmt ts hts ∈ [fPart, fLine, fPstmt ts hts, fPfail ts] by simp) () ⟨0, none⟩ (H := e0 :: pbx ts ⟨0, none⟩ :: H) (id := 1) rfl ⟨rfl, h⟩
    have f4 := fun (r : Sr) e0 H => oOf_meth hL (show fPfail ts ∈ [fPart, fLine, fPstmt ts hts, fPfail ts] by simp) (r.at_, 2) r (H := e0 :: pbx ts r :: H) (id := 1) rfl trivial
    generalize oOf [fPart, fLine, fPstmt ts hts, fPfail ts] = O at X f1 f2 f3 f4
    rw [hlx] at f2
    simp [lineAV] at f2
    simp [partsAV] at f1
    refine CS.tr0 lowF Tryz.func16 (by kernel_rfl) 0 (by simp [Tryz.f16]) (fun B hB hG => ?_) (by simp [pstmtAV, Sx.c_low]) (by simp) H
    refine Tr.goD X hG (by kernel_rfl) ?_
    by_cases hne : ts = []
    · have hp0 : parseW ts = ({}, none) := if_pos hne
      simp only
      rw [hp0]
      simp [Tryz.f16, f1, f2, hne, Sx.c, pstmtAV, Sm.x, exnone_tn]
    · have hpos : 0 < ts.length := List.length_pos_iff.2 hne
      have f3 := f3 hpos
      have hp1 : parseW ts = match (if (stmtW ts).2.at_ < ts.length then (stmtW ts).2.fail (stmtW ts).2.at_ 2 else (stmtW ts).2).err with
        | some x => ({}, some x)
        | none => ((stmtW ts).1, none) := by unfold parseW; rw [if_neg hne]; rfl
      simp only
      rw [hp1]
      clear hp1
      generalize stmtW ts = m at *
      obtain ⟨m, r⟩ := m
      have f4 := f4 r
      obtain ⟨M, hM⟩ : ∃ M, M = m.x := ⟨_, rfl⟩
      have hl0 : ¬ (ts.length : Int) = 0 := by omega
      have hl1 : ((ts.length : Int) == 0) = false := by rw [beq_eq_false_iff_ne]; exact hl0
      simp only [← hM, pbx, Sr.pc] at f3 f4
      simp [Sx.c] at f3
      simp at f4
      by_cases hl : r.at_ < ts.length
      · have hl' : (r.at_ : Int) < ts.length := by omega
        simp only [hl, if_true]
        obtain ⟨y, hy⟩ : ∃ y, (r.fail r.at_ 2).err = some y := ⟨_, rfl⟩
        rw [hy] at f4 ⊢
        simp [Tryz.f16, f1, f2, hne, hl0, hl1, f3, f4, hl, hl', Sx.c]
        refine LpD.turns X hG [5] [(1, 5), (2, 5), (3, 5), (4, 5)] (by kernel_rfl) ?_
        simp [pstmtAV, Sx.c, Sm.x, exnone_tn]
      · have hl' : ¬ (r.at_ : Int) < ts.length := by omega
        simp only [hl, if_false]
        cases he : r.err with
        | none =>
          rw [he] at f3
          try simp at f3
          simp [Tryz.f16, f1, f2, hne, hl0, hl1, f3, hl, hl', Sx.c, pstmtAV, ← hM]
        | some y =>
          rw [he] at f3
          try simp at f3
          simp [Tryz.f16, f1, f2, hne, hl0, hl1, f3, hl, hl', Sx.c]
          refine LpD.turns X hG [5] [(1, 5), (2, 5), (3, 5), (4, 5)] (by kernel_rfl) ?_
          simp [pstmtAV, Sx.c, Sm.x, exnone_tn]
end Go.Proofs.YtejjlojfgcgopaaGreatDoor

namespace Go.Proofs.YtejjlojfgcgopaaGreatDoor
open Go.RowKit Go.Proofs.Fw
set_option maxRecDepth 100000
set_option maxHeartbeats 4000000
def lineTxt' : List UInt8 := [108, 105, 110, 101]
def Bd.fin (s : Bd) (kind at_ : Int) : Bd × Nat := match s.fs with
  | [] => (s, 12)
  | f :: r => if f.st.kind = kind then (Bd.put ⟨s.l, r, s.o⟩ { f with end_ := at_ }.nd, 0) else (s, 12)
def Bd.mark (s : Bd) (x : Sx) : Bd := if x.kind = 1 then s else { s with o := true }
def Nd.lf (a : Int) (x : Sx) : Nd := .mk a a x [] [] (-1)
def Bd.add (s0 : Bd) (x : Sx) (a : Int) : Bd × Nat :=
  let s := s0.mark x
  if x.kind = 4 then s.fin 3 a
  else if x.kind = 7 then s.fin 5 a
  else if x.kind = 6 then (match s.fs with
    | [] => (s, 12)
    | f :: r => if f.st.kind = 5 ∧ f.mid < 0 then ({ s with fs := { f with mid := a } :: r }, 0) else (s, 12))
  else if x.kind = 3 ∨ x.kind = 5 then (if s.fs.length = 8 then (s, 4) else ({ s with fs := ⟨a, a, x, [], [], -1⟩ :: s.fs }, 0))
  else if x.kind = 1 then (if s.o = true ∨ s.fs ≠ [] then (s, 2) else (s.put (.lf a x), 0))
  else (s.put (.lf a x), 0)
def bd0 : Bd := ⟨[], [], false⟩
def ofL : List (List UInt8) → Nat → Bd → List Nd × Er
  | [], _, s => (match s.fs with
    | [] => (s.l, none)
    | f :: _ => ([], some ([(lineTxt', f.line.toNat)], 11)))
  | b :: ls, a, s => (match parseS (bodyOfLine b) with
    | (_, some y) => ([], some ((lineTxt', a) :: y.1, y.2))
    | (m, none) => if m.kind = 0 then ofL ls (a + 1) s else
      if (s.add m.x a).2 = 0 then ofL ls (a + 1) (s.add m.x a).1 else ([], some ([(lineTxt', a)], (s.add m.x a).2)))
def ofW (ls : List (List UInt8)) : List Nd × Er := ofL ls 0 bd0
theorem Bd.mark_ok {m : Nat} {s : Bd} (h : s.ok m) (x : Sx) : (s.mark x).ok m := by
  unfold Bd.mark
  split
  · exact h
  · exact ⟨h.1, h.2⟩
theorem Bd.fin_ok {m : Nat} {s : Bd} (h : s.ok m) (k a : Int) : (s.fin k a).1.ok (m + 1) := by
  obtain ⟨l, fs, o⟩ := s
  unfold Bd.fin
  cases fs with
  | nil => exact Bd.ok_mono (Nat.le_succ m) h
  | cons f r =>
    simp only
    split
    · exact Bd.put_ok (s := ⟨l, r, o⟩) ⟨h.1, fun g hg => h.2 g (List.mem_cons_of_mem _ hg)⟩ _
    · exact Bd.ok_mono (Nat.le_succ m) h
theorem Bd.add_ok {m : Nat} {s : Bd} (h : s.ok m) (x : Sx) (a : Int) : (s.add x a).1.ok (m + 1) := by
  unfold Bd.add
  have h1 := Bd.mark_ok h x
  generalize s.mark x = s at *
  have h2 := Bd.ok_mono (Nat.le_succ m) h1
  simp only
  split
  · exact Bd.fin_ok h1 3 a
  split
  · exact Bd.fin_ok h1 5 a
  split
  · obtain ⟨l, fs, o⟩ := s
    cases fs with
    | nil => exact h2
    | cons f r =>
      simp only
      split
      · refine ⟨h2.1, fun g hg => ?_⟩
        rcases List.mem_cons.1 hg with rfl | hg
        · exact h2.2 f List.mem_cons_self
        · exact h2.2 g (List.mem_cons_of_mem _ hg)
      · exact h2
  split
  · split
    · exact h2
    · refine ⟨h2.1, fun g hg => ?_⟩
      rcases List.mem_cons.1 hg with rfl | hg
      · exact ⟨Nat.zero_le _, Nat.zero_le _⟩
      · exact h2.2 g hg
  split
  · split
    · exact h2
    · exact Bd.put_ok h1 _
  · exact Bd.put_ok h1 _
theorem Bd.put_len (s : Bd) (n : Nd) : (s.put n).fs.length = s.fs.length := by
  obtain ⟨l, fs, o⟩ := s
  cases fs <;> rfl
theorem Bd.fin_len (s : Bd) (k a : Int) : (s.fin k a).1.fs.length ≤ s.fs.length := by
  obtain ⟨l, fs, o⟩ := s
  unfold Bd.fin
  cases fs with
  | nil => exact Nat.le_refl _
  | cons f r =>
    simp only
    split
    · rw [Bd.put_len]; exact Nat.le_succ _
    · exact Nat.le_refl _
theorem Bd.mark_fs (s : Bd) (x : Sx) : (s.mark x).fs = s.fs := by unfold Bd.mark; split <;> rfl
theorem Bd.add_len {s : Bd} (h : s.fs.length ≤ 8) (x : Sx) (a : Int) : (s.add x a).1.fs.length ≤ 8 := by
  unfold Bd.add
  have h1 : (s.mark x).fs.length ≤ 8 := by rw [Bd.mark_fs]; exact h
  generalize s.mark x = s at *
  simp only
  split
  · exact Nat.le_trans (Bd.fin_len s 3 a) h1
  split
  · exact Nat.le_trans (Bd.fin_len s 5 a) h1
  split
  · obtain ⟨l, fs, o⟩ := s
    cases fs with
    | nil => exact h1
    | cons f r =>
      simp only
      split <;> exact h1
  split
  · split
    · exact h1
    · simp only [List.length_cons]; omega
  split
  · split
    · exact h1
    · rw [Bd.put_len]; exact h1
  · rw [Bd.put_len]; exact h1
def Bd.lin (s : Bd) : Prop := ∀ f ∈ s.fs, 0 ≤ f.line
theorem Bd.put_lin {s : Bd} (h : s.lin) (n : Nd) : (s.put n).lin := by
  obtain ⟨l, fs, o⟩ := s
  cases fs with
  | nil => exact h
  | cons f r =>
    intro g hg
    rcases List.mem_cons.1 hg with rfl | hg
    · have := h f List.mem_cons_self
      unfold Fr.put
      split <;> exact this
    · exact h g (List.mem_cons_of_mem _ hg)
theorem Bd.fin_lin {s : Bd} (h : s.lin) (k a : Int) : (s.fin k a).1.lin := by
  obtain ⟨l, fs, o⟩ := s
  unfold Bd.fin
  cases fs with
  | nil => exact h
  | cons f r =>
    simp only
    split
    · exact Bd.put_lin (s := ⟨l, r, o⟩) (fun g hg => h g (List.mem_cons_of_mem _ hg)) _
    · exact h
theorem Bd.add_lin {s : Bd} (h : s.lin) (x : Sx) {a : Int} (ha : 0 ≤ a) : (s.add x a).1.lin := by
  unfold Bd.add
  have h1 : (s.mark x).lin := by unfold Bd.lin; rw [Bd.mark_fs]; exact h
  generalize s.mark x = s at *
  simp only
  split
  · exact Bd.fin_lin h1 3 a
  split
  · exact Bd.fin_lin h1 5 a
  split
  · obtain ⟨l, fs, o⟩ := s
    cases fs with
    | nil => exact h1
    | cons f r =>
      simp only
      split
      · intro g hg
        rcases List.mem_cons.1 hg with rfl | hg
        · exact h1 f List.mem_cons_self
        · exact h1 g (List.mem_cons_of_mem _ hg)
      · exact h1
  split
  · split
    · exact h1
    · intro g hg
      rcases List.mem_cons.1 hg with rfl | hg
      · exact ha
      · exact h1 g hg
  split
  · split
    · exact h1
    · exact Bd.put_lin h1 _
  · exact Bd.put_lin h1 _
end Go.Proofs.YtejjlojfgcgopaaGreatDoor
