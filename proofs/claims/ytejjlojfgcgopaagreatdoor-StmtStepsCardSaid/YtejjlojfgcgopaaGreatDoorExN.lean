/- The reference's reader of expressions: subs, factor. The reference's reader of expressions: factor, and so all parts; ParseExpr. The reference's reader of expressions, all parts; ParseExpr. -/
import Derived.Test.YtejjlojfgcgopaaGreatDoorExK
set_option linter.unusedSimpArgs false
set_option linter.unusedVariables false
namespace Go.Proofs.YtejjlojfgcgopaaGreatDoor
open Go.RowKit Go.Proofs.Fw
set_option maxRecDepth 100000
set_option maxHeartbeats 4000000

theorem CS.weak {P : Program} {E : Env} {f : FuncId} {args : List AV} {H H' : AH} {v v' : AV} (h : CS P E f args H v H') (hw : ∀ g cv, RepV g v cv → RepV g v' cv) : CS P E f args H v' H' := fun g w cargs R hG hA => by
  refine Calls.mono (h g w cargs R hG hA) ?_
  rintro e w' ⟨g', cv, rfl, R', p, hr⟩
  exact ⟨g', cv, rfl, R', p, hw _ _ hr⟩
theorem rep_unk {ow : Own} {sz n : Nat} {cs : List AV} (g : Gh) (cv : Value) (h : RepV g (.slice ow sz n cs) cv) : RepV g (.slice .unk sz n cs) cv := by
  simp only [RepV] at h ⊢
  obtain ⟨b, o, cap, vs, hv, h1, h2, h3, h4, h5⟩ := h
  exact ⟨b, o, cap, vs, hv, h1, h2, h3, h4, trivial⟩

theorem elemY : elemChk Tryz.prog 40 4 = true := by kernel_rfl
def outX (a : List Ex) : AV := if a.length = 1 then .slice .full 4 1 (exsC a) else .slice (.tok 1) 4 a.length (exsC a)
def outXH (ts : List Wd) (a : List Ex) (r : St) : AH := some (.box (rrC ts r.at_ r.err)) :: (if a.length = 1 then [] else [some (.tok a.length)])
def outXV (a : List Ex) : AV := if a.length = 1 then .slice .full 4 1 (exsC a) else .slice .unk 4 a.length (exsC a)
def SubsI (ts : List Wd) (sum : Rd) (dd n : Nat) (res : List Ex × St) (k : Nat) (t : List AV) (H : AH) : Prop :=
  ∃ (a : List Ex) (r : St), rsubL ts sum k a r = res ∧ k + a.length = 6 ∧ 1 ≤ a.length ∧ a.length ≤ 4 ∧ ts.length - r.at_ < n ∧ r.deep = dd ∧ errOk r.err ∧ t = mkT 45 [(0, .ptr 0 0), (1, .int .i64 (dd : Int)), (5, outX a)] ∧ H = outXH ts a r

structure SubsO (O : Orc) (ts : List Wd) (sum : Rd) (n : Nat) : Prop extends TookO O ts where
  sign : ∀ (a : Int) (x : Option (Nat × Nat)) (s : List UInt8) (H : AH), 0 ≤ a → errOk x → O 196 [.ptr 0 0, .str s] (some (.box [wdsAV ts, .int .i64 a, pAV x, .int .i64 (cI x)]) :: H) =
    some (.bool (nextB ts ⟨a.toNat, 0, x⟩ s), some (.box [wdsAV ts, .int .i64 a, pAV x, .int .i64 (cI x)]) :: H)
  fail : ∀ (a : Int) (x : Option (Nat × Nat)) (p e : Int) (H : AH), 0 ≤ a → errOk x → 0 ≤ p → 0 ≤ e → O 195 [.ptr 0 0, .int .i64 p, .int .i64 e] (some (.box [wdsAV ts, .int .i64 a, pAV x, .int .i64 (cI x)]) :: H) =
    some (.tup [], some (.box [wdsAV ts, .int .i64 a, pAV (some (x.getD (p.toNat, e.toNat))), .int .i64 (cI (some (x.getD (p.toNat, e.toNat))))]) :: H)
  sum : RAns O ts 193 sum n

theorem errOk_some {p e : Nat} (h : e ≠ 0) : errOk (some (p, e)) := fun q hq => by
  simp only [Option.some.injEq, Prod.mk.injEq] at hq
  exact h hq.2

theorem subs_cs0 (ts : List Wd) (hts : ts.length < 1000000) {O : Orc} (X : Cx O Tryz.prog envX) {sum : Rd} {n : Nat} (hO : SubsO O ts sum n) (hu : upw sum) (hd : ∀ r, (sum r).2.deep = r.deep) (hok : okE sum)
    (a dd : Nat) (x : Option (Nat × Nat)) (hx : errOk x) (hr : dd ≤ 20) (hn : ts.length - a < n) {H : AH} {id : Nat} (hH : H.at id = some (.box (rrC ts a x))) :
    CS Tryz.prog envX 168 [.ptr id 0, .int .i64 (dd : Int)] H (outXV (rsubs ts sum ⟨a, dd, x⟩).1) (H.set id (some (.box (rrC ts (rsubs ts sum ⟨a, dd, x⟩).2.at_ (rsubs ts sum ⟨a, dd, x⟩).2.err)))) := by
  refine CS.rd lowX Tryz.func168 (by kernel_rfl) 0 (by simp [Tryz.f168]) (fun B hB hG => ?_) (by simp) (by unfold outXV; split <;> simp) (rrC_low _ _ _) (rrC_low _ _ _) hH
  have hdr : (dd : Int) ≤ 20 := by omega
  have h1 := fun H => hO.sum a dd x H (by omega) (by omega) hdr hx (by simpa using hn)
  simp only [Int.toNat_natCast] at h1
  have hu1 := hu ⟨a, dd, x⟩
  have hd1 := hd ⟨a, dd, x⟩
  have hk1 := hok ⟨a, dd, x⟩ hx
  simp only [rsubs]
  generalize hof : sum ⟨a, dd, x⟩ = p at *
  obtain ⟨e, q⟩ := p
  simp only at h1 hu1 hd1 hk1
  refine Tr.goD X hG (by kernel_rfl) ?_
  simp at h1
  simp [Tryz.f168, h1]
  generalize hres0 : rsubL ts sum 5 [e] q = res
  refine LpD.loopN X hG (by kernel_rfl) (SubsI ts sum dd n res) 5 (t' := mkT 45 [(0, .ptr 0 0), (1, .int .i64 (dd : Int)), (5, outX [e])]) (H' := outXH ts [e] q)
    (Less.mkK 1 (by simp [hB]) (by simp [outX, exsC]) (by simp [outXH]) (by simp [outXH])) ⟨[e], q, hres0, rfl, by simp, by simp, by omega, hd1, hk1, rfl, rfl⟩ ?_
  rintro k t H ⟨a', r', hres, hka, h1l, hle, hm, hdp, hrx, rfl, rfl⟩
  obtain ⟨b, d, y⟩ := r'
  simp only at hm hdp hrx
  subst hdp
  cases k with
  | zero => omega
  | succ k =>
  have hsg := fun H => hO.sign b y commaT H (by omega) hrx
  simp [commaT] at hsg
  have hsub : rsubL ts sum (k + 1) a' ⟨b, d, y⟩ = if nextB ts ⟨b, d, y⟩ commaT then (if 4 ≤ a'.length then (a', (⟨b, d, y⟩ : St).fail b 4) else rsubL ts sum k (a' ++ [(sum (⟨b, d, y⟩ : St).step).1]) (sum (⟨b, d, y⟩ : St).step).2) else (a', mustS ts ⟨b, d, y⟩ shutT) := rfl
  rw [hsub] at hres
  have hnx : ∀ s, nextB ts ⟨b, d, y⟩ s = nextB ts ⟨b, 0, y⟩ s := fun s => rfl
  simp only [hnx] at hres
  cases hc : nextB ts ⟨b, 0, y⟩ commaT with
  | false =>
    have hc' := hc
    simp [commaT] at hc'
    rw [hc] at hres
    simp only [Bool.false_eq_true, if_false] at hres
    cases hs : nextB ts ⟨b, 0, y⟩ shutT with
    | true =>
      have ht := fun H => hO.tookT b y shutT H (by omega) hrx (by simpa using hs)
      simp [shutT] at ht
      simp only [mustS, hnx, hs, if_true, St.step] at hres
      subst hres
      by_cases ha : a'.length = 1
      · simp [outX, outXH, outXV, ha, hsg, hc', Blk_exit, ht]
      · simp [outX, outXH, outXV, ha, hsg, hc', Blk_exit, ht, exsC_low]
    | false =>
      have ht := fun H => hO.tookF b y shutT H (by omega) hrx (by simpa using hs)
      have hfl := fun H => hO.fail b y b 2 H (by omega) hrx (by omega) (by omega)
      simp [shutT] at ht
      simp at hfl
      simp only [mustS, hnx, hs, Bool.false_eq_true, if_false, fail_eq] at hres
      subst hres
      by_cases ha : a'.length = 1
      · simp [outX, outXH, outXV, ha, hsg, hc', Blk_exit, ht, hfl]
      · simp [outX, outXH, outXV, ha, hsg, hc', Blk_exit, ht, hfl, exsC_low]
  | true =>
    have hl : b < ts.length := nextB_lt hc
    have hc' := hc
    simp [commaT] at hc'
    rw [hc] at hres
    simp only [if_true] at hres
    have w1 : IntKind.i64.wrap ((b : Int) + 1) = (b : Int) + 1 := wrap_i64 (by omega) (by omega)
    by_cases h4 : 4 ≤ a'.length
    · have h4' : (4 : Int) ≤ a'.length := by omega
      have ha : ¬ a'.length = 1 := by omega
      have hfl := fun H => hO.fail b y b 4 H (by omega) hrx (by omega) (by omega)
      simp at hfl
      rw [if_pos h4] at hres
      simp only [fail_eq] at hres
      subst hres
      simp [outX, outXH, outXV, ha, hsg, hc', h4', hfl, exsC_low]
    · have h4' : ¬ (4 : Int) ≤ a'.length := by omega
      rw [if_neg h4] at hres
      simp only [St.step] at hres
      have h2 := fun H => hO.sum (b + 1 : Nat) d y H (by omega) (by omega) hdr hrx (by simp only [Int.toNat_natCast]; omega)
      have hu2 := hu ⟨b + 1, d, y⟩
      have hd2 := hd ⟨b + 1, d, y⟩
      have hk2 := hok ⟨b + 1, d, y⟩ hrx
      simp only [Int.toNat_natCast] at h2
      generalize sum ⟨b + 1, d, y⟩ = p at *
      obtain ⟨e2, ⟨b2, d2, y2⟩⟩ := p
      simp only at hu2 hd2 hk2 hres
      subst hd2
      simp at h2
      by_cases ha : a'.length = 1
      · have happ := fun H => aappend_full (P := Tryz.prog) (t := 40) (sz := 4) (n := 1) (m := 1) (H := H) (fid := 1) (ow := .full) (xs := exsC a') elemY (by decide) (by decide) (exC_one e2)
        have h41 : ¬ (4 : Int) ≤ 1 := by decide
        simp [outX, outXH, ha, hsg, hc', h41, w1, h2, happ]
        refine Nxt.mk k (by omega) (Less.mkK 2 (l' := [(0, .ptr 0 0), (1, .int .i64 (d2 : Int)), (5, outX (a' ++ [e2]))]) (H' := outXH ts (a' ++ [e2]) ⟨b2, d2, y2⟩) (by simp [hB]) (by simp [outX, ha, exsC_append, exsC]) (by simp [outXH, ha]) (by simp [outXH, ha]))
          ⟨a' ++ [e2], ⟨b2, d2, y2⟩, hres, ?_, ?_, ?_, ?_, rfl, hk2, rfl, rfl⟩
        · simp only [List.length_append, List.length_cons, List.length_nil] at hka ⊢; omega
        · simp
        · simp only [List.length_append, List.length_cons, List.length_nil]; omega
        · simp only; omega
      · have happ := fun H (h : AH.at H 1 = some (.tok a'.length)) => aappend_tok (P := Tryz.prog) (t := 40) (sz := 4) (m := 1) (H := H) (fid := 2) (ow := .full) (xs := exsC a') elemY h (by decide) (by omega) (exC_one e2)
        have h0 : ¬ a' = [] := fun h => by rw [h] at h1l; simp at h1l
        simp [outX, outXH, ha, hsg, hc', h4', w1, h2, happ]
        refine Nxt.mk k (by omega) (Less.mkK 2 (l' := [(0, .ptr 0 0), (1, .int .i64 (d2 : Int)), (5, outX (a' ++ [e2]))]) (H' := outXH ts (a' ++ [e2]) ⟨b2, d2, y2⟩) (by simp [hB]) (by simp [outX, h0, exsC_append, exsC]) (by simp [outXH, h0]) (by simp [outXH, h0]))
          ⟨a' ++ [e2], ⟨b2, d2, y2⟩, hres, ?_, ?_, ?_, ?_, rfl, hk2, rfl, rfl⟩
        · simp only [List.length_append, List.length_cons, List.length_nil] at hka ⊢; omega
        · simp
        · simp only [List.length_append, List.length_cons, List.length_nil]; omega
        · simp only; omega
end Go.Proofs.YtejjlojfgcgopaaGreatDoor

namespace Go.Proofs.YtejjlojfgcgopaaGreatDoor
open Go.RowKit Go.Proofs.Fw
set_option maxRecDepth 100000
set_option maxHeartbeats 4000000

theorem cI_none : cI none = 0 := nrfl rfl
structure RFacO (O : Orc) (ts : List Wd) (n : Nat) : Prop extends TookO O ts where
  sign : ∀ (a : Int) (x : Option (Nat × Nat)) (s : List UInt8) (H : AH), 0 ≤ a → errOk x → O 196 [.ptr 0 0, .str s] (some (.box [wdsAV ts, .int .i64 a, pAV x, .int .i64 (cI x)]) :: H) =
    some (.bool (nextB ts ⟨a.toNat, 0, x⟩ s), some (.box [wdsAV ts, .int .i64 a, pAV x, .int .i64 (cI x)]) :: H)
  fail : ∀ (a : Int) (x : Option (Nat × Nat)) (p e : Int) (H : AH), 0 ≤ a → errOk x → 0 ≤ p → 0 ≤ e → O 195 [.ptr 0 0, .int .i64 p, .int .i64 e] (some (.box [wdsAV ts, .int .i64 a, pAV x, .int .i64 (cI x)]) :: H) =
    some (.tup [], some (.box [wdsAV ts, .int .i64 a, pAV (some (x.getD (p.toNat, e.toNat))), .int .i64 (cI (some (x.getD (p.toNat, e.toNat))))]) :: H)
  fac : RAns O ts 225 (rfac ts n) n
  sum : RAns O ts 193 (rsumF ts (rfac ts n)) n
  subs : ∀ (a d : Int) (x : Option (Nat × Nat)) (H : AH), 0 ≤ a → 0 ≤ d → d ≤ 20 → errOk x → ts.length - a.toNat < n → O 168 [.ptr 0 0, .int .i64 d] (some (.box [wdsAV ts, .int .i64 a, pAV x, .int .i64 (cI x)]) :: H) =
    some (.slice .unk 4 (rsubs ts (rsumF ts (rfac ts n)) ⟨a.toNat, d.toNat, x⟩).1.length (exsC (rsubs ts (rsumF ts (rfac ts n)) ⟨a.toNat, d.toNat, x⟩).1), some (.box (rrC ts (rsubs ts (rsumF ts (rfac ts n)) ⟨a.toNat, d.toNat, x⟩).2.at_ (rsubs ts (rsumF ts (rfac ts n)) ⟨a.toNat, d.toNat, x⟩).2.err)) :: H)

theorem yfactor_cs (ts : List Wd) (hts : ts.length < 1000000) {n : Nat} {O : Orc} (X : Cx O Tryz.prog envX) (hO : RFacO O ts n) (hso : okE (rsumF ts (rfac ts n))) (a dd : Nat) (x : Option (Nat × Nat)) (hx : errOk x) (hr : dd ≤ 20) (hn : ts.length - a < n + 1) {H : AH} {id : Nat} (hH : H.at id = some (.box (rrC ts a x))) :
    CS Tryz.prog envX 225 [.ptr id 0, .int .i64 (dd : Int)] H (exAV (rfac ts (n + 1) ⟨a, dd, x⟩).1) (H.set id (some (.box (rrC ts (rfac ts (n + 1) ⟨a, dd, x⟩).2.at_ (rfac ts (n + 1) ⟨a, dd, x⟩).2.err)))) := by
  refine CS.rd lowX Tryz.func225 (by kernel_rfl) 0 (by simp [Tryz.f225]) (fun B hB hG => ?_) (by simp) (by simp) (rrC_low _ _ _) (rrC_low _ _ _) hH
  have hdr : (dd : Int) ≤ 20 := by omega
  have hfac : rfac ts (n + 1) ⟨a, dd, x⟩ = rfacF ts (rsumF ts (rfac ts n)) (rfac ts n) ⟨a, dd, x⟩ := rfl
  rw [hfac]
  have hfl := fun H => hO.fail a x a 2 H (by omega) hx (by omega) (by omega)
  simp at hfl
  refine Tr.goD X hG (by kernel_rfl) ?_
  cases x with
  | some y =>
    have h1 : rfacF ts (rsumF ts (rfac ts n)) (rfac ts n) ⟨a, dd, some y⟩ = (.none, ⟨a, dd, some y⟩) := by simp [rfacF, St.fail]
    have h0 : (cI (some y) == 0) = false := by rw [beq_eq_false_iff_ne]; intro h; have := (cI_zero hx).1 h; cases this
    have h0' : ¬ cI (some y) = 0 := fun h => by have := (cI_zero hx).1 h; cases this
    have h0b : (cI (some y) != 0) = true := by simp [bne, h0]
    simp [Tryz.f225, h0, h0', h0b, h1, hfl]
  | none =>
    by_cases hl : a < ts.length
    · have hl' : (a : Int) < ts.length := by omega
      have hl2 : ¬ ((ts.length : Int) ≤ a) := by omega
      obtain ⟨w, hw⟩ : ∃ w, ts[a]? = some w := ⟨_, List.getElem?_eq_getElem hl⟩
      obtain ⟨c0, c1, c3⟩ := cellX hw
      obtain ⟨cc1, cc2⟩ := cells_atX ts a w hw
      have w1 : IntKind.i64.wrap ((a : Int) + 1) = (a : Int) + 1 := wrap_i64 (by omega) (by omega)
      have wd : IntKind.i64.wrap ((dd : Int) + 1) = (dd : Int) + 1 := wrap_i64 (by omega) (by omega)
      by_cases hk2 : w.kind = 2
      · have e2 : (w.kind : Int) = 2 := by omega
        have h1 : rfacF ts (rsumF ts (rfac ts n)) (rfac ts n) ⟨a, dd, none⟩ = (.num w.n, ⟨a + 1, dd, none⟩) := by simp only [rfacF, hw, hk2]; rfl
        simp [Tryz.f225, cI_none, hl, hl', hl2, cc1, cc2, wdCells, e2, w1, h1]
      · have e2 : ¬ (w.kind : Int) = 2 := by omega
        have b2 : (w.kind == 2) = false := by rw [beq_eq_false_iff_ne]; exact hk2
        have h0 : 0 ≤ (a : Int) + 1 := by omega
        by_cases hk1 : w.kind = 1
        · have e1 : (w.kind : Int) = 1 := by omega
          cases hop : nextB ts ⟨a + 1, 0, none⟩ openT with
          | true =>
            have hl3 : a + 1 < ts.length := nextB_lt hop
            have h1 : rfacF ts (rsumF ts (rfac ts n)) (rfac ts n) ⟨a, dd, none⟩ = (.elem w.text (rsubs ts (rsumF ts (rfac ts n)) ⟨a + 1 + 1, dd, none⟩).1, (rsubs ts (rsumF ts (rfac ts n)) ⟨a + 1 + 1, dd, none⟩).2) := by
              have hop' : nextB ts ⟨a + 1, dd, none⟩ openT = true := hop
              simp [rfacF, hw, hk1, St.step, hop']
            have ht := fun H => hO.tookT ((a : Int) + 1) none openT H h0 errOk_none (by simpa using hop)
            have hsb := fun H => hO.subs ((a : Int) + 1 + 1) dd none H (by omega) (by omega) hdr errOk_none (by omega)
            have en : ((a : Int) + 1 + 1).toNat = a + 1 + 1 := by omega
            simp [openT, cI_none] at ht
            rw [h1]
            simp only [en, Int.toNat_natCast] at hsb
            generalize rsubs ts (rsumF ts (rfac ts n)) ⟨a + 1 + 1, dd, none⟩ = p at *
            simp [cI_none] at hsb
            simp [Tryz.f225, cI_none, hl, hl', hl2, cc1, cc2, wdCells, e1, w1, ht]
            refine LpD.turns X hG [4, 6] [(0, 4), (1, 4)] (by kernel_rfl) ?_
            simp [hsb]
          | false =>
            have h1 : rfacF ts (rsumF ts (rfac ts n)) (rfac ts n) ⟨a, dd, none⟩ = (.var w.text, ⟨a + 1, dd, none⟩) := by
              have hop' : nextB ts ⟨a + 1, dd, none⟩ openT = false := hop
              simp [rfacF, hw, hk1, St.step, hop']
            have ht := fun H => hO.tookF ((a : Int) + 1) none openT H h0 errOk_none (by simpa using hop)
            simp [openT, cI_none] at ht
            simp [Tryz.f225, cI_none, hl, hl', hl2, cc1, cc2, wdCells, e1, w1, ht, h1]
        · have e1 : ¬ (w.kind : Int) = 1 := by omega
          have b1 : (w.kind == 1) = false := by rw [beq_eq_false_iff_ne]; exact hk1
          have nx : ∀ s, nextB ts ⟨a, 0, none⟩ s = isS ts a s := fun s => by simp [nextB]
          have hs1 := fun H => hO.sign a none minusT H (by omega) errOk_none
          have hs2 := fun H => hO.sign a none openT H (by omega) errOk_none
          simp [minusT, nx, cI_none] at hs1
          simp [openT, nx, cI_none] at hs2
          cases hmi : isS ts a minusT with
          | true =>
            have hmi' := hmi
            simp [minusT] at hmi'
            by_cases h20 : 20 ≤ dd
            · have h20' : (20 : Int) ≤ (dd : Int) := by omega
              have h1 : rfacF ts (rsumF ts (rfac ts n)) (rfac ts n) ⟨a, dd, none⟩ = (.none, ⟨a, dd, some (a, 4)⟩) := by simp [rfacF, hw, b2, b1, hmi, h20, St.fail]
              have hfl4 := fun H => hO.fail a none a 4 H (by omega) errOk_none (by omega) (by omega)
              simp [cI_none] at hfl4
              simp [Tryz.f225, cI_none, hl, hl', hl2, cc1, cc2, wdCells, e2, e1, hs1, hs2, hmi', h20', hfl4, h1]
            · have h20' : ¬ (20 : Int) ≤ (dd : Int) := by omega
              have h1 : rfacF ts (rsumF ts (rfac ts n)) (rfac ts n) ⟨a, dd, none⟩ = (.neg (rfac ts n ⟨a + 1, dd + 1, none⟩).1, ⟨(rfac ts n ⟨a + 1, dd + 1, none⟩).2.at_, dd, (rfac ts n ⟨a + 1, dd + 1, none⟩).2.err⟩) := by simp [rfacF, hw, b2, b1, hmi, h20, rdeep, St.step]
              have ht := fun H => hO.tookT a none minusT H (by omega) errOk_none (by simp [nx, hmi])
              have hfa := fun H => hO.fac ((a : Int) + 1) ((dd : Int) + 1) none H h0 (by omega) (by omega) errOk_none (by omega)
              have en : ((a : Int) + 1).toNat = a + 1 := by omega
              have en2 : ((dd : Int) + 1).toNat = dd + 1 := by omega
              simp [minusT, cI_none] at ht
              rw [h1]
              simp only [en, en2] at hfa
              generalize rfac ts n ⟨a + 1, dd + 1, none⟩ = p at *
              simp [cI_none] at hfa
              simp [Tryz.f225, cI_none, hl, hl', hl2, cc1, cc2, wdCells, e2, e1, hs1, hs2, hmi', h20', ht, hfa, wd]
          | false =>
            have hmi' := hmi
            simp [minusT] at hmi'
            cases hop : isS ts a openT with
            | true =>
              have hop' := hop
              simp [openT] at hop'
              by_cases h20 : 20 ≤ dd
              · have h20' : (20 : Int) ≤ (dd : Int) := by omega
                have h1 : rfacF ts (rsumF ts (rfac ts n)) (rfac ts n) ⟨a, dd, none⟩ = (.none, ⟨a, dd, some (a, 4)⟩) := by simp [rfacF, hw, b2, b1, hmi, hop, h20, St.fail]
                have hfl4 := fun H => hO.fail a none a 4 H (by omega) errOk_none (by omega) (by omega)
                simp [cI_none] at hfl4
                simp [Tryz.f225, cI_none, hl, hl', hl2, cc1, cc2, wdCells, e2, e1, hs1, hs2, hmi', hop', h20', hfl4, h1]
              · have h20' : ¬ (20 : Int) ≤ (dd : Int) := by omega
                have h1 : rfacF ts (rsumF ts (rfac ts n)) (rfac ts n) ⟨a, dd, none⟩ = ((rsumF ts (rfac ts n) ⟨a + 1, dd + 1, none⟩).1, mustS ts ⟨(rsumF ts (rfac ts n) ⟨a + 1, dd + 1, none⟩).2.at_, dd, (rsumF ts (rfac ts n) ⟨a + 1, dd + 1, none⟩).2.err⟩ shutT) := by simp [rfacF, hw, b2, b1, hmi, hop, h20, rdeep, St.step]
                have ht := fun H => hO.tookF a none minusT H (by omega) errOk_none (by simp [nx, hmi])
                have hfa := fun H => hO.sum ((a : Int) + 1) ((dd : Int) + 1) none H h0 (by omega) (by omega) errOk_none (by omega)
                have hso1 := hso ⟨a + 1, dd + 1, none⟩ errOk_none
                have en : ((a : Int) + 1).toNat = a + 1 := by omega
                have en2 : ((dd : Int) + 1).toNat = dd + 1 := by omega
                simp [minusT, cI_none] at ht
                rw [h1]
                simp only [en, en2] at hfa
                generalize rsumF ts (rfac ts n) ⟨a + 1, dd + 1, none⟩ = p at *
                obtain ⟨e, ⟨q, d2, y⟩⟩ := p
                simp [cI_none] at hfa
                simp only at hso1
                have hnx : nextB ts ⟨q, dd, y⟩ shutT = nextB ts ⟨q, 0, y⟩ shutT := rfl
                cases hsh : nextB ts ⟨q, 0, y⟩ shutT with
                | true =>
                  have ht2 := fun H => hO.tookT q y shutT H (by omega) hso1 (by simpa using hsh)
                  simp [shutT] at ht2
                  simp [Tryz.f225, cI_none, hl, hl', hl2, cc1, cc2, wdCells, e2, e1, hs1, hs2, hmi', hop', h20', ht, hfa, wd, w1, ht2, mustS, hnx, hsh, St.step]
                | false =>
                  have ht2 := fun H => hO.tookF q y shutT H (by omega) hso1 (by simpa using hsh)
                  have hfl2 := fun H => hO.fail q y q 2 H (by omega) hso1 (by omega) (by omega)
                  simp [shutT] at ht2
                  simp at hfl2
                  simp [Tryz.f225, cI_none, hl, hl', hl2, cc1, cc2, wdCells, e2, e1, hs1, hs2, hmi', hop', h20', ht, hfa, wd, w1, ht2, hfl2, mustS, hnx, hsh, fail_eq]
            | false =>
              have hop' := hop
              simp [openT] at hop'
              have h1 : rfacF ts (rsumF ts (rfac ts n)) (rfac ts n) ⟨a, dd, none⟩ = (.none, ⟨a, dd, some (a, 2)⟩) := by simp [rfacF, hw, b2, b1, hmi, hop, St.fail]
              simp [cI_none] at hfl
              simp [Tryz.f225, cI_none, hl, hl', hl2, cc1, cc2, wdCells, e2, e1, hs1, hs2, hmi', hop', hfl, h1]
    · have hw : ts[a]? = none := List.getElem?_eq_none (by omega)
      have hl' : ¬ (a : Int) < ts.length := by omega
      have hl2 : ((ts.length : Int) ≤ a) := by omega
      have h1 : rfacF ts (rsumF ts (rfac ts n)) (rfac ts n) ⟨a, dd, none⟩ = (.none, ⟨a, dd, some (a, 2)⟩) := by simp only [rfacF, hw]; rfl
      simp [cI_none] at hfl
      simp [Tryz.f225, cI_none, h1, hfl, hl', hl2]
end Go.Proofs.YtejjlojfgcgopaaGreatDoor

namespace Go.Proofs.YtejjlojfgcgopaaGreatDoor
open Go.RowKit Go.Proofs.Fw
set_option maxRecDepth 100000
set_option maxHeartbeats 4000000

theorem fail_okE {r : St} {p e : Nat} (h : errOk r.err) (he : e ≠ 0) : errOk (r.fail p e).err := by
  rw [fail_eq]
  cases hx : r.err with
  | none => exact errOk_some he
  | some y => rw [hx] at h; exact h
theorem must_okE {ts : List Wd} {r : St} {s : List UInt8} (h : errOk r.err) : errOk (mustS ts r s).err := by
  unfold mustS; split
  · exact h
  · exact fail_okE h (by decide)
theorem rsubL_okE {ts : List Wd} {f : Rd} (h : okE f) : ∀ (n : Nat) (a : List Ex) (r : St), errOk r.err → errOk (rsubL ts f n a r).2.err
  | 0, _, _, hr => hr
  | n + 1, a, r, hr => by
    simp only [rsubL]
    split
    · split
      · exact fail_okE hr (by decide)
      · exact rsubL_okE h n _ _ (h r.step hr)
    · exact must_okE hr
theorem rfacF_okE {ts : List Wd} {sf f : Rd} (hs : okE sf) (h : okE f) : okE (rfacF ts sf f) := by
  intro r hr
  unfold rfacF
  split
  · rename_i t he ht
    split
    · exact hr
    · split
      · split
        · exact rsubL_okE hs 5 _ _ (hs r.step.step hr)
        · exact hr
      · split
        · split
          · exact fail_okE hr (by decide)
          · split
            · exact h ⟨r.step.at_, r.step.deep + 1, r.step.err⟩ hr
            · exact must_okE (hs ⟨r.step.at_, r.step.deep + 1, r.step.err⟩ hr)
        · exact fail_okE hr (by decide)
  · exact fail_okE hr (by decide)
theorem rfac_okE (ts : List Wd) : ∀ n, okE (rfac ts n)
  | 0 => fun _ h => h
  | n + 1 => rfacF_okE (rrowF_okE (rrowF_okE (rfac_okE ts n))) (rfac_okE ts n)
theorem rsubL_up {ts : List Wd} {f : Rd} (h : upw f) : ∀ (n : Nat) (a : List Ex) (r : St), r.at_ ≤ (rsubL ts f n a r).2.at_
  | 0, _, _ => Nat.le_refl _
  | n + 1, a, r => by
    simp only [rsubL]
    split
    · split
      · rw [fail_at]; exact Nat.le_refl _
      · have h1 := h r.step
        have h2 := rsubL_up h (ts := ts) n (a ++ [(f r.step).1]) (f r.step).2
        simp only [St.step] at h1 h2 ⊢
        omega
    · exact must_up ts r shutT
theorem rfacF_up {ts : List Wd} {sf f : Rd} (hs : upw sf) (h : upw f) : upw (rfacF ts sf f) := by
  intro r
  unfold rfacF
  split
  · split
    · simp [St.step]
    · split
      · split
        · have h1 := hs r.step.step
          have h2 := rsubL_up (ts := ts) hs 5 [(sf r.step.step).1] (sf r.step.step).2
          simp only [rsubs, St.step] at h1 h2 ⊢
          omega
        · simp [St.step]
      · split
        · split
          · rw [fail_at]; exact Nat.le_refl _
          · split
            · have := h ⟨r.step.at_, r.step.deep + 1, r.step.err⟩
              simp only [rdeep, St.step] at this ⊢
              omega
            · have h1 := hs ⟨r.step.at_, r.step.deep + 1, r.step.err⟩
              have h2 := must_up ts (rdeep sf r.step).2 shutT
              simp only [rdeep, St.step] at h1 h2 ⊢
              omega
        · rw [fail_at]; exact Nat.le_refl _
  · rw [fail_at]; exact Nat.le_refl _
theorem rfac_up (ts : List Wd) : ∀ n, upw (rfac ts n)
  | 0 => fun _ => Nat.le_refl _
  | n + 1 => rfacF_up (rrowF_up (rrowF_up (rfac_up ts n))) (rfac_up ts n)
theorem rfac_deep (ts : List Wd) (n : Nat) : ∀ r, (rfac ts n r).2.deep = r.deep := (fac_ok ts n).2.2.2.2
theorem rterm_deep (ts : List Wd) (n : Nat) : ∀ r, (rtermF ts (rfac ts n) r).2.deep = r.deep := (rowF_ok (ts := ts) (f := starT) (s := slashT) (fac_ok ts n) (by decide) 7 8).2.2.2.2
theorem rsum_deep (ts : List Wd) (n : Nat) : ∀ r, (rsumF ts (rfac ts n) r).2.deep = r.deep := (sumF_ok (ts := ts) (fac_ok ts n)).2.2.2.2

def yPart (ts : List Wd) (of : Rd) (n : Nat) (rest : List AV) (r : St) : Option (AV × St) := match rest with
  | [.int .i64 d] => if 0 ≤ d ∧ d ≤ 20 ∧ ts.length - r.at_ < n then some (exAV (of ⟨r.at_, d.toNat, r.err⟩).1, (of ⟨r.at_, d.toNat, r.err⟩).2) else none
  | _ => none
def YPartS (ts : List Wd) (g : FuncId) (of : Rd) (n : Nat) : Prop := Sound Tryz.prog envX (oRr ts g (yPart ts of n))
theorem YPartS.mk' {ts : List Wd} {g : FuncId} {of : Rd} {n : Nat} (h : ∀ (a dd : Nat) (x : Option (Nat × Nat)), errOk x → dd ≤ 20 → ts.length - a < n → ∀ H id, H.at id = some (.box (rrC ts a x)) →
    CS Tryz.prog envX g [.ptr id 0, .int .i64 (dd : Int)] H (exAV (of ⟨a, dd, x⟩).1) (H.set id (some (.box (rrC ts (of ⟨a, dd, x⟩).2.at_ (of ⟨a, dd, x⟩).2.err))))) : YPartS ts g of n :=
  oRr_sound fun rest r v r' hs h0 hx H id hH => by
    unfold yPart at hs
    split at hs
    · rename_i d
      split at hs
      · rename_i hc
        injection hs with hs
        simp only [Prod.mk.injEq] at hs
        obtain ⟨rfl, rfl⟩ := hs
        have := h r.at_ d.toNat r.err hx (by omega) hc.2.2 H id hH
        rwa [Int.toNat_of_nonneg hc.1] at this
      · cases hs
    · cases hs
theorem ypart_at {ts : List Wd} {g : FuncId} {of : Rd} {n : Nat} : RAns (oRr ts g (yPart ts of n)) ts g of n := fun a d x H ha hd hd2 hx hm => by
  rw [oRr_at hx (rr_at ha)]
  simp only [yPart, if_pos (And.intro hd (And.intro hd2 hm)), Option.map_some, List.set_cons_zero]

noncomputable def oTG (ts : List Wd) (g : FuncId) (of : Rd) (n : Nat) : Orc := orElse (oRr ts 197 (takesSpec ts)) (oRr ts g (yPart ts of n))
theorem oTG_cx {ts : List Wd} (hts : ts.length < 1000000) {g : FuncId} {of : Rd} {n : Nat} (h : YPartS ts g of n) : Cx (oTG ts g of n) Tryz.prog envX := ⟨Sound.orElse (took_sound ts hts) h, methXOk, mixed⟩
theorem oTG_took {ts : List Wd} {g : FuncId} {of : Rd} {n : Nat} : TookO (oTG ts g of n) ts where
  tookT := fun a x s H ha hx hn => by simp only [oTG, orElse, sy_took_t s H ha hx hn]
  tookF := fun a x s H ha hx hn => by simp only [oTG, orElse, sy_took_f s H ha hx hn]
theorem oTG_ans {ts : List Wd} {g : FuncId} {of : Rd} {n : Nat} (hg : g ≠ 197) : RAns (oTG ts g of n) ts g of n := fun a d x H ha hd hd2 hx hm => by
  have := ypart_at (g := g) (of := of) (n := n) a d x H ha hd hd2 hx hm
  have h1 : oRr ts 197 (takesSpec ts) g [.ptr 0 0, .int .i64 d] (some (.box [wdsAV ts, .int .i64 a, pAV x, .int .i64 (cI x)]) :: H) = none := by simp [oRr, hg]
  simp only [oTG, orElse, h1, this]

theorem yterm_part {ts : List Wd} (hts : ts.length < 1000000) {n : Nat} (h : YPartS ts 225 (rfac ts n) n) : YPartS ts 215 (rtermF ts (rfac ts n)) n :=
  YPartS.mk' fun a dd x hx hr hn H id hH => yterm_cs ts hts (oTG_cx hts h) oTG_took (oTG_ans (by decide)) (rfac_up ts n) (rfac_deep ts n) (rfac_okE ts n) a dd x hx hr hn hH
theorem yexpr_part {ts : List Wd} (hts : ts.length < 1000000) {n : Nat} (h : YPartS ts 225 (rfac ts n) n) : YPartS ts 193 (rsumF ts (rfac ts n)) n :=
  YPartS.mk' fun a dd x hx hr hn H id hH => yexpr_cs ts hts (oTG_cx hts (yterm_part hts h)) oTG_took (oTG_ans (by decide)) (rrowF_up (rfac_up ts n)) (rterm_deep ts n) (rrowF_okE (rfac_okE ts n)) a dd x hx hr hn hH

noncomputable def oSb (ts : List Wd) (n : Nat) : Orc := oTab [(197, oRr ts 197 (takesSpec ts)), (196, oRr ts 196 (nextSpec ts)),
  (195, oRr ts 195 yfailSpec), (193, oRr ts 193 (yPart ts (rsumF ts (rfac ts n)) n))]
theorem oSb_cx {ts : List Wd} (hts : ts.length < 1000000) {n : Nat} (h : YPartS ts 193 (rsumF ts (rfac ts n)) n) : Cx (oSb ts n) Tryz.prog envX := ⟨oTab_sound (by
  intro p hp
  simp only [List.mem_cons, List.not_mem_nil, or_false] at hp
  rcases hp with rfl | rfl | rfl | rfl
  · exact took_sound ts hts
  · exact ysign_sound ts
  · exact yfail_sound ts
  · exact h), methXOk, mixed⟩
theorem oSb_O (ts : List Wd) (n : Nat) : SubsO (oSb ts n) ts (rsumF ts (rfac ts n)) n where
  tookT := fun a x s H ha hx hn => by rw [← sy_took_t s H ha hx hn]; simp [oSb, oTab, List.lookup]
  tookF := fun a x s H ha hx hn => by rw [← sy_took_f s H ha hx hn]; simp [oSb, oTab, List.lookup]
  sign := fun a x s H ha hx => by rw [← sy_sign s H ha hx]; simp [oSb, oTab, List.lookup]
  fail := fun a x p e H ha hx hp he => by rw [← sy_fail p e H ha hx hp he]; simp [oSb, oTab, List.lookup]
  sum := fun a d x H ha hd hd2 hx hm => by rw [← ypart_at (g := 193) (of := rsumF ts (rfac ts n)) (n := n) a d x H ha hd hd2 hx hm]; simp [oSb, oTab, List.lookup]

def ySubs (ts : List Wd) (n : Nat) (rest : List AV) (r : St) : Option (AV × St) := match rest with
  | [.int .i64 d] => if 0 ≤ d ∧ d ≤ 20 ∧ ts.length - r.at_ < n then some (.slice .unk 4 (rsubs ts (rsumF ts (rfac ts n)) ⟨r.at_, d.toNat, r.err⟩).1.length (exsC (rsubs ts (rsumF ts (rfac ts n)) ⟨r.at_, d.toNat, r.err⟩).1), (rsubs ts (rsumF ts (rfac ts n)) ⟨r.at_, d.toNat, r.err⟩).2) else none
  | _ => none
theorem ysubs_sound {ts : List Wd} (hts : ts.length < 1000000) {n : Nat} (h : YPartS ts 193 (rsumF ts (rfac ts n)) n) : Sound Tryz.prog envX (oRr ts 168 (ySubs ts n)) := oRr_sound fun rest r v r' hs h0 hx H id hH => by
  unfold ySubs at hs
  split at hs
  · rename_i d
    split at hs
    · rename_i hc
      injection hs with hs
      simp only [Prod.mk.injEq] at hs
      obtain ⟨rfl, rfl⟩ := hs
      have := subs_cs0 ts hts (oSb_cx hts h) (oSb_O ts n) (rrowF_up (rrowF_up (rfac_up ts n))) (rsum_deep ts n) (rrowF_okE (rrowF_okE (rfac_okE ts n))) r.at_ d.toNat r.err hx (by omega) hc.2.2 hH
      rw [Int.toNat_of_nonneg hc.1] at this
      refine CS.weak this fun g cv hr => ?_
      unfold outXV at hr
      split at hr
      · rename_i hl
        rw [hl]
        exact rep_unk g cv hr
      · exact hr
    · cases hs
  · cases hs

noncomputable def oYf (ts : List Wd) (n : Nat) : Orc := oTab [(197, oRr ts 197 (takesSpec ts)), (196, oRr ts 196 (nextSpec ts)),
  (195, oRr ts 195 yfailSpec), (193, oRr ts 193 (yPart ts (rsumF ts (rfac ts n)) n)),
  (225, oRr ts 225 (yPart ts (rfac ts n) n)), (168, oRr ts 168 (ySubs ts n))]
theorem oYf_cx {ts : List Wd} (hts : ts.length < 1000000) {n : Nat} (h : YPartS ts 225 (rfac ts n) n) : Cx (oYf ts n) Tryz.prog envX := ⟨oTab_sound (by
  intro p hp
  simp only [List.mem_cons, List.not_mem_nil, or_false] at hp
  rcases hp with rfl | rfl | rfl | rfl | rfl | rfl
  · exact took_sound ts hts
  · exact ysign_sound ts
  · exact yfail_sound ts
  · exact yexpr_part hts h
  · exact h
  · exact ysubs_sound hts (yexpr_part hts h)), methXOk, mixed⟩
theorem oYf_O (ts : List Wd) (n : Nat) : RFacO (oYf ts n) ts n where
  tookT := fun a x s H ha hx hn => by rw [← sy_took_t s H ha hx hn]; simp [oYf, oTab, List.lookup]
  tookF := fun a x s H ha hx hn => by rw [← sy_took_f s H ha hx hn]; simp [oYf, oTab, List.lookup]
  sign := fun a x s H ha hx => by rw [← sy_sign s H ha hx]; simp [oYf, oTab, List.lookup]
  fail := fun a x p e H ha hx hp he => by rw [← sy_fail p e H ha hx hp he]; simp [oYf, oTab, List.lookup]
  fac := fun a d x H ha hd hd2 hx hm => by rw [← ypart_at (g := 225) (of := rfac ts n) (n := n) a d x H ha hd hd2 hx hm]; simp [oYf, oTab, List.lookup]
  sum := fun a d x H ha hd hd2 hx hm => by rw [← ypart_at (g := 193) (of := rsumF ts (rfac ts n)) (n := n) a d x H ha hd hd2 hx hm]; simp [oYf, oTab, List.lookup]
  subs := fun a d x H ha hd hd2 hx hm => by
    have e1 : oYf ts n 168 [.ptr 0 0, .int .i64 d] (some (.box [wdsAV ts, .int .i64 a, pAV x, .int .i64 (cI x)]) :: H) = oRr ts 168 (ySubs ts n) 168 [.ptr 0 0, .int .i64 d] (some (.box [wdsAV ts, .int .i64 a, pAV x, .int .i64 (cI x)]) :: H) := by simp [oYf, oTab, List.lookup]
    rw [e1, oRr_at hx (rr_at ha)]
    simp only [ySubs, if_pos (And.intro hd (And.intro hd2 hm)), Option.map_some, List.set_cons_zero]
theorem yfactor_part {ts : List Wd} (hts : ts.length < 1000000) : ∀ n, YPartS ts 225 (rfac ts n) n
  | 0 => YPartS.mk' fun a dd x _ _ hn => absurd hn (Nat.not_lt_zero _)
  | n + 1 => YPartS.mk' fun a dd x hx hr hn H id hH => yfactor_cs ts hts (oYf_cx hts (yfactor_part hts n)) (oYf_O ts n) (rrowF_okE (rrowF_okE (rfac_okE ts n))) a dd x hx hr hn hH
theorem ysums {ts : List Wd} (hts : ts.length < 1000000) : YPartS ts 193 (rsumAt ts) (ts.length + 1) := yexpr_part hts (yfactor_part hts _)

/-- The document's error, as a value. -/
def wrAV (x : Option (Nat × Nat)) : AV := .agg [pAV x, .int .i64 (cI x)]
def rparseAV (x : Ex × Nat × Option (Nat × Nat)) : AV := .tup [exAV x.1, .int .i64 x.2.1, wrAV x.2.2]
theorem ysum_at2 {ts : List Wd} {a d : Int} {x : Option (Nat × Nat)} {e0 e1 : Option Ent} (H : AH) (ha : 0 ≤ a) (hd : 0 ≤ d) (hd2 : d ≤ 20) (hx : errOk x) :
    oRr ts 193 (yPart ts (rsumAt ts) (ts.length + 1)) 193 [.ptr 2 0, .int .i64 d] (e0 :: e1 :: some (.box [wdsAV ts, .int .i64 a, pAV x, .int .i64 (cI x)]) :: H) =
      some (exAV (rsumAt ts ⟨a.toNat, d.toNat, x⟩).1, e0 :: e1 :: some (.box (rrC ts (rsumAt ts ⟨a.toNat, d.toNat, x⟩).2.at_ (rsumAt ts ⟨a.toNat, d.toNat, x⟩).2.err)) :: H) := by
  have h0 : AH.at (e0 :: e1 :: some (.box [wdsAV ts, .int .i64 a, pAV x, .int .i64 (cI x)]) :: H) 2 = some (.box (rrC ts (a.toNat : Nat) x)) := by simp [AH.at, Int.toNat_of_nonneg ha]
  rw [oRr_at hx h0]
  have h2 : ts.length - a.toNat < ts.length + 1 := by omega
  simp only [yPart, if_pos (And.intro hd (And.intro hd2 h2)), Option.map_some, List.set_cons_succ, List.set_cons_zero]
@[simp] theorem buRR (ts : List Wd) : abuild Tryz.prog 293 [(0, wdsAV ts)] = some (.agg [wdsAV ts, .int .i64 0, .nilSlice, .int .i64 0]) := by
  unfold wdsAV
  split <;> kernel_rfl
@[simp] theorem buWr : abuild Tryz.prog 57 [] = some (.agg [.nilSlice, .int .i64 0]) := by kernel_rfl
theorem pAV_none : pAV none = .nilSlice := nrfl rfl
theorem rparse_cs (ts : List Wd) (hts : ts.length < 1000000) (H : AH) : CS Tryz.prog envX 169 [wdsAV ts] H (rparseAV (rparseX ts)) H := by
  have X : Cx (oRr ts 193 (yPart ts (rsumAt ts) (ts.length + 1))) Tryz.prog envX := ⟨ysums hts, methXOk, mixed⟩
  refine CS.tr0 lowX Tryz.func169 (by kernel_rfl) 0 (by simp [Tryz.f169]) (fun B hB hG => ?_) (by simp [rparseAV, wrAV]) (by simp) H
  refine Tr.goD X hG (by kernel_rfl) ?_
  have h1 := fun H e0 e1 => ysum_at2 (ts := ts) (a := 0) (d := 0) (x := none) (e0 := e0) (e1 := e1) H (by omega) (by omega) (by omega) errOk_none
  have hok := rrowF_okE (ts := ts) (f := plusT) (s := minusT) (one := 5) (two := 6) (rrowF_okE (ts := ts) (f := starT) (s := slashT) (one := 7) (two := 8) (rfac_okE ts (ts.length + 1))) ⟨0, 0, none⟩ errOk_none
  have hok' : errOk (rsumAt ts ⟨0, 0, none⟩).2.err := hok
  clear hok
  simp only [rparseX]
  simp [pAV_none, cI_none] at h1
  generalize rsumAt ts ⟨0, 0, none⟩ = p at *
  obtain ⟨e, ⟨b, d, x⟩⟩ := p
  simp only at h1 hok'
  cases x with
  | none =>
    simp [Tryz.f169, h1, cI_none]
    refine LpD.turns X hG [6, 8] [(1, 6), (2, 6), (3, 6), (4, 6), (5, 6)] (by kernel_rfl) ?_
    simp [rparseAV, wrAV, pAV_none, cI_none]
  | some y =>
    have h0 : (cI (some y) == 0) = false := by rw [beq_eq_false_iff_ne]; intro h; have := (cI_zero hok').1 h; cases this
    have h0' : ¬ cI (some y) = 0 := fun h => by have := (cI_zero hok').1 h; cases this
    have h0b : (cI (some y) != 0) = true := by simp [bne, h0]
    simp [Tryz.f169, h1, h0, h0', h0b]
    refine LpD.turns X hG [5, 7] [(1, 5), (2, 5), (3, 5), (4, 5)] (by kernel_rfl) ?_
    simp [rparseAV, wrAV]
end Go.Proofs.YtejjlojfgcgopaaGreatDoor
