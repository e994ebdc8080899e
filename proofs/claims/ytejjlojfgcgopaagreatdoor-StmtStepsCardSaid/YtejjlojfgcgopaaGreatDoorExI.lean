/- The program's reader of expressions: factor, and so all parts; expr.Parse. The program's reader of expressions, all parts; expr.Parse, expr.ParseCond. -/
import Derived.Test.YtejjlojfgcgopaaGreatDoorExG
set_option linter.unusedSimpArgs false
set_option linter.unusedVariables false
namespace Go.Proofs.YtejjlojfgcgopaaGreatDoor
open Go.RowKit Go.Proofs.Fw
set_option maxRecDepth 100000
set_option maxHeartbeats 4000000

/-- What factor asks. -/
structure FacO (O : Orc) (ts : List Wd) (n : Nat) : Prop where
  fail : ∀ (a d : Int) (x : Option (Nat × Nat)) (p e : Int) (H : AH), 0 ≤ a → 0 ≤ d → 0 ≤ p → 0 ≤ e → O 181 [.ptr 0 0, .int .i64 p, .int .i64 e] (some (.box [wdsAV ts, .int .i64 a, .int .i64 d, eAV x]) :: H) =
    some (.tup [], some (.box [wdsAV ts, .int .i64 a, .int .i64 d, eAV (some (x.getD (p.toNat, e.toNat)))]) :: H)
  takesT : ∀ (a d : Int) (x : Option (Nat × Nat)) (s : List UInt8) (H : AH), 0 ≤ a → 0 ≤ d → nextB ts ⟨a.toNat, d.toNat, x⟩ s = true →
    O 233 [.ptr 0 0, .str s] (some (.box [wdsAV ts, .int .i64 a, .int .i64 d, eAV x]) :: H) = some (.bool true, some (.box [wdsAV ts, .int .i64 (a + 1), .int .i64 d, eAV x]) :: H)
  takesF : ∀ (a d : Int) (x : Option (Nat × Nat)) (s : List UInt8) (H : AH), 0 ≤ a → 0 ≤ d → nextB ts ⟨a.toNat, d.toNat, x⟩ s = false →
    O 233 [.ptr 0 0, .str s] (some (.box [wdsAV ts, .int .i64 a, .int .i64 d, eAV x]) :: H) = some (.bool false, some (.box [wdsAV ts, .int .i64 a, .int .i64 d, eAV x]) :: H)
  must : ∀ (a d : Int) (x : Option (Nat × Nat)) (s : List UInt8) (H : AH), 0 ≤ a → 0 ≤ d → O 235 [.ptr 0 0, .str s] (some (.box [wdsAV ts, .int .i64 a, .int .i64 d, eAV x]) :: H) =
    some (.tup [], some (.box ((mustS ts ⟨a.toNat, d.toNat, x⟩ s).cells ts)) :: H)
  name : ∀ (a d : Int) (w : Wd) (H : AH), 0 ≤ a → 0 ≤ d → d ≤ 20 → ts[a.toNat]? = some w → ts.length - a.toNat < n + 1 → O 232 [.ptr 0 0] (some (.box [wdsAV ts, .int .i64 a, .int .i64 d, eAV none]) :: H) =
    some (exAV (nameF ts (sumF ts (fac ts n)) w.text ⟨a.toNat, d.toNat, none⟩).1, some (.box ((nameF ts (sumF ts (fac ts n)) w.text ⟨a.toNat, d.toNat, none⟩).2.cells ts)) :: H)
  inFac : ∀ (a d p : Int) (x : Option (Nat × Nat)) (H : AH), 0 ≤ a → 0 ≤ d → d ≤ 20 → 0 ≤ p → ts.length - a.toNat < n → O 234 [.ptr 0 0, .int .i64 p, .func (.func 224) [.ptr 0 0] []] (some (.box [wdsAV ts, .int .i64 a, .int .i64 d, eAV x]) :: H) =
    some (exAV (inF p.toNat (fac ts n) ⟨a.toNat, d.toNat, x⟩).1, some (.box ((inF p.toNat (fac ts n) ⟨a.toNat, d.toNat, x⟩).2.cells ts)) :: H)
  inSum : ∀ (a d p : Int) (x : Option (Nat × Nat)) (H : AH), 0 ≤ a → 0 ≤ d → d ≤ 20 → 0 ≤ p → ts.length - a.toNat < n → O 234 [.ptr 0 0, .int .i64 p, .func (.func 178) [.ptr 0 0] []] (some (.box [wdsAV ts, .int .i64 a, .int .i64 d, eAV x]) :: H) =
    some (exAV (inF p.toNat (sumF ts (fac ts n)) ⟨a.toNat, d.toNat, x⟩).1, some (.box ((inF p.toNat (sumF ts (fac ts n)) ⟨a.toNat, d.toNat, x⟩).2.cells ts)) :: H)

theorem factor_cs (ts : List Wd) (hts : ts.length < 1000000) {n : Nat} {O : Orc} (X : Cx O Tryz.prog envX) (hO : FacO O ts n) (r : St) (hr : r.deep ≤ 20) (hn : ts.length - r.at_ < n + 1) {H : AH} {id : Nat} (hH : H.at id = some (.box (r.cells ts))) :
    CS Tryz.prog envX 224 [.ptr id 0] H (exAV (fac ts (n + 1) r).1) (H.set id (some (.box ((fac ts (n + 1) r).2.cells ts)))) := by
  refine CS.rd lowX Tryz.func224 (by kernel_rfl) 0 (by simp [Tryz.f224]) (fun B hB hG => ?_) rfl (by simp) (St.cells_low ts r) (St.cells_low ts _) hH
  obtain ⟨a, d, x⟩ := r
  simp only at hr hn
  have hr' : (d : Int) ≤ 20 := by omega
  have hfac : fac ts (n + 1) ⟨a, d, x⟩ = facF ts (sumF ts (fac ts n)) (fac ts n) ⟨a, d, x⟩ := rfl
  rw [hfac]
  have hfl := fun H => hO.fail a d x a 2 H (by omega) (by omega) (by omega) (by omega)
  simp at hfl
  refine Tr.goD X hG (by kernel_rfl) ?_
  simp [Tryz.f224, St.cells]
  refine LpD.turns X hG [] [] (by kernel_rfl) ?_
  cases x with
  | some y =>
    have h1 : facF ts (sumF ts (fac ts n)) (fac ts n) ⟨a, d, some y⟩ = (.none, ⟨a, d, some y⟩) := by simp [facF, St.fail]
    simp [h1, hfl]
  | none =>
    by_cases hl : a < ts.length
    · have hl' : (a : Int) < ts.length := by omega
      have hl2 : ¬ ((ts.length : Int) ≤ a) := by omega
      obtain ⟨w, hw⟩ : ∃ w, ts[a]? = some w := ⟨_, List.getElem?_eq_getElem hl⟩
      obtain ⟨c0, c1, c3⟩ := cellX hw
      obtain ⟨cc1, cc2⟩ := cells_atX ts a w hw
      have w1 : IntKind.i64.wrap ((a : Int) + 1) = (a : Int) + 1 := wrap_i64 (by omega) (by omega)
      simp [hl, hl', hl2]
      refine LpD.turns X hG [14, 16] [(0, 14), (1, 14), (2, 14), (3, 14), (4, 14), (5, 14), (6, 14), (7, 14), (8, 14), (9, 14), (10, 14), (11, 14), (12, 14), (13, 14)] (by kernel_rfl) ?_
      simp [hl, hl', cc1, cc2, wdCells]
      by_cases hk2 : w.kind = 2
      · have e2 : (w.kind : Int) = 2 := by omega
        have h1 : facF ts (sumF ts (fac ts n)) (fac ts n) ⟨a, d, none⟩ = (.num w.n, ⟨a + 1, d, none⟩) := by simp only [facF, hw, hk2]; rfl
        simp [e2, w1, h1]
      · have e2 : ¬ (w.kind : Int) = 2 := by omega
        have b2 : (w.kind == 2) = false := by rw [beq_eq_false_iff_ne]; exact hk2
        by_cases hk1 : w.kind = 1
        · have e1 : (w.kind : Int) = 1 := by omega
          have h1 : facF ts (sumF ts (fac ts n)) (fac ts n) ⟨a, d, none⟩ = nameF ts (sumF ts (fac ts n)) w.text ⟨a, d, none⟩ := by simp only [facF, hw, hk1]; rfl
          have hnm := fun H => hO.name a d w H (by omega) (by omega) hr' (by simpa using hw) (by simpa using hn)
          simp [St.cells] at hnm
          simp [e1, hnm, h1]
        · have e1 : ¬ (w.kind : Int) = 1 := by omega
          have b1 : (w.kind == 1) = false := by rw [beq_eq_false_iff_ne]; exact hk1
          have nx : ∀ s, nextB ts ⟨a, d, none⟩ s = isS ts a s := fun s => by simp [nextB]
          have hm1 : ts.length - (a + 1) < n := by omega
          have h0 : 0 ≤ (a : Int) + 1 := by omega
          cases hmi : isS ts a minusT with
          | true =>
            have h1 : facF ts (sumF ts (fac ts n)) (fac ts n) ⟨a, d, none⟩ = (.neg (inF a (fac ts n) ⟨a + 1, d, none⟩).1, (inF a (fac ts n) ⟨a + 1, d, none⟩).2) := by simp only [facF, hw, b2, b1, hmi]; rfl
            have ht := fun H => hO.takesT a d none minusT H (by omega) (by omega) (by simp [nx, hmi])
            have hi := fun H => hO.inFac ((a : Int) + 1) d a none H h0 (by omega) hr' (by omega) (by simpa using hm1)
            simp [minusT] at ht
            simp [St.cells] at hi
            simp [e2, e1, ht, hi, h1]
          | false =>
            have ht := fun H => hO.takesF a d none minusT H (by omega) (by omega) (by simp [nx, hmi])
            simp [minusT] at ht
            cases hop : isS ts a openT with
            | true =>
              have h1 : facF ts (sumF ts (fac ts n)) (fac ts n) ⟨a, d, none⟩ = ((inF a (sumF ts (fac ts n)) ⟨a + 1, d, none⟩).1, mustS ts (inF a (sumF ts (fac ts n)) ⟨a + 1, d, none⟩).2 shutT) := by simp only [facF, hw, b2, b1, hmi, hop]; rfl
              have ht2 := fun H => hO.takesT a d none openT H (by omega) (by omega) (by simp [nx, hop])
              have hi := fun H => hO.inSum ((a : Int) + 1) d a none H h0 (by omega) hr' (by omega) (by simpa using hm1)
              simp [openT] at ht2
              simp [St.cells] at hi
              rw [h1]
              generalize inF a (sumF ts (fac ts n)) ⟨a + 1, d, none⟩ = p at *
              obtain ⟨e, ⟨a2, d2, x2⟩⟩ := p
              have hmu := fun H => hO.must a2 d2 x2 shutT H (by omega) (by omega)
              simp [shutT, St.cells] at hmu
              simp only at hi
              simp [e2, e1, ht, ht2, hi, hmu, shutT]
            | false =>
              have h1 : facF ts (sumF ts (fac ts n)) (fac ts n) ⟨a, d, none⟩ = (.none, ⟨a, d, some (a, 2)⟩) := by simp only [facF, hw, b2, b1, hmi, hop]; rfl
              have ht2 := fun H => hO.takesF a d none openT H (by omega) (by omega) (by simp [nx, hop])
              simp [openT] at ht2
              simp [e2, e1, ht, ht2, hfl, h1]
    · have hw : ts[a]? = none := List.getElem?_eq_none (by omega)
      have hl' : ¬ (a : Int) < ts.length := by omega
      have hl2 : ((ts.length : Int) ≤ a) := by omega
      have h1 : facF ts (sumF ts (fac ts n)) (fac ts n) ⟨a, d, none⟩ = (.none, ⟨a, d, some (a, 2)⟩) := by simp only [facF, hw]; rfl
      simp [h1, hfl, hl', hl2]
end Go.Proofs.YtejjlojfgcgopaaGreatDoor

namespace Go.Proofs.YtejjlojfgcgopaaGreatDoor
open Go.RowKit Go.Proofs.Fw
set_option maxRecDepth 100000
set_option maxHeartbeats 4000000

theorem sm_must {ts : List Wd} {a d : Int} {x : Option (Nat × Nat)} (s : List UInt8) (H : AH) (ha : 0 ≤ a) (hd : 0 ≤ d) :
    oRd ts 235 (mustSpec ts) 235 [.ptr 0 0, .str s] (some (.box [wdsAV ts, .int .i64 a, .int .i64 d, eAV x]) :: H) = some (.tup [], some (.box ((mustS ts ⟨a.toNat, d.toNat, x⟩ s).cells ts)) :: H) := by
  rw [oRd_at (rd_at ha hd)]
  simp [mustSpec]

noncomputable def oNm (ts : List Wd) (n : Nat) : Orc := oTab [(181, oRd ts 181 failSpec), (180, oRd ts 180 (nextSpec ts)),
  (233, oRd ts 233 (takesSpec ts)), (235, oRd ts 235 (mustSpec ts)),
  (178, oRd ts 178 (partSpec ts (sumF ts (fac ts n)) n))]
theorem oNm_cx {ts : List Wd} (hts : ts.length < 1000000) {n : Nat} (h : PartS ts 178 (sumF ts (fac ts n)) n) : Cx (oNm ts n) Tryz.prog envX := ⟨oTab_sound (by
  intro p hp
  simp only [List.mem_cons, List.not_mem_nil, or_false] at hp
  rcases hp with rfl | rfl | rfl | rfl | rfl
  · exact fail_sound ts
  · exact next_sound ts
  · exact takes_sound ts hts
  · exact must_sound ts hts
  · exact h), methXOk, mixed⟩
theorem oNm_O (ts : List Wd) (n : Nat) : NameO (oNm ts n) ts (sumF ts (fac ts n)) n where
  fail := fun a d x p e H ha hd hp he => by rw [← sm_fail p e H ha hd hp he]; simp [oNm, oTab, List.lookup]
  next := fun a d x s H ha hd => by rw [← sm_next s H ha hd]; simp [oNm, oTab, List.lookup]
  takesT := fun a d x s H ha hd hn => by rw [← sm_takes_t s H ha hd hn]; simp [oNm, oTab, List.lookup]
  takesF := fun a d x s H ha hd hn => by rw [← sm_takes_f s H ha hd hn]; simp [oNm, oTab, List.lookup]
  must := fun a d x s H ha hd => by rw [← sm_must s H ha hd]; simp [oNm, oTab, List.lookup]
  sum := fun a d x H ha hd hd2 hm => by rw [← part_at (g := 178) (of := sumF ts (fac ts n)) (n := n) a d x H ha hd hd2 hm]; simp [oNm, oTab, List.lookup]

def nameSpec (ts : List Wd) (n : Nat) (rest : List AV) (r : St) : Option (AV × St) := match rest, r.err, ts[r.at_]? with
  | [], none, some w => if r.deep ≤ 20 ∧ ts.length - r.at_ < n + 1 then some (exAV (nameF ts (sumF ts (fac ts n)) w.text r).1, (nameF ts (sumF ts (fac ts n)) w.text r).2) else none
  | _, _, _ => none
theorem name_sound {ts : List Wd} (hts : ts.length < 1000000) {n : Nat} (h : PartS ts 178 (sumF ts (fac ts n)) n) : Sound Tryz.prog envX (oRd ts 232 (nameSpec ts n)) := oRd_sound fun rest r v r' hs H id hH => by
  unfold nameSpec at hs
  split at hs
  · rename_i w he hw
    split at hs
    · rename_i hc
      injection hs with hs
      simp only [Prod.mk.injEq] at hs
      obtain ⟨rfl, rfl⟩ := hs
      exact name_cs ts hts (oNm_cx hts h) (oNm_O ts n) (sum_up ts n) (sum_deep ts n) (sumF_ok (ts := ts) (fac_ok ts n)).2.1 w r he hw hc.1 hc.2 hH
    · cases hs
  · cases hs

/-- fail, and a part's reader. -/
noncomputable def oFG (ts : List Wd) (g : FuncId) (of : Rd) (n : Nat) : Orc := orElse (oRd ts 181 failSpec) (oRd ts g (partSpec ts of n))
theorem within_of {ts : List Wd} {g : FuncId} {of : Rd} {n : Nat} (h : PartS ts g of n) (hne : g ≠ 181) (hg : goFn Tryz.prog g = true) (hd : ∀ r, (of r).2.deep = r.deep) (p : Nat) (r : St) (hr : r.deep ≤ 20) (hn : ts.length - r.at_ < n) {H : AH} {id : Nat} (hH : H.at id = some (.box (r.cells ts))) :
    CS Tryz.prog envX 234 [.ptr id 0, .int .i64 p, .func (.func g) [.ptr id 0] []] H (exAV (inF p of r).1) (H.set id (some (.box ((inF p of r).2.cells ts)))) := by
  have X : Cx (oFG ts g of n) Tryz.prog envX := ⟨Sound.orElse (fail_sound ts) h, methXOk, mixed⟩
  refine within_cs ts X (fun a d x p e H ha hd hp he => ?_) hg (n := n) (fun a d x H ha hd hd2 hm => ?_) hd p r hr hn hH
  · simp only [oFG, orElse, sm_fail p e H ha hd hp he]
  · have h1 : oRd ts 181 failSpec g [.ptr 0 0] (some (.box [wdsAV ts, .int .i64 a, .int .i64 d, eAV x]) :: H) = none := by simp [oRd, hne]
    simp only [oFG, orElse, h1, part_at (g := g) (of := of) (n := n) a d x H ha hd hd2 hm]

def inSpec (ts : List Wd) (n : Nat) (id : Nat) (rest : List AV) (r : St) : Option (AV × St) := match rest with
  | [.int .i64 p, .func (.func g) [.ptr id' 0] []] =>
    if id' = id ∧ 0 ≤ p ∧ r.deep ≤ 20 ∧ ts.length - r.at_ < n then
      (if g = 224 then some (exAV (inF p.toNat (fac ts n) r).1, (inF p.toNat (fac ts n) r).2)
      else if g = 178 then some (exAV (inF p.toNat (sumF ts (fac ts n)) r).1, (inF p.toNat (sumF ts (fac ts n)) r).2) else none)
    else none
  | _ => none
theorem in_sound {ts : List Wd} {n : Nat} (hf : PartS ts 224 (fac ts n) n) (hs : PartS ts 178 (sumF ts (fac ts n)) n) : Sound Tryz.prog envX (oRdI ts 234 (inSpec ts n)) := oRdI_sound fun id rest r v r' hq H hH => by
  unfold inSpec at hq
  split at hq
  · rename_i p g id'
    split at hq
    · rename_i hc
      obtain ⟨rfl, h1, h2, h3⟩ := hc
      split at hq
      · rename_i hg
        subst hg
        injection hq with hq
        simp only [Prod.mk.injEq] at hq
        obtain ⟨rfl, rfl⟩ := hq
        have := within_of hf (by decide) Tx.go224 (fac_deep ts n) p.toNat r h2 h3 hH
        rwa [Int.toNat_of_nonneg h1] at this
      · split at hq
        · rename_i hg
          subst hg
          injection hq with hq
          simp only [Prod.mk.injEq] at hq
          obtain ⟨rfl, rfl⟩ := hq
          have := within_of hs (by decide) Tx.go178 (sum_deep ts n) p.toNat r h2 h3 hH
          rwa [Int.toNat_of_nonneg h1] at this
        · cases hq
    · cases hq
  · cases hq

noncomputable def oFc (ts : List Wd) (n : Nat) : Orc := oTab [(181, oRd ts 181 failSpec), (233, oRd ts 233 (takesSpec ts)),
  (235, oRd ts 235 (mustSpec ts)), (232, oRd ts 232 (nameSpec ts n)), (234, oRdI ts 234 (inSpec ts n))]
theorem oFc_cx {ts : List Wd} (hts : ts.length < 1000000) {n : Nat} (hf : PartS ts 224 (fac ts n) n) : Cx (oFc ts n) Tryz.prog envX := ⟨oTab_sound (by
  have hs := sum_part hts hf
  intro p hp
  simp only [List.mem_cons, List.not_mem_nil, or_false] at hp
  rcases hp with rfl | rfl | rfl | rfl | rfl
  · exact fail_sound ts
  · exact takes_sound ts hts
  · exact must_sound ts hts
  · exact name_sound hts hs
  · exact in_sound hf hs), methXOk, mixed⟩
theorem oFc_O (ts : List Wd) (n : Nat) : FacO (oFc ts n) ts n where
  fail := fun a d x p e H ha hd hp he => by rw [← sm_fail p e H ha hd hp he]; simp [oFc, oTab, List.lookup]
  takesT := fun a d x s H ha hd hn => by rw [← sm_takes_t s H ha hd hn]; simp [oFc, oTab, List.lookup]
  takesF := fun a d x s H ha hd hn => by rw [← sm_takes_f s H ha hd hn]; simp [oFc, oTab, List.lookup]
  must := fun a d x s H ha hd => by rw [← sm_must s H ha hd]; simp [oFc, oTab, List.lookup]
  name := fun a d w H ha hd hd2 hw hm => by
    have e1 : oFc ts n 232 [.ptr 0 0] (some (.box [wdsAV ts, .int .i64 a, .int .i64 d, eAV none]) :: H) = oRd ts 232 (nameSpec ts n) 232 [.ptr 0 0] (some (.box [wdsAV ts, .int .i64 a, .int .i64 d, eAV none]) :: H) := by simp [oFc, oTab, List.lookup]
    rw [e1, oRd_at (rd_at ha hd)]
    have h1 : d.toNat ≤ 20 := by omega
    simp only [nameSpec, hw, if_pos (And.intro h1 hm), Option.map_some, List.set_cons_zero]
  inFac := fun a d p x H ha hd hd2 hp hm => by
    have e1 : oFc ts n 234 [.ptr 0 0, .int .i64 p, .func (.func 224) [.ptr 0 0] []] (some (.box [wdsAV ts, .int .i64 a, .int .i64 d, eAV x]) :: H) = oRdI ts 234 (inSpec ts n) 234 [.ptr 0 0, .int .i64 p, .func (.func 224) [.ptr 0 0] []] (some (.box [wdsAV ts, .int .i64 a, .int .i64 d, eAV x]) :: H) := by simp [oFc, oTab, List.lookup]
    rw [e1, oRdI_at (rd_at ha hd)]
    have h1 : d.toNat ≤ 20 := by omega
    simp only [inSpec, if_pos (show (True ∧ 0 ≤ p ∧ d.toNat ≤ 20 ∧ ts.length - a.toNat < n) from ⟨trivial, hp, h1, hm⟩), if_true, Option.map_some, List.set_cons_zero]
  inSum := fun a d p x H ha hd hd2 hp hm => by
    have e1 : oFc ts n 234 [.ptr 0 0, .int .i64 p, .func (.func 178) [.ptr 0 0] []] (some (.box [wdsAV ts, .int .i64 a, .int .i64 d, eAV x]) :: H) = oRdI ts 234 (inSpec ts n) 234 [.ptr 0 0, .int .i64 p, .func (.func 178) [.ptr 0 0] []] (some (.box [wdsAV ts, .int .i64 a, .int .i64 d, eAV x]) :: H) := by simp [oFc, oTab, List.lookup]
    rw [e1, oRdI_at (rd_at ha hd)]
    have h1 : d.toNat ≤ 20 := by omega
    have h2 : ¬ (178 = 224) := by decide
    simp only [inSpec, if_pos (show (True ∧ 0 ≤ p ∧ d.toNat ≤ 20 ∧ ts.length - a.toNat < n) from ⟨trivial, hp, h1, hm⟩), if_neg h2, if_true, Option.map_some, List.set_cons_zero]

theorem factor_part {ts : List Wd} (hts : ts.length < 1000000) : ∀ n, PartS ts 224 (fac ts n) n
  | 0 => PartS.mk' fun r _ hn => absurd hn (Nat.not_lt_zero _)
  | n + 1 => PartS.mk' fun r hr hn H id hH => factor_cs ts hts (oFc_cx hts (factor_part hts n)) (oFc_O ts n) r hr hn hH
theorem sums {ts : List Wd} (hts : ts.length < 1000000) : PartS ts 178 (sumAt ts) (ts.length + 1) := sum_part hts (factor_part hts _)

theorem sum_at1 {ts : List Wd} {a d : Int} {x : Option (Nat × Nat)} {e0 : Option Ent} (H : AH) (ha : 0 ≤ a) (hd : 0 ≤ d) (hd2 : d ≤ 20) :
    oRd ts 178 (partSpec ts (sumAt ts) (ts.length + 1)) 178 [.ptr 1 0] (e0 :: some (.box [wdsAV ts, .int .i64 a, .int .i64 d, eAV x]) :: H) =
      some (exAV (sumAt ts ⟨a.toNat, d.toNat, x⟩).1, e0 :: some (.box ((sumAt ts ⟨a.toNat, d.toNat, x⟩).2.cells ts)) :: H) := by
  have h0 : AH.at (e0 :: some (.box [wdsAV ts, .int .i64 a, .int .i64 d, eAV x]) :: H) 1 = some (.box ((⟨a.toNat, d.toNat, x⟩ : St).cells ts)) := by
    simp [AH.at, St.cells, Int.toNat_of_nonneg ha, Int.toNat_of_nonneg hd]
  rw [oRd_at h0]
  have h1 : d.toNat ≤ 20 := by omega
  have h2 : ts.length - a.toNat < ts.length + 1 := by omega
  simp only [partSpec, if_pos (And.intro h1 h2), Option.map_some, List.set_cons_succ, List.set_cons_zero]
@[simp] theorem buRd (ts : List Wd) : abuild Tryz.prog 304 [(0, wdsAV ts)] = some (.agg [wdsAV ts, .int .i64 0, .int .i64 0, .nilIface]) := by
  unfold wdsAV
  split <;> kernel_rfl
theorem eAV_none : eAV none = .nilIface := nrfl rfl
def parseAV (x : Ex × Nat × Option (Nat × Nat)) : AV := .tup [exAV x.1, .int .i64 x.2.1, eAV x.2.2]
theorem parse_cs (ts : List Wd) (hts : ts.length < 1000000) (H : AH) : CS Tryz.prog envX 145 [wdsAV ts] H (parseAV (parseX ts)) H := by
  have X : Cx (oRd ts 178 (partSpec ts (sumAt ts) (ts.length + 1))) Tryz.prog envX := ⟨sums hts, methXOk, mixed⟩
  refine CS.tr0 lowX Tryz.func145 (by kernel_rfl) 0 (by simp [Tryz.f145]) (fun B hB hG => ?_) (by simp [parseAV]) (by simp) H
  refine Tr.goD X hG (by kernel_rfl) ?_
  have h1 := fun H e0 => sum_at1 (ts := ts) (a := 0) (d := 0) (x := none) (e0 := e0) H (by omega) (by omega) (by omega)
  simp only [parseX]
  simp [St.cells, eAV_none] at h1
  generalize sumAt ts ⟨0, 0, none⟩ = p at *
  obtain ⟨e, ⟨b, d, x⟩⟩ := p
  simp only at h1
  cases x with
  | none =>
    simp [Tryz.f145, h1]
    refine LpD.turns X hG [5] [(1, 5), (2, 5), (3, 5), (4, 5)] (by kernel_rfl) ?_
    simp [parseAV, eAV_none]
  | some y =>
    simp [Tryz.f145, h1]
    refine LpD.turns X hG [5] [(1, 5), (2, 5), (3, 5), (4, 5)] (by kernel_rfl) ?_
    simp [parseAV]
end Go.Proofs.YtejjlojfgcgopaaGreatDoor
