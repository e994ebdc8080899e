/- The program's reader of expressions: factor, and so all part .. Trees of the program's and of the reference's: Of, Same, To. -/
import Derived.Test.YtejjlojfgcgopaaGreatDoorZ12
import Derived.Test.YtejjlojfgcgopaaGreatDoorZ11
import Derived.Test.YtejjlojfgcgopaaGreatDoorZ7
import Derived.Test.YtejjlojfgcgopaaGreatDoorZ5
import Derived.Shelf.Strings.OnBuilder
set_option linter.unusedSimpArgs false
set_option linter.unusedVariables false
namespace Go.Proofs.YtejjlojfgcgopaaGreatDoor
open Go.RowKit Go.Proofs.Fw
set_option maxRecDepth 100000
set_option maxHeartbeats 4000000
structure FacO (O : Orc) (ts : List Wd) (n : Nat) : Prop where
  fail : ∀ (a d : Int) (x : Option (Nat × Nat)) (p e : Int) (H : AH), 0 ≤ a → 0 ≤ d → 0 ≤ p → 0 ≤ e → O 181 [.ptr 0 0, .int .i64 p, .int .i64 e] (some (.box [wdsAV ts, .int .i64 a, .int .i64 d, eAV x]) :: H) =
    some (.tup [], some (.box [wdsAV ts, .int .i64 a, .int .i64 d, eAV (some (x.getD (p.toNat, e.toNat)))]) :: H)
  takesT : ∀ (a d : Int) (x : Option (Nat × Nat)) (s : List UInt8) (H : AH), 0 ≤ a → 0 ≤ d → nextB ts ⟨a.toNat, d.toNat, x⟩ s = true →
    O 233 [.ptr 0 0, .str s] (some (.box [wdsAV ts, .int .i64 a, .int .i64 d, eAV x]) :: H) = some (.bool true, some (.box [wdsAV ts, .int .i64 (a + 1), .int .i64 d, eAV x]) :: H)
  takesF : ∀ (a d : Int) (x : Option (Nat × Nat)) (s : List UInt8) (H : AH), 0 ≤ a → 0 ≤ d → nextB ts ⟨a.toNat, d.toNat, x⟩ s = false →
    O 233 [.ptr 0 0, .str s] (some (.box [wdsAV ts, .int .i64 a, .int .i64 d, eAV x]) :: H) = some (.bool false, some (.box [wdsAV ts, .int .i64 a, .int .i64 d, eAV x]) :: H)
  must : ∀ (a d : Int) (x : Option (Nat × Nat)) (s : List UInt8) (H : AH), 0 ≤ a → 0 ≤ d → O 235 [.ptr 0 0, .str s] (some (.box [wdsAV ts, .int .i64 a, .int .i64 d, eAV x]) :: H) =
    some (.tup [], some (.box ((mustS ts ⟨a.toNat, d.toNat, x⟩ s).cells ts)) :: H)
  name : ∀ (a d : Int) (w : Wd) (H : AH), 0 ≤ a → 0 ≤ d → d ≤ 20 → ts[a.toNat]? = some w → ts.length - a.toNat < n + 1 → O 232 [.ptr 0 0] (some (.box [wdsAV ts, .int .i64 a, .int .i64 d, eAV none]) :: H) =
    some (exAV (nameF ts (sumF ts (fac ts n)) w.text ⟨a.toNat, d.toNat, none⟩).1, some (.box ((nameF ts (sumF ts (fac ts n)) w.text ⟨a.toNat, d.toNat, none⟩).2.cells ts)) :: H)
  inFac : ∀ (a d p : Int) (x : Option (Nat × Nat)) (H : AH), 0 ≤ a → 0 ≤ d → d ≤ 20 → 0 ≤ p → ts.length - a.toNat < n → O 234 [.ptr 0 0, .int .i64 p, .func (.func 224) [.ptr 0 0] []] (some (.box [wdsAV ts, .int .i64 a, .int .i64 d, eAV x]) :: H) =
    some (exAV (inF p.toNat (fac ts n) ⟨a.toNat, d.toNat, x⟩).1, some (.box ((inF p.toNat (fac ts n) ⟨a.toNat, d.toNat, x⟩).2.cells ts)) :: H)
  inSum : ∀ (a d p : Int) (x : Option (Nat × Nat)) (H : AH), 0 ≤ a → 0 ≤ d → d ≤ 20 → 0 ≤ p → ts.length - a.toNat < n → O 234 [.ptr 0 0, .int .i64 p, .func (.func 178) [.ptr 0 0] []] (some (.box [wdsAV ts, .int .i64 a, .int .i64 d, eAV x]) :: H) =
    some (exAV (inF p.toNat (sumF ts (fac ts n)) ⟨a.toNat, d.toNat, x⟩).1, some (.box ((inF p.toNat (sumF ts (fac ts n)) ⟨a.toNat, d.toNat, x⟩).2.cells ts)) :: H)
theorem factor_cs (ts : List Wd) (hts : ts.length < 1000000) {n : Nat} {O : Orc} (X : Cx O Tryz.prog envX) (hO : FacO O ts n) (r : St) (hr : r.deep ≤ 20) (hn : ts.length - r.at_ < n + 1) {H : AH} {id : Nat} (hH : H.at id = some (.box (r.cells ts))) :
    CS Tryz.prog envX 224 [.ptr id 0] H (exAV (fac ts (n + 1) r).1) (H.set id (some (.box ((fac ts (n + 1) r).2.cells ts)))) := by
  refine CS.rd lowX Tryz.func224 (by kernel_rfl) 0 (by simp [Tryz.f224]) (fun B hB hG => ?_) rfl (by simp) (St.cells_low ts r) (St.cells_low ts _) hH
  obtain ⟨a, d, x⟩ := r
  simp only at hr hn
  have hr' : (d : Int) ≤ 20 := by omega
  have hfac : fac ts (n + 1) ⟨a, d, x⟩ = facF ts (sumF ts (fac ts n)) (fac ts n) ⟨a, d, x⟩ := rfl
  rw [hfac]
  have hfl := fun H => hO.fail a d x a 2 H (by omega) (by omega) (by omega) (by omega)
  simp at hfl
  refine Tr.goD X hG (by kernel_rfl) ?_
  simp [Tryz.f224, St.cells]
  refine LpD.turns X hG [] [] (by kernel_rfl) ?_
  cases x with
  | some y =>
    have h1 : facF ts (sumF ts (fac ts n)) (fac ts n) ⟨a, d, some y⟩ = (.none, ⟨a, d, some y⟩) := by simp [facF, St.fail]
    simp [h1, hfl]
  | none =>
    by_cases hl : a < ts.length
    · have hl' : (a : Int) < ts.length := by omega
      have hl2 : ¬ ((ts.length : Int) ≤ a) := by omega
      obtain ⟨w, hw⟩ : ∃ w, ts[a]? = some w := ⟨_, List.getElem?_eq_getElem hl⟩
      obtain ⟨c0, c1, c3⟩ := cellX hw
      obtain ⟨cc1, cc2⟩ := cells_atX ts a w hw
      have w1 : IntKind.i64.wrap ((a : Int) + 1) = (a : Int) + 1 := wrap_i64 (by omega) (by omega)
      simp [hl, hl', hl2]
      refine LpD.turns X hG [14, 16] [(0, 14), (1, 14), (2, 14), (3, 14), (4, 14), (5, 14), (6, 14), (7, 14), (8, 14), (9, 14), (10, 14), (11, 14), (12, 14), (13, 14)] (by kernel_rfl) ?_
      simp [hl, hl', cc1, cc2, wdCells]
      by_cases hk2 : w.kind = 2
      · have e2 : (w.kind : Int) = 2 := by omega
        have h1 : facF ts (sumF ts (fac ts n)) (fac ts n) ⟨a, d, none⟩ = (.num w.n, ⟨a + 1, d, none⟩) := by simp only [facF, hw, hk2]; rfl
        simp [e2, w1, h1]
      · have e2 : ¬ (w.kind : Int) = 2 := by omega
        have b2 : (w.kind == 2) = false := by rw [beq_eq_false_iff_ne]; exact hk2
        by_cases hk1 : w.kind = 1
        · have e1 : (w.kind : Int) = 1 := by omega
          have h1 : facF ts (sumF ts (fac ts n)) (fac ts n) ⟨a, d, none⟩ = nameF ts (sumF ts (fac ts n)) w.text ⟨a, d, none⟩ := by simp only [facF, hw, hk1]; rfl
          have hnm := fun H => hO.name a d w H (by omega) (by omega) hr' (by simpa using hw) (by simpa using hn)
          simp [St.cells] at hnm
          simp [e1, hnm, h1]
        · have e1 : ¬ (w.kind : Int) = 1 := by omega
          have b1 : (w.kind == 1) = false := by rw [beq_eq_false_iff_ne]; exact hk1
          have nx : ∀ s, nextB ts ⟨a, d, none⟩ s = isS ts a s := fun s => by simp [nextB]
          have hm1 : ts.length - (a + 1) < n := by omega
          have h0 : 0 ≤ (a : Int) + 1 := by omega
          cases hmi : isS ts a minusT with
          | true =>
            have h1 : facF ts (sumF ts (fac ts n)) (fac ts n) ⟨a, d, none⟩ = (.neg (inF a (fac ts n) ⟨a + 1, d, none⟩).1, (inF a (fac ts n) ⟨a + 1, d, none⟩).2) := by simp only [facF, hw, b2, b1, hmi]; rfl
            have ht := fun H => hO.takesT a d none minusT H (by omega) (by omega) (by simp [nx, hmi])
            have hi := fun H => hO.inFac ((a : Int) + 1) d a none H h0 (by omega) hr' (by omega) (by simpa using hm1)
            simp [minusT] at ht
            simp [St.cells] at hi
            simp [e2, e1, ht, hi, h1]
          | false =>
            have ht := fun H => hO.takesF a d none minusT H (by omega) (by omega) (by simp [nx, hmi])
            simp [minusT] at ht
            cases hop : isS ts a openT with
            | true =>
              have h1 : facF ts (sumF ts (fac ts n)) (fac ts n) ⟨a, d, none⟩ = ((inF a (sumF ts (fac ts n)) ⟨a + 1, d, none⟩).1, mustS ts (inF a (sumF ts (fac ts n)) ⟨a + 1, d, none⟩).2 shutT) := by simp only [facF, hw, b2, b1, hmi, hop]; rfl
              have ht2 := fun H => hO.takesT a d none openT H (by omega) (by omega) (by simp [nx, hop])
              have hi := fun H => hO.inSum ((a : Int) + 1) d a none H h0 (by omega) hr' (by omega) (by simpa using hm1)
              simp [openT] at ht2
              simp [St.cells] at hi
              rw [h1]
              generalize inF a (sumF ts (fac ts n)) ⟨a + 1, d, none⟩ = p at *
              obtain ⟨e, ⟨a2, d2, x2⟩⟩ := p
              have hmu := fun H => hO.must a2 d2 x2 shutT H (by omega) (by omega)
              simp [shutT, St.cells] at hmu
              simp only at hi
              simp [e2, e1, ht, ht2, hi, hmu, shutT]
            | false =>
              have h1 : facF ts (sumF ts (fac ts n)) (fac ts n) ⟨a, d, none⟩ = (.none, ⟨a, d, some (a, 2)⟩) := by simp only [facF, hw, b2, b1, hmi, hop]; rfl
              have ht2 := fun H => hO.takesF a d none openT H (by omega) (by omega) (by simp [nx, hop])
              simp [openT] at ht2
              simp [e2, e1, ht, ht2, hfl, h1]
    · have hw : ts[a]? = none := List.getElem?_eq_none (by omega)
      have hl' : ¬ (a : Int) < ts.length := by omega
      have hl2 : ((ts.length : Int) ≤ a) := by omega
      have h1 : facF ts (sumF ts (fac ts n)) (fac ts n) ⟨a, d, none⟩ = (.none, ⟨a, d, some (a, 2)⟩) := by simp only [facF, hw]; rfl
      simp [h1, hfl, hl', hl2]
end Go.Proofs.YtejjlojfgcgopaaGreatDoor
namespace Go.Proofs.YtejjlojfgcgopaaGreatDoor
open Go.RowKit Go.Proofs.Fw
set_option maxRecDepth 100000
set_option maxHeartbeats 4000000
theorem sm_must {ts : List Wd} {a d : Int} {x : Option (Nat × Nat)} (s : List UInt8) (H : AH) (ha : 0 ≤ a) (hd : 0 ≤ d) :
    oRd ts 235 (mustSpec ts) 235 [.ptr 0 0, .str s] (some (.box [wdsAV ts, .int .i64 a, .int .i64 d, eAV x]) :: H) = some (.tup [], some (.box ((mustS ts ⟨a.toNat, d.toNat, x⟩ s).cells ts)) :: H) := by
  rw [oRd_at (rd_at ha hd)]
  simp [mustSpec]
noncomputable def oNm (ts : List Wd) (n : Nat) : Orc := oTab [(181, oRd ts 181 failSpec), (180, oRd ts 180 (nextSpec ts)),
  (233, oRd ts 233 (takesSpec ts)), (235, oRd ts 235 (mustSpec ts)),
  (178, oRd ts 178 (partSpec ts (sumF ts (fac ts n)) n))]
theorem oNm_cx {ts : List Wd} (hts : ts.length < 1000000) {n : Nat} (h : PartS ts 178 (sumF ts (fac ts n)) n) : Cx (oNm ts n) Tryz.prog envX := ⟨oTab_sound (by
  intro p hp
  simp only [List.mem_cons, List.not_mem_nil, or_false] at hp
  rcases hp with rfl | rfl | rfl | rfl | rfl
  · exact fail_sound ts
  · exact next_sound ts
  · exact takes_sound ts hts
  · exact must_sound ts hts
  · exact h), methXOk, mixed⟩
theorem oNm_O (ts : List Wd) (n : Nat) : NameO (oNm ts n) ts (sumF ts (fac ts n)) n where
  fail := fun a d x p e H ha hd hp he => by rw [← sm_fail p e H ha hd hp he]; simp [oNm, oTab, List.lookup]
  next := fun a d x s H ha hd => by rw [← sm_next s H ha hd]; simp [oNm, oTab, List.lookup]
  takesT := fun a d x s H ha hd hn => by rw [← sm_takes_t s H ha hd hn]; simp [oNm, oTab, List.lookup]
  takesF := fun a d x s H ha hd hn => by rw [← sm_takes_f s H ha hd hn]; simp [oNm, oTab, List.lookup]
  must := fun a d x s H ha hd => by rw [← sm_must s H ha hd]; simp [oNm, oTab, List.lookup]
  sum := fun a d x H ha hd hd2 hm => by rw [← part_at (g := 178) (of := sumF ts (fac ts n)) (n := n) a d x H ha hd hd2 hm]; simp [oNm, oTab, List.lookup]
def nameSpec (ts : List Wd) (n : Nat) (rest : List AV) (r : St) : Option (AV × St) := match rest, r.err, ts[r.at_]? with
  | [], none, some w => if r.deep ≤ 20 ∧ ts.length - r.at_ < n + 1 then some (exAV (nameF ts (sumF ts (fac ts n)) w.text r).1, (nameF ts (sumF ts (fac ts n)) w.text r).2) else none
  | _, _, _ => none
theorem name_sound {ts : List Wd} (hts : ts.length < 1000000) {n : Nat} (h : PartS ts 178 (sumF ts (fac ts n)) n) : Sound Tryz.prog envX (oRd ts 232 (nameSpec ts n)) := oRd_sound fun rest r v r' hs H id hH => by
  unfold nameSpec at hs
  split at hs
  · rename_i w he hw
    split at hs
    · rename_i hc
      injection hs with hs
      simp only [Prod.mk.injEq] at hs
      obtain ⟨rfl, rfl⟩ := hs
      exact name_cs ts hts (oNm_cx hts h) (oNm_O ts n) (sum_up ts n) (sum_deep ts n) (sumF_ok (ts := ts) (fac_ok ts n)).2.1 w r he hw hc.1 hc.2 hH
    · cases hs
  · cases hs
noncomputable def oFG (ts : List Wd) (g : FuncId) (of : Rd) (n : Nat) : Orc := orElse (oRd ts 181 failSpec) (oRd ts g (partSpec ts of n))
theorem within_of {ts : List Wd} {g : FuncId} {of : Rd} {n : Nat} (h : PartS ts g of n) (hne : g ≠ 181) (hg : goFn Tryz.prog g = true) (hd : ∀ r, (of r).2.deep = r.deep) (p : Nat) (r : St) (hr : r.deep ≤ 20) (hn : ts.length - r.at_ < n) {H : AH} {id : Nat} (hH : H.at id = some (.box (r.cells ts))) :
    CS Tryz.prog envX 234 [.ptr id 0, .int .i64 p, .func (.func g) [.ptr id 0] []] H (exAV (inF p of r).1) (H.set id (some (.box ((inF p of r).2.cells ts)))) := by
  have X : Cx (oFG ts g of n) Tryz.prog envX := ⟨Sound.orElse (fail_sound ts) h, methXOk, mixed⟩
  refine within_cs ts X (fun a d x p e H ha hd hp he => ?_) hg (n := n) (fun a d x H ha hd hd2 hm => ?_) hd p r hr hn hH
  · simp only [oFG, orElse, sm_fail p e H ha hd hp he]
  · have h1 : oRd ts 181 failSpec g [.ptr 0 0] (some (.box [wdsAV ts, .int .i64 a, .int .i64 d, eAV x]) :: H) = none := by simp [oRd, hne]
    simp only [oFG, orElse, h1, part_at (g := g) (of := of) (n := n) a d x H ha hd hd2 hm]
def inSpec (ts : List Wd) (n : Nat) (id : Nat) (rest : List AV) (r : St) : Option (AV × St) := match rest with
  | [.int .i64 p, .func (.func g) [.ptr id' 0] []] =>
    if id' = id ∧ 0 ≤ p ∧ r.deep ≤ 20 ∧ ts.length - r.at_ < n then
      (if g = 224 then some (exAV (inF p.toNat (fac ts n) r).1, (inF p.toNat (fac ts n) r).2)
      else if g = 178 then some (exAV (inF p.toNat (sumF ts (fac ts n)) r).1, (inF p.toNat (sumF ts (fac ts n)) r).2) else none)
    else none
  | _ => none
theorem in_sound {ts : List Wd} {n : Nat} (hf : PartS ts 224 (fac ts n) n) (hs : PartS ts 178 (sumF ts (fac ts n)) n) : Sound Tryz.prog envX (oRdI ts 234 (inSpec ts n)) := oRdI_sound fun id rest r v r' hq H hH => by
  unfold inSpec at hq
  split at hq
  · rename_i p g id'
    split at hq
    · rename_i hc
      obtain ⟨rfl, h1, h2, h3⟩ := hc
      split at hq
      · rename_i hg
        subst hg
        injection hq with hq
        simp only [Prod.mk.injEq] at hq
        obtain ⟨rfl, rfl⟩ := hq
        have := within_of hf (by decide) Tx.go224 (fac_deep ts n) p.toNat r h2 h3 hH
        rwa [Int.toNat_of_nonneg h1] at this
      · split at hq
        · rename_i hg
          subst hg
          injection hq with hq
          simp only [Prod.mk.injEq] at hq
          obtain ⟨rfl, rfl⟩ := hq
          have := within_of hs (by decide) Tx.go178 (sum_deep ts n) p.toNat r h2 h3 hH
          rwa [Int.toNat_of_nonneg h1] at this
        · cases hq
    · cases hq
  · cases hq
noncomputable def oFc (ts : List Wd) (n : Nat) : Orc := oTab [(181, oRd ts 181 failSpec), (233, oRd ts 233 (takesSpec ts)),
  (235, oRd ts 235 (mustSpec ts)), (232, oRd ts 232 (nameSpec ts n)), (234, oRdI ts 234 (inSpec ts n))]
theorem oFc_cx {ts : List Wd} (hts : ts.length < 1000000) {n : Nat} (hf : PartS ts 224 (fac ts n) n) : Cx (oFc ts n) Tryz.prog envX := ⟨oTab_sound (by
  have hs := sum_part hts hf
  intro p hp
  simp only [List.mem_cons, List.not_mem_nil, or_false] at hp
  rcases hp with rfl | rfl | rfl | rfl | rfl
  · exact fail_sound ts
  · exact takes_sound ts hts
  · exact must_sound ts hts
  · exact name_sound hts hs
  · exact in_sound hf hs), methXOk, mixed⟩
theorem oFc_O (ts : List Wd) (n : Nat) : FacO (oFc ts n) ts n where
  fail := fun a d x p e H ha hd hp he => by rw [← sm_fail p e H ha hd hp he]; simp [oFc, oTab, List.lookup]
  takesT := fun a d x s H ha hd hn => by rw [← sm_takes_t s H ha hd hn]; simp [oFc, oTab, List.lookup]
  takesF := fun a d x s H ha hd hn => by rw [← sm_takes_f s H ha hd hn]; simp [oFc, oTab, List.lookup]
  must := fun a d x s H ha hd => by rw [← sm_must s H ha hd]; simp [oFc, oTab, List.lookup]
  name := fun a d w H ha hd hd2 hw hm => by
    have e1 : oFc ts n 232 [.ptr 0 0] (some (.box [wdsAV ts, .int .i64 a, .int .i64 d, eAV none]) :: H) = oRd ts 232 (nameSpec ts n) 232 [.ptr 0 0] (some (.box [wdsAV ts, .int .i64 a, .int .i64 d, eAV none]) :: H) := by simp [oFc, oTab, List.lookup]
    rw [e1, oRd_at (rd_at ha hd)]
    have h1 : d.toNat ≤ 20 := by omega
    simp only [nameSpec, hw, if_pos (And.intro h1 hm), Option.map_some, List.set_cons_zero]
  inFac := fun a d p x H ha hd hd2 hp hm => by
    have e1 : oFc ts n 234 [.ptr 0 0, .int .i64 p, .func (.func 224) [.ptr 0 0] []] (some (.box [wdsAV ts, .int .i64 a, .int .i64 d, eAV x]) :: H) = oRdI ts 234 (inSpec ts n) 234 [.ptr 0 0, .int .i64 p, .func (.func 224) [.ptr 0 0] []] (some (.box [wdsAV ts, .int .i64 a, .int .i64 d, eAV x]) :: H) := by simp [oFc, oTab, List.lookup]
    rw [e1, oRdI_at (rd_at ha hd)]
    have h1 : d.toNat ≤ 20 := by omega
    simp only [inSpec, if_pos (show (True ∧ 0 ≤ p ∧ d.toNat ≤ 20 ∧ ts.length - a.toNat < n) from ⟨trivial, hp, h1, hm⟩), if_true, Option.map_some, List.set_cons_zero]
  inSum := fun a d p x H ha hd hd2 hp hm => by
    have e1 : oFc ts n 234 [.ptr 0 0, .int .i64 p, .func (.func 178) [.ptr 0 0] []] (some (.box [wdsAV ts, .int .i64 a, .int .i64 d, eAV x]) :: H) = oRdI ts 234 (inSpec ts n) 234 [.ptr 0 0, .int .i64 p, .func (.func 178) [.ptr 0 0] []] (some (.box [wdsAV ts, .int .i64 a, .int .i64 d, eAV x]) :: H) := by simp [oFc, oTab, List.lookup]
    rw [e1, oRdI_at (rd_at ha hd)]
    have h1 : d.toNat ≤ 20 := by omega
    have h2 : ¬ (178 = 224) := by decide
    simp only [inSpec, if_pos (show (True ∧ 0 ≤ p ∧ d.toNat ≤ 20 ∧ ts.length - a.toNat < n) from ⟨trivial, hp, h1, hm⟩), if_neg h2, if_true, Option.map_some, List.set_cons_zero]
theorem factor_part {ts : List Wd} (hts : ts.length < 1000000) : ∀ n, PartS ts 224 (fac ts n) n
  | 0 => PartS.mk' fun r _ hn => absurd hn (Nat.not_lt_zero _)
  | n + 1 => PartS.mk' fun r hr hn H id hH => factor_cs ts hts (oFc_cx hts (factor_part hts n)) (oFc_O ts n) r hr hn hH
theorem sums {ts : List Wd} (hts : ts.length < 1000000) : PartS ts 178 (sumAt ts) (ts.length + 1) := sum_part hts (factor_part hts _)
theorem sum_at1 {ts : List Wd} {a d : Int} {x : Option (Nat × Nat)} {e0 : Option Ent} (H : AH) (ha : 0 ≤ a) (hd : 0 ≤ d) (hd2 : d ≤ 20) :
    oRd ts 178 (partSpec ts (sumAt ts) (ts.length + 1)) 178 [.ptr 1 0] (e0 :: some (.box [wdsAV ts, .int .i64 a, .int .i64 d, eAV x]) :: H) =
      some (exAV (sumAt ts ⟨a.toNat, d.toNat, x⟩).1, e0 :: some (.box ((sumAt ts ⟨a.toNat, d.toNat, x⟩).2.cells ts)) :: H) := by
  have h0 : AH.at (e0 :: some (.box [wdsAV ts, .int .i64 a, .int .i64 d, eAV x]) :: H) 1 = some (.box ((⟨a.toNat, d.toNat, x⟩ : St).cells ts)) := by
    simp [AH.at, St.cells, Int.toNat_of_nonneg ha, Int.toNat_of_nonneg hd]
  rw [oRd_at h0]
  have h1 : d.toNat ≤ 20 := by omega
  have h2 : ts.length - a.toNat < ts.length + 1 := by omega
  simp only [partSpec, if_pos (And.intro h1 h2), Option.map_some, List.set_cons_succ, List.set_cons_zero]
@[simp] theorem buRd (ts : List Wd) : abuild Tryz.prog 304 [(0, wdsAV ts)] = some (.agg [wdsAV ts, .int .i64 0, .int .i64 0, .nilIface]) := by
  unfold wdsAV
  split <;> kernel_rfl
theorem eAV_none : eAV none = .nilIface := nrfl rfl
def parseAV (x : Ex × Nat × Option (Nat × Nat)) : AV := .tup [exAV x.1, .int .i64 x.2.1, eAV x.2.2]
theorem parse_cs (ts : List Wd) (hts : ts.length < 1000000) (H : AH) : CS Tryz.prog envX 145 [wdsAV ts] H (parseAV (parseX ts)) H := by
  have X : Cx (oRd ts 178 (partSpec ts (sumAt ts) (ts.length + 1))) Tryz.prog envX := ⟨sums hts, methXOk, mixed⟩
  refine CS.tr0 lowX Tryz.func145 (by kernel_rfl) 0 (by simp [Tryz.f145]) (fun B hB hG => ?_) (by simp [parseAV]) (by simp) H
  refine Tr.goD X hG (by kernel_rfl) ?_
  have h1 := fun H e0 => sum_at1 (ts := ts) (a := 0) (d := 0) (x := none) (e0 := e0) H (by omega) (by omega) (by omega)
  simp only [parseX]
  simp [St.cells, eAV_none] at h1
  generalize sumAt ts ⟨0, 0, none⟩ = p at *
  obtain ⟨e, ⟨b, d, x⟩⟩ := p
  simp only at h1
  cases x with
  | none =>
    simp [Tryz.f145, h1]
    refine LpD.turns X hG [5] [(1, 5), (2, 5), (3, 5), (4, 5)] (by kernel_rfl) ?_
    simp [parseAV, eAV_none]
  | some y =>
    simp [Tryz.f145, h1]
    refine LpD.turns X hG [5] [(1, 5), (2, 5), (3, 5), (4, 5)] (by kernel_rfl) ?_
    simp [parseAV]
end Go.Proofs.YtejjlojfgcgopaaGreatDoor

namespace Go.Proofs.YtejjlojfgcgopaaGreatDoor
open Go.RowKit Go.Proofs.Fw
set_option maxRecDepth 100000
set_option maxHeartbeats 4000000
theorem cxN : Cx oNil Tryz.prog envT := ⟨oNil_sound, methT, mixed⟩
theorem rat_cs (w : List UInt8) (p e : Int) (H : AH) : CS Tryz.prog envT 24 [.str w, .int .i64 p, .int .i64 e] H (.agg [.slice .full 2 1 [.str w, .int .i64 p], .int .i64 e]) H := by
  have b1 : abuild Tryz.prog 158 [(0, .str w), (1, .int .i64 p)] = some (.agg [.str w, .int .i64 p]) := by kernel_rfl
  have b2 : abuildSlice Tryz.prog 55 1 [(0, .agg [.str w, .int .i64 p])] = some (.slice .full 2 1 [.str w, .int .i64 p]) := by kernel_rfl
  have b3 : abuild Tryz.prog 57 [(0, .slice .full 2 1 [.str w, .int .i64 p]), (1, .int .i64 e)] = some (.agg [.slice .full 2 1 [.str w, .int .i64 p], .int .i64 e]) := by kernel_rfl
  refine CS.run0 cxN lowT Tryz.func24 (by kernel_rfl) (by kernel_rfl) 0 (by simp [Tryz.f24]) ?_ rfl rfl H
  simp [Tryz.f24, b1, b2, b3]
end Go.Proofs.YtejjlojfgcgopaaGreatDoor
namespace Go.Proofs.YtejjlojfgcgopaaGreatDoor
open Go.RowKit Go.Proofs.Fw
set_option maxRecDepth 100000
set_option maxHeartbeats 4000000
end Go.Proofs.YtejjlojfgcgopaaGreatDoor
namespace Go.Proofs.YtejjlojfgcgopaaGreatDoor
open Go.RowKit Go.Proofs.Fw
set_option maxRecDepth 100000
set_option maxHeartbeats 4000000
noncomputable def cN : Code := bodyOf Tryz.f65
noncomputable def tailN : Code := tailC 2 cN
noncomputable def loopN : Code := fstC tailN
end Go.Proofs.YtejjlojfgcgopaaGreatDoor

namespace Go.Proofs.YtejjlojfgcgopaaGreatDoor
open Go.RowKit Go.Proofs.Fw
set_option maxRecDepth 100000
set_option maxHeartbeats 4000000
noncomputable def c10 : Code := bodyOf Tryz.f20
def oRat : Orc := oPure 24 (fun args => match args with
    | [.str w, .int .i64 p, .int .i64 e] => some (w, p, e)
    | _ => none) fun x => .agg [.slice .full 2 1 [.str x.1, .int .i64 x.2.1], .int .i64 x.2.2]
theorem oRat_sound : Sound Tryz.prog envT oRat := oPure_sound fun args x H h => by
  split at h
  · injection h with h
    subst h
    exact rat_cs _ _ _ H
  · cases h
end Go.Proofs.YtejjlojfgcgopaaGreatDoor

namespace Go.Proofs.YtejjlojfgcgopaaGreatDoor
open Go.RowKit Go.Proofs.Fw
set_option maxRecDepth 100000
set_option maxHeartbeats 4000000
@[simp] theorem immXRR : envX.imm 293 = false := by decide
@[simp] theorem immXRE : envX.imm 42 = true := by decide
@[simp high] theorem alenXR (l : List Wd) : alen Tryz.prog 54 (wdsAV l) = some (.int .i64 l.length) := by
  unfold wdsAV
  split
  · rename_i h; subst h; simp [alen]
  · simp [alen]
theorem oRat_at (w : List UInt8) (p e : Int) (H : AH) : oRat 24 [.str w, .int .i64 p, .int .i64 e] H = some (.agg [.slice .full 2 1 [.str w, .int .i64 p], .int .i64 e], H) := by simp [oRat, oPure]
end Go.Proofs.YtejjlojfgcgopaaGreatDoor
namespace Go.Proofs.YtejjlojfgcgopaaGreatDoor
open Go.RowKit Go.Proofs.Fw
set_option maxRecDepth 100000
set_option maxHeartbeats 4000000
end Go.Proofs.YtejjlojfgcgopaaGreatDoor

namespace Go.Proofs.YtejjlojfgcgopaaGreatDoor
open Go.RowKit Go.Proofs.Fw
set_option maxRecDepth 100000
set_option maxHeartbeats 4000000
theorem CS.weak {P : Program} {E : Env} {f : FuncId} {args : List AV} {H H' : AH} {v v' : AV} (h : CS P E f args H v H') (hw : ∀ g cv, RepV g v cv → RepV g v' cv) : CS P E f args H v' H' := fun g w cargs R hG hA => by
  refine Calls.mono (h g w cargs R hG hA) ?_
  rintro e w' ⟨g', cv, rfl, R', p, hr⟩
  exact ⟨g', cv, rfl, R', p, hw _ _ hr⟩
theorem rep_unk {ow : Own} {sz n : Nat} {cs : List AV} (g : Gh) (cv : Value) (h : RepV g (.slice ow sz n cs) cv) : RepV g (.slice .unk sz n cs) cv := by
  simp only [RepV] at h ⊢
  obtain ⟨b, o, cap, vs, hv, h1, h2, h3, h4, h5⟩ := h
  exact ⟨b, o, cap, vs, hv, h1, h2, h3, h4, trivial⟩
end Go.Proofs.YtejjlojfgcgopaaGreatDoor
namespace Go.Proofs.YtejjlojfgcgopaaGreatDoor
open Go.RowKit Go.Proofs.Fw
set_option maxRecDepth 100000
set_option maxHeartbeats 4000000
end Go.Proofs.YtejjlojfgcgopaaGreatDoor
namespace Go.Proofs.YtejjlojfgcgopaaGreatDoor
open Go.RowKit Go.Proofs.Fw
set_option maxRecDepth 100000
set_option maxHeartbeats 4000000
end Go.Proofs.YtejjlojfgcgopaaGreatDoor

namespace Go.Proofs.YtejjlojfgcgopaaGreatDoor
open Go.RowKit Go.Proofs.Fw
set_option maxRecDepth 100000
set_option maxHeartbeats 4000000
def idxR (p : List UInt8 → Bool) : List (List UInt8) → Nat → Int
  | [], _ => -1
  | s :: l, i => if p s = true then (i : Int) else idxR p l (i + 1)
theorem idxR_neg {p : List UInt8 → Bool} : ∀ (l : List (List UInt8)) (i : Nat), (idxR p l i < 0) ↔ ∀ s ∈ l, p s = false
  | [], i => by simp [idxR]
  | s :: l, i => by
    unfold idxR
    by_cases h : p s = true
    · rw [if_pos h]
      constructor
      · intro hh; omega
      · intro hh
        have := hh s List.mem_cons_self
        rw [h] at this; cases this
    · rw [if_neg h, idxR_neg l (i + 1)]
      simp only [List.mem_cons, forall_eq_or_imp]
      rw [Bool.not_eq_true] at h
      simp [h]
def relsAV : List AV := relTs.map .str
def IdxI (ts : List Wd) (r : St) (res : Int) (k : Nat) (t : List AV) (H : AH) : Prop :=
  ∃ i, i + k = 6 ∧ idxR (nextB ts r) (relTs.drop i) i = res ∧ t = mkT 19 [(0, .slice .full 1 6 relsAV), (1, .func (.func 180) [.ptr 0 0] []), (7, .int .i64 6), (8, .int .i64 (i : Int))] ∧ H = [some (.box (r.cells ts))]
theorem idx_cs (ts : List Wd) (r : St) {H : AH} {id : Nat} (hH : H.at id = some (.box (r.cells ts))) :
    CS Tryz.prog envX 179 [.slice .full 1 6 relsAV, .func (.func 180) [.ptr id 0] []] H (.int .i64 (idxR (nextB ts r) relTs 0)) (H.set id (some (.box (r.cells ts)))) := by
  have X : Cx (oRd ts 180 (nextSpec ts)) Tryz.prog envX := ⟨next_sound ts, methXOk, mixed⟩
  have h0 : CS Tryz.prog envX 179 [.slice .full 1 6 relsAV, .func (.func 180) [.ptr 0 0] []] [some (.box (r.cells ts))] (.int .i64 (idxR (nextB ts r) relTs 0)) [some (.box (r.cells ts))] := by
    refine CS.of_Tr (c := bodyOf Tryz.f179) Tryz.func179 (by kernel_rfl) 0 (by simp [Tryz.f179]) (fun B hB hG => ?_) rfl (by simp [St.cells])
    refine Tr.goD X hG (by kernel_rfl) ?_
    simp [Tryz.f179]
    refine LpD.loopN X hG (by kernel_rfl) (IdxI ts r (idxR (nextB ts r) relTs 0)) 6 (t' := mkT 19 [(0, .slice .full 1 6 relsAV), (1, .func (.func 180) [.ptr 0 0] []), (7, .int .i64 6), (8, .int .i64 ((0 : Nat) : Int))])
      (H' := [some (.box (r.cells ts))]) (Less.mkK 1 (by simp [hB]) (by simp [relsAV, relTs]) (by simp) (by simp [St.cells])) ⟨0, rfl, rfl, rfl, rfl⟩ ?_
    rintro k t H ⟨i, hik, hres, rfl, rfl⟩
    cases k with
    | zero =>
      obtain rfl : i = 6 := by omega
      have : idxR (nextB ts r) (relTs.drop 6) 6 = -1 := rfl
      rw [← hres, this]
      simp [Blk_exit]
    | succ k =>
      have hi : i < 6 := by omega
      have hi' : (i : Int) < 6 := by omega
      have hl : relTs.length = 6 := rfl
      have hd : relTs.drop i = relTs[i]'(by omega) :: relTs.drop (i + 1) := List.drop_eq_getElem_cons (by omega)
      have hg : relsAV[i]? = some (.str (relTs[i]'(by omega))) := by
        unfold relsAV
        rw [List.getElem?_map, List.getElem?_eq_getElem (by omega : i < relTs.length)]
        rfl
      have hnx := fun H => sm_next (ts := ts) (a := r.at_) (d := r.deep) (x := r.err) (relTs[i]'(by omega)) H (by omega) (by omega)
      simp only [Int.toNat_natCast] at hnx
      have w1 : IntKind.i64.wrap ((i : Int) + 1) = (i : Int) + 1 := wrap_i64 (by omega) (by omega)
      rw [hd, idxR] at hres
      generalize relTs[i]'(by omega) = s at *
      cases hn : nextB ts r s with
      | true =>
        rw [hn] at hres
        simp only [if_true] at hres
        have hn' : nextB ts ⟨r.at_, r.deep, r.err⟩ s = true := hn
        rw [← hres]
        simp [hi, hi', hg, St.cells, hnx, hn']
      | false =>
        rw [hn] at hres
        simp only [Bool.false_eq_true, if_false] at hres
        have hn' : nextB ts ⟨r.at_, r.deep, r.err⟩ s = false := hn
        simp [hi, hi', hg, St.cells, hnx, hn', w1]
        exact Nxt.mk k (by omega) (Less.mkK 1 (l' := [(0, .slice .full 1 6 relsAV), (1, .func (.func 180) [.ptr 0 0] []), (7, .int .i64 6), (8, .int .i64 ((i + 1 : Nat) : Int))]) (H' := [some (.box (r.cells ts))]) (by simp [hB]) (by simp [relsAV, relTs]) (by simp [St.cells]) (by simp [St.cells])) ⟨i + 1, by omega, hres, rfl, rfl⟩
  have := CS.embed (k := 1) (fun _ => id) (H := H) (H' := H.set id (some (.box (r.cells ts)))) h0 rfl rfl (ren_one id) lowX (by simp [relsAV, relTs]) rfl (by simp [St.cells]) (by simp [St.cells])
    (fun i hi => by
      obtain rfl : i = 0 := by omega
      simp [AH.at, renE, renL_low _ (r.cells ts) (St.cells_low ts r)]
      exact hH)
    (fun i hi => by
      obtain rfl : i = 0 := by omega
      rw [at_set_self hH]
      simp [AH.at, renE, renL_low _ (r.cells ts) (St.cells_low ts r)])
    (fun j hj => at_set_ne (hj 0 (by omega)))
  simpa [renL, ren, relsAV, relTs] using this
open Classical in
noncomputable def oIx (ts : List Wd) : Orc := fun f args H => if f = 179 then (match args with
  | [.slice .full 1 6 l, .func (.func g) [.ptr id 0] []] => if h : l = relsAV ∧ g = 180 ∧ ∃ r : St, H.at id = some (.box (r.cells ts)) then some (.int .i64 (idxR (nextB ts h.2.2.choose) relTs 0), H.set id (some (.box (h.2.2.choose.cells ts)))) else none
  | _ => none) else none
theorem oIx_at {ts : List Wd} {id : Nat} {H : AH} {r : St} (h : H.at id = some (.box (r.cells ts))) :
    oIx ts 179 [.slice .full 1 6 relsAV, .func (.func 180) [.ptr id 0] []] H = some (.int .i64 (idxR (nextB ts r) relTs 0), H.set id (some (.box (r.cells ts)))) := by
  have hx : ∃ r : St, H.at id = some (.box (r.cells ts)) := ⟨r, h⟩
  have hh : relsAV = relsAV ∧ 180 = 180 ∧ ∃ r : St, H.at id = some (.box (r.cells ts)) := ⟨rfl, rfl, hx⟩
  have hc := h.symm.trans hh.2.2.choose_spec
  simp only [Option.some.injEq, Ent.box.injEq] at hc
  have he : hh.2.2.choose = r := (St.cells_inj hc).symm
  simp only [oIx, if_true, dif_pos hh]
  rw [he]
theorem oIx_sound (ts : List Wd) : Sound Tryz.prog envX (oIx ts) := by
  intro f args H v H' ho
  unfold oIx at ho
  split at ho
  · rename_i hf
    subst hf
    split at ho
    · split at ho
      · rename_i l g id hx
        injection ho with ho
        simp only [Prod.mk.injEq] at ho
        obtain ⟨rfl, rfl⟩ := ho
        have hs := hx.2.2.choose_spec
        obtain ⟨rfl, rfl, _⟩ := hx
        exact ⟨idx_cs ts _ hs, by simp, fun j _ hj => at_set_noneX hs hj⟩
      · cases ho
    · cases ho
  · cases ho
theorem rd_at1 {ts : List Wd} {a d : Int} {x : Option (Nat × Nat)} {e0 : Option Ent} {H : AH} (ha : 0 ≤ a) (hd : 0 ≤ d) : AH.at (e0 :: some (.box [wdsAV ts, .int .i64 a, .int .i64 d, eAV x]) :: H) 1 = some (.box ((⟨a.toNat, d.toNat, x⟩ : St).cells ts)) := by
  simp [AH.at, St.cells, Int.toNat_of_nonneg ha, Int.toNat_of_nonneg hd]
noncomputable def oPC (ts : List Wd) : Orc := oTab [(178, oRd ts 178 (partSpec ts (sumAt ts) (ts.length + 1))), (179, oIx ts), (181, oRd ts 181 failSpec)]
theorem oPC_cx {ts : List Wd} (hts : ts.length < 1000000) : Cx (oPC ts) Tryz.prog envX := ⟨oTab_sound (by
  intro p hp
  simp only [List.mem_cons, List.not_mem_nil, or_false] at hp
  rcases hp with rfl | rfl | rfl
  · exact sums hts
  · exact oIx_sound ts
  · exact fail_sound ts), methXOk, mixed⟩
theorem oPC_sum {ts : List Wd} {a d : Int} {x : Option (Nat × Nat)} {e0 : Option Ent} (H : AH) (ha : 0 ≤ a) (hd : 0 ≤ d) (hd2 : d ≤ 20) :
    oPC ts 178 [.ptr 1 0] (e0 :: some (.box [wdsAV ts, .int .i64 a, .int .i64 d, eAV x]) :: H) = some (exAV (sumAt ts ⟨a.toNat, d.toNat, x⟩).1, e0 :: some (.box ((sumAt ts ⟨a.toNat, d.toNat, x⟩).2.cells ts)) :: H) := by
  rw [← sum_at1 H ha hd hd2]; simp [oPC, oTab, List.lookup]
theorem oPC_ix {ts : List Wd} {a d : Int} {x : Option (Nat × Nat)} {e0 : Option Ent} (H : AH) (ha : 0 ≤ a) (hd : 0 ≤ d) :
    oPC ts 179 [.slice .full 1 6 relsAV, .func (.func 180) [.ptr 1 0] []] (e0 :: some (.box [wdsAV ts, .int .i64 a, .int .i64 d, eAV x]) :: H) =
      some (.int .i64 (idxR (nextB ts ⟨a.toNat, d.toNat, x⟩) relTs 0), e0 :: some (.box [wdsAV ts, .int .i64 a, .int .i64 d, eAV x]) :: H) := by
  have e1 : oPC ts 179 [.slice .full 1 6 relsAV, .func (.func 180) [.ptr 1 0] []] (e0 :: some (.box [wdsAV ts, .int .i64 a, .int .i64 d, eAV x]) :: H) = oIx ts 179 [.slice .full 1 6 relsAV, .func (.func 180) [.ptr 1 0] []] (e0 :: some (.box [wdsAV ts, .int .i64 a, .int .i64 d, eAV x]) :: H) := by simp [oPC, oTab, List.lookup]
  rw [e1, oIx_at (rd_at1 ha hd)]
  simp [St.cells, Int.toNat_of_nonneg ha, Int.toNat_of_nonneg hd]
theorem oPC_fail {ts : List Wd} {a d : Int} {x : Option (Nat × Nat)} {e0 : Option Ent} (p e : Int) (H : AH) (ha : 0 ≤ a) (hd : 0 ≤ d) (hp : 0 ≤ p) (he : 0 ≤ e) :
    oPC ts 181 [.ptr 1 0, .int .i64 p, .int .i64 e] (e0 :: some (.box [wdsAV ts, .int .i64 a, .int .i64 d, eAV x]) :: H) =
      some (.tup [], e0 :: some (.box [wdsAV ts, .int .i64 a, .int .i64 d, eAV (some (x.getD (p.toNat, e.toNat)))]) :: H) := by
  have e1 : oPC ts 181 [.ptr 1 0, .int .i64 p, .int .i64 e] (e0 :: some (.box [wdsAV ts, .int .i64 a, .int .i64 d, eAV x]) :: H) = oRd ts 181 failSpec 181 [.ptr 1 0, .int .i64 p, .int .i64 e] (e0 :: some (.box [wdsAV ts, .int .i64 a, .int .i64 d, eAV x]) :: H) := by simp [oPC, oTab, List.lookup]
  rw [e1, oRd_at (rd_at1 ha hd)]
  simp [failSpec, fail_eq, St.cells, Int.toNat_of_nonneg ha, Int.toNat_of_nonneg hd, hp, he]
def condAV (c : List UInt8 × Ex × Ex) : AV := .agg (.str c.1 :: (exC c.2.1 ++ exC c.2.2))
def parseCAV (x : (List UInt8 × Ex × Ex) × Nat × Option (Nat × Nat)) : AV := .tup [condAV x.1, .int .i64 x.2.1, eAV x.2.2]
@[simp] theorem buC0 : abuild Tryz.prog 29 [] = some (.agg [.str [], .int .i64 0, .int .i64 0, .str [], .nilSlice, .int .i64 0, .int .i64 0, .str [], .nilSlice]) := by kernel_rfl
@[simp] theorem buC1 (a b c d : AV) : abuild Tryz.prog 29 [(1, .agg [a, b, c, d])] = some (.agg [.str [], a, b, c, d, .int .i64 0, .int .i64 0, .str [], .nilSlice]) := by kernel_rfl
@[simp] theorem bsRel : abuildSlice Tryz.prog 23 6 [(0, .str [60]), (1, .str [60, 61]), (2, .str [62]), (3, .str [62, 61]), (4, .str [61, 61]), (5, .str [47, 61])] = some (.slice .full 1 6 [.str [60], .str [60, 61], .str [62], .str [62, 61], .str [61, 61], .str [47, 61]]) := by kernel_rfl
theorem condMid_cases (ts : List Wd) (b d : Nat) : (∃ w, ts[b]? = some w ∧ idxR (nextB ts ⟨b, d, none⟩) relTs 0 ≥ 0 ∧ condMid ts ⟨b, d, none⟩ = (w.text, ⟨b + 1, d, none⟩)) ∨
    (idxR (nextB ts ⟨b, d, none⟩) relTs 0 < 0 ∧ condMid ts ⟨b, d, none⟩ = ([], ⟨b, d, some (b, 2)⟩)) := by
  have nx : ∀ s, nextB ts ⟨b, d, none⟩ s = isS ts b s := fun s => by simp [nextB]
  cases hw : ts[b]? with
  | none =>
    right
    refine ⟨(idxR_neg _ _).2 fun s _ => by rw [nx]; simp [isS, hw], ?_⟩
    simp [condMid, hw, St.fail]
  | some w =>
    by_cases hr : (w.kind == 3 && relB w.text) = true
    · left
      refine ⟨w, rfl, ?_, ?_⟩
      · rcases Int.lt_or_le (idxR (nextB ts ⟨b, d, none⟩) relTs 0) 0 with h | h
        · have h1 := (idxR_neg _ _).1 h
          simp only [Bool.and_eq_true, relB, List.contains_iff_mem] at hr
          have h2 := h1 w.text hr.2
          rw [nx] at h2
          simp [isS, hw, hr.1] at h2
        · exact h
      · simp [condMid, hw, hr, St.step]
    · right
      refine ⟨(idxR_neg _ _).2 fun s hs => ?_, ?_⟩
      · rw [nx]
        simp only [isS, hw]
        rw [Bool.eq_false_iff]
        intro hh
        apply hr
        simp only [Bool.and_eq_true, beq_iff_eq] at hh ⊢
        refine ⟨hh.1, ?_⟩
        rw [hh.2]
        simpa [relB] using hs
      · rw [Bool.not_eq_true] at hr
        simp [condMid, hw, hr, St.fail]
theorem sumAt_deep (ts : List Wd) : ∀ r, (sumAt ts r).2.deep = r.deep := sum_deep ts _
theorem parsec_cs (ts : List Wd) (hts : ts.length < 1000000) (H : AH) : CS Tryz.prog envX 141 [wdsAV ts] H (parseCAV (parseC ts)) H := by
  have X := oPC_cx hts
  refine CS.tr0 lowX Tryz.func141 (by kernel_rfl) 0 (by simp [Tryz.f141]) (fun B hB hG => ?_) (by simp [parseCAV, condAV]) (by simp) H
  refine Tr.goD X hG (by kernel_rfl) ?_
  have h1 := fun H e0 => oPC_sum (ts := ts) (a := 0) (d := 0) (x := none) (e0 := e0) H (by omega) (by omega) (by omega)
  have hdp := sumAt_deep ts ⟨0, 0, none⟩
  simp only [parseC]
  simp [St.cells, eAV_none] at h1
  generalize sumAt ts ⟨0, 0, none⟩ = p at *
  obtain ⟨e, ⟨b, d, x⟩⟩ := p
  simp only at h1 hdp
  subst hdp
  cases x with
  | some y =>
    have h2 := fun H e0 => oPC_sum (ts := ts) (a := b) (d := 0) (x := some y) (e0 := e0) H (by omega) (by omega) (by omega)
    have hk : (sumAt ts ⟨b, 0, some y⟩).2.err = some y := (sumF_ok (ts := ts) (fac_ok ts (ts.length + 1))).2.1 _ _ rfl
    simp [St.cells] at h2
    have hcm : condMid ts ⟨b, 0, some y⟩ = ([], ⟨b, 0, some y⟩) := rfl
    rw [hcm]
    simp only
    generalize sumAt ts ⟨b, 0, some y⟩ = p2 at *
    obtain ⟨e2, ⟨b2, d2, x2⟩⟩ := p2
    simp only at h2 hk
    subst hk
    simp [Tryz.f141, h1, h2]
    refine LpD.turns X hG [5] [(1, 5), (2, 5), (3, 5), (4, 5)] (by kernel_rfl) ?_
    simp [parseCAV, condAV]
  | none =>
    have hix := fun H e0 => oPC_ix (ts := ts) (a := b) (d := 0) (x := none) (e0 := e0) H (by omega) (by omega)
    simp [relsAV] at hix
    have hrel : List.map AV.str relTs = [.str [60], .str [60, 61], .str [62], .str [62, 61], .str [61, 61], .str [47, 61]] := rfl
    rw [hrel] at hix
    rcases condMid_cases ts b 0 with ⟨w, hw, hge, hcm⟩ | ⟨hlt, hcm⟩
    · have hl : b < ts.length := (List.getElem?_eq_some_iff.1 hw).1
      have hl' : (b : Int) < ts.length := by omega
      obtain ⟨c0, c1, c3⟩ := cellX hw
      have w1 : IntKind.i64.wrap ((b : Int) + 1) = (b : Int) + 1 := wrap_i64 (by omega) (by omega)
      have hge' : ¬ idxR (nextB ts ⟨b, 0, none⟩) relTs 0 < 0 := by omega
      have h2 := fun H e0 => oPC_sum (ts := ts) (a := (b : Int) + 1) (d := 0) (x := none) (e0 := e0) H (by omega) (by omega) (by omega)
      have en : ((b : Int) + 1).toNat = b + 1 := by omega
      simp only [en] at h2
      rw [hcm]
      simp only
      simp [St.cells] at h2
      generalize sumAt ts ⟨b + 1, 0, none⟩ = p2 at *
      obtain ⟨e2, ⟨b2, d2, x2⟩⟩ := p2
      simp only at h2
      simp [Tryz.f141, h1, hix, hge']
      refine LpD.turns X hG [12] [] (by kernel_rfl) ?_
      simp [hl, hl', c1]
      cases x2 with
      | none =>
        simp [w1, h2]
        refine LpD.turns X hG [5] [(1, 5), (2, 5), (3, 5), (4, 5)] (by kernel_rfl) ?_
        simp [parseCAV, condAV, eAV_none]
      | some y =>
        simp [w1, h2]
        refine LpD.turns X hG [5] [(1, 5), (2, 5), (3, 5), (4, 5)] (by kernel_rfl) ?_
        simp [parseCAV, condAV]
    · have hfl := fun H e0 => oPC_fail (ts := ts) (a := b) (d := 0) (x := none) (e0 := e0) b 2 H (by omega) (by omega) (by omega) (by omega)
      simp at hfl
      have h2 := fun H e0 => oPC_sum (ts := ts) (a := b) (d := 0) (x := some (b, 2)) (e0 := e0) H (by omega) (by omega) (by omega)
      have hk : (sumAt ts ⟨b, 0, some (b, 2)⟩).2.err = some (b, 2) := (sumF_ok (ts := ts) (fac_ok ts (ts.length + 1))).2.1 _ _ rfl
      simp [St.cells] at h2
      rw [hcm]
      simp only
      generalize sumAt ts ⟨b, 0, some (b, 2)⟩ = p2 at *
      obtain ⟨e2, ⟨b2, d2, x2⟩⟩ := p2
      simp only at h2 hk
      subst hk
      simp [Tryz.f141, h1, hix, hlt, hfl, h2]
      refine LpD.turns X hG [5] [(1, 5), (2, 5), (3, 5), (4, 5)] (by kernel_rfl) ?_
      simp [parseCAV, condAV]
end Go.Proofs.YtejjlojfgcgopaaGreatDoor
namespace Go.Proofs.YtejjlojfgcgopaaGreatDoor
open Go.RowKit Go.Proofs.Fw
set_option maxRecDepth 100000
set_option maxHeartbeats 4000000
end Go.Proofs.YtejjlojfgcgopaaGreatDoor

namespace Go.Proofs.YtejjlojfgcgopaaGreatDoor
open Go.RowKit Go.Proofs.Fw
set_option maxRecDepth 100000
set_option maxHeartbeats 4000000
inductive Tn where
  | lf (k n : Int) (s : List UInt8)
  | nd (k n : Int) (s : List UInt8) (a : List Tn)
  deriving Inhabited
mutual
def tC : Tn → List AV
  | .lf k n s => [.int .i64 k, .int .i64 n, .str s, .nilSlice]
  | .nd k n s a => [.int .i64 k, .int .i64 n, .str s, .slice .unk 4 a.length (tsC a)]
def tsC : List Tn → List AV
  | [] => []
  | t :: l => tC t ++ tsC l
end
def Tn.k : Tn → Int
  | .lf k _ _ => k
  | .nd k _ _ _ => k
def Tn.n : Tn → Int
  | .lf _ n _ => n
  | .nd _ n _ _ => n
def Tn.s : Tn → List UInt8
  | .lf _ _ s => s
  | .nd _ _ s _ => s
def Tn.kids : Tn → List Tn
  | .lf _ _ _ => []
  | .nd _ _ _ a => a
def Tn.ar (t : Tn) : AV := (tC t).getD 3 .undef
@[simp] theorem tC_eq (t : Tn) : tC t = [.int .i64 t.k, .int .i64 t.n, .str t.s, t.ar] := by cases t <;> rfl
mutual
theorem tC_low : ∀ t : Tn, lowL 0 (tC t) = true
  | .lf _ _ _ => rfl
  | .nd _ _ _ a => by rw [tC]; have := tsC_low a; simp [this]
theorem tsC_low : ∀ l : List Tn, lowL 0 (tsC l) = true
  | [] => rfl
  | t :: l => by rw [tsC, lowL_append, tC_low t, tsC_low l]; rfl
end
@[simp ↓ high] theorem tar_low (t : Tn) : low 0 t.ar = true := by
  have := tC_low t
  rw [tC_eq] at this
  simpa using this
@[simp ↓ high] theorem tar_lowm (m : Nat) (t : Tn) : low m t.ar = true := low_at m (tar_low t)
@[simp ↓ high] theorem tar_ids (t : Tn) : idsOf t.ar = [] := by cases t <;> rfl
@[simp ↓ high] theorem tar_known (t : Tn) : t.ar.known = true := by cases t <;> rfl
@[simp ↓ high] theorem tar_one (t : Tn) : t.ar.one = true := by cases t <;> rfl
@[simp ↓ high] theorem tar_cells (t : Tn) : cellsAV t.ar = [t.ar] := by cases t <;> rfl
theorem tsC_length : ∀ l : List Tn, (tsC l).length = l.length * 4
  | [] => rfl
  | t :: l => by rw [tsC, List.length_append, tsC_length l, tC_eq]; simp; omega
mutual
theorem tC_inj : ∀ (t u : Tn), tC t = tC u → t = u
  | .lf _ _ _, .lf _ _ _, h => by simp only [tC, List.cons.injEq, AV.int.injEq, AV.str.injEq, true_and, and_true] at h; obtain ⟨rfl, rfl, rfl⟩ := h; rfl
  | .lf _ _ _, .nd _ _ _ _, h => by simp [tC] at h
  | .nd _ _ _ _, .lf _ _ _, h => by simp [tC] at h
  | .nd _ _ _ a, .nd _ _ _ b, h => by
    simp only [tC, List.cons.injEq, AV.int.injEq, AV.str.injEq, AV.slice.injEq, true_and, and_true] at h
    obtain ⟨rfl, rfl, rfl, _, h⟩ := h
    rw [tsC_inj a b h]
theorem tsC_inj : ∀ (a b : List Tn), tsC a = tsC b → a = b
  | [], [], _ => rfl
  | [], t :: b, h => by rw [tsC, tsC, tC_eq] at h; simp at h
  | t :: a, [], h => by rw [tsC, tsC, tC_eq] at h; simp at h
  | t :: a, u :: b, h => by
    rw [tsC, tsC] at h
    have := List.append_inj h (by simp)
    rw [tC_inj t u this.1, tsC_inj a b this.2]
end
@[simp high] theorem alenT1 (t : Tn) : alen Tryz.prog 25 t.ar = some (.int .i64 t.kids.length) := by
  cases t <;> simp [Tn.ar, tC, Tn.kids, alen]
@[simp high] theorem alenT2 (t : Tn) : alen Tryz.prog 40 t.ar = some (.int .i64 t.kids.length) := by
  cases t <;> simp [Tn.ar, tC, Tn.kids, alen]
@[simp] theorem immXT : envX.imm 42 = true := by decide
@[simp high] theorem alenR' (l : List Wd) : alen Tryz.prog 54 (wdsAV l) = some (.int .i64 l.length) := by
  unfold wdsAV
  split
  · rename_i h; subst h; simp [alen]
  · simp [alen]
mutual
def Ex.tn : Ex → Tn
  | .none => .lf 0 0 []
  | .num n => .lf 1 n []
  | .var s => .lf 2 0 s
  | .elem s a => .nd 3 0 s (Ex.tns a)
  | .neg e => .nd 4 0 [] [e.tn]
  | .bin k a b => .nd k 0 [] [a.tn, b.tn]
def Ex.tns : List Ex → List Tn
  | [] => []
  | e :: l => e.tn :: Ex.tns l
end
theorem tns_length : ∀ l : List Ex, (Ex.tns l).length = l.length
  | [] => rfl
  | a :: l => by rw [Ex.tns, List.length_cons, List.length_cons, tns_length l]
theorem repL_append2 {g : Gh} : ∀ {xs ys : List AV} {vs : List Value}, RepL g (xs ++ ys) vs → ∃ v1 v2, vs = v1 ++ v2 ∧ RepL g xs v1 ∧ RepL g ys v2
  | [], ys, vs, h => ⟨[], vs, rfl, rfl, h⟩
  | a :: xs, ys, vs, h => by
    obtain ⟨v, ws, rfl, h1, h2⟩ := h
    obtain ⟨v1, v2, rfl, h3, h4⟩ := repL_append2 h2
    exact ⟨v :: v1, v2, rfl, ⟨v, v1, rfl, h1, h3⟩, h4⟩
mutual
theorem rep_tn (g : Gh) : ∀ (e : Ex) (vs : List Value), RepL g (exC e) vs → RepL g (tC e.tn) vs
  | .none, _, h => h
  | .num _, _, h => h
  | .var _, _, h => h
  | .elem s a, vs, h => by
    have key := rep_tns g a
    rw [exC] at h
    rw [Ex.tn, tC, tns_length]
    obtain ⟨v0, _, rfl, h0, v1, _, rfl, h1, v2, _, rfl, h2, v3, _, rfl, h3, h4⟩ := h
    refine ⟨v0, _, rfl, h0, v1, _, rfl, h1, v2, _, rfl, h2, v3, _, rfl, ?_, h4⟩
    simp only [RepV] at h3 ⊢
    obtain ⟨b, o, cap, us, hv, q1, q2, q3, q4, q5⟩ := h3
    exact ⟨b, o, cap, us, hv, key us q1, q2, by rw [tsC_length, tns_length], q4, trivial⟩
  | .neg e, vs, h => by
    have key := rep_tn g e
    rw [exC] at h
    rw [Ex.tn, tC]
    obtain ⟨v0, _, rfl, h0, v1, _, rfl, h1, v2, _, rfl, h2, v3, _, rfl, h3, h4⟩ := h
    refine ⟨v0, _, rfl, h0, v1, _, rfl, h1, v2, _, rfl, h2, v3, _, rfl, ?_, h4⟩
    simp only [RepV] at h3 ⊢
    obtain ⟨b, o, cap, us, hv, q1, q2, q3, q4, q5⟩ := h3
    refine ⟨b, o, cap, us, hv, ?_, q2, by rw [tsC_length], q4, trivial⟩
    rw [tsC, tsC, List.append_nil]
    exact key us q1
  | .bin k x y, vs, h => by
    have key1 := rep_tn g x
    have key2 := rep_tn g y
    rw [exC] at h
    rw [Ex.tn, tC]
    obtain ⟨v0, _, rfl, h0, v1, _, rfl, h1, v2, _, rfl, h2, v3, _, rfl, h3, h4⟩ := h
    refine ⟨v0, _, rfl, h0, v1, _, rfl, h1, v2, _, rfl, h2, v3, _, rfl, ?_, h4⟩
    simp only [RepV] at h3 ⊢
    obtain ⟨b, o, cap, us, hv, q1, q2, q3, q4, q5⟩ := h3
    refine ⟨b, o, cap, us, hv, ?_, q2, by rw [tsC_length], q4, trivial⟩
    obtain ⟨u1, u2, rfl, r1, r2⟩ := repL_append2 q1
    rw [tsC, tsC, tsC, List.append_nil]
    exact (key1 u1 r1).append (key2 u2 r2)
theorem rep_tns (g : Gh) : ∀ (l : List Ex) (vs : List Value), RepL g (exsC l) vs → RepL g (tsC (Ex.tns l)) vs
  | [], _, h => h
  | e :: l, vs, h => by
    have k1 := rep_tn g e
    have k2 := rep_tns g l
    rw [exsC] at h
    rw [Ex.tns, tsC]
    obtain ⟨v1, v2, rfl, h1, h2⟩ := repL_append2 h
    exact (k1 v1 h1).append (k2 v2 h2)
end
end Go.Proofs.YtejjlojfgcgopaaGreatDoor
namespace Go.Proofs.YtejjlojfgcgopaaGreatDoor
open Go.RowKit Go.Proofs.Fw
open Go.Shelf
set_option maxRecDepth 100000
set_option maxHeartbeats 4000000
def pow10Cells : List AV := (List.range 20).map fun i => .int .u64 ((10 ^ i : Nat) : Int)
def globF : List (Nat × AV) := (1, .vptr pow10Cells 0) :: globN
def envF : Env := ⟨globOf globF, methN, fun t => envX.imm t || t == 29, fun _ => false⟩
@[simp] theorem envF_soft (t : TypeId) : envF.soft t = false := nrfl rfl
theorem methFOk : MethOk Tryz.prog envF := methNOk
theorem lowF : ∀ i, low 0 (envF.glob i) = true := low_globOf (by
  intro x hx
  simp only [globF, globN, globT, List.mem_cons, List.not_mem_nil, or_false] at hx
  rcases hx with rfl | rfl | rfl | rfl
  · show lowL 0 pow10Cells = true
    kernel_rfl
  · rfl
  · show lowL 0 spaceCells = true
    kernel_rfl
  · rfl)
theorem globF_X {g : Gh} (h : GlobOk envF g) : GlobOk envX g := by
  intro i
  by_cases hi : i = 1
  · subst hi
    have : envX.glob 1 = .undef := by rfl
    rw [this]
    trivial
  · have : envX.glob i = envF.glob i := by
      simp only [envX, envF, envN, globOf, globF, List.find?_cons]
      rw [show ((1 : Nat) == i) = false by simp; omega]
    rw [this]
    exact h i
theorem CS.toF {f : FuncId} {args : List AV} {H H' : AH} {v : AV} (h : CS Tryz.prog envX f args H v H') : CS Tryz.prog envF f args H v H' := fun g w cargs R hG hA => h g w cargs R (globF_X hG) hA
theorem Sound.toF {O : Orc} (h : Sound Tryz.prog envX O) : Sound Tryz.prog envF O := fun f args H v H' ho => by
  obtain ⟨h1, h2, h3⟩ := h f args H v H' ho
  exact ⟨CS.toF h1, h2, h3⟩
@[simp] theorem immFE : envF.imm 27 = true := by decide
@[simp] theorem immFC : envF.imm 29 = true := by decide
theorem oNilF : Cx oNil Tryz.prog envF := ⟨oNil_sound, methFOk, mixed⟩
def fzN : FuncId → Nat := fun _ => 0
end Go.Proofs.YtejjlojfgcgopaaGreatDoor
namespace Go.Proofs.YtejjlojfgcgopaaGreatDoor
open Go.RowKit Go.Proofs.Fw
set_option maxRecDepth 100000
set_option maxHeartbeats 4000000
@[simp] theorem bsStr (a : List UInt8) : abuildSlice Tryz.prog 23 1 [(0, .str a)] = some (.slice .full 1 1 [.str a]) := by kernel_rfl
@[simp] theorem zeroAV_str : zeroAV Tryz.prog 9 = some (.str []) := by kernel_rfl
end Go.Proofs.YtejjlojfgcgopaaGreatDoor
