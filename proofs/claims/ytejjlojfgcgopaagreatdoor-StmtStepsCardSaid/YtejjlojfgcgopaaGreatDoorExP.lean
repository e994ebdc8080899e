/- slices.IndexFunc at a reader's next; expr.ParseCond. The reference's Rel, ParseCond. -/
import Derived.Test.YtejjlojfgcgopaaGreatDoorExN
set_option linter.unusedSimpArgs false
set_option linter.unusedVariables false
namespace Go.Proofs.YtejjlojfgcgopaaGreatDoor
open Go.RowKit Go.Proofs.Fw
set_option maxRecDepth 100000
set_option maxHeartbeats 4000000
-- 

def idxR (p : List UInt8 → Bool) : List (List UInt8) → Nat → Int
  | [], _ => -1
  | s :: l, i => if p s = true then (i : Int) else idxR p l (i + 1)
theorem idxR_neg {p : List UInt8 → Bool} : ∀ (l : List (List UInt8)) (i : Nat), (idxR p l i < 0) ↔ ∀ s ∈ l, p s = false
  | [], i => by simp [idxR]
  | s :: l, i => by
    unfold idxR
    by_cases h : p s = true
    · rw [if_pos h]
      constructor
      · intro hh; omega
      · intro hh
        have := hh s List.mem_cons_self
        rw [h] at this; cases this
    · rw [if_neg h, idxR_neg l (i + 1)]
      simp only [List.mem_cons, forall_eq_or_imp]
      rw [Bool.not_eq_true] at h
      simp [h]
def relsAV : List AV := relTs.map .str
def IdxI (ts : List Wd) (r : St) (res : Int) (k : Nat) (t : List AV) (H : AH) : Prop :=
  ∃ i, i + k = 6 ∧ idxR (nextB ts r) (relTs.drop i) i = res ∧ t = mkT 19 [(0, .slice .full 1 6 relsAV), (1, .func (.func 180) [.ptr 0 0] []), (7, .int .i64 6), (8, .int .i64 (i : Int))] ∧ H = [some (.box (r.cells ts))]
theorem idx_cs (ts : List Wd) (r : St) {H : AH} {id : Nat} (hH : H.at id = some (.box (r.cells ts))) :
    CS Tryz.prog envX 179 [.slice .full 1 6 relsAV, .func (.func 180) [.ptr id 0] []] H (.int .i64 (idxR (nextB ts r) relTs 0)) (H.set id (some (.box (r.cells ts)))) := by
  have X : Cx (oRd ts 180 (nextSpec ts)) Tryz.prog envX := ⟨next_sound ts, methXOk, mixed⟩
  have h0 : CS Tryz.prog envX 179 [.slice .full 1 6 relsAV, .func (.func 180) [.ptr 0 0] []] [some (.box (r.cells ts))] (.int .i64 (idxR (nextB ts r) relTs 0)) [some (.box (r.cells ts))] := by
    refine CS.of_Tr (c := bodyOf Tryz.f179) Tryz.func179 (by kernel_rfl) 0 (by simp [Tryz.f179]) (fun B hB hG => ?_) rfl (by simp [St.cells])
    refine Tr.goD X hG (by kernel_rfl) ?_
    simp [Tryz.f179]
    refine LpD.loopN X hG (by kernel_rfl) (IdxI ts r (idxR (nextB ts r) relTs 0)) 6 (t' := mkT 19 [(0, .slice .full 1 6 relsAV), (1, .func (.func 180) [.ptr 0 0] []), (7, .int .i64 6), (8, .int .i64 ((0 : Nat) : Int))])
      (H' := [some (.box (r.cells ts))]) (Less.mkK 1 (by simp [hB]) (by simp [relsAV, relTs]) (by simp) (by simp [St.cells])) ⟨0, rfl, rfl, rfl, rfl⟩ ?_
    rintro k t H ⟨i, hik, hres, rfl, rfl⟩
    cases k with
    | zero =>
      obtain rfl : i = 6 := by omega
      have : idxR (nextB ts r) (relTs.drop 6) 6 = -1 := rfl
      rw [← hres, this]
      simp [Blk_exit]
    | succ k =>
      have hi : i < 6 := by omega
      have hi' : (i : Int) < 6 := by omega
      have hl : relTs.length = 6 := rfl
      have hd : relTs.drop i = relTs[i]'(by omega) :: relTs.drop (i + 1) := List.drop_eq_getElem_cons (by omega)
      have hg : relsAV[i]? = some (.str (relTs[i]'(by omega))) := by
        unfold relsAV
        rw [List.getElem?_map, List.getElem?_eq_getElem (by omega : i < relTs.length)]
        rfl
      have hnx := fun H => sm_next (ts := ts) (a := r.at_) (d := r.deep) (x := r.err) (relTs[i]'(by omega)) H (by omega) (by omega)
      simp only [Int.toNat_natCast] at hnx
      have w1 : IntKind.i64.wrap ((i : Int) + 1) = (i : Int) + 1 := wrap_i64 (by omega) (by omega)
      rw [hd, idxR] at hres
      generalize relTs[i]'(by omega) = s at *
      cases hn : nextB ts r s with
      | true =>
        rw [hn] at hres
        simp only [if_true] at hres
        have hn' : nextB ts ⟨r.at_, r.deep, r.err⟩ s = true := hn
        rw [← hres]
        simp [hi, hi', hg, St.cells, hnx, hn']
      | false =>
        rw [hn] at hres
        simp only [Bool.false_eq_true, if_false] at hres
        have hn' : nextB ts ⟨r.at_, r.deep, r.err⟩ s = false := hn
        simp [hi, hi', hg, St.cells, hnx, hn', w1]
        exact Nxt.mk k (by omega) (Less.mkK 1 (l' := [(0, .slice .full 1 6 relsAV), (1, .func (.func 180) [.ptr 0 0] []), (7, .int .i64 6), (8, .int .i64 ((i + 1 : Nat) : Int))]) (H' := [some (.box (r.cells ts))]) (by simp [hB]) (by simp [relsAV, relTs]) (by simp [St.cells]) (by simp [St.cells])) ⟨i + 1, by omega, hres, rfl, rfl⟩
  have := CS.embed (k := 1) (fun _ => id) (H := H) (H' := H.set id (some (.box (r.cells ts)))) h0 rfl rfl (ren_one id) lowX (by simp [relsAV, relTs]) rfl (by simp [St.cells]) (by simp [St.cells])
    (fun i hi => by
      obtain rfl : i = 0 := by omega
      simp [AH.at, renE, renL_low _ (r.cells ts) (St.cells_low ts r)]
      exact hH)
    (fun i hi => by
      obtain rfl : i = 0 := by omega
      rw [at_set_self hH]
      simp [AH.at, renE, renL_low _ (r.cells ts) (St.cells_low ts r)])
    (fun j hj => at_set_ne (hj 0 (by omega)))
  simpa [renL, ren, relsAV, relTs] using this

open Classical in
noncomputable def oIx (ts : List Wd) : Orc := fun f args H => if f = 179 then (match args with
  | [.slice .full 1 6 l, .func (.func g) [.ptr id 0] []] => if h : l = relsAV ∧ g = 180 ∧ ∃ r : St, H.at id = some (.box (r.cells ts)) then some (.int .i64 (idxR (nextB ts h.2.2.choose) relTs 0), H.set id (some (.box (h.2.2.choose.cells ts)))) else none
  | _ => none) else none
theorem oIx_at {ts : List Wd} {id : Nat} {H : AH} {r : St} (h : H.at id = some (.box (r.cells ts))) :
    oIx ts 179 [.slice .full 1 6 relsAV, .func (.func 180) [.ptr id 0] []] H = some (.int .i64 (idxR (nextB ts r) relTs 0), H.set id (some (.box (r.cells ts)))) := by
  have hx : ∃ r : St, H.at id = some (.box (r.cells ts)) := ⟨r, h⟩
  have hh : relsAV = relsAV ∧ 180 = 180 ∧ ∃ r : St, H.at id = some (.box (r.cells ts)) := ⟨rfl, rfl, hx⟩
  have hc := h.symm.trans hh.2.2.choose_spec
  simp only [Option.some.injEq, Ent.box.injEq] at hc
  have he : hh.2.2.choose = r := (St.cells_inj hc).symm
  simp only [oIx, if_true, dif_pos hh]
  rw [he]
theorem oIx_sound (ts : List Wd) : Sound Tryz.prog envX (oIx ts) := by
  intro f args H v H' ho
  unfold oIx at ho
  split at ho
  · rename_i hf
    subst hf
    split at ho
    · split at ho
      · rename_i l g id hx
        injection ho with ho
        simp only [Prod.mk.injEq] at ho
        obtain ⟨rfl, rfl⟩ := ho
        have hs := hx.2.2.choose_spec
        obtain ⟨rfl, rfl, _⟩ := hx
        exact ⟨idx_cs ts _ hs, by simp, fun j _ hj => at_set_noneX hs hj⟩
      · cases ho
    · cases ho
  · cases ho

theorem rd_at1 {ts : List Wd} {a d : Int} {x : Option (Nat × Nat)} {e0 : Option Ent} {H : AH} (ha : 0 ≤ a) (hd : 0 ≤ d) : AH.at (e0 :: some (.box [wdsAV ts, .int .i64 a, .int .i64 d, eAV x]) :: H) 1 = some (.box ((⟨a.toNat, d.toNat, x⟩ : St).cells ts)) := by
  simp [AH.at, St.cells, Int.toNat_of_nonneg ha, Int.toNat_of_nonneg hd]
noncomputable def oPC (ts : List Wd) : Orc := oTab [(178, oRd ts 178 (partSpec ts (sumAt ts) (ts.length + 1))), (179, oIx ts), (181, oRd ts 181 failSpec)]
theorem oPC_cx {ts : List Wd} (hts : ts.length < 1000000) : Cx (oPC ts) Tryz.prog envX := ⟨oTab_sound (by
  intro p hp
  simp only [List.mem_cons, List.not_mem_nil, or_false] at hp
  rcases hp with rfl | rfl | rfl
  · exact sums hts
  · exact oIx_sound ts
  · exact fail_sound ts), methXOk, mixed⟩
theorem oPC_sum {ts : List Wd} {a d : Int} {x : Option (Nat × Nat)} {e0 : Option Ent} (H : AH) (ha : 0 ≤ a) (hd : 0 ≤ d) (hd2 : d ≤ 20) :
    oPC ts 178 [.ptr 1 0] (e0 :: some (.box [wdsAV ts, .int .i64 a, .int .i64 d, eAV x]) :: H) = some (exAV (sumAt ts ⟨a.toNat, d.toNat, x⟩).1, e0 :: some (.box ((sumAt ts ⟨a.toNat, d.toNat, x⟩).2.cells ts)) :: H) := by
  rw [← sum_at1 H ha hd hd2]; simp [oPC, oTab, List.lookup]
theorem oPC_ix {ts : List Wd} {a d : Int} {x : Option (Nat × Nat)} {e0 : Option Ent} (H : AH) (ha : 0 ≤ a) (hd : 0 ≤ d) :
    oPC ts 179 [.slice .full 1 6 relsAV, .func (.func 180) [.ptr 1 0] []] (e0 :: some (.box [wdsAV ts, .int .i64 a, .int .i64 d, eAV x]) :: H) =
      some (.int .i64 (idxR (nextB ts ⟨a.toNat, d.toNat, x⟩) relTs 0), e0 :: some (.box [wdsAV ts, .int .i64 a, .int .i64 d, eAV x]) :: H) := by
  have e1 : oPC ts 179 [.slice .full 1 6 relsAV, .func (.func 180) [.ptr 1 0] []] (e0 :: some (.box [wdsAV ts, .int .i64 a, .int .i64 d, eAV x]) :: H) = oIx ts 179 [.slice .full 1 6 relsAV, .func (.func 180) [.ptr 1 0] []] (e0 :: some (.box [wdsAV ts, .int .i64 a, .int .i64 d, eAV x]) :: H) := by simp [oPC, oTab, List.lookup]
  rw [e1, oIx_at (rd_at1 ha hd)]
  simp [St.cells, Int.toNat_of_nonneg ha, Int.toNat_of_nonneg hd]
theorem oPC_fail {ts : List Wd} {a d : Int} {x : Option (Nat × Nat)} {e0 : Option Ent} (p e : Int) (H : AH) (ha : 0 ≤ a) (hd : 0 ≤ d) (hp : 0 ≤ p) (he : 0 ≤ e) :
    oPC ts 181 [.ptr 1 0, .int .i64 p, .int .i64 e] (e0 :: some (.box [wdsAV ts, .int .i64 a, .int .i64 d, eAV x]) :: H) =
      some (.tup [], e0 :: some (.box [wdsAV ts, .int .i64 a, .int .i64 d, eAV (some (x.getD (p.toNat, e.toNat)))]) :: H) := by
  have e1 : oPC ts 181 [.ptr 1 0, .int .i64 p, .int .i64 e] (e0 :: some (.box [wdsAV ts, .int .i64 a, .int .i64 d, eAV x]) :: H) = oRd ts 181 failSpec 181 [.ptr 1 0, .int .i64 p, .int .i64 e] (e0 :: some (.box [wdsAV ts, .int .i64 a, .int .i64 d, eAV x]) :: H) := by simp [oPC, oTab, List.lookup]
  rw [e1, oRd_at (rd_at1 ha hd)]
  simp [failSpec, fail_eq, St.cells, Int.toNat_of_nonneg ha, Int.toNat_of_nonneg hd, hp, he]

def condAV (c : List UInt8 × Ex × Ex) : AV := .agg (.str c.1 :: (exC c.2.1 ++ exC c.2.2))
def parseCAV (x : (List UInt8 × Ex × Ex) × Nat × Option (Nat × Nat)) : AV := .tup [condAV x.1, .int .i64 x.2.1, eAV x.2.2]
@[simp] theorem buC0 : abuild Tryz.prog 29 [] = some (.agg [.str [], .int .i64 0, .int .i64 0, .str [], .nilSlice, .int .i64 0, .int .i64 0, .str [], .nilSlice]) := by kernel_rfl
@[simp] theorem buC1 (a b c d : AV) : abuild Tryz.prog 29 [(1, .agg [a, b, c, d])] = some (.agg [.str [], a, b, c, d, .int .i64 0, .int .i64 0, .str [], .nilSlice]) := by kernel_rfl

@[simp] theorem bsRel : abuildSlice Tryz.prog 23 6 [(0, .str [60]), (1, .str [60, 61]), (2, .str [62]), (3, .str [62, 61]), (4, .str [61, 61]), (5, .str [47, 61])] = some (.slice .full 1 6 [.str [60], .str [60, 61], .str [62], .str [62, 61], .str [61, 61], .str [47, 61]]) := by kernel_rfl
theorem condMid_cases (ts : List Wd) (b d : Nat) : (∃ w, ts[b]? = some w ∧ idxR (nextB ts ⟨b, d, none⟩) relTs 0 ≥ 0 ∧ condMid ts ⟨b, d, none⟩ = (w.text, ⟨b + 1, d, none⟩)) ∨
    (idxR (nextB ts ⟨b, d, none⟩) relTs 0 < 0 ∧ condMid ts ⟨b, d, none⟩ = ([], ⟨b, d, some (b, 2)⟩)) := by
  have nx : ∀ s, nextB ts ⟨b, d, none⟩ s = isS ts b s := fun s => by simp [nextB]
  cases hw : ts[b]? with
  | none =>
    right
    refine ⟨(idxR_neg _ _).2 fun s _ => by rw [nx]; simp [isS, hw], ?_⟩
    simp [condMid, hw, St.fail]
  | some w =>
    by_cases hr : (w.kind == 3 && relB w.text) = true
    · left
      refine ⟨w, rfl, ?_, ?_⟩
      · rcases Int.lt_or_le (idxR (nextB ts ⟨b, d, none⟩) relTs 0) 0 with h | h
        · have h1 := (idxR_neg _ _).1 h
          simp only [Bool.and_eq_true, relB, List.contains_iff_mem] at hr
          have h2 := h1 w.text hr.2
          rw [nx] at h2
          simp [isS, hw, hr.1] at h2
        · exact h
      · simp [condMid, hw, hr, St.step]
    · right
      refine ⟨(idxR_neg _ _).2 fun s hs => ?_, ?_⟩
      · rw [nx]
        simp only [isS, hw]
        rw [Bool.eq_false_iff]
        intro hh
        apply hr
        simp only [Bool.and_eq_true, beq_iff_eq] at hh ⊢
        refine ⟨hh.1, ?_⟩
        rw [hh.2]
        simpa [relB] using hs
      · rw [Bool.not_eq_true] at hr
        simp [condMid, hw, hr, St.fail]

theorem sumAt_deep (ts : List Wd) : ∀ r, (sumAt ts r).2.deep = r.deep := sum_deep ts _
theorem parsec_cs (ts : List Wd) (hts : ts.length < 1000000) (H : AH) : CS Tryz.prog envX 141 [wdsAV ts] H (parseCAV (parseC ts)) H := by
  have X := oPC_cx hts
  refine CS.tr0 lowX Tryz.func141 (by kernel_rfl) 0 (by simp [Tryz.f141]) (fun B hB hG => ?_) (by simp [parseCAV, condAV]) (by simp) H
  refine Tr.goD X hG (by kernel_rfl) ?_
  have h1 := fun H e0 => oPC_sum (ts := ts) (a := 0) (d := 0) (x := none) (e0 := e0) H (by omega) (by omega) (by omega)
  have hdp := sumAt_deep ts ⟨0, 0, none⟩
  simp only [parseC]
  simp [St.cells, eAV_none] at h1
  generalize sumAt ts ⟨0, 0, none⟩ = p at *
  obtain ⟨e, ⟨b, d, x⟩⟩ := p
  simp only at h1 hdp
  subst hdp
  cases x with
  | some y =>
    have h2 := fun H e0 => oPC_sum (ts := ts) (a := b) (d := 0) (x := some y) (e0 := e0) H (by omega) (by omega) (by omega)
    have hk : (sumAt ts ⟨b, 0, some y⟩).2.err = some y := (sumF_ok (ts := ts) (fac_ok ts (ts.length + 1))).2.1 _ _ rfl
    simp [St.cells] at h2
    have hcm : condMid ts ⟨b, 0, some y⟩ = ([], ⟨b, 0, some y⟩) := rfl
    rw [hcm]
    simp only
    generalize sumAt ts ⟨b, 0, some y⟩ = p2 at *
    obtain ⟨e2, ⟨b2, d2, x2⟩⟩ := p2
    simp only at h2 hk
    subst hk
    simp [Tryz.f141, h1, h2]
    refine LpD.turns X hG [5] [(1, 5), (2, 5), (3, 5), (4, 5)] (by kernel_rfl) ?_
    simp [parseCAV, condAV]
  | none =>
    have hix := fun H e0 => oPC_ix (ts := ts) (a := b) (d := 0) (x := none) (e0 := e0) H (by omega) (by omega)
    simp [relsAV] at hix
    have hrel : List.map AV.str relTs = [.str [60], .str [60, 61], .str [62], .str [62, 61], .str [61, 61], .str [47, 61]] := rfl
    rw [hrel] at hix
    rcases condMid_cases ts b 0 with ⟨w, hw, hge, hcm⟩ | ⟨hlt, hcm⟩
    · have hl : b < ts.length := (List.getElem?_eq_some_iff.1 hw).1
      have hl' : (b : Int) < ts.length := by omega
      obtain ⟨c0, c1, c3⟩ := cellX hw
      have w1 : IntKind.i64.wrap ((b : Int) + 1) = (b : Int) + 1 := wrap_i64 (by omega) (by omega)
      have hge' : ¬ idxR (nextB ts ⟨b, 0, none⟩) relTs 0 < 0 := by omega
      have h2 := fun H e0 => oPC_sum (ts := ts) (a := (b : Int) + 1) (d := 0) (x := none) (e0 := e0) H (by omega) (by omega) (by omega)
      have en : ((b : Int) + 1).toNat = b + 1 := by omega
      simp only [en] at h2
      rw [hcm]
      simp only
      simp [St.cells] at h2
      generalize sumAt ts ⟨b + 1, 0, none⟩ = p2 at *
      obtain ⟨e2, ⟨b2, d2, x2⟩⟩ := p2
      simp only at h2
      simp [Tryz.f141, h1, hix, hge']
      refine LpD.turns X hG [12] [] (by kernel_rfl) ?_
      simp [hl, hl', c1]
      cases x2 with
      | none =>
        simp [w1, h2]
        refine LpD.turns X hG [5] [(1, 5), (2, 5), (3, 5), (4, 5)] (by kernel_rfl) ?_
        simp [parseCAV, condAV, eAV_none]
      | some y =>
        simp [w1, h2]
        refine LpD.turns X hG [5] [(1, 5), (2, 5), (3, 5), (4, 5)] (by kernel_rfl) ?_
        simp [parseCAV, condAV]
    · have hfl := fun H e0 => oPC_fail (ts := ts) (a := b) (d := 0) (x := none) (e0 := e0) b 2 H (by omega) (by omega) (by omega) (by omega)
      simp at hfl
      have h2 := fun H e0 => oPC_sum (ts := ts) (a := b) (d := 0) (x := some (b, 2)) (e0 := e0) H (by omega) (by omega) (by omega)
      have hk : (sumAt ts ⟨b, 0, some (b, 2)⟩).2.err = some (b, 2) := (sumF_ok (ts := ts) (fac_ok ts (ts.length + 1))).2.1 _ _ rfl
      simp [St.cells] at h2
      rw [hcm]
      simp only
      generalize sumAt ts ⟨b, 0, some (b, 2)⟩ = p2 at *
      obtain ⟨e2, ⟨b2, d2, x2⟩⟩ := p2
      simp only at h2 hk
      subst hk
      simp [Tryz.f141, h1, hix, hlt, hfl, h2]
      refine LpD.turns X hG [5] [(1, 5), (2, 5), (3, 5), (4, 5)] (by kernel_rfl) ?_
      simp [parseCAV, condAV]
end Go.Proofs.YtejjlojfgcgopaaGreatDoor

namespace Go.Proofs.YtejjlojfgcgopaaGreatDoor
open Go.RowKit Go.Proofs.Fw
set_option maxRecDepth 100000
set_option maxHeartbeats 4000000

theorem relB_not {s : List UInt8} (h : relB s = false) : (s == [60]) = false ∧ (s == [60, 61]) = false ∧ (s == [62]) = false ∧ (s == [62, 61]) = false ∧ (s == [61, 61]) = false ∧ (s == [47, 61]) = false := by
  simpa [relB, relTs] using h
theorem relB_yes {s : List UInt8} (h : relB s = true) : s = [60] ∨ s = [60, 61] ∨ s = [62] ∨ s = [62, 61] ∨ s = [61, 61] ∨ s = [47, 61] := by
  simpa [relB, relTs] using h
theorem rel_cs (s : List UInt8) (H : AH) : CS Tryz.prog envX 194 [.str s] H (.bool (relB s)) H := by
  refine CS.tr0 lowX Tryz.func194 (by kernel_rfl) 0 (by simp [Tryz.f194]) (fun B hB hG => ?_) rfl rfl H
  refine Tr.goD oNilX hG (by kernel_rfl) ?_
  cases h : relB s with
  | true =>
    rcases relB_yes h with rfl | rfl | rfl | rfl | rfl | rfl <;> simp [Tryz.f194]
  | false =>
    obtain ⟨h1, h2, h3, h4, h5, h6⟩ := relB_not h
    simp [Tryz.f194, h1, h2, h3, h4, h5, h6]
def oRel : Orc := oPure 194 (fun args => match args with
  | [.str s] => some s
  | _ => none) fun s => .bool (relB s)
theorem oRel_sound : Sound Tryz.prog envX oRel := oPure_sound fun args x H h => by
  split at h
  · injection h with h
    subst h
    exact rel_cs _ H
  · cases h

theorem rr_at2 {ts : List Wd} {a : Int} {x : Option (Nat × Nat)} {e0 e1 : Option Ent} {H : AH} (ha : 0 ≤ a) : AH.at (e0 :: e1 :: some (.box [wdsAV ts, .int .i64 a, pAV x, .int .i64 (cI x)]) :: H) 2 = some (.box (rrC ts (a.toNat : Nat) x)) := by simp [AH.at, Int.toNat_of_nonneg ha]
noncomputable def oYC (ts : List Wd) : Orc := oTab [(193, oRr ts 193 (yPart ts (rsumAt ts) (ts.length + 1))), (194, oRel), (195, oRr ts 195 yfailSpec)]
theorem oYC_cx {ts : List Wd} (hts : ts.length < 1000000) : Cx (oYC ts) Tryz.prog envX := ⟨oTab_sound (by
  intro p hp
  simp only [List.mem_cons, List.not_mem_nil, or_false] at hp
  rcases hp with rfl | rfl | rfl
  · exact ysums hts
  · exact oRel_sound
  · exact yfail_sound ts), methXOk, mixed⟩
theorem oYC_sum {ts : List Wd} {a d : Int} {x : Option (Nat × Nat)} {e0 e1 : Option Ent} (H : AH) (ha : 0 ≤ a) (hd : 0 ≤ d) (hd2 : d ≤ 20) (hx : errOk x) :
    oYC ts 193 [.ptr 2 0, .int .i64 d] (e0 :: e1 :: some (.box [wdsAV ts, .int .i64 a, pAV x, .int .i64 (cI x)]) :: H) =
      some (exAV (rsumAt ts ⟨a.toNat, d.toNat, x⟩).1, e0 :: e1 :: some (.box (rrC ts (rsumAt ts ⟨a.toNat, d.toNat, x⟩).2.at_ (rsumAt ts ⟨a.toNat, d.toNat, x⟩).2.err)) :: H) := by
  rw [← ysum_at2 H ha hd hd2 hx]; simp [oYC, oTab, List.lookup]
theorem oYC_rel {ts : List Wd} (s : List UInt8) (H : AH) : oYC ts 194 [.str s] H = some (.bool (relB s), H) := by simp [oYC, oTab, List.lookup, oRel, oPure]
theorem oYC_fail {ts : List Wd} {a : Int} {x : Option (Nat × Nat)} {e0 e1 : Option Ent} (p e : Int) (H : AH) (ha : 0 ≤ a) (hx : errOk x) (hp : 0 ≤ p) (he : 0 ≤ e) :
    oYC ts 195 [.ptr 2 0, .int .i64 p, .int .i64 e] (e0 :: e1 :: some (.box [wdsAV ts, .int .i64 a, pAV x, .int .i64 (cI x)]) :: H) =
      some (.tup [], e0 :: e1 :: some (.box [wdsAV ts, .int .i64 a, pAV (some (x.getD (p.toNat, e.toNat))), .int .i64 (cI (some (x.getD (p.toNat, e.toNat))))]) :: H) := by
  have e2 : oYC ts 195 [.ptr 2 0, .int .i64 p, .int .i64 e] (e0 :: e1 :: some (.box [wdsAV ts, .int .i64 a, pAV x, .int .i64 (cI x)]) :: H) = oRr ts 195 yfailSpec 195 [.ptr 2 0, .int .i64 p, .int .i64 e] (e0 :: e1 :: some (.box [wdsAV ts, .int .i64 a, pAV x, .int .i64 (cI x)]) :: H) := by simp [oYC, oTab, List.lookup]
  rw [e2, oRr_at hx (rr_at2 ha)]
  simp [yfailSpec, hp, he, Int.toNat_of_nonneg ha]

def rparseCAV (x : (List UInt8 × Ex × Ex) × Nat × Option (Nat × Nat)) : AV := .tup [condAV x.1, .int .i64 x.2.1, wrAV x.2.2]
@[simp] theorem buD0 : abuild Tryz.prog 44 [] = some (.agg [.str [], .int .i64 0, .int .i64 0, .str [], .nilSlice, .int .i64 0, .int .i64 0, .str [], .nilSlice]) := by kernel_rfl
@[simp] theorem buD1 (a b c d : AV) : abuild Tryz.prog 44 [(1, .agg [a, b, c, d])] = some (.agg [.str [], a, b, c, d, .int .i64 0, .int .i64 0, .str [], .nilSlice]) := by kernel_rfl
theorem rsumAt_deep (ts : List Wd) : ∀ r, (rsumAt ts r).2.deep = r.deep := rsum_deep ts _
theorem rsumAt_okE (ts : List Wd) : okE (rsumAt ts) := rrowF_okE (rrowF_okE (rfac_okE ts _))

theorem rparsec_cs (ts : List Wd) (hts : ts.length < 1000000) (H : AH) : CS Tryz.prog envX 165 [wdsAV ts] H (rparseCAV (rparseC ts)) H := by
  have X := oYC_cx hts
  refine CS.tr0 lowX Tryz.func165 (by kernel_rfl) 0 (by simp [Tryz.f165]) (fun B hB hG => ?_) (by simp [rparseCAV, condAV, wrAV]) (by simp) H
  refine Tr.goD X hG (by kernel_rfl) ?_
  have h1 := fun H e0 e1 => oYC_sum (ts := ts) (a := 0) (d := 0) (x := none) (e0 := e0) (e1 := e1) H (by omega) (by omega) (by omega) errOk_none
  have hdp := rsumAt_deep ts ⟨0, 0, none⟩
  have hok' := rsumAt_okE ts ⟨0, 0, none⟩ errOk_none
  simp only [rparseC]
  simp [pAV_none, cI_none] at h1
  generalize rsumAt ts ⟨0, 0, none⟩ = p at *
  obtain ⟨e, ⟨b, d, x⟩⟩ := p
  simp only at h1 hdp hok'
  subst hdp
  cases x with
  | some y =>
    have h0 : (cI (some y) == 0) = false := by rw [beq_eq_false_iff_ne]; intro h; have := (cI_zero hok').1 h; cases this
    have h0' : ¬ cI (some y) = 0 := fun h => by have := (cI_zero hok').1 h; cases this
    have h0b : (cI (some y) != 0) = true := by simp [bne, h0]
    have hcm : condMid ts ⟨b, 0, some y⟩ = ([], ⟨b, 0, some y⟩) := rfl
    rw [hcm]
    simp only
    simp [Tryz.f165, h1, h0, h0', h0b]
    refine LpD.turns X hG [5, 7] [(1, 5), (2, 5), (3, 5), (4, 5)] (by kernel_rfl) ?_
    simp [rparseCAV, condAV, wrAV]
  | none =>
    have hfl := fun H e0 e1 => oYC_fail (ts := ts) (a := b) (x := none) (e0 := e0) (e1 := e1) b 2 H (by omega) errOk_none (by omega) (by omega)
    simp [cI_none] at hfl
    have c2 : cI (some (b, 2)) = 2 := rfl
    by_cases hl : b < ts.length
    · have hl' : (b : Int) < ts.length := by omega
      have hl2 : ¬ ((ts.length : Int) ≤ b) := by omega
      obtain ⟨w, hw⟩ : ∃ w, ts[b]? = some w := ⟨_, List.getElem?_eq_getElem hl⟩
      obtain ⟨c0, c1, c3⟩ := cellX hw
      by_cases hk : w.kind = 3
      · have hk' : (w.kind : Int) = 3 := by omega
        cases hrb : relB w.text with
        | true =>
          have hcm : condMid ts ⟨b, 0, none⟩ = (w.text, ⟨b + 1, 0, none⟩) := by simp [condMid, hw, hk, hrb, St.step]
          have w1 : IntKind.i64.wrap ((b : Int) + 1) = (b : Int) + 1 := wrap_i64 (by omega) (by omega)
          have h2 := fun H e0 e1 => oYC_sum (ts := ts) (a := (b : Int) + 1) (d := 0) (x := none) (e0 := e0) (e1 := e1) H (by omega) (by omega) (by omega) errOk_none
          have hok2 := rsumAt_okE ts ⟨b + 1, 0, none⟩ errOk_none
          have en : ((b : Int) + 1).toNat = b + 1 := by omega
          simp only [en] at h2
          rw [hcm]
          simp only
          simp [cI_none] at h2
          generalize rsumAt ts ⟨b + 1, 0, none⟩ = p2 at *
          obtain ⟨e2, ⟨b2, d2, x2⟩⟩ := p2
          simp only at h2 hok2
          cases x2 with
          | none =>
            simp [Tryz.f165, h1, cI_none, hl, hl', hl2, c0, c1, hk', oYC_rel, hrb, w1, h2]
            refine LpD.turns X hG [6, 8] [(1, 6), (2, 6), (3, 6), (4, 6), (5, 6)] (by kernel_rfl) ?_
            simp [rparseCAV, condAV, wrAV, pAV_none, cI_none]
          | some y =>
            have h0 : (cI (some y) == 0) = false := by rw [beq_eq_false_iff_ne]; intro h; have := (cI_zero hok2).1 h; cases this
            have h0' : ¬ cI (some y) = 0 := fun h => by have := (cI_zero hok2).1 h; cases this
            have h0b : (cI (some y) != 0) = true := by simp [bne, h0]
            simp [Tryz.f165, h1, cI_none, hl, hl', hl2, c0, c1, hk', oYC_rel, hrb, w1, h2, h0, h0', h0b]
            refine LpD.turns X hG [5, 7] [(1, 5), (2, 5), (3, 5), (4, 5)] (by kernel_rfl) ?_
            simp [rparseCAV, condAV, wrAV]
        | false =>
          have hcm : condMid ts ⟨b, 0, none⟩ = ([], ⟨b, 0, some (b, 2)⟩) := by simp [condMid, hw, hk, hrb, St.fail]
          rw [hcm]
          simp only
          simp [Tryz.f165, h1, cI_none, hl, hl', hl2, c0, c1, hk', oYC_rel, hrb, hfl, c2]
          refine LpD.turns X hG [5, 7] [(1, 5), (2, 5), (3, 5), (4, 5)] (by kernel_rfl) ?_
          simp [rparseCAV, condAV, wrAV, c2]
      · have hk' : ((w.kind : Int) == 3) = false := by rw [beq_eq_false_iff_ne]; omega
        have hk2 : ¬ (w.kind : Int) = 3 := by omega
        have hk3 : ((w.kind : Int) != 3) = true := by simp [bne, hk']
        have hcm : condMid ts ⟨b, 0, none⟩ = ([], ⟨b, 0, some (b, 2)⟩) := by simp [condMid, hw, hk, St.fail]
        rw [hcm]
        simp only
        simp [Tryz.f165, h1, cI_none, hl, hl', hl2, c0, c1, hk', hk2, hk3, hfl, c2]
        refine LpD.turns X hG [5, 7] [(1, 5), (2, 5), (3, 5), (4, 5)] (by kernel_rfl) ?_
        simp [rparseCAV, condAV, wrAV, c2]
    · have hw : ts[b]? = none := List.getElem?_eq_none (by omega)
      have hl' : ¬ (b : Int) < ts.length := by omega
      have hl2 : ((ts.length : Int) ≤ b) := by omega
      have hcm : condMid ts ⟨b, 0, none⟩ = ([], ⟨b, 0, some (b, 2)⟩) := by simp [condMid, hw, St.fail]
      rw [hcm]
      simp only
      simp [Tryz.f165, h1, cI_none, hl', hl2, hfl, c2]
      refine LpD.turns X hG [5, 7] [(1, 5), (2, 5), (3, 5), (4, 5)] (by kernel_rfl) ?_
      simp [rparseCAV, condAV, wrAV, c2]
end Go.Proofs.YtejjlojfgcgopaaGreatDoor
