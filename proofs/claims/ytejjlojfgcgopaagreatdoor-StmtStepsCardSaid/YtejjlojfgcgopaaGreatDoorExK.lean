/- The reference's reader of expressions: fail, sign, took. The reference's reader of expressions: took; term, expr. -/
import Derived.Test.YtejjlojfgcgopaaGreatDoorExI
import Derived.Test.YtejjlojfgcgopaaGreatDoorTrD
set_option linter.unusedSimpArgs false
set_option linter.unusedVariables false
namespace Go.Proofs.YtejjlojfgcgopaaGreatDoor
open Go.RowKit Go.Proofs.Fw
set_option maxRecDepth 100000
set_option maxHeartbeats 4000000
-- 

@[simp] theorem immXRR : envX.imm 293 = false := by decide
@[simp] theorem immXRE : envX.imm 42 = true := by decide
@[simp high] theorem alenXR (l : List Wd) : alen Tryz.prog 54 (wdsAV l) = some (.int .i64 l.length) := by
  unfold wdsAV
  split
  · rename_i h; subst h; simp [alen]
  · simp [alen]
@[simp high] theorem aidxXR {l : List Wd} {i : Nat} (h : i < l.length) : aindexAddr Tryz.prog 54 (wdsAV l) (.int .i64 (i : Int)) = some (.vptr (wdsCells l) (i * 4)) := by
  have hne : l ≠ [] := by rintro rfl; simp at h
  have : (i : Int) < l.length := by omega
  simp [wdsAV, hne, aindexAddr, h]

/-- No error bears the number 0. -/
def errOk (x : Option (Nat × Nat)) : Prop := ∀ p, x ≠ some (p, 0)
theorem errOk_none : errOk none := fun _ h => by cases h
def pAV : Option (Nat × Nat) → AV
  | none => .nilSlice
  | some (p, _) => .slice .full 2 1 [.str exprTxt, .int .i64 (p : Int)]
def cI : Option (Nat × Nat) → Int
  | none => 0
  | some (_, c) => (c : Int)
theorem cI_zero {x : Option (Nat × Nat)} (h : errOk x) : (cI x = 0) ↔ x = none := by
  cases x with
  | none => simp [cI]
  | some y =>
    obtain ⟨p, c⟩ := y
    have : c ≠ 0 := fun hc => h p (by rw [hc])
    simp [cI]
    omega
@[simp ↓ high] theorem pAV_low (m : Nat) (x : Option (Nat × Nat)) : low m (pAV x) = true := by
  cases x with
  | none => rfl
  | some x => rfl
@[simp ↓ high] theorem pAV_ids (x : Option (Nat × Nat)) : idsOf (pAV x) = [] := by cases x <;> rfl
@[simp ↓ high] theorem pAV_known (x : Option (Nat × Nat)) : (pAV x).known = true := by cases x <;> rfl
@[simp ↓ high] theorem pAV_one (x : Option (Nat × Nat)) : (pAV x).one = true := by cases x <;> rfl
@[simp ↓ high] theorem pAV_cells (x : Option (Nat × Nat)) : cellsAV (pAV x) = [pAV x] := by cases x <;> rfl
theorem pc_inj {x y : Option (Nat × Nat)} (h1 : pAV x = pAV y) (h2 : cI x = cI y) : x = y := by
  cases x with
  | none => cases y with
    | none => rfl
    | some y => simp [pAV] at h1
  | some x => cases y with
    | none => simp [pAV] at h1
    | some y =>
      obtain ⟨p, c⟩ := x
      obtain ⟨q, d⟩ := y
      simp [pAV] at h1
      simp [cI] at h2
      have e1 : p = q := by omega
      have e2 : c = d := by omega
      rw [e1, e2]
/-- The reference's reader, as it lies. -/
def rrC (ts : List Wd) (a : Int) (x : Option (Nat × Nat)) : List AV := [wdsAV ts, .int .i64 a, pAV x, .int .i64 (cI x)]
@[simp] theorem rrC_eq (ts : List Wd) (a : Int) (x : Option (Nat × Nat)) : rrC ts a x = [wdsAV ts, .int .i64 a, pAV x, .int .i64 (cI x)] := nrfl rfl
theorem rrC_low (ts : List Wd) (a : Int) (x : Option (Nat × Nat)) : lowL 0 (rrC ts a x) = true := by simp
theorem rrC_inj {ts : List Wd} {a b : Nat} {x y : Option (Nat × Nat)} (h : rrC ts (a : Int) x = rrC ts (b : Int) y) : a = b ∧ x = y := by
  simp only [rrC_eq, List.cons.injEq, AV.int.injEq, true_and, and_true] at h
  exact ⟨by omega, pc_inj h.2.1 h.2.2⟩

noncomputable def oRatX : Orc := oRat
theorem oRatX_cx : Cx oRat Tryz.prog envX := ⟨Sound.toX (Sound.toN oRat_sound), methXOk, mixed⟩
theorem oRat_at (w : List UInt8) (p e : Int) (H : AH) : oRat 24 [.str w, .int .i64 p, .int .i64 e] H = some (.agg [.slice .full 2 1 [.str w, .int .i64 p], .int .i64 e], H) := by simp [oRat, oPure]

theorem yfail_cs (ts : List Wd) (a : Nat) (x : Option (Nat × Nat)) (hx : errOk x) (p e : Nat) {H : AH} {id : Nat} (hH : H.at id = some (.box (rrC ts a x))) :
    CS Tryz.prog envX 195 [.ptr id 0, .int .i64 (p : Int), .int .i64 (e : Int)] H (.tup []) (H.set id (some (.box (rrC ts a (some (x.getD (p, e))))))) := by
  refine CS.rd lowX Tryz.func195 (by kernel_rfl) 0 (by simp [Tryz.f195]) (fun B hB hG => ?_) (by simp) rfl (rrC_low _ _ _) (rrC_low _ _ _) hH
  refine Tr.goD oRatX_cx hG (by kernel_rfl) ?_
  cases x with
  | none => simp [Tryz.f195, cI, pAV, oRat_at, exprTxt]
  | some y =>
    have h0 : ¬ cI (some y) = 0 := fun h => by have := (cI_zero hx).1 h; cases this
    simp [Tryz.f195, h0]

theorem ysign_cs (ts : List Wd) (a : Nat) (x : Option (Nat × Nat)) (hx : errOk x) (s : List UInt8) {H : AH} {id : Nat} (hH : H.at id = some (.box (rrC ts a x))) :
    CS Tryz.prog envX 196 [.ptr id 0, .str s] H (.bool (nextB ts ⟨a, 0, x⟩ s)) (H.set id (some (.box (rrC ts a x)))) := by
  refine CS.rd lowX Tryz.func196 (by kernel_rfl) 0 (by simp [Tryz.f196]) (fun B hB hG => ?_) (by simp) rfl (rrC_low _ _ _) (rrC_low _ _ _) hH
  refine Tr.goD oNilX hG (by kernel_rfl) ?_
  simp [Tryz.f196]
  refine LpD.turns oNilX hG [] [] (by kernel_rfl) ?_
  cases x with
  | some y =>
    have h0 : (cI (some y) == 0) = false := by rw [beq_eq_false_iff_ne]; intro h; have := (cI_zero hx).1 h; cases this
    simp [nextB, h0]
  | none =>
    by_cases hl : a < ts.length
    · have hl' : (a : Int) < ts.length := by omega
      obtain ⟨w, hw⟩ : ∃ w, ts[a]? = some w := ⟨_, List.getElem?_eq_getElem hl⟩
      obtain ⟨c0, c1, c3⟩ := cellX hw
      have hn : isS ts a s = (w.kind == 3 && w.text == s) := by simp only [isS, hw]
      by_cases hk : w.kind = 3
      · simp [nextB, hn, cI, hl, hl', hk, c0, c1]
      · have hk' : ((w.kind : Int) == 3) = false := by rw [beq_eq_false_iff_ne]; omega
        simp [nextB, hn, cI, hl, hl', hk, hk', c0, c1]
    · have hl' : ¬ ((a : Int) < ts.length) := by omega
      have hw : ts[a]? = none := List.getElem?_eq_none (by omega)
      have hn : isS ts a s = false := by simp only [isS, hw]
      simp [nextB, hn, cI, hl', hw]
end Go.Proofs.YtejjlojfgcgopaaGreatDoor

namespace Go.Proofs.YtejjlojfgcgopaaGreatDoor
open Go.RowKit Go.Proofs.Fw
set_option maxRecDepth 100000
set_option maxHeartbeats 4000000

open Classical in
/-- What a method of the reference's reader answers. -/
noncomputable def oRr (ts : List Wd) (f0 : FuncId) (spec : List AV → St → Option (AV × St)) : Orc := fun f args H =>
  if f = f0 then (match args with
    | .ptr id 0 :: rest => if h : ∃ r : St, r.deep = 0 ∧ errOk r.err ∧ H.at id = some (.box (rrC ts r.at_ r.err)) then (spec rest h.choose).map fun x => (x.1, H.set id (some (.box (rrC ts x.2.at_ x.2.err)))) else none
    | _ => none) else none
theorem oRr_at {ts : List Wd} {f0 : FuncId} {spec : List AV → St → Option (AV × St)} {id : Nat} {rest : List AV} {H : AH} {a : Nat} {x : Option (Nat × Nat)} (hx : errOk x) (h : H.at id = some (.box (rrC ts a x))) :
    oRr ts f0 spec f0 (.ptr id 0 :: rest) H = (spec rest ⟨a, 0, x⟩).map fun x => (x.1, H.set id (some (.box (rrC ts x.2.at_ x.2.err)))) := by
  have hq : ∃ r : St, r.deep = 0 ∧ errOk r.err ∧ H.at id = some (.box (rrC ts r.at_ r.err)) := ⟨⟨a, 0, x⟩, rfl, hx, h⟩
  obtain ⟨h1, h2, h3⟩ := hq.choose_spec
  have hc := h.symm.trans h3
  simp only [Option.some.injEq, Ent.box.injEq] at hc
  obtain ⟨e1, e2⟩ := rrC_inj hc
  have : hq.choose = ⟨a, 0, x⟩ := by
    cases hs : hq.choose with
    | mk a' d' x' =>
      rw [hs] at e1 e2 h1
      simp only at e1 e2 h1
      rw [e1, e2, h1]
  simp only [oRr, if_true, dif_pos hq, this]
theorem oRr_sound {ts : List Wd} {f0 : FuncId} {spec : List AV → St → Option (AV × St)}
    (h : ∀ rest r v r', spec rest r = some (v, r') → r.deep = 0 → errOk r.err → ∀ H id, H.at id = some (.box (rrC ts r.at_ r.err)) → CS Tryz.prog envX f0 (.ptr id 0 :: rest) H v (H.set id (some (.box (rrC ts r'.at_ r'.err))))) : Sound Tryz.prog envX (oRr ts f0 spec) := by
  intro f args H v H' ho
  unfold oRr at ho
  split at ho
  · rename_i hf
    subst hf
    split at ho
    · rename_i id rest
      split at ho
      · rename_i hx
        obtain ⟨x, hs, hx2⟩ := Option.map_eq_some_iff.1 ho
        simp only [Prod.mk.injEq] at hx2
        obtain ⟨rfl, rfl⟩ := hx2
        obtain ⟨q1, q2, q3⟩ := hx.choose_spec
        refine ⟨h _ _ _ _ hs q1 q2 _ _ q3, by simp, fun j _ hj => at_set_noneX q3 hj⟩
      · cases ho
    · cases ho
  · cases ho
theorem rr_at {ts : List Wd} {a : Int} {x : Option (Nat × Nat)} {H : AH} (ha : 0 ≤ a) : AH.at (some (.box [wdsAV ts, .int .i64 a, pAV x, .int .i64 (cI x)]) :: H) 0 = some (.box (rrC ts (a.toNat : Nat) x)) := by
  simp [AH.at, Int.toNat_of_nonneg ha]

theorem ysign_sound (ts : List Wd) : Sound Tryz.prog envX (oRr ts 196 (nextSpec ts)) := oRr_sound fun rest r v r' h h0 hx H id hH => by
  unfold nextSpec at h
  split at h
  · injection h with h
    simp only [Prod.mk.injEq] at h
    obtain ⟨rfl, rfl⟩ := h
    exact ysign_cs ts r.at_ r.err hx _ hH
  · cases h
def yfailSpec (rest : List AV) (r : St) : Option (AV × St) := match rest with
  | [.int .i64 p, .int .i64 e] => if 0 ≤ p ∧ 0 ≤ e then some (.tup [], ⟨r.at_, 0, some (r.err.getD (p.toNat, e.toNat))⟩) else none
  | _ => none
theorem yfail_sound (ts : List Wd) : Sound Tryz.prog envX (oRr ts 195 yfailSpec) := oRr_sound fun rest r v r' h h0 hx H id hH => by
  unfold yfailSpec at h
  split at h
  · rename_i p e
    split at h
    · rename_i hpe
      injection h with h
      simp only [Prod.mk.injEq] at h
      obtain ⟨rfl, rfl⟩ := h
      have := yfail_cs ts r.at_ r.err hx p.toNat e.toNat hH
      rwa [Int.toNat_of_nonneg hpe.1, Int.toNat_of_nonneg hpe.2] at this
    · cases h
  · cases h
theorem sy_sign {ts : List Wd} {a : Int} {x : Option (Nat × Nat)} (s : List UInt8) (H : AH) (ha : 0 ≤ a) (hx : errOk x) : oRr ts 196 (nextSpec ts) 196 [.ptr 0 0, .str s] (some (.box [wdsAV ts, .int .i64 a, pAV x, .int .i64 (cI x)]) :: H) =
    some (.bool (nextB ts ⟨a.toNat, 0, x⟩ s), some (.box [wdsAV ts, .int .i64 a, pAV x, .int .i64 (cI x)]) :: H) := by
  rw [oRr_at hx (rr_at ha)]
  simp [nextSpec, Int.toNat_of_nonneg ha]
theorem sy_fail {ts : List Wd} {a : Int} {x : Option (Nat × Nat)} (p e : Int) (H : AH) (ha : 0 ≤ a) (hx : errOk x) (hp : 0 ≤ p) (he : 0 ≤ e) : oRr ts 195 yfailSpec 195 [.ptr 0 0, .int .i64 p, .int .i64 e] (some (.box [wdsAV ts, .int .i64 a, pAV x, .int .i64 (cI x)]) :: H) =
    some (.tup [], some (.box [wdsAV ts, .int .i64 a, pAV (some (x.getD (p.toNat, e.toNat))), .int .i64 (cI (some (x.getD (p.toNat, e.toNat))))]) :: H) := by
  rw [oRr_at hx (rr_at ha)]
  simp [yfailSpec, hp, he, Int.toNat_of_nonneg ha]

theorem oSg_cx (ts : List Wd) : Cx (oRr ts 196 (nextSpec ts)) Tryz.prog envX := ⟨ysign_sound ts, methXOk, mixed⟩
theorem took_cs (ts : List Wd) (hts : ts.length < 1000000) (a : Nat) (x : Option (Nat × Nat)) (hx : errOk x) (s : List UInt8) {H : AH} {id : Nat} (hH : H.at id = some (.box (rrC ts a x))) :
    CS Tryz.prog envX 197 [.ptr id 0, .str s] H (.bool (nextB ts ⟨a, 0, x⟩ s)) (H.set id (some (.box (rrC ts (takesR ts ⟨a, 0, x⟩ s).at_ (takesR ts ⟨a, 0, x⟩ s).err)))) := by
  refine CS.rd lowX Tryz.func197 (by kernel_rfl) 0 (by simp [Tryz.f197]) (fun B hB hG => ?_) (by simp) rfl (rrC_low _ _ _) (rrC_low _ _ _) hH
  refine Tr.goD (oSg_cx ts) hG (by kernel_rfl) ?_
  have hsg := fun H => sy_sign (ts := ts) (a := a) (x := x) s H (by omega) hx
  simp at hsg
  cases hn : nextB ts ⟨a, 0, x⟩ s with
  | true =>
    have hl : a < ts.length := nextB_lt hn
    have w1 : IntKind.i64.wrap ((a : Int) + 1) = (a : Int) + 1 := wrap_i64 (by omega) (by omega)
    simp [Tryz.f197, takesR, hn, hsg, w1, St.step]
  | false => simp [Tryz.f197, takesR, hn, hsg]
theorem took_sound (ts : List Wd) (hts : ts.length < 1000000) : Sound Tryz.prog envX (oRr ts 197 (takesSpec ts)) := oRr_sound fun rest r v r' h h0 hx H id hH => by
  unfold takesSpec at h
  split at h
  · injection h with h
    simp only [Prod.mk.injEq] at h
    obtain ⟨rfl, rfl⟩ := h
    obtain ⟨a, d, x⟩ := r
    simp only at h0
    subst h0
    exact took_cs ts hts a x hx _ hH
  · cases h
theorem sy_took_t {ts : List Wd} {a : Int} {x : Option (Nat × Nat)} (s : List UInt8) (H : AH) (ha : 0 ≤ a) (hx : errOk x) (hn : nextB ts ⟨a.toNat, 0, x⟩ s = true) :
    oRr ts 197 (takesSpec ts) 197 [.ptr 0 0, .str s] (some (.box [wdsAV ts, .int .i64 a, pAV x, .int .i64 (cI x)]) :: H) = some (.bool true, some (.box [wdsAV ts, .int .i64 (a + 1), pAV x, .int .i64 (cI x)]) :: H) := by
  rw [oRr_at hx (rr_at ha)]
  simp [takesSpec, takesR, hn, St.step, Int.toNat_of_nonneg ha]
theorem sy_took_f {ts : List Wd} {a : Int} {x : Option (Nat × Nat)} (s : List UInt8) (H : AH) (ha : 0 ≤ a) (hx : errOk x) (hn : nextB ts ⟨a.toNat, 0, x⟩ s = false) :
    oRr ts 197 (takesSpec ts) 197 [.ptr 0 0, .str s] (some (.box [wdsAV ts, .int .i64 a, pAV x, .int .i64 (cI x)]) :: H) = some (.bool false, some (.box [wdsAV ts, .int .i64 a, pAV x, .int .i64 (cI x)]) :: H) := by
  rw [oRr_at hx (rr_at ha)]
  simp [takesSpec, takesR, hn, Int.toNat_of_nonneg ha]

theorem rrowL_up {ts : List Wd} {of : Rd} (h : upw of) {f s : List UInt8} {one two : Nat} : ∀ (n : Nat) (e : Ex), upw (rrowL ts of f one s two n e)
  | 0, e, r => Nat.le_refl _
  | n + 1, e, r => by
    have h1 := h r.step
    simp only [rrowL]
    split
    · have := rrowL_up h (ts := ts) (f := f) (s := s) (one := one) (two := two) n (.bin one e (of r.step).1) (of r.step).2
      simp only [St.step] at h1 this ⊢
      omega
    · split
      · have := rrowL_up h (ts := ts) (f := f) (s := s) (one := one) (two := two) n (.bin two e (of r.step).1) (of r.step).2
        simp only [St.step] at h1 this ⊢
        omega
      · exact Nat.le_refl _
theorem rrowF_up {ts : List Wd} {of : Rd} (h : upw of) {f s : List UInt8} {one two : Nat} : upw (rrowF ts of f one s two) := fun r => Nat.le_trans (h r) (rrowL_up h _ _ _)
def okE (of : Rd) : Prop := ∀ r, errOk r.err → errOk (of r).2.err
theorem rrowL_okE {ts : List Wd} {of : Rd} (h : okE of) {f s : List UInt8} {one two : Nat} : ∀ (n : Nat) (e : Ex), okE (rrowL ts of f one s two n e)
  | 0, e, r, hr => hr
  | n + 1, e, r, hr => by
    have h1 := h r.step hr
    simp only [rrowL]
    split
    · exact rrowL_okE h n _ _ h1
    · split
      · exact rrowL_okE h n _ _ h1
      · exact hr
theorem rrowF_okE {ts : List Wd} {of : Rd} (h : okE of) {f s : List UInt8} {one two : Nat} : okE (rrowF ts of f one s two) := fun r hr => rrowL_okE h _ _ _ (h r hr)

/-- What a part's reader answers: handed the reader, and how deep it stands. -/
def RAns (O : Orc) (ts : List Wd) (g : FuncId) (of : Rd) (n : Nat) : Prop := ∀ (a d : Int) (x : Option (Nat × Nat)) (H : AH), 0 ≤ a → 0 ≤ d → d ≤ 20 → errOk x → ts.length - a.toNat < n →
  O g [.ptr 0 0, .int .i64 d] (some (.box [wdsAV ts, .int .i64 a, pAV x, .int .i64 (cI x)]) :: H) = some (exAV (of ⟨a.toNat, d.toNat, x⟩).1, some (.box (rrC ts (of ⟨a.toNat, d.toNat, x⟩).2.at_ (of ⟨a.toNat, d.toNat, x⟩).2.err)) :: H)
structure TookO (O : Orc) (ts : List Wd) : Prop where
  tookT : ∀ (a : Int) (x : Option (Nat × Nat)) (s : List UInt8) (H : AH), 0 ≤ a → errOk x → nextB ts ⟨a.toNat, 0, x⟩ s = true →
    O 197 [.ptr 0 0, .str s] (some (.box [wdsAV ts, .int .i64 a, pAV x, .int .i64 (cI x)]) :: H) = some (.bool true, some (.box [wdsAV ts, .int .i64 (a + 1), pAV x, .int .i64 (cI x)]) :: H)
  tookF : ∀ (a : Int) (x : Option (Nat × Nat)) (s : List UInt8) (H : AH), 0 ≤ a → errOk x → nextB ts ⟨a.toNat, 0, x⟩ s = false →
    O 197 [.ptr 0 0, .str s] (some (.box [wdsAV ts, .int .i64 a, pAV x, .int .i64 (cI x)]) :: H) = some (.bool false, some (.box [wdsAV ts, .int .i64 a, pAV x, .int .i64 (cI x)]) :: H)
@[simp] theorem buY0 : abuild Tryz.prog 42 [] = some (.agg [.int .i64 0, .int .i64 0, .str [], .nilSlice]) := by kernel_rfl
@[simp] theorem buY1 (k n : Int) : abuild Tryz.prog 42 [(0, .int .i64 k), (1, .int .i64 n)] = some (.agg [.int .i64 k, .int .i64 n, .str [], .nilSlice]) := by kernel_rfl
@[simp] theorem buY2 (k : Int) (s : List UInt8) : abuild Tryz.prog 42 [(0, .int .i64 k), (2, .str s)] = some (.agg [.int .i64 k, .int .i64 0, .str s, .nilSlice]) := by kernel_rfl
@[simp] theorem buY3 (k : Int) (ow : Own) (sz n : Nat) (cs : List AV) : abuild Tryz.prog 42 [(0, .int .i64 k), (3, .slice ow sz n cs)] = some (.agg [.int .i64 k, .int .i64 0, .str [], .slice ow sz n cs]) := by kernel_rfl
@[simp] theorem buY4 (k : Int) (s : List UInt8) (ow : Own) (sz n : Nat) (cs : List AV) : abuild Tryz.prog 42 [(0, .int .i64 k), (2, .str s), (3, .slice ow sz n cs)] = some (.agg [.int .i64 k, .int .i64 0, .str s, .slice ow sz n cs]) := by kernel_rfl
@[simp] theorem bsY1 (a b c d : AV) : abuildSlice Tryz.prog 40 1 [(0, .agg [a, b, c, d])] = some (.slice .full 4 1 [a, b, c, d]) := by kernel_rfl
@[simp] theorem bsY2 (a b c d e f g h : AV) : abuildSlice Tryz.prog 40 2 [(0, .agg [a, b, c, d]), (1, .agg [e, f, g, h])] = some (.slice .full 4 2 [a, b, c, d, e, f, g, h]) := by kernel_rfl

def yterm_I (ts : List Wd) (of : Rd) (dd n : Nat) (res : Ex × St) (k : Nat) (t : List AV) (H : AH) : Prop :=
  ∃ (e : Ex) (r : St), rrowL ts of starT 7 slashT 8 k e r = res ∧ ts.length - r.at_ < k ∧ ts.length - r.at_ < n ∧ r.deep = dd ∧ errOk r.err ∧
    t = mkT 24 [(0, .ptr 0 0), (1, .int .i64 (dd : Int)), (4, .ptr 1 0), (5, .ptr 2 0)] ∧ H = [some (.box (rrC ts r.at_ r.err)), some (.box (exC .none)), some (.box (exC e))]
theorem yterm_cs (ts : List Wd) (hts : ts.length < 1000000) {O : Orc} (X : Cx O Tryz.prog envX) (hT : TookO O ts) {of : Rd} {n : Nat} (hA : RAns O ts 225 of n) (hu : upw of) (hd : ∀ r, (of r).2.deep = r.deep) (hok : okE of)
    (a dd : Nat) (x : Option (Nat × Nat)) (hx : errOk x) (hr : dd ≤ 20) (hn : ts.length - a < n) {H : AH} {id : Nat} (hH : H.at id = some (.box (rrC ts a x))) :
    CS Tryz.prog envX 215 [.ptr id 0, .int .i64 (dd : Int)] H (exAV (rrowF ts of starT 7 slashT 8 ⟨a, dd, x⟩).1) (H.set id (some (.box (rrC ts (rrowF ts of starT 7 slashT 8 ⟨a, dd, x⟩).2.at_ (rrowF ts of starT 7 slashT 8 ⟨a, dd, x⟩).2.err)))) := by
  refine CS.rd lowX Tryz.func215 (by kernel_rfl) 0 (by simp [Tryz.f215]) (fun B hB hG => ?_) (by simp) (by simp) (rrC_low _ _ _) (rrC_low _ _ _) hH
  have hdr : (dd : Int) ≤ 20 := by omega
  have h1 := fun H => hA a dd x H (by omega) (by omega) hdr hx (by simpa using hn)
  simp only [Int.toNat_natCast] at h1
  have hu1 := hu ⟨a, dd, x⟩
  have hd1 := hd ⟨a, dd, x⟩
  have hk1 := hok ⟨a, dd, x⟩ hx
  simp only [rrowF]
  generalize hof : of ⟨a, dd, x⟩ = p at *
  obtain ⟨e, q⟩ := p
  simp only at h1 hu1 hd1 hk1
  refine Tr.goD X hG (by kernel_rfl) ?_
  simp at h1
  simp [Tryz.f215, h1]
  refine LpD.loopN X hG (by kernel_rfl) (yterm_I ts of dd n (rrowL ts of starT 7 slashT 8 (ts.length + 1) e q)) (ts.length + 1)
    (t' := mkT 24 [(0, .ptr 0 0), (1, .int .i64 (dd : Int)), (4, .ptr 1 0), (5, .ptr 2 0)])
    (H' := [some (.box (rrC ts q.at_ q.err)), some (.box (exC .none)), some (.box (exC e))]) (Less.mkK 3 (by simp [hB]) (by simp) (by simp) (by simp)) ⟨e, q, rfl, by omega, by omega, hd1, hk1, rfl, rfl⟩ ?_
  rintro k t H ⟨e', r', hres, hk, hkn, hdp, hrx, rfl, rfl⟩
  cases k with
  | zero => omega
  | succ k =>
    obtain ⟨b, d, y⟩ := r'
    simp only at hk hkn hdp hrx
    subst hdp
    have hnx : ∀ s, nextB ts ⟨b, d, y⟩ s = nextB ts ⟨b, 0, y⟩ s := fun s => rfl
    cases hf : nextB ts ⟨b, 0, y⟩ starT with
    | true =>
      have hl : b < ts.length := nextB_lt hf
      have w1 : IntKind.i64.wrap ((b : Int) + 1) = (b : Int) + 1 := wrap_i64 (by omega) (by omega)
      have h2 := fun H => hA (b + 1 : Nat) d y H (by omega) (by omega) hdr hrx (by simp only [Int.toNat_natCast]; omega)
      have t1 := fun H => hT.tookT b y starT H (by omega) hrx (by simpa using hf)
      simp [starT] at t1
      simp at h2
      simp [t1]
      refine LpD.turns X hG [4, 7] [(0, 4), (1, 4)] (by kernel_rfl) ?_
      simp [h2]
      refine Nxt.mk k (by omega) (Less.mkK 3 (l' := [(0, .ptr 0 0), (1, .int .i64 (d : Int)), (4, .ptr 1 0), (5, .ptr 2 0)])
        (H' := [some (.box (rrC ts (of ⟨b + 1, d, y⟩).2.at_ (of ⟨b + 1, d, y⟩).2.err)), some (.box (exC .none)), some (.box (exC (.bin 7 e' (of ⟨b + 1, d, y⟩).1)))]) (by simp [hB]) (by simp) (by simp) (by simp))
        ⟨.bin 7 e' (of ⟨b + 1, d, y⟩).1, (of ⟨b + 1, d, y⟩).2, ?_, ?_, ?_, ?_, hok ⟨b + 1, d, y⟩ hrx, rfl, rfl⟩
      · rw [← hres]; simp [rrowL, hnx, hf, St.step]
      · have := hu ⟨b + 1, d, y⟩; simp only at this; omega
      · have := hu ⟨b + 1, d, y⟩; simp only at this; omega
      · exact hd ⟨b + 1, d, y⟩
    | false =>
      have t1 := fun H => hT.tookF b y starT H (by omega) hrx (by simpa using hf)
      simp [starT] at t1
      cases hs : nextB ts ⟨b, 0, y⟩ slashT with
      | true =>
        have hl : b < ts.length := nextB_lt hs
        have w1 : IntKind.i64.wrap ((b : Int) + 1) = (b : Int) + 1 := wrap_i64 (by omega) (by omega)
        have h2 := fun H => hA (b + 1 : Nat) d y H (by omega) (by omega) hdr hrx (by simp only [Int.toNat_natCast]; omega)
        have t2 := fun H => hT.tookT b y slashT H (by omega) hrx (by simpa using hs)
        simp [slashT] at t2
        simp at h2
        simp [t1, t2]
        refine LpD.turns X hG [4, 7] [(0, 4), (1, 4)] (by kernel_rfl) ?_
        simp [h2]
        refine Nxt.mk k (by omega) (Less.mkK 3 (l' := [(0, .ptr 0 0), (1, .int .i64 (d : Int)), (4, .ptr 1 0), (5, .ptr 2 0)])
          (H' := [some (.box (rrC ts (of ⟨b + 1, d, y⟩).2.at_ (of ⟨b + 1, d, y⟩).2.err)), some (.box (exC .none)), some (.box (exC (.bin 8 e' (of ⟨b + 1, d, y⟩).1)))]) (by simp [hB]) (by simp) (by simp) (by simp))
          ⟨.bin 8 e' (of ⟨b + 1, d, y⟩).1, (of ⟨b + 1, d, y⟩).2, ?_, ?_, ?_, ?_, hok ⟨b + 1, d, y⟩ hrx, rfl, rfl⟩
        · rw [← hres]; simp [rrowL, hnx, hf, hs, St.step]
        · have := hu ⟨b + 1, d, y⟩; simp only at this; omega
        · have := hu ⟨b + 1, d, y⟩; simp only at this; omega
        · exact hd ⟨b + 1, d, y⟩
      | false =>
        have t2 := fun H => hT.tookF b y slashT H (by omega) hrx (by simpa using hs)
        simp [slashT] at t2
        have hr2 : rrowL ts of starT 7 slashT 8 (k + 1) e' ⟨b, d, y⟩ = (e', ⟨b, d, y⟩) := by simp [rrowL, hnx, hs, hf]
        rw [← hres, hr2]
        simp [t1, t2]

def yexpr_I (ts : List Wd) (of : Rd) (dd n : Nat) (res : Ex × St) (k : Nat) (t : List AV) (H : AH) : Prop :=
  ∃ (e : Ex) (r : St), rrowL ts of plusT 5 minusT 6 k e r = res ∧ ts.length - r.at_ < k ∧ ts.length - r.at_ < n ∧ r.deep = dd ∧ errOk r.err ∧
    t = mkT 24 [(0, .ptr 0 0), (1, .int .i64 (dd : Int)), (4, .ptr 1 0), (5, .ptr 2 0)] ∧ H = [some (.box (rrC ts r.at_ r.err)), some (.box (exC .none)), some (.box (exC e))]
theorem yexpr_cs (ts : List Wd) (hts : ts.length < 1000000) {O : Orc} (X : Cx O Tryz.prog envX) (hT : TookO O ts) {of : Rd} {n : Nat} (hA : RAns O ts 215 of n) (hu : upw of) (hd : ∀ r, (of r).2.deep = r.deep) (hok : okE of)
    (a dd : Nat) (x : Option (Nat × Nat)) (hx : errOk x) (hr : dd ≤ 20) (hn : ts.length - a < n) {H : AH} {id : Nat} (hH : H.at id = some (.box (rrC ts a x))) :
    CS Tryz.prog envX 193 [.ptr id 0, .int .i64 (dd : Int)] H (exAV (rrowF ts of plusT 5 minusT 6 ⟨a, dd, x⟩).1) (H.set id (some (.box (rrC ts (rrowF ts of plusT 5 minusT 6 ⟨a, dd, x⟩).2.at_ (rrowF ts of plusT 5 minusT 6 ⟨a, dd, x⟩).2.err)))) := by
  refine CS.rd lowX Tryz.func193 (by kernel_rfl) 0 (by simp [Tryz.f193]) (fun B hB hG => ?_) (by simp) (by simp) (rrC_low _ _ _) (rrC_low _ _ _) hH
  have hdr : (dd : Int) ≤ 20 := by omega
  have h1 := fun H => hA a dd x H (by omega) (by omega) hdr hx (by simpa using hn)
  simp only [Int.toNat_natCast] at h1
  have hu1 := hu ⟨a, dd, x⟩
  have hd1 := hd ⟨a, dd, x⟩
  have hk1 := hok ⟨a, dd, x⟩ hx
  simp only [rrowF]
  generalize hof : of ⟨a, dd, x⟩ = p at *
  obtain ⟨e, q⟩ := p
  simp only at h1 hu1 hd1 hk1
  refine Tr.goD X hG (by kernel_rfl) ?_
  simp at h1
  simp [Tryz.f193, h1]
  refine LpD.loopN X hG (by kernel_rfl) (yexpr_I ts of dd n (rrowL ts of plusT 5 minusT 6 (ts.length + 1) e q)) (ts.length + 1)
    (t' := mkT 24 [(0, .ptr 0 0), (1, .int .i64 (dd : Int)), (4, .ptr 1 0), (5, .ptr 2 0)])
    (H' := [some (.box (rrC ts q.at_ q.err)), some (.box (exC .none)), some (.box (exC e))]) (Less.mkK 3 (by simp [hB]) (by simp) (by simp) (by simp)) ⟨e, q, rfl, by omega, by omega, hd1, hk1, rfl, rfl⟩ ?_
  rintro k t H ⟨e', r', hres, hk, hkn, hdp, hrx, rfl, rfl⟩
  cases k with
  | zero => omega
  | succ k =>
    obtain ⟨b, d, y⟩ := r'
    simp only at hk hkn hdp hrx
    subst hdp
    have hnx : ∀ s, nextB ts ⟨b, d, y⟩ s = nextB ts ⟨b, 0, y⟩ s := fun s => rfl
    cases hf : nextB ts ⟨b, 0, y⟩ plusT with
    | true =>
      have hl : b < ts.length := nextB_lt hf
      have w1 : IntKind.i64.wrap ((b : Int) + 1) = (b : Int) + 1 := wrap_i64 (by omega) (by omega)
      have h2 := fun H => hA (b + 1 : Nat) d y H (by omega) (by omega) hdr hrx (by simp only [Int.toNat_natCast]; omega)
      have t1 := fun H => hT.tookT b y plusT H (by omega) hrx (by simpa using hf)
      simp [plusT] at t1
      simp at h2
      simp [t1]
      refine LpD.turns X hG [4, 7] [(0, 4), (1, 4)] (by kernel_rfl) ?_
      simp [h2]
      refine Nxt.mk k (by omega) (Less.mkK 3 (l' := [(0, .ptr 0 0), (1, .int .i64 (d : Int)), (4, .ptr 1 0), (5, .ptr 2 0)])
        (H' := [some (.box (rrC ts (of ⟨b + 1, d, y⟩).2.at_ (of ⟨b + 1, d, y⟩).2.err)), some (.box (exC .none)), some (.box (exC (.bin 5 e' (of ⟨b + 1, d, y⟩).1)))]) (by simp [hB]) (by simp) (by simp) (by simp))
        ⟨.bin 5 e' (of ⟨b + 1, d, y⟩).1, (of ⟨b + 1, d, y⟩).2, ?_, ?_, ?_, ?_, hok ⟨b + 1, d, y⟩ hrx, rfl, rfl⟩
      · rw [← hres]; simp [rrowL, hnx, hf, St.step]
      · have := hu ⟨b + 1, d, y⟩; simp only at this; omega
      · have := hu ⟨b + 1, d, y⟩; simp only at this; omega
      · exact hd ⟨b + 1, d, y⟩
    | false =>
      have t1 := fun H => hT.tookF b y plusT H (by omega) hrx (by simpa using hf)
      simp [plusT] at t1
      cases hs : nextB ts ⟨b, 0, y⟩ minusT with
      | true =>
        have hl : b < ts.length := nextB_lt hs
        have w1 : IntKind.i64.wrap ((b : Int) + 1) = (b : Int) + 1 := wrap_i64 (by omega) (by omega)
        have h2 := fun H => hA (b + 1 : Nat) d y H (by omega) (by omega) hdr hrx (by simp only [Int.toNat_natCast]; omega)
        have t2 := fun H => hT.tookT b y minusT H (by omega) hrx (by simpa using hs)
        simp [minusT] at t2
        simp at h2
        simp [t1, t2]
        refine LpD.turns X hG [4, 7] [(0, 4), (1, 4)] (by kernel_rfl) ?_
        simp [h2]
        refine Nxt.mk k (by omega) (Less.mkK 3 (l' := [(0, .ptr 0 0), (1, .int .i64 (d : Int)), (4, .ptr 1 0), (5, .ptr 2 0)])
          (H' := [some (.box (rrC ts (of ⟨b + 1, d, y⟩).2.at_ (of ⟨b + 1, d, y⟩).2.err)), some (.box (exC .none)), some (.box (exC (.bin 6 e' (of ⟨b + 1, d, y⟩).1)))]) (by simp [hB]) (by simp) (by simp) (by simp))
          ⟨.bin 6 e' (of ⟨b + 1, d, y⟩).1, (of ⟨b + 1, d, y⟩).2, ?_, ?_, ?_, ?_, hok ⟨b + 1, d, y⟩ hrx, rfl, rfl⟩
        · rw [← hres]; simp [rrowL, hnx, hf, hs, St.step]
        · have := hu ⟨b + 1, d, y⟩; simp only at this; omega
        · have := hu ⟨b + 1, d, y⟩; simp only at this; omega
        · exact hd ⟨b + 1, d, y⟩
      | false =>
        have t2 := fun H => hT.tookF b y minusT H (by omega) hrx (by simpa using hs)
        simp [minusT] at t2
        have hr2 : rrowL ts of plusT 5 minusT 6 (k + 1) e' ⟨b, d, y⟩ = (e', ⟨b, d, y⟩) := by simp [rrowL, hnx, hs, hf]
        rw [← hres, hr2]
        simp [t1, t2]
end Go.Proofs.YtejjlojfgcgopaaGreatDoor
