/- The program's reader of expressions: takes, must; what a method answers, as an oracle. The program's reader of expressions: row. The program's reader of expressions: term, sum, within. The program's reader of expressions: within, name. -/
import Derived.Test.YtejjlojfgcgopaaGreatDoorZ11
set_option linter.unusedSimpArgs false
set_option linter.unusedVariables false
namespace Go.Proofs.YtejjlojfgcgopaaGreatDoor
open Go.RowKit Go.Proofs.Fw
set_option maxRecDepth 100000
set_option maxHeartbeats 4000000
theorem fail_eq (r : St) (p e : Nat) : r.fail p e = ⟨r.at_, r.deep, some (r.err.getD (p, e))⟩ := by
  obtain ⟨a, d, x⟩ := r
  cases x <;> rfl
theorem at_set_noneX {H : AH} {i j : Nat} {e x : Ent} (hx : H.at i = some x) (hj : H.at j = none) : AH.at (H.set i (some e)) j = none := by
  have hij : i ≠ j := fun h => by subst h; rw [hx] at hj; cases hj
  unfold AH.at at hj ⊢
  rw [List.getElem?_set_ne hij]
  exact hj
open Classical in
noncomputable def oRd (ts : List Wd) (f0 : FuncId) (spec : List AV → St → Option (AV × St)) : Orc := fun f args H =>
  if f = f0 then (match args with
    | .ptr id 0 :: rest => if h : ∃ r : St, H.at id = some (.box (r.cells ts)) then (spec rest h.choose).map fun x => (x.1, H.set id (some (.box (x.2.cells ts)))) else none
    | _ => none) else none
theorem oRd_at {ts : List Wd} {f0 : FuncId} {spec : List AV → St → Option (AV × St)} {id : Nat} {rest : List AV} {H : AH} {r : St} (h : H.at id = some (.box (r.cells ts))) :
    oRd ts f0 spec f0 (.ptr id 0 :: rest) H = (spec rest r).map fun x => (x.1, H.set id (some (.box (x.2.cells ts)))) := by
  have hx : ∃ r : St, H.at id = some (.box (r.cells ts)) := ⟨r, h⟩
  have hc := h.symm.trans hx.choose_spec
  simp only [Option.some.injEq, Ent.box.injEq] at hc
  have : hx.choose = r := (St.cells_inj hc).symm
  simp only [oRd, if_true, dif_pos hx, this]
theorem oRd_sound {ts : List Wd} {f0 : FuncId} {spec : List AV → St → Option (AV × St)}
    (h : ∀ rest r v r', spec rest r = some (v, r') → ∀ H id, H.at id = some (.box (r.cells ts)) → CS Tryz.prog envX f0 (.ptr id 0 :: rest) H v (H.set id (some (.box (r'.cells ts))))) : Sound Tryz.prog envX (oRd ts f0 spec) := by
  intro f args H v H' ho
  unfold oRd at ho
  split at ho
  · rename_i hf
    subst hf
    split at ho
    · rename_i id rest
      split at ho
      · rename_i hx
        obtain ⟨x, hs, hx2⟩ := Option.map_eq_some_iff.1 ho
        simp only [Prod.mk.injEq] at hx2
        obtain ⟨rfl, rfl⟩ := hx2
        refine ⟨h _ _ _ _ hs _ _ hx.choose_spec, by simp, fun j _ hj => at_set_noneX hx.choose_spec hj⟩
      · cases ho
    · cases ho
  · cases ho
def nextSpec (ts : List Wd) (rest : List AV) (r : St) : Option (AV × St) := match rest with
  | [.str s] => some (.bool (nextB ts r s), r)
  | _ => none
def failSpec (rest : List AV) (r : St) : Option (AV × St) := match rest with
  | [.int .i64 p, .int .i64 e] => if 0 ≤ p ∧ 0 ≤ e then some (.tup [], r.fail p.toNat e.toNat) else none
  | _ => none
theorem next_sound (ts : List Wd) : Sound Tryz.prog envX (oRd ts 180 (nextSpec ts)) := oRd_sound fun rest r v r' h H id hH => by
  unfold nextSpec at h
  split at h
  · injection h with h
    simp only [Prod.mk.injEq] at h
    obtain ⟨rfl, rfl⟩ := h
    exact next_cs ts r _ hH
  · cases h
theorem fail_sound (ts : List Wd) : Sound Tryz.prog envX (oRd ts 181 failSpec) := oRd_sound fun rest r v r' h H id hH => by
  unfold failSpec at h
  split at h
  · rename_i p e
    split at h
    · rename_i hpe
      injection h with h
      simp only [Prod.mk.injEq] at h
      obtain ⟨rfl, rfl⟩ := h
      have := fail_cs ts r p.toNat e.toNat hH
      rwa [Int.toNat_of_nonneg hpe.1, Int.toNat_of_nonneg hpe.2] at this
    · cases h
  · cases h
theorem rd_at {ts : List Wd} {a d : Int} {x : Option (Nat × Nat)} {H : AH} (ha : 0 ≤ a) (hd : 0 ≤ d) : AH.at (some (.box [wdsAV ts, .int .i64 a, .int .i64 d, eAV x]) :: H) 0 = some (.box ((⟨a.toNat, d.toNat, x⟩ : St).cells ts)) := by
  simp [AH.at, St.cells, Int.toNat_of_nonneg ha, Int.toNat_of_nonneg hd]
structure Sm1 (O : Orc) (ts : List Wd) : Prop where
  next : ∀ (a d : Int) (x : Option (Nat × Nat)) (s : List UInt8) (H : AH), 0 ≤ a → 0 ≤ d → O 180 [.ptr 0 0, .str s] (some (.box [wdsAV ts, .int .i64 a, .int .i64 d, eAV x]) :: H) =
    some (.bool (nextB ts ⟨a.toNat, d.toNat, x⟩ s), some (.box [wdsAV ts, .int .i64 a, .int .i64 d, eAV x]) :: H)
  fail : ∀ (a d : Int) (x : Option (Nat × Nat)) (p e : Int) (H : AH), 0 ≤ a → 0 ≤ d → 0 ≤ p → 0 ≤ e → O 181 [.ptr 0 0, .int .i64 p, .int .i64 e] (some (.box [wdsAV ts, .int .i64 a, .int .i64 d, eAV x]) :: H) =
    some (.tup [], some (.box [wdsAV ts, .int .i64 a, .int .i64 d, eAV (some (x.getD (p.toNat, e.toNat)))]) :: H)
theorem sm_next {ts : List Wd} {a d : Int} {x : Option (Nat × Nat)} (s : List UInt8) (H : AH) (ha : 0 ≤ a) (hd : 0 ≤ d) : oRd ts 180 (nextSpec ts) 180 [.ptr 0 0, .str s] (some (.box [wdsAV ts, .int .i64 a, .int .i64 d, eAV x]) :: H) =
    some (.bool (nextB ts ⟨a.toNat, d.toNat, x⟩ s), some (.box [wdsAV ts, .int .i64 a, .int .i64 d, eAV x]) :: H) := by
  rw [oRd_at (rd_at ha hd)]
  simp [nextSpec, St.cells, Int.toNat_of_nonneg ha, Int.toNat_of_nonneg hd]
theorem sm_fail {ts : List Wd} {a d : Int} {x : Option (Nat × Nat)} (p e : Int) (H : AH) (ha : 0 ≤ a) (hd : 0 ≤ d) (hp : 0 ≤ p) (he : 0 ≤ e) : oRd ts 181 failSpec 181 [.ptr 0 0, .int .i64 p, .int .i64 e] (some (.box [wdsAV ts, .int .i64 a, .int .i64 d, eAV x]) :: H) =
    some (.tup [], some (.box [wdsAV ts, .int .i64 a, .int .i64 d, eAV (some (x.getD (p.toNat, e.toNat)))]) :: H) := by
  rw [oRd_at (rd_at ha hd)]
  simp [failSpec, fail_eq, St.cells, Int.toNat_of_nonneg ha, Int.toNat_of_nonneg hd, hp, he]
noncomputable def oSm1 (ts : List Wd) : Orc := oTab [(180, oRd ts 180 (nextSpec ts)), (181, oRd ts 181 failSpec)]
theorem oSm1_cx (ts : List Wd) : Cx (oSm1 ts) Tryz.prog envX := ⟨oTab_sound (by
  intro p hp
  simp only [List.mem_cons, List.not_mem_nil, or_false] at hp
  rcases hp with rfl | rfl
  · exact next_sound ts
  · exact fail_sound ts), methXOk, mixed⟩
theorem oSm1_sm (ts : List Wd) : Sm1 (oSm1 ts) ts := ⟨fun a d x s H ha hd => by
    rw [← sm_next s H ha hd]; simp [oSm1, oTab, List.lookup], fun a d x p e H ha hd hp he => by
    rw [← sm_fail p e H ha hd hp he]; simp [oSm1, oTab, List.lookup]⟩
theorem nextB_lt {ts : List Wd} {r : St} {s : List UInt8} (h : nextB ts r s = true) : r.at_ < ts.length := by
  simp only [nextB, isS, Bool.and_eq_true] at h
  have h2 := h.2
  split at h2
  · rename_i hw; exact (List.getElem?_eq_some_iff.1 hw).1
  · cases h2
def takesR (ts : List Wd) (r : St) (s : List UInt8) : St := if nextB ts r s = true then r.step else r
theorem takes_cs (ts : List Wd) (hts : ts.length < 1000000) (r : St) (s : List UInt8) {H : AH} {id : Nat} (hH : H.at id = some (.box (r.cells ts))) :
    CS Tryz.prog envX 233 [.ptr id 0, .str s] H (.bool (nextB ts r s)) (H.set id (some (.box ((takesR ts r s).cells ts)))) := by
  refine CS.rd lowX Tryz.func233 (by kernel_rfl) 0 (by simp [Tryz.f233]) (fun B hB hG => ?_) (by simp) rfl (St.cells_low ts r) (St.cells_low ts _) hH
  refine Tr.goD (oSm1_cx ts) hG (by kernel_rfl) ?_
  cases hn : nextB ts r s with
  | true =>
    have hl := nextB_lt hn
    have w1 : IntKind.i64.wrap ((r.at_ : Int) + 1) = (r.at_ : Int) + 1 := wrap_i64 (by omega) (by omega)
    simp [Tryz.f233, St.cells, takesR, hn, (oSm1_sm ts).next, w1, St.step]
  | false => simp [Tryz.f233, St.cells, takesR, hn, (oSm1_sm ts).next]
def takesSpec (ts : List Wd) (rest : List AV) (r : St) : Option (AV × St) := match rest with
  | [.str s] => some (.bool (nextB ts r s), takesR ts r s)
  | _ => none
theorem takes_sound (ts : List Wd) (hts : ts.length < 1000000) : Sound Tryz.prog envX (oRd ts 233 (takesSpec ts)) := oRd_sound fun rest r v r' h H id hH => by
  unfold takesSpec at h
  split at h
  · injection h with h
    simp only [Prod.mk.injEq] at h
    obtain ⟨rfl, rfl⟩ := h
    exact takes_cs ts hts r _ hH
  · cases h
theorem sm_takes_t {ts : List Wd} {a d : Int} {x : Option (Nat × Nat)} (s : List UInt8) (H : AH) (ha : 0 ≤ a) (hd : 0 ≤ d) (hn : nextB ts ⟨a.toNat, d.toNat, x⟩ s = true) :
    oRd ts 233 (takesSpec ts) 233 [.ptr 0 0, .str s] (some (.box [wdsAV ts, .int .i64 a, .int .i64 d, eAV x]) :: H) = some (.bool true, some (.box [wdsAV ts, .int .i64 (a + 1), .int .i64 d, eAV x]) :: H) := by
  rw [oRd_at (rd_at ha hd)]
  simp [takesSpec, takesR, hn, St.step, St.cells, Int.toNat_of_nonneg ha, Int.toNat_of_nonneg hd]
theorem sm_takes_f {ts : List Wd} {a d : Int} {x : Option (Nat × Nat)} (s : List UInt8) (H : AH) (ha : 0 ≤ a) (hd : 0 ≤ d) (hn : nextB ts ⟨a.toNat, d.toNat, x⟩ s = false) :
    oRd ts 233 (takesSpec ts) 233 [.ptr 0 0, .str s] (some (.box [wdsAV ts, .int .i64 a, .int .i64 d, eAV x]) :: H) = some (.bool false, some (.box [wdsAV ts, .int .i64 a, .int .i64 d, eAV x]) :: H) := by
  rw [oRd_at (rd_at ha hd)]
  simp [takesSpec, takesR, hn, St.cells, Int.toNat_of_nonneg ha, Int.toNat_of_nonneg hd]
noncomputable def oSm2 (ts : List Wd) : Orc := oTab [(233, oRd ts 233 (takesSpec ts)), (181, oRd ts 181 failSpec)]
theorem oSm2_cx (ts : List Wd) (hts : ts.length < 1000000) : Cx (oSm2 ts) Tryz.prog envX := ⟨oTab_sound (by
  intro p hp
  simp only [List.mem_cons, List.not_mem_nil, or_false] at hp
  rcases hp with rfl | rfl
  · exact takes_sound ts hts
  · exact fail_sound ts), methXOk, mixed⟩
theorem oSm2_t {ts : List Wd} : ∀ (a d : Int) (x : Option (Nat × Nat)) (s : List UInt8) (H : AH), 0 ≤ a → 0 ≤ d → nextB ts ⟨a.toNat, d.toNat, x⟩ s = true →
    oSm2 ts 233 [.ptr 0 0, .str s] (some (.box [wdsAV ts, .int .i64 a, .int .i64 d, eAV x]) :: H) = some (.bool true, some (.box [wdsAV ts, .int .i64 (a + 1), .int .i64 d, eAV x]) :: H) := fun a d x s H ha hd hn => by
  rw [← sm_takes_t s H ha hd hn]; simp [oSm2, oTab, List.lookup]
theorem oSm2_f {ts : List Wd} : ∀ (a d : Int) (x : Option (Nat × Nat)) (s : List UInt8) (H : AH), 0 ≤ a → 0 ≤ d → nextB ts ⟨a.toNat, d.toNat, x⟩ s = false →
    oSm2 ts 233 [.ptr 0 0, .str s] (some (.box [wdsAV ts, .int .i64 a, .int .i64 d, eAV x]) :: H) = some (.bool false, some (.box [wdsAV ts, .int .i64 a, .int .i64 d, eAV x]) :: H) := fun a d x s H ha hd hn => by
  rw [← sm_takes_f s H ha hd hn]; simp [oSm2, oTab, List.lookup]
theorem oSm2_fail {ts : List Wd} : ∀ (a d : Int) (x : Option (Nat × Nat)) (p e : Int) (H : AH), 0 ≤ a → 0 ≤ d → 0 ≤ p → 0 ≤ e → oSm2 ts 181 [.ptr 0 0, .int .i64 p, .int .i64 e] (some (.box [wdsAV ts, .int .i64 a, .int .i64 d, eAV x]) :: H) =
    some (.tup [], some (.box [wdsAV ts, .int .i64 a, .int .i64 d, eAV (some (x.getD (p.toNat, e.toNat)))]) :: H) := fun a d x p e H ha hd hp he => by
  rw [← sm_fail p e H ha hd hp he]; simp [oSm2, oTab, List.lookup]
theorem must_cs (ts : List Wd) (hts : ts.length < 1000000) (r : St) (s : List UInt8) {H : AH} {id : Nat} (hH : H.at id = some (.box (r.cells ts))) :
    CS Tryz.prog envX 235 [.ptr id 0, .str s] H (.tup []) (H.set id (some (.box ((mustS ts r s).cells ts)))) := by
  refine CS.rd lowX Tryz.func235 (by kernel_rfl) 0 (by simp [Tryz.f235]) (fun B hB hG => ?_) (by simp) rfl (St.cells_low ts r) (St.cells_low ts _) hH
  refine Tr.goD (oSm2_cx ts hts) hG (by kernel_rfl) ?_
  cases hn : nextB ts r s with
  | true => simp [Tryz.f235, St.cells, mustS, hn, oSm2_t, St.step]
  | false => simp [Tryz.f235, St.cells, mustS, hn, oSm2_f, oSm2_fail, fail_eq]
def mustSpec (ts : List Wd) (rest : List AV) (r : St) : Option (AV × St) := match rest with
  | [.str s] => some (.tup [], mustS ts r s)
  | _ => none
theorem must_sound (ts : List Wd) (hts : ts.length < 1000000) : Sound Tryz.prog envX (oRd ts 235 (mustSpec ts)) := oRd_sound fun rest r v r' h H id hH => by
  unfold mustSpec at h
  split at h
  · injection h with h
    simp only [Prod.mk.injEq] at h
    obtain ⟨rfl, rfl⟩ := h
    exact must_cs ts hts r _ hH
  · cases h
end Go.Proofs.YtejjlojfgcgopaaGreatDoor
namespace Go.Proofs.YtejjlojfgcgopaaGreatDoor
open Go.RowKit Go.Proofs.Fw
set_option maxRecDepth 100000
set_option maxHeartbeats 4000000
theorem Less.mkK {B : Bs} {n : Nat} {l l' : List (Nat × AV)} {H H' : AH} (m : Nat) (hm : B.H.length ≤ m) (h : ∀ p ∈ l', (l.lookup p.1).getD .undef = p.2 ∧ low m p.2 = true) (hH : H.take m = H') (hl : lowH m H' = true) : Less B (Fw.mkT n l) H (Fw.mkT n l') H' :=
  Less.mkT m hm (fun p hp => .same (h p hp).1 (h p hp).2) hH hl
theorem low_at (m : Nat) {a : AV} (h : low 0 a = true) : low m a = true := low_mono (Nat.zero_le m) a h
@[simp ↓ high] theorem ar_lowm (m : Nat) (e : Ex) : low m e.ar = true := low_at m (ar_low e)
@[simp ↓ high] theorem eAV_lowm (m : Nat) (x : Option (Nat × Nat)) : low m (eAV x) = true := low_at m (eAV_low x)
@[simp ↓ high] theorem wdsAV_lowm (m : Nat) (l : List Wd) : low m (wdsAV l) = true := low_at m (wdsAV_low' l)
@[simp] theorem kd_none : Ex.none.kd = 0 := nrfl rfl
@[simp] theorem kd_num (n : Nat) : (Ex.num n).kd = 1 := nrfl rfl
@[simp] theorem kd_var (s : List UInt8) : (Ex.var s).kd = 2 := nrfl rfl
@[simp] theorem kd_elem (s : List UInt8) (a : List Ex) : (Ex.elem s a).kd = 3 := nrfl rfl
@[simp] theorem kd_neg (e : Ex) : (Ex.neg e).kd = 4 := nrfl rfl
@[simp] theorem kd_bin (k : Nat) (a b : Ex) : (Ex.bin k a b).kd = (k : Int) := nrfl rfl
@[simp] theorem nn_none : Ex.none.nn = 0 := nrfl rfl
@[simp] theorem nn_num (n : Nat) : (Ex.num n).nn = n := nrfl rfl
@[simp] theorem nn_var (s : List UInt8) : (Ex.var s).nn = 0 := nrfl rfl
@[simp] theorem nn_elem (s : List UInt8) (a : List Ex) : (Ex.elem s a).nn = 0 := nrfl rfl
@[simp] theorem nn_neg (e : Ex) : (Ex.neg e).nn = 0 := nrfl rfl
@[simp] theorem nn_bin (k : Nat) (a b : Ex) : (Ex.bin k a b).nn = 0 := nrfl rfl
@[simp] theorem nm_none : Ex.none.nm = [] := nrfl rfl
@[simp] theorem nm_num (n : Nat) : (Ex.num n).nm = [] := nrfl rfl
@[simp] theorem nm_var (s : List UInt8) : (Ex.var s).nm = s := nrfl rfl
@[simp] theorem nm_elem (s : List UInt8) (a : List Ex) : (Ex.elem s a).nm = s := nrfl rfl
@[simp] theorem nm_neg (e : Ex) : (Ex.neg e).nm = [] := nrfl rfl
@[simp] theorem nm_bin (k : Nat) (a b : Ex) : (Ex.bin k a b).nm = [] := nrfl rfl
attribute [simp] ar_none ar_num ar_var ar_elem ar_neg ar_bin
def upw (of : Rd) : Prop := ∀ r, r.at_ ≤ (of r).2.at_
theorem rowL_up {ts : List Wd} {of : Rd} (h : upw of) {f s : List UInt8} {one two : Nat} : ∀ (n : Nat) (e : Ex), upw (rowL ts of f one s two n e)
  | 0, e, r => Nat.le_refl _
  | n + 1, e, r => by
    have h1 := h r.step
    simp only [rowL]
    split
    · exact Nat.le_refl _
    · split
      · have := rowL_up h (ts := ts) (f := f) (s := s) (one := one) (two := two) n (.bin two e (of r.step).1) (of r.step).2
        simp only [St.step] at h1 this ⊢
        omega
      · split
        · have := rowL_up h (ts := ts) (f := f) (s := s) (one := one) (two := two) n (.bin one e (of r.step).1) (of r.step).2
          simp only [St.step] at h1 this ⊢
          omega
        · exact Nat.le_refl _
theorem rowF_up {ts : List Wd} {of : Rd} (h : upw of) {f s : List UInt8} {one two : Nat} : upw (rowF ts of f one s two) := fun r => Nat.le_trans (h r) (rowL_up h _ _ _)
def Ans (O : Orc) (ts : List Wd) (g : FuncId) (of : Rd) (n : Nat) : Prop := ∀ (a d : Int) (x : Option (Nat × Nat)) (H : AH), 0 ≤ a → 0 ≤ d → d ≤ 20 → ts.length - a.toNat < n →
  O g [.ptr 0 0] (some (.box [wdsAV ts, .int .i64 a, .int .i64 d, eAV x]) :: H) = some (exAV (of ⟨a.toNat, d.toNat, x⟩).1, some (.box ((of ⟨a.toNat, d.toNat, x⟩).2.cells ts)) :: H)
def RowI (ts : List Wd) (of : Rd) (g : FuncId) (f : List UInt8) (one : Nat) (s : List UInt8) (two : Nat) (n : Nat) (res : Ex × St) (k : Nat) (t : List AV) (H : AH) : Prop :=
  ∃ (e : Ex) (r : St), rowL ts of f one s two k e r = res ∧ ts.length - r.at_ < k ∧ ts.length - r.at_ < n ∧ r.deep ≤ 20 ∧
    t = mkT 47 [(0, .ptr 0 0), (1, .func (.func g) [.ptr 0 0] []), (2, .str f), (3, .int .i64 one), (4, .str s), (5, .int .i64 two), (12, .ptr 1 0), (13, .ptr 2 0)] ∧
    H = [some (.box (r.cells ts)), some (.box (exC .none)), some (.box (exC e))]
theorem row_tr (ts : List Wd) (hts : ts.length < 1000000) {O : Orc} (X : Cx O Tryz.prog envX) (hN : ∀ (a d : Int) (x : Option (Nat × Nat)) (s : List UInt8) (H : AH), 0 ≤ a → 0 ≤ d → O 180 [.ptr 0 0, .str s] (some (.box [wdsAV ts, .int .i64 a, .int .i64 d, eAV x]) :: H) =
    some (.bool (nextB ts ⟨a.toNat, d.toNat, x⟩ s), some (.box [wdsAV ts, .int .i64 a, .int .i64 d, eAV x]) :: H)) {g : FuncId} (hg : goFn Tryz.prog g = true) {of : Rd} {n : Nat} (hA : Ans O ts g of n) (hu : upw of) (hd : ∀ r, (of r).2.deep = r.deep)
    (f : List UInt8) (one : Nat) (s : List UInt8) (two : Nat) (r : St) (hr : r.deep ≤ 20) (hn : ts.length - r.at_ < n) (B : Bs) (hB : B.H = [some (.box (r.cells ts))]) (hG : GlobOk envX B.g) :
    Tr Tryz.prog B (bodyOf Tryz.f209) (mkT 47 (argL 0 [.ptr 0 0, .func (.func g) [.ptr 0 0] [], .str f, .int .i64 one, .str s, .int .i64 two])) [some (.box (r.cells ts))]
      (Fin Tryz.prog Tryz.f209 1 0 (exAV (rowF ts of f one s two r).1) [some (.box ((rowF ts of f one s two r).2.cells ts))]) := by
  have hdr : ((r.deep : Int)) ≤ 20 := by omega
  have h1 := fun H => hA r.at_ r.deep r.err H (by omega) (by omega) hdr (by simpa using hn)
  simp only [Int.toNat_natCast] at h1
  have hu1 := hu r
  have hd1 := hd r
  simp only [rowF]
  generalize hof : of r = p at *
  obtain ⟨e, q⟩ := p
  simp only at h1 hu1 hd1
  refine Tr.goD X hG (by kernel_rfl) ?_
  simp [St.cells] at h1
  simp [Tryz.f209, St.cells, hg, h1]
  refine LpD.loopN X hG (by kernel_rfl) (RowI ts of g f one s two n (rowL ts of f one s two (ts.length + 1) e q)) (ts.length + 1)
    (t' := mkT 47 [(0, .ptr 0 0), (1, .func (.func g) [.ptr 0 0] []), (2, .str f), (3, .int .i64 one), (4, .str s), (5, .int .i64 two), (12, .ptr 1 0), (13, .ptr 2 0)])
    (H' := [some (.box (q.cells ts)), some (.box (exC .none)), some (.box (exC e))]) (Less.mkK 3 (by simp [hB]) (by simp) (by simp [St.cells]) (by simp [St.cells])) ⟨e, q, rfl, by omega, by omega, by omega, rfl, rfl⟩ ?_
  rintro k t H ⟨e', r', hres, hk, hkn, hdp, rfl, rfl⟩
  cases k with
  | zero => omega
  | succ k =>
    have hdp' : (r'.deep : Int) ≤ 20 := by omega
    cases he : r'.err with
    | some x =>
      have hr2 : rowL ts of f one s two (k + 1) e' r' = (.none, r') := by simp [rowL, he]
      rw [← hres, hr2]
      simp [St.cells, he, Blk_exit]
    | none =>
      obtain ⟨a, d, x⟩ := r'
      simp only at he hk hkn hdp hdp'
      subst he
      cases hs : nextB ts ⟨a, d, none⟩ s with
      | true =>
        have hl : a < ts.length := nextB_lt hs
        have w1 : IntKind.i64.wrap ((a : Int) + 1) = (a : Int) + 1 := wrap_i64 (by omega) (by omega)
        have h2 := fun H => hA (a + 1 : Nat) d none H (by omega) (by omega) hdp' (by simp only [Int.toNat_natCast]; omega)
        simp [St.cells] at h2
        simp [St.cells, hN, hs, w1, Blk_exit]
        refine LpD.turns X hG [3, 6] [(0, 3), (1, 3)] (by kernel_rfl) ?_
        simp [hg, h2]
        refine Nxt.mk k (by omega) (Less.mkK 3 (l' := [(0, .ptr 0 0), (1, .func (.func g) [.ptr 0 0] []), (2, .str f), (3, .int .i64 one), (4, .str s), (5, .int .i64 two), (12, .ptr 1 0), (13, .ptr 2 0)])
          (H' := [some (.box ((of ⟨a + 1, d, none⟩).2.cells ts)), some (.box (exC .none)), some (.box (exC (.bin two e' (of ⟨a + 1, d, none⟩).1)))]) (by simp [hB]) (by simp) (by simp [St.cells]) (by simp [St.cells]))
          ⟨.bin two e' (of ⟨a + 1, d, none⟩).1, (of ⟨a + 1, d, none⟩).2, ?_, ?_, ?_, ?_, rfl, rfl⟩
        · rw [← hres]; simp [rowL, hs, St.step]
        · have := hu ⟨a + 1, d, none⟩; simp only at this; omega
        · have := hu ⟨a + 1, d, none⟩; simp only at this; omega
        · have := hd ⟨a + 1, d, none⟩; simp only at this; omega
      | false =>
        cases hf : nextB ts ⟨a, d, none⟩ f with
        | true =>
          have hl : a < ts.length := nextB_lt hf
          have w1 : IntKind.i64.wrap ((a : Int) + 1) = (a : Int) + 1 := wrap_i64 (by omega) (by omega)
          have h2 := fun H => hA (a + 1 : Nat) d none H (by omega) (by omega) hdp' (by simp only [Int.toNat_natCast]; omega)
          simp [St.cells] at h2
          simp [St.cells, hN, hs, hf, w1, Blk_exit]
          refine LpD.turns X hG [3, 6] [(0, 3), (1, 3)] (by kernel_rfl) ?_
          simp [hg, h2]
          refine Nxt.mk k (by omega) (Less.mkK 3 (l' := [(0, .ptr 0 0), (1, .func (.func g) [.ptr 0 0] []), (2, .str f), (3, .int .i64 one), (4, .str s), (5, .int .i64 two), (12, .ptr 1 0), (13, .ptr 2 0)])
            (H' := [some (.box ((of ⟨a + 1, d, none⟩).2.cells ts)), some (.box (exC .none)), some (.box (exC (.bin one e' (of ⟨a + 1, d, none⟩).1)))]) (by simp [hB]) (by simp) (by simp [St.cells]) (by simp [St.cells]))
            ⟨.bin one e' (of ⟨a + 1, d, none⟩).1, (of ⟨a + 1, d, none⟩).2, ?_, ?_, ?_, ?_, rfl, rfl⟩
          · rw [← hres]; simp [rowL, hs, hf, St.step]
          · have := hu ⟨a + 1, d, none⟩; simp only at this; omega
          · have := hu ⟨a + 1, d, none⟩; simp only at this; omega
          · have := hd ⟨a + 1, d, none⟩; simp only at this; omega
        | false =>
          have hr2 : rowL ts of f one s two (k + 1) e' ⟨a, d, none⟩ = (e', ⟨a, d, none⟩) := by simp [rowL, hs, hf]
          rw [← hres, hr2]
          simp [St.cells, hN, hs, hf, Blk_exit]
theorem row_cs (ts : List Wd) (hts : ts.length < 1000000) {O : Orc} (X : Cx O Tryz.prog envX) (hN : ∀ (a d : Int) (x : Option (Nat × Nat)) (s : List UInt8) (H : AH), 0 ≤ a → 0 ≤ d → O 180 [.ptr 0 0, .str s] (some (.box [wdsAV ts, .int .i64 a, .int .i64 d, eAV x]) :: H) =
    some (.bool (nextB ts ⟨a.toNat, d.toNat, x⟩ s), some (.box [wdsAV ts, .int .i64 a, .int .i64 d, eAV x]) :: H)) {g : FuncId} (hg : goFn Tryz.prog g = true) {of : Rd} {n : Nat} (hA : Ans O ts g of n) (hu : upw of) (hd : ∀ r, (of r).2.deep = r.deep)
    (f : List UInt8) (one : Nat) (s : List UInt8) (two : Nat) (r : St) (hr : r.deep ≤ 20) (hn : ts.length - r.at_ < n) {H : AH} {id : Nat} (hH : H.at id = some (.box (r.cells ts))) :
    CS Tryz.prog envX 209 [.ptr id 0, .func (.func g) [.ptr id 0] [], .str f, .int .i64 one, .str s, .int .i64 two] H (exAV (rowF ts of f one s two r).1) (H.set id (some (.box ((rowF ts of f one s two r).2.cells ts)))) := by
  have := CS.rdR (rest := [.func (.func g) [.ptr 0 0] [], .str f, .int .i64 one, .str s, .int .i64 two]) lowX Tryz.func209 (by kernel_rfl) 0 (by simp [Tryz.f209])
    (fun B hB hG => row_tr ts hts X hN hg hA hu hd f one s two r hr hn B hB hG) (by simp) (by simp) (St.cells_low ts r) (St.cells_low ts _) hH
  simpa [renL, ren] using this
end Go.Proofs.YtejjlojfgcgopaaGreatDoor
namespace Go.Proofs.YtejjlojfgcgopaaGreatDoor
open Go.RowKit Go.Proofs.Fw
set_option maxRecDepth 100000
set_option maxHeartbeats 4000000
theorem inF_up {p : Nat} {f : Rd} (h : upw f) : upw (inF p f) := by
  intro r
  by_cases hd : r.deep + 1 > 20
  · cases he : r.err with
    | none => simp [inF, hd, he, St.fail]
    | some x => simp [inF, hd, he, St.fail]
  · cases he : r.err with
    | none => simp only [inF, if_neg hd, he, Option.isNone_none, if_true]; exact h ⟨r.at_, r.deep + 1, none⟩
    | some x => simp [inF, hd, he]
theorem fail_at (r : St) (p e : Nat) : (r.fail p e).at_ = r.at_ := by unfold St.fail; split <;> rfl
theorem must_up (ts : List Wd) (r : St) (s : List UInt8) : r.at_ ≤ (mustS ts r s).at_ := by
  unfold mustS; split
  · simp [St.step]
  · rw [fail_at]; exact Nat.le_refl _
theorem subL_up {ts : List Wd} {f : Rd} (h : upw f) : ∀ (n : Nat) (a : List Ex) (r : St), r.at_ ≤ (subL ts f n a r).2.at_
  | 0, _, _ => Nat.le_refl _
  | n + 1, a, r => by
    have h1 := h r
    simp only [subL]
    split
    · have h2 := subL_up h (ts := ts) n (a ++ [(f r).1]) (if a.length + 1 == 4 then (f r).2.fail (f r).2.at_ 4 else (f r).2).step
      have h3 : (f r).2.at_ ≤ (if a.length + 1 == 4 then (f r).2.fail (f r).2.at_ 4 else (f r).2).step.at_ := by
        split
        · simp [St.step, fail_at]
        · simp [St.step]
      omega
    · exact h1
theorem facF_up {ts : List Wd} {sf f : Rd} (hs : upw sf) (h : upw f) : upw (facF ts sf f) := by
  intro r
  unfold facF
  split
  · split
    · simp [St.step]
    · split
      · unfold nameF
        split
        · have h1 := subL_up (ts := ts) hs 6 [] r.step.step
          have h2 := must_up ts (subL ts sf 6 [] r.step.step).2 shutT
          simp only [St.step] at h1 h2 ⊢
          omega
        · simp [St.step]
      · split
        · have := inF_up (p := r.at_) h r.step
          simp only [St.step] at this ⊢
          omega
        · split
          · have h1 := inF_up (p := r.at_) hs r.step
            have h2 := must_up ts (inF r.at_ sf r.step).2 shutT
            simp only [St.step] at h1 h2 ⊢
            omega
          · rw [fail_at]; exact Nat.le_refl _
  · rw [fail_at]; exact Nat.le_refl _
theorem fac_up (ts : List Wd) : ∀ n, upw (fac ts n)
  | 0 => fun _ => Nat.le_refl _
  | n + 1 => facF_up (rowF_up (rowF_up (fac_up ts n))) (fac_up ts n)
theorem fac_deep (ts : List Wd) (n : Nat) : ∀ r, (fac ts n r).2.deep = r.deep := (fac_ok ts n).2.2.2.1
theorem term_deep (ts : List Wd) (n : Nat) : ∀ r, (termF ts (fac ts n) r).2.deep = r.deep := (rowF_ok (ts := ts) (f := starT) (s := slashT) (fac_ok ts n) (by decide) 7 8).2.2.2.1
theorem sum_deep (ts : List Wd) (n : Nat) : ∀ r, (sumF ts (fac ts n) r).2.deep = r.deep := (sumF_ok (ts := ts) (fac_ok ts n)).2.2.2.1
theorem term_up (ts : List Wd) (n : Nat) : upw (termF ts (fac ts n)) := rowF_up (fac_up ts n)
theorem sum_up (ts : List Wd) (n : Nat) : upw (sumF ts (fac ts n)) := rowF_up (term_up ts n)
open Classical in
noncomputable def oRdI (ts : List Wd) (f0 : FuncId) (spec : Nat → List AV → St → Option (AV × St)) : Orc := fun f args H =>
  if f = f0 then (match args with
    | .ptr id 0 :: rest => if h : ∃ r : St, H.at id = some (.box (r.cells ts)) then (spec id rest h.choose).map fun x => (x.1, H.set id (some (.box (x.2.cells ts)))) else none
    | _ => none) else none
theorem oRdI_at {ts : List Wd} {f0 : FuncId} {spec : Nat → List AV → St → Option (AV × St)} {id : Nat} {rest : List AV} {H : AH} {r : St} (h : H.at id = some (.box (r.cells ts))) :
    oRdI ts f0 spec f0 (.ptr id 0 :: rest) H = (spec id rest r).map fun x => (x.1, H.set id (some (.box (x.2.cells ts)))) := by
  have hx : ∃ r : St, H.at id = some (.box (r.cells ts)) := ⟨r, h⟩
  have hc := h.symm.trans hx.choose_spec
  simp only [Option.some.injEq, Ent.box.injEq] at hc
  have : hx.choose = r := (St.cells_inj hc).symm
  simp only [oRdI, if_true, dif_pos hx, this]
theorem oRdI_sound {ts : List Wd} {f0 : FuncId} {spec : Nat → List AV → St → Option (AV × St)}
    (h : ∀ id rest r v r', spec id rest r = some (v, r') → ∀ H, H.at id = some (.box (r.cells ts)) → CS Tryz.prog envX f0 (.ptr id 0 :: rest) H v (H.set id (some (.box (r'.cells ts))))) : Sound Tryz.prog envX (oRdI ts f0 spec) := by
  intro f args H v H' ho
  unfold oRdI at ho
  split at ho
  · rename_i hf
    subst hf
    split at ho
    · rename_i id rest
      split at ho
      · rename_i hx
        obtain ⟨x, hs, hx2⟩ := Option.map_eq_some_iff.1 ho
        simp only [Prod.mk.injEq] at hx2
        obtain ⟨rfl, rfl⟩ := hx2
        refine ⟨h _ _ _ _ _ hs _ hx.choose_spec, by simp, fun j _ hj => at_set_noneX hx.choose_spec hj⟩
      · cases ho
    · cases ho
  · cases ho
def partSpec (ts : List Wd) (of : Rd) (n : Nat) (rest : List AV) (r : St) : Option (AV × St) := match rest with
  | [] => if r.deep ≤ 20 ∧ ts.length - r.at_ < n then some (exAV (of r).1, (of r).2) else none
  | _ => none
def PartS (ts : List Wd) (g : FuncId) (of : Rd) (n : Nat) : Prop := Sound Tryz.prog envX (oRd ts g (partSpec ts of n))
theorem PartS.mk' {ts : List Wd} {g : FuncId} {of : Rd} {n : Nat} (h : ∀ r : St, r.deep ≤ 20 → ts.length - r.at_ < n → ∀ H id, H.at id = some (.box (r.cells ts)) → CS Tryz.prog envX g [.ptr id 0] H (exAV (of r).1) (H.set id (some (.box ((of r).2.cells ts))))) : PartS ts g of n :=
  oRd_sound fun rest r v r' hs H id hH => by
    unfold partSpec at hs
    split at hs
    · split at hs
      · rename_i hc
        injection hs with hs
        simp only [Prod.mk.injEq] at hs
        obtain ⟨rfl, rfl⟩ := hs
        exact h r hc.1 hc.2 H id hH
      · cases hs
    · cases hs
theorem part_at {ts : List Wd} {g : FuncId} {of : Rd} {n : Nat} : Ans (oRd ts g (partSpec ts of n)) ts g of n := fun a d x H ha hd hd2 hm => by
  rw [oRd_at (rd_at ha hd)]
  have h1 : d.toNat ≤ 20 := by omega
  simp only [partSpec, if_pos (And.intro h1 hm), Option.map_some, List.set_cons_zero]
noncomputable def oNG (ts : List Wd) (g : FuncId) (of : Rd) (n : Nat) : Orc := orElse (oRd ts 180 (nextSpec ts)) (oRd ts g (partSpec ts of n))
theorem oNG_cx {ts : List Wd} {g : FuncId} {of : Rd} {n : Nat} (h : PartS ts g of n) : Cx (oNG ts g of n) Tryz.prog envX := ⟨Sound.orElse (next_sound ts) h, methXOk, mixed⟩
theorem oNG_next {ts : List Wd} {g : FuncId} {of : Rd} {n : Nat} (a d : Int) (x : Option (Nat × Nat)) (s : List UInt8) (H : AH) (ha : 0 ≤ a) (hd : 0 ≤ d) : oNG ts g of n 180 [.ptr 0 0, .str s] (some (.box [wdsAV ts, .int .i64 a, .int .i64 d, eAV x]) :: H) =
    some (.bool (nextB ts ⟨a.toNat, d.toNat, x⟩ s), some (.box [wdsAV ts, .int .i64 a, .int .i64 d, eAV x]) :: H) := by
  simp only [oNG, orElse, sm_next s H ha hd]
theorem oNG_ans {ts : List Wd} {g : FuncId} {of : Rd} {n : Nat} (hg : g ≠ 180) : Ans (oNG ts g of n) ts g of n := fun a d x H ha hd hd2 hm => by
  have := part_at (g := g) (of := of) (n := n) a d x H ha hd hd2 hm
  have h1 : oRd ts 180 (nextSpec ts) g [.ptr 0 0] (some (.box [wdsAV ts, .int .i64 a, .int .i64 d, eAV x]) :: H) = none := by simp [oRd, hg]
  simp only [oNG, orElse, h1, this]
def rowSpec (ts : List Wd) (g : FuncId) (of : Rd) (n : Nat) (id : Nat) (rest : List AV) (r : St) : Option (AV × St) := match rest with
  | [.func (.func g') [.ptr id' 0] [], .str f, .int .i64 one, .str s, .int .i64 two] =>
    if g' = g ∧ id' = id ∧ 0 ≤ one ∧ 0 ≤ two ∧ r.deep ≤ 20 ∧ ts.length - r.at_ < n then some (exAV (rowF ts of f one.toNat s two.toNat r).1, (rowF ts of f one.toNat s two.toNat r).2) else none
  | _ => none
theorem row_sound {ts : List Wd} (hts : ts.length < 1000000) {g : FuncId} {of : Rd} {n : Nat} (h : PartS ts g of n) (hne : g ≠ 180) (hg : goFn Tryz.prog g = true) (hu : upw of) (hd : ∀ r, (of r).2.deep = r.deep) :
    Sound Tryz.prog envX (oRdI ts 209 (rowSpec ts g of n)) := oRdI_sound fun id rest r v r' hs H hH => by
  unfold rowSpec at hs
  split at hs
  · rename_i g' id' f one s two
    split at hs
    · rename_i hc
      obtain ⟨rfl, rfl, h1, h2, h3, h4⟩ := hc
      injection hs with hs
      simp only [Prod.mk.injEq] at hs
      obtain ⟨rfl, rfl⟩ := hs
      have := row_cs ts hts (oNG_cx h) (fun a d x s H ha hd => oNG_next a d x s H ha hd) hg (oNG_ans hne) hu hd f one.toNat s two.toNat r h3 h4 hH
      rwa [Int.toNat_of_nonneg h1, Int.toNat_of_nonneg h2] at this
    · cases hs
  · cases hs
theorem row_ans {ts : List Wd} {g : FuncId} {of : Rd} {n : Nat} {a d : Int} {x : Option (Nat × Nat)} (f s : List UInt8) (one two : Nat) (H : AH) (ha : 0 ≤ a) (hd : 0 ≤ d) (hd2 : d ≤ 20) (hm : ts.length - a.toNat < n) :
    oRdI ts 209 (rowSpec ts g of n) 209 [.ptr 0 0, .func (.func g) [.ptr 0 0] [], .str f, .int .i64 one, .str s, .int .i64 two] (some (.box [wdsAV ts, .int .i64 a, .int .i64 d, eAV x]) :: H) =
    some (exAV (rowF ts of f one s two ⟨a.toNat, d.toNat, x⟩).1, some (.box ((rowF ts of f one s two ⟨a.toNat, d.toNat, x⟩).2.cells ts)) :: H) := by
  rw [oRdI_at (rd_at ha hd)]
  have h1 : d.toNat ≤ 20 := by omega
  simp [rowSpec, h1, hm]
theorem term_part {ts : List Wd} (hts : ts.length < 1000000) {n : Nat} (h : PartS ts 224 (fac ts n) n) : PartS ts 210 (termF ts (fac ts n)) n := PartS.mk' fun r hr hn H id hH => by
  have X : Cx (oRdI ts 209 (rowSpec ts 224 (fac ts n) n)) Tryz.prog envX := ⟨row_sound hts h (by decide) Tx.go224 (fac_up ts n) (fac_deep ts n), methXOk, mixed⟩
  refine CS.rd lowX Tryz.func210 (by kernel_rfl) 0 (by simp [Tryz.f210]) (fun B hB hG => ?_) rfl (by simp) (St.cells_low ts r) (St.cells_low ts _) hH
  refine Tr.goD X hG (by kernel_rfl) ?_
  have h1 := fun H => row_ans (g := 224) (of := fac ts n) (x := r.err) starT slashT 7 8 H (a := r.at_) (d := r.deep) (by omega) (by omega) (by omega) (by simpa using hn)
  simp [starT, slashT] at h1
  simp [Tryz.f210, St.cells, h1, termF, starT, slashT]
theorem sum_part {ts : List Wd} (hts : ts.length < 1000000) {n : Nat} (h : PartS ts 224 (fac ts n) n) : PartS ts 178 (sumF ts (fac ts n)) n := PartS.mk' fun r hr hn H id hH => by
  have X : Cx (oRdI ts 209 (rowSpec ts 210 (termF ts (fac ts n)) n)) Tryz.prog envX := ⟨row_sound hts (term_part hts h) (by decide) Tx.go210 (term_up ts n) (term_deep ts n), methXOk, mixed⟩
  refine CS.rd lowX Tryz.func178 (by kernel_rfl) 0 (by simp [Tryz.f178]) (fun B hB hG => ?_) rfl (by simp) (St.cells_low ts r) (St.cells_low ts _) hH
  refine Tr.goD X hG (by kernel_rfl) ?_
  have h1 := fun H => row_ans (g := 210) (of := termF ts (fac ts n)) (x := r.err) plusT minusT 5 6 H (a := r.at_) (d := r.deep) (by omega) (by omega) (by omega) (by simpa using hn)
  simp [plusT, minusT] at h1
  simp [Tryz.f178, St.cells, h1, sumF, plusT, minusT]
end Go.Proofs.YtejjlojfgcgopaaGreatDoor
namespace Go.Proofs.YtejjlojfgcgopaaGreatDoor
open Go.RowKit Go.Proofs.Fw
set_option maxRecDepth 100000
set_option maxHeartbeats 4000000
theorem within_cs (ts : List Wd) {O : Orc} (X : Cx O Tryz.prog envX) (hF : ∀ (a d : Int) (x : Option (Nat × Nat)) (p e : Int) (H : AH), 0 ≤ a → 0 ≤ d → 0 ≤ p → 0 ≤ e → O 181 [.ptr 0 0, .int .i64 p, .int .i64 e] (some (.box [wdsAV ts, .int .i64 a, .int .i64 d, eAV x]) :: H) =
    some (.tup [], some (.box [wdsAV ts, .int .i64 a, .int .i64 d, eAV (some (x.getD (p.toNat, e.toNat)))]) :: H)) {g : FuncId} (hg : goFn Tryz.prog g = true) {of : Rd} {n : Nat} (hA : Ans O ts g of n) (hd : ∀ r, (of r).2.deep = r.deep)
    (p : Nat) (r : St) (hr : r.deep ≤ 20) (hn : ts.length - r.at_ < n) {H : AH} {id : Nat} (hH : H.at id = some (.box (r.cells ts))) :
    CS Tryz.prog envX 234 [.ptr id 0, .int .i64 p, .func (.func g) [.ptr id 0] []] H (exAV (inF p of r).1) (H.set id (some (.box ((inF p of r).2.cells ts)))) := by
  have := CS.rdR (rest := [.int .i64 p, .func (.func g) [.ptr 0 0] []]) lowX Tryz.func234 (by kernel_rfl) 0 (by simp [Tryz.f234])
    (fun B hB hG => show Tr Tryz.prog B (bodyOf Tryz.f234) _ _ (Fin Tryz.prog Tryz.f234 1 0 (exAV (inF p of r).1) [some (.box ((inF p of r).2.cells ts))]) from by
      refine Tr.goD X hG (by kernel_rfl) ?_
      obtain ⟨a, d, x⟩ := r
      simp only at hr hn
      have w1 : IntKind.i64.wrap ((d : Int) + 1) = (d : Int) + 1 := wrap_i64 (by omega) (by omega)
      have w2 : IntKind.i64.wrap (d : Int) = (d : Int) := wrap_i64 (by omega) (by omega)
      have h0 : 0 ≤ (d : Int) + 1 := by omega
      have hne : IntKind.i64.wrap (4 : Int) = 4 := by decide
      by_cases hd20 : d + 1 > 20
      · have hd20' : (20 : Int) < (d : Int) + 1 := by omega
        cases x with
        | none => simp [Tryz.f234, St.cells, w1, w2, h0, hd20', hF, inF, hd20, fail_eq]
        | some x => simp [Tryz.f234, St.cells, w1, w2, h0, hd20', hF, inF, hd20, fail_eq]
      · have hd20' : ¬ (20 : Int) < (d : Int) + 1 := by omega
        cases x with
        | some x => simp [Tryz.f234, St.cells, w1, w2, h0, hd20', inF, hd20]
        | none =>
          have h1 := fun H => hA a (d + 1 : Nat) none H (by omega) (by omega) (by omega) (by simpa using hn)
          have hdd := hd ⟨a, d + 1, none⟩
          simp only at hdd
          simp [St.cells, hdd] at h1
          simp [Tryz.f234, St.cells, w1, w2, h0, hd20', inF, hd20, hg, h1, hdd]) (by simp) (by simp) (St.cells_low ts r) (St.cells_low ts _) hH
  simpa [renL, ren] using this
@[simp high] theorem exsC_lowm (m : Nat) (l : List Ex) : lowL m (exsC l) = true := lowL_mono (Nat.zero_le m) _ (exsC_low l)
theorem elemE : elemChk Tryz.prog 25 4 = true := by kernel_rfl
theorem exC_one (e : Ex) : ([.int .i64 e.kd, .int .i64 e.nn, .str e.nm, e.ar] : List AV).all AV.one = true := by
  cases e <;> rfl
def subAV (a : List Ex) : AV := if a = [] then .nilSlice else .slice (.tok 3) 4 a.length (exsC a)
def subH (ts : List Wd) (s : List UInt8) (a : List Ex) (r : St) : AH := [some (.box (r.cells ts)), some (.box (exC .none)), some (.box [.int .i64 3, .int .i64 0, .str s, subAV a])] ++ (if a = [] then [] else [some (.tok a.length)])
def NameI (ts : List Wd) (sum : Rd) (n : Nat) (s : List UInt8) (res : List Ex × St) (k : Nat) (t : List AV) (H : AH) : Prop :=
  ∃ (a : List Ex) (r : St), subL ts sum k a r = res ∧ k + a.length = 6 ∧ a.length ≤ 4 ∧ (a.length = 4 → r.err.isSome = true) ∧ ts.length - r.at_ < n ∧ r.deep ≤ 20 ∧ t = mkT 58 [(0, .ptr 0 0), (2, .ptr 1 0), (3, .ptr 2 0)] ∧ H = subH ts s a r
structure NameO (O : Orc) (ts : List Wd) (sum : Rd) (n : Nat) : Prop where
  fail : ∀ (a d : Int) (x : Option (Nat × Nat)) (p e : Int) (H : AH), 0 ≤ a → 0 ≤ d → 0 ≤ p → 0 ≤ e → O 181 [.ptr 0 0, .int .i64 p, .int .i64 e] (some (.box [wdsAV ts, .int .i64 a, .int .i64 d, eAV x]) :: H) =
    some (.tup [], some (.box [wdsAV ts, .int .i64 a, .int .i64 d, eAV (some (x.getD (p.toNat, e.toNat)))]) :: H)
  next : ∀ (a d : Int) (x : Option (Nat × Nat)) (s : List UInt8) (H : AH), 0 ≤ a → 0 ≤ d → O 180 [.ptr 0 0, .str s] (some (.box [wdsAV ts, .int .i64 a, .int .i64 d, eAV x]) :: H) =
    some (.bool (nextB ts ⟨a.toNat, d.toNat, x⟩ s), some (.box [wdsAV ts, .int .i64 a, .int .i64 d, eAV x]) :: H)
  takesT : ∀ (a d : Int) (x : Option (Nat × Nat)) (s : List UInt8) (H : AH), 0 ≤ a → 0 ≤ d → nextB ts ⟨a.toNat, d.toNat, x⟩ s = true →
    O 233 [.ptr 0 0, .str s] (some (.box [wdsAV ts, .int .i64 a, .int .i64 d, eAV x]) :: H) = some (.bool true, some (.box [wdsAV ts, .int .i64 (a + 1), .int .i64 d, eAV x]) :: H)
  takesF : ∀ (a d : Int) (x : Option (Nat × Nat)) (s : List UInt8) (H : AH), 0 ≤ a → 0 ≤ d → nextB ts ⟨a.toNat, d.toNat, x⟩ s = false →
    O 233 [.ptr 0 0, .str s] (some (.box [wdsAV ts, .int .i64 a, .int .i64 d, eAV x]) :: H) = some (.bool false, some (.box [wdsAV ts, .int .i64 a, .int .i64 d, eAV x]) :: H)
  must : ∀ (a d : Int) (x : Option (Nat × Nat)) (s : List UInt8) (H : AH), 0 ≤ a → 0 ≤ d → O 235 [.ptr 0 0, .str s] (some (.box [wdsAV ts, .int .i64 a, .int .i64 d, eAV x]) :: H) =
    some (.tup [], some (.box ((mustS ts ⟨a.toNat, d.toNat, x⟩ s).cells ts)) :: H)
  sum : Ans O ts 178 sum n
theorem name_cs (ts : List Wd) (hts : ts.length < 1000000) {O : Orc} (X : Cx O Tryz.prog envX) {sum : Rd} {n : Nat} (hO : NameO O ts sum n) (hu : upw sum) (hd : ∀ r, (sum r).2.deep = r.deep) (hk : keepsE sum)
    (w : Wd) (r : St) (he : r.err = none) (hw : ts[r.at_]? = some w) (hr : r.deep ≤ 20) (hn : ts.length - r.at_ < n + 1) {H : AH} {id : Nat} (hH : H.at id = some (.box (r.cells ts))) :
    CS Tryz.prog envX 232 [.ptr id 0] H (exAV (nameF ts sum w.text r).1) (H.set id (some (.box ((nameF ts sum w.text r).2.cells ts)))) := by
  refine CS.rd lowX Tryz.func232 (by kernel_rfl) 0 (by simp [Tryz.f232]) (fun B hB hG => ?_) rfl (by simp) (St.cells_low ts r) (St.cells_low ts _) hH
  obtain ⟨a, d, x⟩ := r
  simp only at he hw hr hn
  subst he
  have hl : a < ts.length := (List.getElem?_eq_some_iff.1 hw).1
  have hl' : (a : Int) < ts.length := by omega
  obtain ⟨c0, c1, c3⟩ := cellX hw
  have w1 : IntKind.i64.wrap ((a : Int) + 1) = (a : Int) + 1 := wrap_i64 (by omega) (by omega)
  have h0 : 0 ≤ (a : Int) + 1 := by omega
  refine Tr.goD X hG (by kernel_rfl) ?_
  simp [Tryz.f232, St.cells]
  refine LpD.turns X hG [12, 13] [(0, 12), (1, 12), (2, 12), (3, 12), (4, 12), (5, 12), (6, 12), (7, 12), (8, 12), (9, 12), (10, 12), (11, 12)] (by kernel_rfl) ?_
  cases ho : nextB ts ⟨a + 1, d, none⟩ openT with
  | false =>
    have h1 : nameF ts sum w.text ⟨a, d, none⟩ = (.var w.text, ⟨a + 1, d, none⟩) := by simp [nameF, St.step, ho]
    have h2 := fun H => hO.takesF ((a : Int) + 1) d none openT H h0 (by omega) (by simpa using ho)
    simp [openT] at h2
    simp [hl, hl', c1, w1, h2, h1]
  | true =>
    have h2 := fun H => hO.takesT ((a : Int) + 1) d none openT H h0 (by omega) (by simpa using ho)
    simp [openT] at h2
    have hl2 : a + 1 < ts.length := nextB_lt ho
    have h1 : nameF ts sum w.text ⟨a, d, none⟩ = (.elem w.text (subL ts sum 6 [] ⟨a + 1 + 1, d, none⟩).1, mustS ts (subL ts sum 6 [] ⟨a + 1 + 1, d, none⟩).2 shutT) := by simp [nameF, St.step, ho]
    simp [hl, hl', c1, w1, h2, h1]
    generalize hres0 : subL ts sum 6 [] ⟨a + 1 + 1, d, none⟩ = res
    refine LpD.loopN X hG (by kernel_rfl) (NameI ts sum n w.text res) 6 (t' := mkT 58 [(0, .ptr 0 0), (2, .ptr 1 0), (3, .ptr 2 0)]) (H' := subH ts w.text [] ⟨a + 1 + 1, d, none⟩)
      (Less.mkK 3 (by simp [hB]) (by simp) (by simp [subH, subAV, St.cells]) (by simp [subH, subAV, St.cells])) ⟨[], ⟨a + 1 + 1, d, none⟩, hres0, rfl, by simp, by simp, by simp only; omega, hr, rfl, rfl⟩ ?_
    rintro k t H ⟨a', r', hres, hka, hle, h4, hm, hdp, rfl, rfl⟩
    obtain ⟨b, d', x⟩ := r'
    simp only at h4 hm hdp
    have hdp' : (d' : Int) ≤ 20 := by omega
    have hs := fun H => hO.sum b d' x H (by omega) (by omega) hdp' (by simpa using hm)
    have hus := hu ⟨b, d', x⟩
    have hds := hd ⟨b, d', x⟩
    have hks := hk ⟨b, d', x⟩
    simp only at hus hds hks
    cases k with
    | zero =>
      omega
    | succ k =>
    have hsub : subL ts sum (k + 1) a' ⟨b, d', x⟩ = if nextB ts (sum ⟨b, d', x⟩).2 commaT then subL ts sum k (a' ++ [(sum ⟨b, d', x⟩).1]) (if a'.length + 1 == 4 then (sum ⟨b, d', x⟩).2.fail (sum ⟨b, d', x⟩).2.at_ 4 else (sum ⟨b, d', x⟩).2).step else (a' ++ [(sum ⟨b, d', x⟩).1], (sum ⟨b, d', x⟩).2) := rfl
    rw [hsub] at hres
    simp only [Int.toNat_natCast] at hs
    generalize sum ⟨b, d', x⟩ = p at *
    obtain ⟨e, ⟨b2, d2, x2⟩⟩ := p
    simp only at hus hds hks hres
    subst hds
    have happ0 := fun H => aappend_nil (P := Tryz.prog) (t := 25) (sz := 4) (m := 1) (H := H) (fid := 3) (ow := .full) elemE (by decide) (by decide) (exC_one e)
    have happ1 := fun H (h : AH.at H 3 = some (.tok a'.length)) => aappend_tok (P := Tryz.prog) (t := 25) (sz := 4) (m := 1) (H := H) (fid := 4) (ow := .full) (xs := exsC a') elemE h (by decide) (by omega) (exC_one e)
    simp [St.cells] at hs
    cases hc : nextB ts ⟨b2, d2, x2⟩ commaT with
    | false =>
      rw [hc] at hres
      simp only [Bool.false_eq_true, if_false] at hres
      subst hres
      have hmu := fun H => hO.must b2 d2 x2 shutT H (by omega) (by omega)
      have hne := fun H => hO.next b2 d2 x2 commaT H (by omega) (by omega)
      simp [shutT, St.cells] at hmu
      simp [commaT] at hne
      have hc' := hc
      simp [commaT] at hc'
      by_cases ha : a' = []
      · subst ha
        simp [subH, subAV, St.cells]
        refine LpD.turns X hG [3, 5, 7] [(0, 3), (1, 3)] (by kernel_rfl) ?_
        simp [hs, happ0, hne, hc', Blk_exit, hmu, shutT, exsC]
      · have hpos : a'.length ≠ 0 := fun h => ha (List.eq_nil_of_length_eq_zero h)
        simp [subH, subAV, St.cells, ha]
        refine LpD.turns X hG [3, 5, 7] [(0, 3), (1, 3)] (by kernel_rfl) ?_
        simp [hs, happ1, hne, hc', Blk_exit, hmu, shutT, exsC, exsC_append, exsC_low]
    | true =>
      have hb2 : b2 < ts.length := nextB_lt hc
      obtain rfl : x2 = none := by
        cases x2 with
        | none => rfl
        | some y => simp [nextB] at hc
      have h3 : a'.length ≤ 3 := by
        rcases Nat.lt_or_ge a'.length 4 with h | h
        · omega
        · have := h4 (by omega)
          cases x with
          | none => cases this
          | some y => have := hks y rfl; cases this
      have w5 : IntKind.i64.wrap ((b2 : Int) + 1) = (b2 : Int) + 1 := wrap_i64 (by omega) (by omega)
      rw [hc] at hres
      simp only [if_true] at hres
      have hne := fun H => hO.next b2 d2 none commaT H (by omega) (by omega)
      simp [commaT] at hne
      have hc' := hc
      simp [commaT] at hc'
      by_cases ha : a' = []
      · subst ha
        simp [subH, subAV, St.cells]
        refine LpD.turns X hG [3, 5, 7] [(0, 3), (1, 3)] (by kernel_rfl) ?_
        simp [hs, happ0, hne, hc', w5, exsC]
        refine Nxt.mk k (by omega) (Less.mkK 4 (l' := [(0, .ptr 0 0), (2, .ptr 1 0), (3, .ptr 2 0)]) (H' := subH ts w.text [e] ⟨b2 + 1, d2, none⟩) (by simp [hB]) (by simp) (by simp [subH, subAV, St.cells, exsC]) (by simp [subH, subAV, St.cells, exsC]))
          ⟨[e], ⟨b2 + 1, d2, none⟩, ?_, ?_, by simp, by simp, ?_, hdp, rfl, rfl⟩
        · rw [← hres]; simp [St.step]
        · simp only [List.length_cons, List.length_nil] at hka ⊢; omega
        · simp only; omega
      · have hpos : a'.length ≠ 0 := fun h => ha (List.eq_nil_of_length_eq_zero h)
        by_cases hf : a'.length + 1 = 4
        · have hf' : ((a'.length : Int) + 1 = 4) := by omega
          have hf2 : a'.length = 3 := by omega
          have hfl := fun H => hO.fail b2 d2 none b2 4 H (by omega) (by omega) (by omega) (by omega)
          simp at hfl
          simp [subH, subAV, St.cells, ha]
          refine LpD.turns X hG [3, 5, 7] [(0, 3), (1, 3)] (by kernel_rfl) ?_
          simp [hs, happ1, hne, hc', w5, exsC, exsC_append, hf', hfl, exsC_low]
          refine Nxt.mk k (by omega) (Less.mkK 4 (l' := [(0, .ptr 0 0), (2, .ptr 1 0), (3, .ptr 2 0)]) (H' := subH ts w.text (a' ++ [e]) ⟨b2 + 1, d2, some (b2, 4)⟩) (by simp [hB]) (by simp) (by simp [subH, subAV, St.cells, exsC, exsC_append]) (by simp [subH, subAV, St.cells, exsC, exsC_append, exsC_low]))
            ⟨a' ++ [e], ⟨b2 + 1, d2, some (b2, 4)⟩, ?_, ?_, ?_, by simp, ?_, hdp, rfl, rfl⟩
          · rw [← hres]; simp [St.step, hf2, fail_eq]
          · simp only [List.length_append, List.length_cons, List.length_nil] at hka ⊢; omega
          · simp only [List.length_append, List.length_cons, List.length_nil]; omega
          · simp only; omega
        · have hf' : ¬ ((a'.length : Int) + 1 = 4) := by omega
          have hf2 : ¬ a'.length = 3 := by omega
          simp [subH, subAV, St.cells, ha]
          refine LpD.turns X hG [3, 5, 7] [(0, 3), (1, 3)] (by kernel_rfl) ?_
          simp [hs, happ1, hne, hc', w5, exsC, exsC_append, hf', exsC_low]
          refine Nxt.mk k (by omega) (Less.mkK 4 (l' := [(0, .ptr 0 0), (2, .ptr 1 0), (3, .ptr 2 0)]) (H' := subH ts w.text (a' ++ [e]) ⟨b2 + 1, d2, none⟩) (by simp [hB]) (by simp) (by simp [subH, subAV, St.cells, exsC, exsC_append]) (by simp [subH, subAV, St.cells, exsC, exsC_append, exsC_low]))
            ⟨a' ++ [e], ⟨b2 + 1, d2, none⟩, ?_, ?_, ?_, ?_, ?_, hdp, rfl, rfl⟩
          · rw [← hres]; simp [St.step, hf2]
          · simp only [List.length_append, List.length_cons, List.length_nil] at hka ⊢; omega
          · simp only [List.length_append, List.length_cons, List.length_nil]; omega
          · simp only [List.length_append, List.length_cons, List.length_nil]; omega
          · simp only; omega
end Go.Proofs.YtejjlojfgcgopaaGreatDoor
