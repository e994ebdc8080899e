/- ExprDeep: brackets and signs in one another, as words, as an expression; what the law's text returns. -/
import Derived.Test.YtpmonaempgjgbaaGreatDoorEyF
set_option linter.unusedSimpArgs false
set_option linter.unusedVariables false
namespace Go.Proofs.YtpmonaempgjgbaaGreatDoor
open Go.RowKit Go.Proofs.Fw
set_option maxRecDepth 100000
set_option maxHeartbeats 4000000

def sgs : List UInt8 → Nat → List Wd
  | [], _ => []
  | c :: l, p => ⟨3, [c], p, 0⟩ :: sgs l (p + 1)
theorem sgs_length : ∀ (l : List UInt8) (p : Nat), (sgs l p).length = l.length
  | [], _ => rfl
  | c :: l, p => by rw [sgs, List.length_cons, List.length_cons, sgs_length l]
theorem sgs_get : ∀ (l : List UInt8) (p i : Nat) (c : UInt8), l[i]? = some c → ∃ w, (sgs l p)[i]? = some w ∧ w.kind = 3 ∧ w.text = [c]
  | [], _, i, c, h => by simp at h
  | a :: l, p, 0, c, h => by
    simp only [List.getElem?_cons_zero, Option.some.injEq] at h
    subst h
    exact ⟨⟨3, [a], p, 0⟩, rfl, rfl, rfl⟩
  | a :: l, p, i + 1, c, h => by
    rw [List.getElem?_cons_succ] at h
    rw [sgs, List.getElem?_cons_succ]
    exact sgs_get l (p + 1) i c h
def sgn (c : UInt8) : Prop := c = 45 ∨ c = 40 ∨ c = 41
theorem word_sgn {c : UInt8} (h : sgn c) (r : List UInt8) : wordOf (c :: r) = ((3, [c], 0), 0) ∧ isBlank c = false ∧ wordErr false c r = 0 := by
  have h1 : wordOf (c :: r) = ((3, [c], 0), 0) := by
    rcases h with rfl | rfl | rfl <;> simp [wordOf, isSmall, isDigit, signLen]
  refine ⟨h1, ?_, by simp [wordErr, h1]⟩
  rcases h with rfl | rfl | rfl <;> decide
theorem lex_sgs : ∀ (l : List UInt8), (∀ c ∈ l, sgn c) → ∀ (rest : List UInt8) (n p : Nat), l.length < n → lex n (l ++ rest) p false = behind (sgs l p) (lex (n - l.length) rest (p + l.length) false)
  | [], _, rest, n, p, _ => by
    simp only [List.nil_append, List.length_nil, Nat.sub_zero, Nat.add_zero, sgs]
    cases lex n rest p false <;> rfl
  | c :: l, h, rest, 0, p, hn => by simp at hn
  | c :: l, h, rest, n + 1, p, hn => by
    obtain ⟨h1, h2, h3⟩ := word_sgn (h c List.mem_cons_self) (l ++ rest)
    rw [List.cons_append, lex_word _ _ _ _ _ h2, h3, if_neg (by simp), h1]
    simp only [List.length_cons, List.length_nil, Nat.zero_add, List.drop_succ_cons, List.drop_zero]
    rw [show ((3 : Nat) == 2) = false by decide, lex_sgs l (fun c hc => h c (List.mem_cons_of_mem _ hc)) rest n (p + 1) (by simp only [List.length_cons] at hn; omega)]
    rw [show n + 1 - (l.length + 1) = n - l.length by omega, show p + (l.length + 1) = p + 1 + l.length by omega]
    cases lex (n - l.length) rest (p + 1 + l.length) false with
    | ok x => simp [behind, sgs]
    | error x => rfl
theorem word_x (m : Nat) : wordOf (120 :: List.replicate m 41) = ((1, [120], 0), 0) ∧ wordErr false 120 (List.replicate m 41) = 0 := by
  have h1 : wordOf (120 :: List.replicate m 41) = ((1, [120], 0), 0) := by
    have h : frontLen isInner (120 :: List.replicate m 41) = 1 := by
      cases m with
      | zero => rfl
      | succ m => rw [List.replicate_succ]; rfl
    have hs : isSmall 120 = true := by decide
    have hk : isKey [120] = false := by decide +kernel
    simp [wordOf, hs, h, hk]
  exact ⟨h1, by simp [wordErr, h1]⟩
def dTs (pre : List UInt8) (m : Nat) : List Wd := sgs pre 0 ++ ⟨1, [120], pre.length, 0⟩ :: sgs (List.replicate m 41) (pre.length + 1)
theorem lex_deep (pre : List UInt8) (h : ∀ c ∈ pre, c = 45 ∨ c = 40) (m : Nat) : lex ((pre ++ 120 :: List.replicate m 41).length + 1) (pre ++ 120 :: List.replicate m 41) 0 false = .ok (dTs pre m) := by
  rw [lex_sgs pre (fun c hc => (h c hc).elim .inl fun h => .inr (.inl h)) _ _ _ (by simp; omega)]
  have e1 : (pre ++ 120 :: List.replicate m 41).length + 1 - pre.length = m + 1 + 1 := by simp; omega
  obtain ⟨h1, h2⟩ := word_x m
  rw [e1, lex_word _ _ _ _ _ (by decide), h2, if_neg (by simp), h1]
  simp only [List.length_cons, List.length_nil, Nat.zero_add, List.drop_succ_cons, List.drop_zero]
  have h3 := lex_sgs (List.replicate m 41) (fun c hc => .inr (.inr (List.eq_of_mem_replicate hc))) [] (m + 1) (pre.length + 1) (by simp)
  rw [List.append_nil] at h3
  rw [show ((1 : Nat) == 2) = false by decide, h3, List.length_replicate]
  have h4 : lex (m + 1 - m) [] (pre.length + 1 + m) false = .ok [] := by rw [show m + 1 - m = 0 + 1 by omega]; rfl
  rw [h4]
  simp [behind, dTs]

/-- The words of a deep expression. -/
structure Deep (ts : List Wd) (pre : List UInt8) : Prop where
  two : ∀ c ∈ pre, c = 45 ∨ c = 40
  pre_ : ∀ (i : Nat) (c : UInt8), pre[i]? = some c → ∃ w : Wd, ts[i]? = some w ∧ w.kind = 3 ∧ w.text = [c]
  mid : ∃ w : Wd, ts[pre.length]? = some w ∧ w.kind = 1
  shut : ∀ j : Nat, j < pre.count 40 → ∃ w : Wd, ts[pre.length + 1 + j]? = some w ∧ w.kind = 3 ∧ w.text = [41]
  len : ts.length = pre.length + 1 + pre.count 40
theorem dTs_deep (pre : List UInt8) (h : ∀ c ∈ pre, c = 45 ∨ c = 40) : Deep (dTs pre (pre.count 40)) pre where
  two := h
  pre_ := fun i c hi => by
    obtain ⟨w, h1, h2⟩ := sgs_get pre 0 i c hi
    have hl := (List.getElem?_eq_some_iff.1 hi).1
    refine ⟨w, ?_, h2⟩
    rw [dTs, List.getElem?_append_left (by rw [sgs_length]; exact hl)]
    exact h1
  mid := ⟨⟨1, [120], pre.length, 0⟩, by rw [dTs, List.getElem?_append_right (by rw [sgs_length]; exact Nat.le_refl _), sgs_length, Nat.sub_self]; rfl, rfl⟩
  shut := fun j hj => by
    obtain ⟨w, h1, h2⟩ := sgs_get (List.replicate (pre.count 40) 41) (pre.length + 1) j 41 (by rw [List.getElem?_replicate, if_pos hj])
    refine ⟨w, ?_, h2⟩
    rw [dTs, List.getElem?_append_right (by rw [sgs_length]; omega), sgs_length, show pre.length + 1 + j - pre.length = j + 1 by omega, List.getElem?_cons_succ]
    exact h1
  len := by rw [dTs, List.length_append, List.length_cons, sgs_length, sgs_length, List.length_replicate]; omega

theorem rowF_stop {ts : List Wd} {of : Rd} {f : List UInt8} {one : Nat} {s : List UInt8} {two : Nat} {r q : St} {e : Ex} (h : of r = (e, q)) (hq : q.err = none) (h1 : nextB ts q s = false) (h2 : nextB ts q f = false) : rowF ts of f one s two r = (e, q) := by
  simp [rowF, h, rowL, hq, h1, h2]
theorem rowF_err {ts : List Wd} {of : Rd} {f : List UInt8} {one : Nat} {s : List UInt8} {two : Nat} {r : St} {x : Nat × Nat} (h : (of r).2.err = some x) : (rowF ts of f one s two r).2.err = some x := by
  simp [rowF, rowL, h]
theorem must_err {ts : List Wd} {r : St} {x : Nat × Nat} {s : List UInt8} (h : r.err = some x) : (mustS ts r s).err = some x := by
  simp [mustS, nextB, h, St.fail]

section
variable {ts : List Wd} {pre : List UInt8} (D : Deep ts pre)
include D
theorem Deep.isS_pre {i : Nat} {c : UInt8} (h : pre[i]? = some c) (s : List UInt8) : isS ts i s = decide (s = [c]) := by
  obtain ⟨w, h1, h2, h3⟩ := D.pre_ i c h
  simp only [isS, h1, h2, h3]
  rw [Bool.eq_iff_iff]
  simp only [beq_self_eq_true, Bool.true_and, beq_iff_eq, decide_eq_true_eq]
  exact eq_comm
theorem Deep.isS_behind {j : Nat} (h : j ≤ pre.count 40) {s : List UInt8} (hs : s ≠ [41]) : isS ts (pre.length + 1 + j) s = false := by
  by_cases hj : j < pre.count 40
  · obtain ⟨w, h1, h2, h3⟩ := D.shut j hj
    simp only [isS, h1, h2, h3]
    rw [Bool.eq_false_iff]
    simp only [Bool.and_eq_true, beq_iff_eq, ne_eq, not_and]
    intro _ h
    exact hs h.symm
  · have h1 : ts[pre.length + 1 + j]? = none := List.getElem?_eq_none (by rw [D.len]; omega)
    simp only [isS, h1]
theorem Deep.isS_shut {j : Nat} (h : j < pre.count 40) : isS ts (pre.length + 1 + j) shutT = true := by
  obtain ⟨w, h1, h2, h3⟩ := D.shut j h
  simp [isS, h1, h2, h3, shutT]

theorem sum_stop {f i : Nat} {e : Ex} {j d : Nat} {r : St} (hj : j ≤ pre.count 40) (h : fac ts f r = (e, ⟨pre.length + 1 + j, d, none⟩)) : sumF ts (fac ts f) r = (e, ⟨pre.length + 1 + j, d, none⟩) := by
  have hn : ∀ s, s ≠ [41] → nextB ts ⟨pre.length + 1 + j, d, none⟩ s = false := fun s hs => by simp [nextB, D.isS_behind hj hs]
  have h1 : termF ts (fac ts f) r = (e, ⟨pre.length + 1 + j, d, none⟩) := rowF_stop h rfl (hn _ (by simp [slashT])) (hn _ (by simp [starT]))
  exact rowF_stop h1 rfl (hn _ (by simp [minusT])) (hn _ (by simp [plusT]))

theorem Deep.facA (hl : pre.length ≤ 20) : ∀ (k i f : Nat), i + k = pre.length → k < f → ∃ e : Ex, fac ts f ⟨i, i, none⟩ = (e, ⟨pre.length + 1 + (pre.drop i).count 40, i, none⟩) ∧ 2 ≤ e.kd
  | k, i, 0, _, h => by omega
  | 0, i, f + 1, hik, _ => by
    obtain rfl : i = pre.length := by omega
    obtain ⟨w, h1, h2⟩ := D.mid
    have hn : nextB ts (⟨pre.length, pre.length, none⟩ : St).step openT = false := by
      have := D.isS_behind (j := 0) (by omega) (s := openT) (by simp [openT])
      simpa [nextB, St.step] using this
    refine ⟨.var w.text, ?_, by simp [Ex.kd]⟩
    have h3 : fac ts (f + 1) ⟨pre.length, pre.length, none⟩ = nameF ts (sumF ts (fac ts f)) w.text ⟨pre.length, pre.length, none⟩ := by
      simp only [fac, facF, h1, h2]; rfl
    rw [h3]
    simp only [nameF]
    rw [if_neg (by rw [hn]; decide), List.drop_length, List.count_nil]
    rfl
  | k + 1, i, f + 1, hik, hf => by
    have hi : i < pre.length := by omega
    obtain ⟨c, hc⟩ : ∃ c, pre[i]? = some c := ⟨_, List.getElem?_eq_getElem hi⟩
    have hgc : pre[i] = c := by rw [List.getElem?_eq_getElem hi] at hc; injection hc
    obtain ⟨w, w1, w2, w3⟩ := D.pre_ i c hc
    obtain ⟨e, he, hk⟩ := Deep.facA hl k (i + 1) f (by omega) (by omega)
    have hd : ¬ i + 1 > 20 := by omega
    have hmi := D.isS_pre hc minusT
    have hop := D.isS_pre hc openT
    have hdr : pre.drop i = c :: pre.drop (i + 1) := by rw [List.drop_eq_getElem_cons hi, hgc]
    have hle : (pre.drop i).count 40 ≤ pre.count 40 := (List.drop_sublist i pre).count_le 40
    rcases D.two c (List.mem_of_getElem? hc) with rfl | rfl
    · have e1 : (pre.drop i).count 40 = (pre.drop (i + 1)).count 40 := by rw [hdr, List.count_cons_of_ne (by decide)]
      have hm : isS ts i minusT = true := by rw [hmi]; simp [minusT]
      refine ⟨.neg e, ?_, by simp [Ex.kd]⟩
      have h3 : fac ts (f + 1) ⟨i, i, none⟩ = (.neg (inF i (fac ts f) ⟨i + 1, i, none⟩).1, (inF i (fac ts f) ⟨i + 1, i, none⟩).2) := by
        simp only [fac, facF, w1, w2, hm]; rfl
      rw [h3]
      simp only [inF, if_neg hd, Option.isNone_none, if_true, he, e1, Nat.add_sub_cancel]
    · have e1 : (pre.drop i).count 40 = (pre.drop (i + 1)).count 40 + 1 := by rw [hdr, List.count_cons_self]
      have hm : isS ts i minusT = false := by rw [hmi]; simp [minusT]
      have ho : isS ts i openT = true := by rw [hop]; simp [openT]
      have hs := sum_stop D (f := f) (i := i) (by omega) he
      refine ⟨e, ?_, hk⟩
      have h3 : fac ts (f + 1) ⟨i, i, none⟩ = ((inF i (sumF ts (fac ts f)) ⟨i + 1, i, none⟩).1, mustS ts (inF i (sumF ts (fac ts f)) ⟨i + 1, i, none⟩).2 shutT) := by
        simp only [fac, facF, w1, w2, hm, ho]; rfl
      rw [h3]
      simp only [inF, if_neg hd, Option.isNone_none, if_true, hs, Nat.add_sub_cancel]
      have hsh := D.isS_shut (j := (pre.drop (i + 1)).count 40) (by omega)
      simp only [mustS, nextB, Option.isNone_none, Bool.true_and, hsh, if_true, St.step, e1]
      rfl

theorem Deep.facB (hl : 20 < pre.length) : ∀ (k i f : Nat), i + k = 20 → k < f → (fac ts f ⟨i, i, none⟩).2.err = some (20, 4)
  | k, i, 0, _, h => by omega
  | k, i, f + 1, hik, hf => by
    have hi : i < pre.length := by omega
    obtain ⟨c, hc⟩ : ∃ c, pre[i]? = some c := ⟨_, List.getElem?_eq_getElem hi⟩
    obtain ⟨w, w1, w2, w3⟩ := D.pre_ i c hc
    have hmi := D.isS_pre hc minusT
    have hop := D.isS_pre hc openT
    have key : ∀ of : Rd, (0 < k → (of ⟨i + 1, i + 1, none⟩).2.err = some (20, 4)) → (inF i of ⟨i + 1, i, none⟩).2.err = some (20, 4) := by
      intro of ho
      cases k with
      | zero =>
        obtain rfl : i = 20 := by omega
        simp [inF, St.fail]
      | succ k =>
        have hd : ¬ i + 1 > 20 := by omega
        simp only [inF, if_neg hd, Option.isNone_none, if_true]
        exact ho (by omega)
    have ih : 0 < k → (fac ts f ⟨i + 1, i + 1, none⟩).2.err = some (20, 4) := fun h0 => by
      obtain ⟨k, rfl⟩ : ∃ k', k = k' + 1 := ⟨k - 1, by omega⟩
      exact Deep.facB hl k (i + 1) f (by omega) (by omega)
    rcases D.two c (List.mem_of_getElem? hc) with rfl | rfl
    · have hm : isS ts i minusT = true := by rw [hmi]; simp [minusT]
      have h3 : fac ts (f + 1) ⟨i, i, none⟩ = (.neg (inF i (fac ts f) ⟨i + 1, i, none⟩).1, (inF i (fac ts f) ⟨i + 1, i, none⟩).2) := by
        simp only [fac, facF, w1, w2, hm]; rfl
      rw [h3]
      exact key _ ih
    · have hm : isS ts i minusT = false := by rw [hmi]; simp [minusT]
      have ho : isS ts i openT = true := by rw [hop]; simp [openT]
      have h3 : fac ts (f + 1) ⟨i, i, none⟩ = ((inF i (sumF ts (fac ts f)) ⟨i + 1, i, none⟩).1, mustS ts (inF i (sumF ts (fac ts f)) ⟨i + 1, i, none⟩).2 shutT) := by
        simp only [fac, facF, w1, w2, hm, ho]; rfl
      rw [h3]
      exact must_err (key _ fun h0 => rowF_err (rowF_err (ih h0)))

theorem Deep.parseA (hl : pre.length ≤ 20) : ∃ e : Ex, parseX ts = (e, ts.length, none) ∧ 2 ≤ e.kd := by
  obtain ⟨e, he, hk⟩ := D.facA hl pre.length 0 (ts.length + 1) (by omega) (by rw [D.len]; omega)
  rw [List.drop_zero] at he
  have hs := sum_stop D (f := ts.length + 1) (i := 0) (Nat.le_refl _) he
  have : sumAt ts ⟨0, 0, none⟩ = (e, ⟨pre.length + 1 + pre.count 40, 0, none⟩) := hs
  refine ⟨e, ?_, hk⟩
  simp only [parseX, this, D.len]
theorem Deep.parseB (hl : 20 < pre.length) : parseX ts = (.none, 0, some (20, 4)) := by
  have h := D.facB hl 20 0 (ts.length + 1) (by omega) (by rw [D.len]; omega)
  have : (sumAt ts ⟨0, 0, none⟩).2.err = some (20, 4) := rowF_err (rowF_err h)
  simp only [parseX, this]
end
theorem tn_kd (e : Ex) : e.tn.k = e.kd := by cases e <;> rfl

/-! The law. -/
def DeepI (q k0 : Nat) (k : Nat) (t : List AV) (H : AH) : Prop :=
  ∃ pre : List UInt8, pre.length + k = k0 ∧ (∀ c ∈ pre, c = 45 ∨ c = 40) ∧ t = mkT 78 [(1, .int .u8 (q : Int)), (5, .int .i64 (k0 : Int)), (6, .str pre), (7, .str (List.replicate (pre.count 40) 41)), (8, .int .i64 (pre.length : Int))] ∧ H = []
theorem deepLaw_cs (n q : Nat) (hn : n < 256) (hq : q < 256) : CS Tryz.prog envF 7 [.int .u8 (n : Int), .int .u8 (q : Int)] [] (.bool true) [] := by
  have X := oLw5_cx
  have hO := oLw5_ok
  generalize oLw5 = O at X hO
  refine CS.tr0 lowF Tryz.func7 (by kernel_rfl) 0 (by simp [Tryz.f7]) (fun B hB hG => ?_) (by simp) (by simp) []
  refine Tr.goD X hG (by kernel_rfl) ?_
  have hk := hO.known
  obtain ⟨m, hm⟩ : ∃ m : Nat, m = n % 30 := ⟨_, rfl⟩
  have hm30 : m < 30 := by omega
  have g1 : ((n : Nat) : Int).tmod 30 = (m : Int) := by rw [Int.tmod_eq_emod_of_nonneg (by omega)]; omega
  have g2 : IntKind.i64.wrap (m : Int) = (m : Int) := wrap_i64 (by omega) (by omega)
  have g3 : IntKind.u8.wrap (m : Int) = (m : Int) := by simp [IntKind.wrap, IntKind.bits, IntKind.signed]; omega
  simp [Tryz.f7, hk, g1, g2, g3]
  refine LpD.loopN X hG (by kernel_rfl) (DeepI q m) m (t' := mkT 78 [(1, .int .u8 (q : Int)), (5, .int .i64 (m : Int)), (6, .str []), (7, .str (List.replicate 0 41)), (8, .int .i64 ((0 : Nat) : Int))]) (H' := [])
    (Less.mk0 hB (by simp)) ⟨[], by simp, by simp, rfl, rfl⟩ ?_
  rintro k t H ⟨pre, hik, hpre, rfl, rfl⟩
  cases k with
  | zero =>
    obtain rfl : m = pre.length := by omega
    have D := dTs_deep pre hpre
    have hlx := lex_deep pre hpre (pre.count 40)
    have hcl : pre.count 40 ≤ pre.length := List.count_le_length
    have htl : (pre ++ 120 :: List.replicate (pre.count 40) 41).length < maxS := by rw [maxS_eq]; simp; omega
    have ht := fun H => hO.toks _ H htl
    rw [hlx] at ht
    have hdl := D.len
    have hdn : (dTs pre (pre.count 40)).length < 1000000 := by omega
    have h1 := fun H => hO.to _ H hdn
    have h2 := fun H => hO.parse _ H hdn
    generalize dTs pre (pre.count 40) = ts at *
    have e1 : pre.length ≤ 9223372036854775806 := by omega
    have e2 : pre.length + (pre.count 40 + 1) ≤ 9223372036854775807 := by omega
    have e3 : pre.length + 1 + pre.count 40 ≤ 9223372036854775807 := by omega
    simp only [toksAV, noneAV] at ht
    by_cases hl : pre.length ≤ 20
    · have hl' : ¬ (20 : Int) < pre.length := by omega
      obtain ⟨e, hp, hkd⟩ := D.parseA hl
      rw [hp] at h2
      have hkd' := hkd
      rw [← tn_kd] at hkd'
      simp only [parseT] at h2
      generalize e.tn = tt at *
      simp only [tC_eq, eAV_none] at h2
      simp [Blk_exit, ht, h1, h2, hl', hkd', e1, e2, e3]
    · have hl' : (20 : Int) < pre.length := by omega
      have hp := D.parseB (by omega)
      rw [hp] at h2
      have hat := hO.at_
      have hte : ∀ H, O 21 [eAV (some (20, 4)), .agg [.slice .full 2 1 [.str [101, 120, 112, 114], .int .i64 20], .int .i64 4]] H = some (.bool true, H) := fun H => hO.tells (some (20, 4)) H (errOk_some (by decide))
      simp only [parseT] at h2
      simp [Blk_exit, ht, h1, h2, hl', hat, hte, e1, e2, e3]
  | succ k =>
    have hlt : pre.length < m := by omega
    have hlt' : (pre.length : Int) < m := by omega
    have hcl : pre.count 40 ≤ pre.length := List.count_le_length
    have w1 : IntKind.i64.wrap ((pre.length : Int) + 1) = (pre.length : Int) + 1 := wrap_i64 (by omega) (by omega)
    have e1 : pre.length ≤ 9223372036854775806 := by omega
    have e2 : pre.count 40 ≤ 9223372036854775806 := by omega
    have gb : IntKind.u64.wrap ((pre.length : Int).tmod 5) = ((pre.length % 5 : Nat) : Int) := by
      rw [Int.tmod_eq_emod_of_nonneg (by omega)]
      simp [IntKind.wrap, IntKind.bits, IntKind.signed]
      omega
    have gn : (0 : Int) ≤ ((pre.length % 5 : Nat) : Int) := by omega
    simp [hlt', abits, gb, gn, -Int.natCast_emod, w1]
    refine GoD_split (fun h => ?_) (fun h => ?_)
    · simp [e1, w1]
      refine Nxt.mk k (by omega) (Less.mk0 (l' := [(1, .int .u8 (q : Int)), (5, .int .i64 (m : Int)), (6, .str (pre ++ [45])), (7, .str (List.replicate ((pre ++ [45]).count 40) 41)), (8, .int .i64 ((pre ++ [45]).length : Int))]) hB (by simp)) ⟨pre ++ [45], by simp; omega, ?_, rfl, rfl⟩
      intro c hc
      rcases List.mem_append.1 hc with hc | hc
      · exact hpre c hc
      · exact .inl (by simpa using hc)
    · simp [e1, e2, w1]
      refine Nxt.mk k (by omega) (Less.mk0 (l' := [(1, .int .u8 (q : Int)), (5, .int .i64 (m : Int)), (6, .str (pre ++ [40])), (7, .str (List.replicate ((pre ++ [40]).count 40) 41)), (8, .int .i64 ((pre ++ [40]).length : Int))]) hB (by simp [List.replicate_succ'])) ⟨pre ++ [40], by simp; omega, ?_, rfl, rfl⟩
      intro c hc
      rcases List.mem_append.1 hc with hc | hc
      · exact hpre c hc
      · exact .inr (by simpa using hc)
end Go.Proofs.YtpmonaempgjgbaaGreatDoor
