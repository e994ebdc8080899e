/- A row of numbers and signs: its words, the expression, what it comes to. -/
import Derived.Test.YtejjlojfgcgopaaGreatDoorEyF
import Derived.Lib.ItoaNum
set_option linter.unusedSimpArgs false
set_option linter.unusedVariables false
namespace Go.Proofs.YtejjlojfgcgopaaGreatDoor
open Go.RowKit Go.Proofs.Fw
set_option maxRecDepth 100000
set_option maxHeartbeats 4000000

/-! A number's digits. -/
abbrev dd (n : Nat) : List UInt8 := Lib.decDigits n
theorem dd_lt {n : Nat} (h : n < 10) : dd n = [UInt8.ofNat (48 + n)] := by rw [dd, Lib.decDigits, dif_pos h]
theorem dd_ge {n : Nat} (h : ¬ n < 10) : dd n = dd (n / 10) ++ [UInt8.ofNat (48 + n % 10)] := by rw [dd, Lib.decDigits, dif_neg h]
theorem dig_ok {r : Nat} (h : r < 10) : isDigit (UInt8.ofNat (48 + r)) = true ∧ (UInt8.ofNat (48 + r)).toNat - 48 = r := by
  have h1 : (UInt8.ofNat (48 + r)).toNat = 48 + r := by rw [UInt8.toNat_ofNat']; omega
  simp only [isDigit, h1, Bool.and_eq_true, decide_eq_true_eq]
  omega
theorem dd_ok (n : Nat) : dd n ≠ [] ∧ (∀ c ∈ dd n, isDigit c = true) ∧ numOf (dd n) = n := by
  induction n using Nat.strongRecOn with
  | _ n ih =>
    by_cases h : n < 10
    · rw [dd_lt h]
      obtain ⟨h1, h2⟩ := dig_ok h
      refine ⟨by simp, fun c hc => ?_, ?_⟩
      · rw [List.mem_singleton.1 hc]; exact h1
      · simp only [numOf, List.foldl_cons, List.foldl_nil, h2]; omega
    · obtain ⟨h1, h2, h3⟩ := ih (n / 10) (by omega)
      obtain ⟨h4, h5⟩ := dig_ok (r := n % 10) (by omega)
      rw [dd_ge h]
      refine ⟨by simp, fun c hc => ?_, ?_⟩
      · rcases List.mem_append.1 hc with hc | hc
        · exact h2 c hc
        · rw [List.mem_singleton.1 hc]; exact h4
      · simp only [numOf] at h3
        simp only [numOf, List.foldl_append, h3, List.foldl_cons, List.foldl_nil, h5]
        omega
theorem dd_len (n : Nat) : (dd n).length ≤ n + 1 := by
  induction n using Nat.strongRecOn with
  | _ n ih =>
    by_cases h : n < 10
    · rw [dd_lt h]; simp
    · have := ih (n / 10) (by omega)
      rw [dd_ge h, List.length_append]
      simp only [List.length_cons, List.length_nil]
      omega

/-! The document's Decimal. -/
def DecI (n0 : Nat) (k : Nat) (t : List AV) (H : AH) : Prop :=
  ∃ (s : List UInt8), dd n0 = (if k < 10 then s else dd (k / 10) ++ s) ∧ k ≤ n0 ∧ s.length + k ≤ n0 + 1 ∧ t = mkT 31 [(0, .int .i64 (k : Int)), (3, .str s)] ∧ H = []
theorem bsByte (z : Int) : abuildSlice Tryz.prog 139 1 [(0, .int .u8 z)] = some (.slice .full 1 1 [.int .u8 z]) := by kernel_rfl
theorem dec_cs (n : Nat) (hn : n < 1000000000000) (H : AH) : CS Tryz.prog envF 18 [.int .i64 (n : Int)] H (.str (dd n)) H := by
  refine CS.tr0 lowF Tryz.func18 (by kernel_rfl) 0 (by simp [Tryz.f18]) (fun B hB hG => ?_) (by simp) (by simp) H
  refine Tr.goD oNilF hG (by kernel_rfl) ?_
  have g0 : ¬ (n : Int) = -9223372036854775808 := by omega
  have g1 : ((n : Int) == -9223372036854775808) = false := by rw [beq_eq_false_iff_ne]; exact g0
  have g2 : ¬ (n : Int) < 0 := by omega
  have dg : ∀ r : Nat, r < 10 → IntKind.i64.wrap (48 + (r : Int)) = 48 + (r : Int) ∧ IntKind.u8.wrap (48 + (r : Int)) = 48 + (r : Int) := fun r hr => ⟨wrap_i64 (by omega) (by omega), by simp [IntKind.wrap, IntKind.bits, IntKind.signed]; omega⟩
  have tm : ∀ m : Nat, ((m : Nat) : Int).tmod 10 = ((m % 10 : Nat) : Int) := fun m => by rw [Int.tmod_eq_emod_of_nonneg (by omega)]; omega
  have td : ∀ m : Nat, ((m : Nat) : Int).tdiv 10 = ((m / 10 : Nat) : Int) := fun m => by rw [Int.tdiv_eq_ediv_of_nonneg (by omega)]; omega
  have by_ : ∀ m : Nat, bytesAV [.int .u8 (48 + ((m % 10 : Nat) : Int))] = some [UInt8.ofNat (48 + m % 10)] := fun m => by
    have : (48 + ((m % 10 : Nat) : Int)).toNat = 48 + m % 10 := by omega
    simp only [bytesAV, this]
  have w1 := fun m => (dg (m % 10) (by omega)).1
  have w2 := fun m => (dg (m % 10) (by omega)).2
  simp [Tryz.f18, g1, g2, tm, w1, w2, bsByte, by_, -Int.natCast_emod]
  have hdig : ∀ m : Nat, (48 + UInt8.ofNat (m % 10) : UInt8) = UInt8.ofNat (48 + m % 10) := fun m => by rw [UInt8.ofNat_add]; rfl
  refine LpD.loopN oNilF hG (by kernel_rfl) (DecI n) n (t' := mkT 31 [(0, .int .i64 (n : Int)), (3, .str [UInt8.ofNat (48 + n % 10)])]) (H' := [])
    (Less.mk0 hB (by simp)) ⟨[UInt8.ofNat (48 + n % 10)], ?_, Nat.le_refl _, by simp; omega, rfl, rfl⟩ ?_
  · split
    · rename_i h; rw [dd_lt h, Nat.mod_eq_of_lt h]
    · rename_i h; rw [dd_ge h]
  rintro k t H ⟨s, hs, hk, hsl, rfl, rfl⟩
  by_cases h10 : k < 10
  · have h10' : ¬ (10 : Int) ≤ k := by omega
    rw [if_pos h10] at hs
    simp [Blk_exit, h10', hs]
  · have h10' : (10 : Int) ≤ k := by omega
    rw [if_neg h10] at hs
    have w3 : IntKind.i64.wrap ((k / 10 : Nat) : Int) = ((k / 10 : Nat) : Int) := wrap_i64 (by omega) (by omega)
    have e1 : 1 + s.length ≤ 9223372036854775807 := by omega
    have e2 : s.length + 1 ≤ 9223372036854775807 := by omega
    have e3 : s.length ≤ 9223372036854775806 := by omega
    simp [h10', td, tm, w1, w2, w3, bsByte, by_, e1, e2, e3, -Int.natCast_emod, -Int.natCast_ediv]
    refine Nxt.mk (k / 10) (by omega) (Less.mk0 (l' := [(0, .int .i64 ((k / 10 : Nat) : Int)), (3, .str (UInt8.ofNat (48 + k / 10 % 10) :: s))]) hB (by simp)) ⟨UInt8.ofNat (48 + k / 10 % 10) :: s, ?_, by omega, by simp; omega, rfl, rfl⟩
    rw [hs]
    split
    · rename_i h; rw [dd_lt h, Nat.mod_eq_of_lt h]; rfl
    · rename_i h; rw [dd_ge h, List.append_assoc]; rfl

/-! The text, and its words. -/
def strip3 (w : Wd) : Nat × List UInt8 × Nat := (w.kind, w.text, w.n)
def sgT (o : Nat) : UInt8 := if o = 0 then 43 else if o = 1 then 45 else 42
def opT (o : Nat) : List UInt8 := if o = 0 then [32, 43, 32] else if o = 1 then [32, 45, 32] else [42]
def txO : List Nat → List UInt8
  | [] => []
  | b :: bs => opT (b % 4) ++ (dd (b / 4) ++ txO bs)
def items : List Nat → List (Nat × List UInt8 × Nat)
  | [] => []
  | b :: bs => (3, [sgT (b % 4)], 0) :: (2, dd (b / 4), b / 4) :: items bs
theorem items_length : ∀ bs : List Nat, (items bs).length = 2 * bs.length
  | [] => rfl
  | b :: bs => by rw [items, List.length_cons, List.length_cons, items_length bs, List.length_cons]; omega
theorem opT_cases (o : Nat) : (o = 0 ∧ opT o = [32, 43, 32] ∧ sgT o = 43) ∨ (o = 1 ∧ opT o = [32, 45, 32] ∧ sgT o = 45) ∨ (2 ≤ o ∧ opT o = [42] ∧ sgT o = 42) := by
  by_cases h0 : o = 0
  · subst h0; exact .inl ⟨rfl, rfl, rfl⟩
  · by_cases h1 : o = 1
    · subst h1; exact .inr (.inl ⟨rfl, rfl, rfl⟩)
    · exact .inr (.inr ⟨by omega, by simp [opT, h0, h1], by simp [sgT, h0, h1]⟩)
theorem front_end {p : UInt8 → Bool} : ∀ {s : List UInt8}, (∀ b ∈ s, p b = true) → ∀ {r : List UInt8}, (∀ c l, r = c :: l → p c = false) → frontLen p (s ++ r) = s.length
  | [], _, r, hr => by
    cases r with
    | nil => rfl
    | cons c l => simp [frontLen, hr c l rfl]
  | c :: s, h, r, hr => by
    have ih := front_end (s := s) (fun b hb => h b (List.mem_cons_of_mem _ hb)) hr
    have hc := h c List.mem_cons_self
    simp only [frontLen, List.cons_append, List.takeWhile_cons, hc, if_true, List.length_cons] at ih ⊢
    omega
theorem lex_blank {c : UInt8} (h : isBlank c = true) (n : Nat) (r : List UInt8) (p : Nat) (b : Bool) : lex (n + 1) (c :: r) p b = lex n r (p + 1) false := by simp [lex, h]
theorem lex_num {v : Nat} (hv : v < 9223372036854775808) {r : List UInt8} (hr : ∀ c l, r = c :: l → isDigit c = false) (n p : Nat) : lex (n + 1) (dd v ++ r) p false = behind [⟨2, dd v, p, v⟩] (lex n r (p + (dd v).length) true) := by
  obtain ⟨h1, h2, h3⟩ := dd_ok v
  have hf := front_end h2 hr
  have hd : ((dd v ++ r).drop (dd v).length) = r := by rw [List.drop_append_of_le_length (Nat.le_refl _), List.drop_length, List.nil_append]
  have ht : ((dd v ++ r).take (dd v).length) = dd v := by rw [List.take_append_of_le_length (Nat.le_refl _), List.take_length]
  generalize dd v = s at *
  cases s with
  | nil => exact absurd rfl h1
  | cons c d =>
    have hc := h2 c List.mem_cons_self
    have hc' := hc
    simp only [isDigit, Bool.and_eq_true, decide_eq_true_eq] at hc'
    have hb : isBlank c = false := by
      simp only [isBlank, Bool.or_eq_false_iff, beq_eq_false_iff_ne]
      omega
    have hs : isSmall c = false := by
      simp only [isSmall, Bool.and_eq_false_iff, decide_eq_false_iff_not]
      omega
    rw [List.cons_append] at hf hd ht
    have hw : wordOf (c :: (d ++ r)) = ((2, c :: d, v), 0) := by
      simp only [wordOf, hs, hc, hf, ht, h3, hv, Bool.false_eq_true, if_false, if_true]
    have he : wordErr false c (d ++ r) = 0 := by simp [wordErr, hw]
    rw [List.cons_append, lex_word _ _ _ _ _ hb, he, if_neg (by simp), hw]
    simp only [hd]
    rfl
theorem txO_head (bs : List Nat) : ∀ c l, txO bs = c :: l → isDigit c = false := by
  intro c l h
  cases bs with
  | nil => cases h
  | cons b bs =>
    simp only [txO] at h
    rcases opT_cases (b % 4) with ⟨_, h1, _⟩ | ⟨_, h1, _⟩ | ⟨_, h1, _⟩ <;>
    · rw [h1] at h
      simp only [List.cons_append] at h
      injection h with h _
      subst h
      decide
theorem lex_sign {c : UInt8} (hc : c = 43 ∨ c = 45 ∨ c = 42) (n : Nat) (r : List UInt8) (p : Nat) (b : Bool) : lex (n + 1) (c :: r) p b = behind [⟨3, [c], p, 0⟩] (lex n r (p + 1) false) := by
  have h1 : wordOf (c :: r) = ((3, [c], 0), 0) := by
    rcases hc with rfl | rfl | rfl <;> simp [wordOf, isSmall, isDigit, signLen]
  have hb : isBlank c = false := by rcases hc with rfl | rfl | rfl <;> decide
  have hs : isSmall c = false := by rcases hc with rfl | rfl | rfl <;> decide
  have he : wordErr b c r = 0 := by simp [wordErr, h1, hs]
  rw [lex_word _ _ _ _ _ hb, he, if_neg (by simp), h1]
  simp only [List.length_cons, List.length_nil, Nat.zero_add, List.drop_succ_cons, List.drop_zero]
  rfl
theorem lex_items : ∀ (bs : List Nat), (∀ b ∈ bs, b / 4 < 9223372036854775808) → ∀ (n p : Nat), (txO bs).length < n → ∃ ts, lex n (txO bs) p true = .ok ts ∧ ts.map strip3 = items bs
  | [], _, 0, p, h => by simp at h
  | [], _, n + 1, p, _ => ⟨[], rfl, rfl⟩
  | b :: bs, hb, n, p, hn => by
    have hv := hb b List.mem_cons_self
    have ih := lex_items bs fun b h => hb b (List.mem_cons_of_mem _ h)
    have key : ∀ (m q : Nat), (dd (b / 4) ++ txO bs).length < m → ∃ ts, lex m (dd (b / 4) ++ txO bs) q false = .ok ts ∧ ts.map strip3 = (2, dd (b / 4), b / 4) :: items bs := by
      intro m q hm
      obtain ⟨m, rfl⟩ : ∃ k, m = k + 1 := ⟨m - 1, by omega⟩
      have hne : 0 < (dd (b / 4)).length := List.length_pos_iff.2 (dd_ok (b / 4)).1
      rw [List.length_append] at hm
      obtain ⟨ts, h1, h2⟩ := ih m (q + (dd (b / 4)).length) (by omega)
      rw [lex_num hv (txO_head bs), h1]
      exact ⟨⟨2, dd (b / 4), q, b / 4⟩ :: ts, rfl, by rw [List.map_cons, h2]; rfl⟩
    simp only [txO] at hn ⊢
    simp only [items]
    rcases opT_cases (b % 4) with ⟨_, h1, h2⟩ | ⟨_, h1, h2⟩ | ⟨_, h1, h2⟩
    · rw [h1] at hn ⊢
      rw [h2]
      simp only [List.cons_append, List.nil_append, List.length_cons] at hn ⊢
      obtain ⟨n, rfl⟩ : ∃ k, n = k + 3 := ⟨n - 3, by omega⟩
      obtain ⟨ts, h3, h4⟩ := key n (p + 1 + 1 + 1) (by omega)
      rw [lex_blank (by decide), lex_sign (.inl rfl), lex_blank (by decide), h3]
      exact ⟨⟨3, [43], p + 1, 0⟩ :: ts, rfl, by rw [List.map_cons, h4]; rfl⟩
    · rw [h1] at hn ⊢
      rw [h2]
      simp only [List.cons_append, List.nil_append, List.length_cons] at hn ⊢
      obtain ⟨n, rfl⟩ : ∃ k, n = k + 3 := ⟨n - 3, by omega⟩
      obtain ⟨ts, h3, h4⟩ := key n (p + 1 + 1 + 1) (by omega)
      rw [lex_blank (by decide), lex_sign (.inr (.inl rfl)), lex_blank (by decide), h3]
      exact ⟨⟨3, [45], p + 1, 0⟩ :: ts, rfl, by rw [List.map_cons, h4]; rfl⟩
    · rw [h1] at hn ⊢
      rw [h2]
      simp only [List.cons_append, List.nil_append, List.length_cons] at hn ⊢
      obtain ⟨n, rfl⟩ : ∃ k, n = k + 1 := ⟨n - 1, by omega⟩
      obtain ⟨ts, h3, h4⟩ := key n (p + 1) (by omega)
      rw [lex_sign (.inr (.inr rfl)), h3]
      exact ⟨⟨3, [42], p, 0⟩ :: ts, rfl, by rw [List.map_cons, h4]; rfl⟩
theorem lex_row (b0 : Nat) (bs : List Nat) (h0 : b0 < 9223372036854775808) (hb : ∀ b ∈ bs, b / 4 < 9223372036854775808) : ∃ ts, lex ((dd b0 ++ txO bs).length + 1) (dd b0 ++ txO bs) 0 false = .ok ts ∧ ts.map strip3 = (2, dd b0, b0) :: items bs := by
  obtain ⟨ts, h1, h2⟩ := lex_items bs hb (dd b0 ++ txO bs).length (0 + (dd b0).length) (by
    have : 0 < (dd b0).length := List.length_pos_iff.2 (dd_ok b0).1
    rw [List.length_append]; omega)
  rw [lex_num h0 (txO_head bs), h1]
  exact ⟨⟨2, dd b0, 0, b0⟩ :: ts, rfl, by rw [List.map_cons, h2]; rfl⟩

/-! The expression. -/
/-- From a word on, these are the words. -/
def Tl (ts : List Wd) (i : Nat) (L : List (Nat × List UInt8 × Nat)) : Prop := i + L.length = ts.length ∧ (ts.drop i).map strip3 = L
theorem Tl.cons {ts : List Wd} {i : Nat} {x : Nat × List UInt8 × Nat} {L : List (Nat × List UInt8 × Nat)} (h : Tl ts i (x :: L)) : ∃ w, ts[i]? = some w ∧ strip3 w = x ∧ Tl ts (i + 1) L := by
  obtain ⟨h1, h2⟩ := h
  have hi : i < ts.length := by simp only [List.length_cons] at h1; omega
  rw [List.drop_eq_getElem_cons hi, List.map_cons] at h2
  injection h2 with h2 h3
  exact ⟨ts[i], List.getElem?_eq_getElem hi, h2, by simp only [List.length_cons] at h1; omega, h3⟩
theorem Tl.none {ts : List Wd} {i : Nat} (h : Tl ts i []) (s : List UInt8) : isS ts i s = false := by
  have : ts[i]? = Option.none := List.getElem?_eq_none (by have := h.1; simp at this; omega)
  simp only [isS, this]
theorem Tl.sign {ts : List Wd} {i : Nat} {c : UInt8} {L : List (Nat × List UInt8 × Nat)} (h : Tl ts i ((3, [c], 0) :: L)) (s : List UInt8) : isS ts i s = decide (s = [c]) := by
  obtain ⟨w, h1, h2, _⟩ := h.cons
  simp only [strip3, Prod.mk.injEq] at h2
  simp only [isS, h1, h2.1, h2.2.1]
  rw [Bool.eq_iff_iff]
  simp only [beq_self_eq_true, Bool.true_and, beq_iff_eq, decide_eq_true_eq]
  exact eq_comm
theorem fac_num {ts : List Wd} {i v : Nat} {s : List UInt8} {L : List (Nat × List UInt8 × Nat)} (h : Tl ts i ((2, s, v) :: L)) (f d : Nat) : fac ts (f + 1) ⟨i, d, none⟩ = (.num v, ⟨i + 1, d, none⟩) := by
  obtain ⟨w, h1, h2, _⟩ := h.cons
  simp only [strip3, Prod.mk.injEq] at h2
  simp only [fac, facF, h1, h2.1, h2.2.2]
  rfl
def mulRun : Ex → List Nat → Ex × List Nat
  | e, [] => (e, [])
  | e, b :: bs => if 2 ≤ b % 4 then mulRun (.bin 7 e (.num (b / 4))) bs else (e, b :: bs)
def sumRun : Nat → Ex → List Nat → Ex
  | 0, e, _ => e
  | _ + 1, e, [] => e
  | n + 1, e, b :: bs => sumRun n (.bin (5 + b % 4) e (mulRun (.num (b / 4)) bs).1) (mulRun (.num (b / 4)) bs).2
def noMul : List Nat → Prop
  | [] => True
  | b :: _ => b % 4 < 2
theorem mulRun_rest : ∀ (bs : List Nat) (e : Ex), noMul (mulRun e bs).2 ∧ (mulRun e bs).2.length ≤ bs.length
  | [], e => ⟨trivial, Nat.le_refl _⟩
  | b :: bs, e => by
    unfold mulRun
    split
    · obtain ⟨h1, h2⟩ := mulRun_rest bs (.bin 7 e (.num (b / 4)))
      exact ⟨h1, by rw [List.length_cons]; omega⟩
    · rename_i h
      exact ⟨by show b % 4 < 2; omega, Nat.le_refl _⟩
theorem term_run {ts : List Wd} (f d : Nat) : ∀ (bs : List Nat) (n : Nat) (e : Ex) (i : Nat), bs.length < n → Tl ts i (items bs) →
    ∃ j, rowL ts (fac ts (f + 1)) starT 7 slashT 8 n e ⟨i, d, none⟩ = ((mulRun e bs).1, ⟨j, d, none⟩) ∧ Tl ts j (items (mulRun e bs).2)
  | [], n, e, i, hn, h => by
    obtain ⟨n, rfl⟩ : ∃ k, n = k + 1 := ⟨n - 1, by omega⟩
    have h1 := h.none
    exact ⟨i, by simp [rowL, nextB, h1, mulRun], h⟩
  | b :: bs, n, e, i, hn, h => by
    obtain ⟨n, rfl⟩ : ∃ k, n = k + 1 := ⟨n - 1, by omega⟩
    have h' := h
    simp only [items] at h'
    have hs := h'.sign
    obtain ⟨_, _, _, h2⟩ := h'.cons
    have hf := fac_num h2 f d
    obtain ⟨_, _, _, h3⟩ := h2.cons
    unfold mulRun
    rcases opT_cases (b % 4) with ⟨ho, _, hg⟩ | ⟨ho, _, hg⟩ | ⟨ho, _, hg⟩
    · rw [if_neg (by omega)]
      rw [hg] at hs
      exact ⟨i, by simp [rowL, nextB, hs, slashT, starT], h⟩
    · rw [if_neg (by omega)]
      rw [hg] at hs
      exact ⟨i, by simp [rowL, nextB, hs, slashT, starT], h⟩
    · rw [if_pos ho]
      rw [hg] at hs
      obtain ⟨j, h4, h5⟩ := term_run f d bs n (.bin 7 e (.num (b / 4))) (i + 1 + 1) (by simp only [List.length_cons] at hn; omega) h3
      refine ⟨j, ?_, h5⟩
      rw [← h4]
      simp [rowL, nextB, hs, slashT, starT, St.step, hf]
theorem termF_run {ts : List Wd} {f d i v : Nat} {s : List UInt8} {bs : List Nat} (h : Tl ts i ((2, s, v) :: items bs)) :
    ∃ j, termF ts (fac ts (f + 1)) ⟨i, d, none⟩ = ((mulRun (.num v) bs).1, ⟨j, d, none⟩) ∧ Tl ts j (items (mulRun (.num v) bs).2) := by
  have hf := fac_num h f d
  have hl := h.1
  simp only [List.length_cons, items_length] at hl
  obtain ⟨_, _, _, h3⟩ := h.cons
  obtain ⟨j, h4, h5⟩ := term_run f d bs (ts.length + 1) (.num v) (i + 1) (by omega) h3
  refine ⟨j, ?_, h5⟩
  simp only [termF, rowF, hf]
  exact h4
theorem sum_run {ts : List Wd} (f d : Nat) : ∀ (N : Nat) (bs : List Nat) (n : Nat) (e : Ex) (i : Nat), bs.length ≤ N → noMul bs → bs.length < n → Tl ts i (items bs) →
    ∃ j, rowL ts (termF ts (fac ts (f + 1))) plusT 5 minusT 6 n e ⟨i, d, none⟩ = (sumRun n e bs, ⟨j, d, none⟩) ∧ Tl ts j []
  | N, [], n, e, i, _, _, hn, h => by
    obtain ⟨n, rfl⟩ : ∃ k, n = k + 1 := ⟨n - 1, by omega⟩
    have h1 := h.none
    exact ⟨i, by simp [rowL, nextB, h1, sumRun], h⟩
  | 0, b :: bs, n, e, i, hN, _, _, _ => by simp at hN
  | N + 1, b :: bs, n, e, i, hN, hm, hn, h => by
    obtain ⟨n, rfl⟩ : ∃ k, n = k + 1 := ⟨n - 1, by omega⟩
    simp only [List.length_cons] at hN hn
    have hm : b % 4 < 2 := hm
    have h' := h
    simp only [items] at h'
    have hs := h'.sign
    obtain ⟨_, _, _, h2⟩ := h'.cons
    obtain ⟨j, h3, h4⟩ := termF_run (f := f) (d := d) h2
    obtain ⟨r1, r2⟩ := mulRun_rest bs (.num (b / 4))
    obtain ⟨j2, h5, h6⟩ := sum_run f d N _ n (.bin (5 + b % 4) e (mulRun (.num (b / 4)) bs).1) j (by omega) r1 (by omega) h4
    refine ⟨j2, ?_, h6⟩
    unfold sumRun
    rw [← h5]
    rcases opT_cases (b % 4) with ⟨ho, _, hg⟩ | ⟨ho, _, hg⟩ | ⟨ho, _, hg⟩
    · rw [hg] at hs
      rw [ho]
      simp [rowL, nextB, hs, plusT, minusT, St.step, h3]
    · rw [hg] at hs
      rw [ho]
      simp [rowL, nextB, hs, plusT, minusT, St.step, h3]
    · omega
def rowX (n v : Nat) (bs : List Nat) : Ex := sumRun n (mulRun (.num v) bs).1 (mulRun (.num v) bs).2
theorem parse_row {ts : List Wd} {v : Nat} {s : List UInt8} {bs : List Nat} (h : ts.map strip3 = (2, s, v) :: items bs) : parseX ts = (rowX (ts.length + 1) v bs, ts.length, none) := by
  have hl : ts.length = 1 + 2 * bs.length := by
    have := congrArg List.length h
    simp only [List.length_map, List.length_cons, items_length] at this
    omega
  have h0 : Tl ts 0 ((2, s, v) :: items bs) := ⟨by simp only [List.length_cons, items_length]; omega, by rw [List.drop_zero]; exact h⟩
  obtain ⟨j, h1, h2⟩ := termF_run (f := ts.length) (d := 0) h0
  obtain ⟨r1, r2⟩ := mulRun_rest bs (.num v)
  obtain ⟨j2, h3, h4⟩ := sum_run ts.length 0 _ _ (ts.length + 1) (mulRun (.num v) bs).1 j (Nat.le_refl _) r1 (by omega) h2
  have hj : j2 = ts.length := by have := h4.1; simpa using this
  have : sumAt ts ⟨0, 0, none⟩ = (rowX (ts.length + 1) v bs, ⟨ts.length, 0, none⟩) := by
    rw [← hj]
    simp only [sumAt, sumF, rowF, h1]
    rw [hj] at h3 ⊢
    exact h3
  simp only [parseX, this]

/-! What it comes to. -/
abbrev w64 (n : Int) : Int := IntKind.i64.wrap n
def evx : Ex → Int
  | .num n => n
  | .bin k a b => if k = 5 then w64 (evx a + evx b) else if k = 6 then w64 (evx a - evx b) else w64 (evx a * evx b)
  | _ => 0
def evOk : Ex → Prop
  | .num n => n < 9223372036854775808
  | .bin k a b => (k = 5 ∨ k = 6 ∨ k = 7) ∧ evOk a ∧ evOk b
  | _ => False
theorem w64_eq (n : Int) : w64 n = (n + 9223372036854775808) % 18446744073709551616 - 9223372036854775808 := by
  simp only [w64, IntKind.wrap, IntKind.bits, IntKind.signed]
  simp
  split <;> omega
theorem w64_add (a b : Int) : w64 (a + w64 b) = w64 (a + b) := by rw [w64_eq, w64_eq, w64_eq]; omega
theorem w64_w64 (a : Int) : w64 (w64 a) = w64 a := by rw [w64_eq, w64_eq]; omega
theorem evx_in {e : Ex} (h : evOk e) : w64 (evx e) = evx e := by
  cases e with
  | num n =>
    simp only [evOk] at h
    simp only [evx]
    rw [w64_eq]
    omega
  | bin k a b =>
    simp only [evx]
    split
    · exact w64_w64 _
    · split <;> exact w64_w64 _
  | _ => exact h.elim
def stp (st : Int × Int × Int) (b : Nat) : Int × Int × Int :=
  if 2 ≤ b % 4 then (st.1, w64 (st.2.1 * ((b / 4 : Nat) : Int)), st.2.2) else (w64 (st.1 + w64 (st.2.2 * st.2.1)), ((b / 4 : Nat) : Int), 1 - 2 * ((b % 4 : Nat) : Int))
def fin (st : Int × Int × Int) : Int := w64 (st.1 + w64 (st.2.2 * st.2.1))
theorem mulRun_ev (s g : Int) : ∀ (bs : List Nat) (e : Ex), bs.foldl stp (s, evx e, g) = (mulRun e bs).2.foldl stp (s, evx (mulRun e bs).1, g)
  | [], e => rfl
  | b :: bs, e => by
    unfold mulRun
    split
    · rename_i h
      have := mulRun_ev s g bs (.bin 7 e (.num (b / 4)))
      rw [← this]
      simp [List.foldl_cons, stp, h, evx]
    · rfl
theorem mulRun_ok : ∀ (bs : List Nat) (e : Ex), evOk e → (∀ b ∈ bs, b < 256) → evOk (mulRun e bs).1 ∧ ∀ b ∈ (mulRun e bs).2, b < 256
  | [], e, h, hb => ⟨h, hb⟩
  | b :: bs, e, h, hb => by
    unfold mulRun
    split
    · exact mulRun_ok bs _ ⟨.inr (.inr rfl), h, by have := hb b List.mem_cons_self; show b / 4 < _; omega⟩ fun b h => hb b (List.mem_cons_of_mem _ h)
    · exact ⟨h, hb⟩
theorem sumRun_ev : ∀ (n : Nat) (bs : List Nat) (e : Ex) (s t g : Int), bs.length < n → noMul bs → evOk e → (∀ b ∈ bs, b < 256) → evx e = fin (s, t, g) →
    evx (sumRun n e bs) = fin (bs.foldl stp (s, t, g)) ∧ evOk (sumRun n e bs)
  | 0, _, _, _, _, _, h, _, _, _, _ => by omega
  | n + 1, [], e, s, t, g, _, _, ho, _, he => ⟨he, ho⟩
  | n + 1, b :: bs, e, s, t, g, hn, hm, ho, hb, he => by
    have hm : b % 4 < 2 := hm
    have hb0 := hb b List.mem_cons_self
    have hnum : evOk (.num (b / 4)) := by show b / 4 < _; omega
    obtain ⟨o1, o2⟩ := mulRun_ok bs (.num (b / 4)) hnum fun b h => hb b (List.mem_cons_of_mem _ h)
    obtain ⟨r1, r2⟩ := mulRun_rest bs (.num (b / 4))
    have hin := evx_in o1
    simp only [List.length_cons] at hn
    have hst : stp (s, t, g) b = (evx e, evx (.num (b / 4)), 1 - 2 * ((b % 4 : Nat) : Int)) := by
      unfold stp
      rw [if_neg (by omega), he]
      rfl
    unfold sumRun
    rw [List.foldl_cons, hst, mulRun_ev]
    refine sumRun_ev n _ _ _ _ _ (by omega) r1 ⟨by omega, ho, o1⟩ o2 ?_
    simp only [evx, fin]
    generalize evx (mulRun (.num (b / 4)) bs).1 = y at hin ⊢
    rcases (by omega : b % 4 = 0 ∨ b % 4 = 1) with h0 | h0
    · rw [h0]
      simp [hin]
    · rw [h0]
      have e1 : (1 - 2 * (((1 : Nat)) : Int)) * y = -y := by omega
      simp only [e1]
      simp [w64_add, Int.sub_eq_add_neg]
theorem row_ev (n v : Nat) (bs : List Nat) (hn : bs.length < n) (hv : v < 256) (hb : ∀ b ∈ bs, b < 256) : evx (rowX n v bs) = fin (bs.foldl stp (0, (v : Int), 1)) ∧ evOk (rowX n v bs) := by
  have hnum : evOk (.num v) := by show v < _; omega
  obtain ⟨o1, o2⟩ := mulRun_ok bs (.num v) hnum hb
  obtain ⟨r1, r2⟩ := mulRun_rest bs (.num v)
  have hin := evx_in o1
  have h := mulRun_ev 0 1 bs (.num v)
  simp only [evx] at h
  rw [h]
  refine sumRun_ev n _ _ _ _ _ (by omega) r1 o1 o2 ?_
  simp only [fin, Int.zero_add, Int.one_mul, hin]
end Go.Proofs.YtejjlojfgcgopaaGreatDoor
