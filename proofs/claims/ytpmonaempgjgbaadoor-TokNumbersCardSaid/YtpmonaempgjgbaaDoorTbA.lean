/- Words with any blanks between them are the same words: in plain lists. -/
import Derived.Test.YtpmonaempgjgbaaDoorTrL
set_option linter.unusedSimpArgs false
set_option linter.unusedVariables false
namespace Go.Proofs.YtpmonaempgjgbaaDoor
open Go.RowKit Go.Proofs.Fw
set_option maxRecDepth 100000
set_option maxHeartbeats 4000000

/-- A blank. -/
def bl : UInt8 := 32
/-- Texts of words, blanks ahead of each. -/
def spread : List (List UInt8 × Wd) → List UInt8
  | [] => []
  | (b, w) :: r => bl :: (b ++ w.text) ++ spread r

/-- What a word is, wherever it stands. -/
def wdKey (w : Wd) : Nat × List UInt8 × Nat := (w.kind, w.text, w.n)

/-- A word that is one by itself. -/
def isWd (w : Wd) : Prop := ∃ c r, w.text = c :: r ∧ isBlank c = false ∧ wordOf (c :: r) = ((w.kind, w.text, w.n), 0)

theorem frontLen_self {p : UInt8 → Bool} : ∀ {s : List UInt8}, (∀ b ∈ s, p b = true) → ∀ (d : UInt8) (r : List UInt8), p d = false → frontLen p (s ++ d :: r) = s.length
  | [], _, d, r, hd => by simp [frontLen, hd]
  | c :: s, h, d, r, hd => by
    have ih := frontLen_self (s := s) (fun b hb => h b (List.mem_cons_of_mem _ hb)) d r hd
    have hc := h c List.mem_cons_self
    unfold frontLen at ih ⊢
    rw [List.cons_append, List.takeWhile_cons, if_pos hc, List.length_cons, ih, List.length_cons]
theorem frontLen_whole {p : UInt8 → Bool} : ∀ {s : List UInt8}, (∀ b ∈ s, p b = true) → frontLen p s = s.length
  | [], _ => rfl
  | c :: s, h => by
    have ih := frontLen_whole (s := s) (fun b hb => h b (List.mem_cons_of_mem _ hb))
    have hc := h c List.mem_cons_self
    unfold frontLen at ih ⊢
    rw [List.takeWhile_cons, if_pos hc, List.length_cons, ih, List.length_cons]

theorem front_of_take {p : UInt8 → Bool} {s t : List UInt8} (h : s.take (frontLen p s) = t) : ∀ b ∈ t, p b = true := by
  subst h
  exact front_all p s

theorem blank_not {d : UInt8} (h : isBlank d = true) : isInner d = false ∧ isDigit d = false ∧ d.toNat ≠ 61 := by
  simp only [isBlank, Bool.or_eq_true, beq_iff_eq] at h
  refine ⟨?_, ?_, by omega⟩
  · simp only [isInner, isSmall, isDigit, Bool.or_eq_false_iff, Bool.and_eq_false_iff, decide_eq_false_iff_not, beq_eq_false_iff_ne]
    omega
  · simp only [isDigit, Bool.and_eq_false_iff, decide_eq_false_iff_not]
    omega

/-- What is read of a text is read of the word alone, and where a blank follows. -/
theorem wordOf_blank {c : UInt8} {r : List UInt8} (h : (wordOf (c :: r)).2 = 0) (rest : List UInt8) (hr : rest = [] ∨ ∃ d q, rest = d :: q ∧ isBlank d = true) :
    wordOf ((wordOf (c :: r)).1.2.1 ++ rest) = wordOf (c :: r) := by
  have hfr : ∀ (p : UInt8 → Bool) (T : List UInt8), (∀ b ∈ T, p b = true) → (∀ d, isBlank d = true → p d = false) → frontLen p (T ++ rest) = T.length := by
    intro p T hT hb
    rcases hr with rfl | ⟨d, q, rfl, hd⟩
    · rw [List.append_nil]; exact frontLen_whole hT
    · exact frontLen_self hT d q (hb d hd)
  have hpos := wordOf_pos h
  cases hsm : isSmall c with
  | true =>
    have hw : wordOf (c :: r) = ((if isKey ((c :: r).take (frontLen isInner (c :: r))) then 4 else 1, (c :: r).take (frontLen isInner (c :: r)), 0), if 31 < frontLen isInner (c :: r) then 4 else 0) := by simp [wordOf, hsm]
    obtain ⟨m, hm⟩ : ∃ m, frontLen isInner (c :: r) = m + 1 := ⟨frontLen isInner (c :: r) - 1, by
      have := frontLen_pos (p := isInner) (c := c) (s := r) (by simp [isInner, hsm]); omega⟩
    have hall := front_all isInner (c :: r)
    have hlen : ((c :: r).take (frontLen isInner (c :: r))).length = frontLen isInner (c :: r) := by
      rw [List.length_take]; have := frontLen_le isInner (c :: r); omega
    rw [hw]
    simp only
    have hF := hfr isInner _ hall (fun d hd => (blank_not hd).1)
    rw [hm, List.take_succ_cons] at hF hlen ⊢
    rw [List.cons_append] at hF ⊢
    have h2 : wordOf (c :: (r.take m ++ rest)) = ((if isKey ((c :: (r.take m ++ rest)).take (frontLen isInner (c :: (r.take m ++ rest)))) then 4 else 1, (c :: (r.take m ++ rest)).take (frontLen isInner (c :: (r.take m ++ rest))), 0), if 31 < frontLen isInner (c :: (r.take m ++ rest)) then 4 else 0) := by simp [wordOf, hsm]
    rw [h2, hF, hlen]
    have h3 : (c :: (r.take m ++ rest)).take (m + 1) = c :: r.take m := by
      rw [← List.cons_append, List.take_append_of_le_length (by rw [hlen]; exact Nat.le_refl _), List.take_of_length_le (by rw [hlen]; exact Nat.le_refl _)]
    rw [h3]
  | false =>
    cases hdg : isDigit c with
    | true =>
      obtain ⟨m, hm⟩ : ∃ m, frontLen isDigit (c :: r) = m + 1 := ⟨frontLen isDigit (c :: r) - 1, by
        have := frontLen_pos (p := isDigit) (c := c) (s := r) hdg; omega⟩
      have hall := front_all isDigit (c :: r)
      have hlen : ((c :: r).take (frontLen isDigit (c :: r))).length = frontLen isDigit (c :: r) := by
        rw [List.length_take]; have := frontLen_le isDigit (c :: r); omega
      have hF := hfr isDigit _ hall (fun d hd => (blank_not hd).2.1)
      by_cases hov : numOf ((c :: r).take (frontLen isDigit (c :: r))) < 9223372036854775808
      · have hw : wordOf (c :: r) = ((2, (c :: r).take (frontLen isDigit (c :: r)), numOf ((c :: r).take (frontLen isDigit (c :: r)))), 0) := by simp [wordOf, hsm, hdg, hov]
        rw [hw]
        simp only
        rw [hm, List.take_succ_cons] at hF hlen hov ⊢
        rw [List.cons_append] at hF ⊢
        have h3 : (c :: (r.take m ++ rest)).take (m + 1) = c :: r.take m := by
          rw [← List.cons_append, List.take_append_of_le_length (by rw [hlen]; exact Nat.le_refl _), List.take_of_length_le (by rw [hlen]; exact Nat.le_refl _)]
        have h4 : frontLen isDigit (c :: (r.take m ++ rest)) = m + 1 := by rw [hF, hlen]
        have h2 : wordOf (c :: (r.take m ++ rest)) = ((2, (c :: (r.take m ++ rest)).take (frontLen isDigit (c :: (r.take m ++ rest))), numOf ((c :: (r.take m ++ rest)).take (frontLen isDigit (c :: (r.take m ++ rest))))), 0) := by
          simp only [wordOf, hsm, hdg, h4, h3, if_pos hov, Bool.false_eq_true, if_false, if_true]
        rw [h2, h4, h3]
      · have : (wordOf (c :: r)).2 = 5 := by simp [wordOf, hsm, hdg, hov]
        rw [this] at h; cases h
    | false =>
      have hw : wordOf (c :: r) = if signLen (c :: r) = 0 then ((0, [], 0), 3) else ((3, (c :: r).take (signLen (c :: r)), 0), 0) := by simp [wordOf, hsm, hdg]
      by_cases h0 : signLen (c :: r) = 0
      · rw [hw, if_pos h0] at h; cases h
      · rw [hw, if_neg h0]
        simp only
        have hs : ∀ T : Nat, signLen ((c :: r).take (signLen (c :: r)) ++ rest) = signLen (c :: r) ∧ ((c :: r).take (signLen (c :: r)) ++ rest).take (signLen (c :: r)) = (c :: r).take (signLen (c :: r)) ∧ T = T := by
          intro T
          have hlen : ((c :: r).take (signLen (c :: r))).length = signLen (c :: r) := by rw [List.length_take]; have := signLen_le (c :: r); omega
          refine ⟨?_, ?_, rfl⟩
          · by_cases hc : c.toNat = 60 ∨ c.toNat = 62 ∨ c.toNat = 61 ∨ c.toNat = 47
            · cases r with
              | nil =>
                have h1 : signLen [c] = 1 := by simp only [signLen, if_pos hc]
                rw [h1]
                show signLen (c :: rest) = 1
                rcases hr with rfl | ⟨d, q, rfl, hd⟩
                · exact h1
                · have := (blank_not hd).2.2
                  simp only [signLen, if_pos hc, if_neg this]
              | cons e r =>
                by_cases he : e.toNat = 61
                · have h1 : signLen (c :: e :: r) = 2 := by simp only [signLen, if_pos hc, if_pos he]
                  rw [h1]
                  show signLen (c :: e :: rest) = 2
                  simp only [signLen, if_pos hc, if_pos he]
                · have h1 : signLen (c :: e :: r) = 1 := by simp only [signLen, if_pos hc, if_neg he]
                  rw [h1]
                  show signLen (c :: rest) = 1
                  rcases hr with rfl | ⟨d, q, rfl, hd⟩
                  · simp only [signLen, if_pos hc]
                  · have := (blank_not hd).2.2
                    simp only [signLen, if_pos hc, if_neg this]
            · have h1 : ∀ x, signLen (c :: x) = if c.toNat = 43 ∨ c.toNat = 45 ∨ c.toNat = 42 ∨ c.toNat = 40 ∨ c.toNat = 41 ∨ c.toNat = 44 then 1 else 0 := fun x => by simp only [signLen, if_neg hc]
              by_cases hc2 : c.toNat = 43 ∨ c.toNat = 45 ∨ c.toNat = 42 ∨ c.toNat = 40 ∨ c.toNat = 41 ∨ c.toNat = 44
              · have h2 : ∀ x, signLen (c :: x) = 1 := fun x => by rw [h1, if_pos hc2]
                rw [h2]
                show signLen (c :: rest) = 1
                exact h2 _
              · rw [h1, if_neg hc2] at h0
                exact absurd rfl h0
          · rw [List.take_append_of_le_length (by rw [hlen]; exact Nat.le_refl _), List.take_of_length_le (by rw [hlen]; exact Nat.le_refl _)]
        obtain ⟨h1, h2, _⟩ := hs 0
        obtain ⟨n, hn⟩ : ∃ n, signLen (c :: r) = n + 1 := ⟨signLen (c :: r) - 1, by omega⟩
        rw [hn, List.take_succ_cons] at h1 h2 ⊢
        rw [List.cons_append] at h1 h2 ⊢
        have hw2 : wordOf (c :: (r.take n ++ rest)) = if signLen (c :: (r.take n ++ rest)) = 0 then ((0, [], 0), 3) else ((3, (c :: (r.take n ++ rest)).take (signLen (c :: (r.take n ++ rest))), 0), 0) := by simp [wordOf, hsm, hdg]
        rw [hw2, h1, if_neg (by omega), h2]

theorem lex_isWd : ∀ (n : Nat) (s : List UInt8) (p : Nat) (b : Bool) (l : List Wd), lex n s p b = .ok l → ∀ w ∈ l, isWd w := by
  intro n
  induction n with
  | zero => intro s p b l h w hw; simp only [lex] at h; injection h with h; subst h; cases hw
  | succ n ih =>
    intro s p b l h w hw
    cases s with
    | nil => simp only [lex] at h; injection h with h; subst h; cases hw
    | cons c r =>
      cases hb : isBlank c with
      | true =>
        simp only [lex, hb, if_true] at h
        exact ih r _ _ _ h w hw
      | false =>
        rw [lex_word _ _ _ _ _ hb] at h
        split at h
        · cases h
        · rename_i he
          have he0 := wordErr_zero (by simpa using he)
          cases hx : lex n ((c :: r).drop (wordOf (c :: r)).1.2.1.length) (p + (wordOf (c :: r)).1.2.1.length) ((wordOf (c :: r)).1.1 == 2) with
          | error x => rw [hx] at h; cases h
          | ok l' =>
            rw [hx] at h
            simp only [behind, List.singleton_append] at h
            injection h with h
            subst h
            rcases List.mem_cons.1 hw with rfl | hw
            · have h1 := wordOf_blank he0 [] (.inl rfl)
              rw [List.append_nil] at h1
              have h2 := wordOf_take c r
              obtain ⟨m, hm⟩ : ∃ m, (wordOf (c :: r)).1.2.1.length = m + 1 := ⟨(wordOf (c :: r)).1.2.1.length - 1, by have := wordOf_pos he0; omega⟩
              rw [hm, List.take_succ_cons] at h2
              refine ⟨c, r.take m, h2, hb, ?_⟩
              rw [h2] at h1
              rw [h1]
              refine Prod.ext rfl he0
            · exact ih _ _ _ _ hx w hw

theorem spread_head : ∀ (l : List (List UInt8 × Wd)), spread l = [] ∨ ∃ q, spread l = bl :: q
  | [] => .inl rfl
  | (b, w) :: r => .inr ⟨_, rfl⟩

theorem lex_blanks : ∀ (b s : List UInt8) (n p : Nat), (∀ d ∈ b, isBlank d = true) → (b ++ s).length < n → lex n (b ++ s) p false = lex n s (p + b.length) false
  | [], s, n, p, _, _ => rfl
  | d :: b, s, n, p, h, hn => by
    simp only [List.cons_append, List.length_cons] at hn
    cases n with
    | zero => omega
    | succ n =>
      have hd := h d List.mem_cons_self
      simp only [List.cons_append, lex, hd, if_true]
      rw [lex_blanks b s n (p + 1) (fun x hx => h x (List.mem_cons_of_mem _ hx)) (by omega)]
      rw [lex_fuel n (n + 1) s _ _ (by simp only [List.length_append] at hn; omega) (by simp only [List.length_append] at hn; omega)]
      simp only [List.length_cons]
      congr 1
      omega

theorem isBlank_bl : isBlank bl = true := rfl

theorem lex_spread : ∀ (l : List (List UInt8 × Wd)), (∀ x ∈ l, (∀ d ∈ x.1, isBlank d = true) ∧ isWd x.2) → ∀ (n p : Nat), (spread l).length < n → ∃ l', lex n (spread l) p false = .ok l' ∧ l'.map wdKey = l.map fun x => wdKey x.2
  | [], _, n, p, hn => by
    cases n with
    | zero => simp [spread] at hn
    | succ n => exact ⟨[], rfl, rfl⟩
  | (b, w) :: r, h, n, p, hn => by
    obtain ⟨hb, c, q, hw, hbc, hwd⟩ := h (b, w) List.mem_cons_self
    simp only at hb hw hwd
    simp only [spread, List.length_cons, List.length_append] at hn
    cases n with
    | zero => omega
    | succ n =>
      have e1 : lex (n + 1) (spread ((b, w) :: r)) p false = lex n (b ++ (w.text ++ spread r)) (p + 1) false := by
        simp only [spread, List.cons_append, List.append_assoc, lex, isBlank_bl, if_true]
      rw [e1, lex_blanks b _ n _ hb (by simp only [List.length_append]; omega)]
      have hrest : spread r = [] ∨ ∃ d q, spread r = d :: q ∧ isBlank d = true := by
        rcases spread_head r with h | ⟨q, h⟩
        · exact .inl h
        · exact .inr ⟨bl, q, h, isBlank_bl⟩
      have hwo : wordOf (c :: (q ++ spread r)) = ((w.kind, w.text, w.n), 0) := by
        have := wordOf_blank (c := c) (r := q) (by rw [hwd]) (spread r) hrest
        rw [hwd] at this
        simp only at this
        rw [hw, List.cons_append] at this
        rw [this, ← hw]
      rw [hw, List.cons_append]
      cases n with
      | zero => rw [hw] at hn; simp only [List.length_cons] at hn; omega
      | succ n =>
        rw [lex_word _ _ _ _ _ hbc, if_neg (by simp [wordErr, hwo]), hwo]
        simp only
        have hdrop : (c :: (q ++ spread r)).drop w.text.length = spread r := by
          rw [← List.cons_append, ← hw, List.drop_left]
        rw [hdrop, lex_flag _ _ _ (fun d q' hd => by
          rcases spread_head r with h | ⟨q2, h⟩
          · rw [h] at hd; cases hd
          · rw [h] at hd; injection hd with hd _; subst hd; rfl)]
        have hlen : 0 < w.text.length := by rw [hw]; simp
        obtain ⟨l', h1, h2⟩ := lex_spread r (fun x hx => h x (List.mem_cons_of_mem _ hx)) n (p + 1 + b.length + w.text.length) (by omega)
        rw [h1]
        refine ⟨_, rfl, ?_⟩
        simp only [List.singleton_append, List.map_cons, h2]
        rfl
end Go.Proofs.YtpmonaempgjgbaaDoor
