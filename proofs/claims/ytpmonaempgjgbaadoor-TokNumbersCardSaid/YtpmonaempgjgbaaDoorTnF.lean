/- A text of digits alone is one word, a number, or is too great. -/
import Derived.Test.YtpmonaempgjgbaaDoorTbA
set_option linter.unusedSimpArgs false
set_option linter.unusedVariables false
namespace Go.Proofs.YtpmonaempgjgbaaDoor
open Go.RowKit Go.Proofs.Fw
set_option maxRecDepth 100000
set_option maxHeartbeats 4000000

theorem numOf_from (s : List UInt8) : ∀ a : Nat, s.foldl (fun n b => 10 * n + (b.toNat - 48)) a = a * 10 ^ s.length + numOf s := by
  unfold numOf
  induction s with
  | nil => intro a; simp
  | cons c s ih =>
    intro a
    simp only [List.foldl_cons, List.length_cons]
    rw [ih, ih (10 * 0 + (c.toNat - 48)), Nat.pow_succ]
    rw [Nat.add_mul, Nat.add_mul]
    have : 10 * a * 10 ^ s.length = a * (10 ^ s.length * 10) := by
      rw [Nat.mul_comm 10 a, Nat.mul_assoc, Nat.mul_comm 10]
    omega
theorem numOf_cons (c : UInt8) (s : List UInt8) : numOf (c :: s) = (c.toNat - 48) * 10 ^ s.length + numOf s := by
  have := numOf_from s (10 * 0 + (c.toNat - 48))
  simpa [numOf] using this
theorem numOf_noughts : ∀ (q : Nat) (d : List UInt8), numOf (List.replicate q 48 ++ d) = numOf d
  | 0, d => rfl
  | q + 1, d => by
    rw [List.replicate_succ, List.cons_append, numOf_cons, numOf_noughts q d]
    simp

theorem digit_not {c : UInt8} (h : isDigit c = true) : isBlank c = false ∧ isSmall c = false := by
  simp only [isDigit, Bool.and_eq_true, decide_eq_true_eq] at h
  refine ⟨?_, ?_⟩
  · simp only [isBlank, Bool.or_eq_false_iff, beq_eq_false_iff_ne]
    omega
  · simp only [isSmall, Bool.and_eq_false_iff, decide_eq_false_iff_not]
    omega

theorem wordOf_digits {T : List UInt8} (hT : T ≠ []) (h : ∀ b ∈ T, isDigit b = true) :
    wordOf T = if numOf T < 9223372036854775808 then ((2, T, numOf T), 0) else ((wordOf T).1, 5) := by
  cases T with
  | nil => exact absurd rfl hT
  | cons c r =>
    have hc := digit_not (h c List.mem_cons_self)
    have hd := h c List.mem_cons_self
    have hf : frontLen isDigit (c :: r) = (c :: r).length := frontLen_whole h
    have ht : (c :: r).take (frontLen isDigit (c :: r)) = c :: r := by rw [hf]; exact List.take_length
    by_cases hov : numOf (c :: r) < 9223372036854775808
    · rw [if_pos hov]
      simp only [wordOf, hc.2, hd, ht, hov, Bool.false_eq_true, if_false, if_true]
    · rw [if_neg hov]
      simp only [wordOf, hc.2, hd, ht, hov, Bool.false_eq_true, if_false, if_true]

theorem lex_digits {T : List UInt8} (hT : T ≠ []) (h : ∀ b ∈ T, isDigit b = true) :
    lex (T.length + 1) T 0 false = if numOf T < 9223372036854775808 then .ok [⟨2, T, 0, numOf T⟩] else .error (0, 5) := by
  have hw := wordOf_digits hT h
  cases T with
  | nil => exact absurd rfl hT
  | cons c r =>
    have hc := digit_not (h c List.mem_cons_self)
    rw [lex_word _ _ _ _ _ hc.1]
    by_cases hov : numOf (c :: r) < 9223372036854775808
    · rw [if_pos hov] at hw ⊢
      have he : wordErr false c r = 0 := by simp [wordErr, hw]
      rw [if_neg (by simp [he]), hw]
      simp only [List.drop_length]
      simp [lex, behind]
    · rw [if_neg hov] at hw ⊢
      have h5 : (wordOf (c :: r)).2 = 5 := by rw [hw]
      have he : wordErr false c r = 5 := by simp [wordErr, h5]
      rw [if_pos (by simp [he]), he]
end Go.Proofs.YtpmonaempgjgbaaDoor
