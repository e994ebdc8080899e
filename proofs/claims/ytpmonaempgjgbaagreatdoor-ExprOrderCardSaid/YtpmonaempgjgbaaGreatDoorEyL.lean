/- The words of a text stand in order, and are no more than its bytes; what is wrong has a number. -/
import Derived.Test.YtpmonaempgjgbaaGreatDoorTkM
set_option linter.unusedSimpArgs false
set_option linter.unusedVariables false
namespace Go.Proofs.YtpmonaempgjgbaaGreatDoor
set_option maxHeartbeats 1000000

/-- Words that stand in order, from a place to an end. -/
def wdsIn : Nat → Nat → List Wd → Prop
  | p, e, [] => p ≤ e
  | p, e, w :: r => p ≤ w.at_ ∧ wdsIn (w.at_ + w.text.length) e r

theorem wdsIn_le : ∀ {p e : Nat} {l : List Wd}, wdsIn p e l → p ≤ e
  | _, _, [], h => h
  | p, e, w :: r, h => by
    have := wdsIn_le h.2
    have := h.1
    omega

theorem lex_in : ∀ (n : Nat) (s : List UInt8) (p : Nat) (b : Bool) (l : List Wd), s.length < n → lex n s p b = .ok l → wdsIn p (p + s.length) l ∧ l.length ≤ s.length := by
  intro n
  induction n with
  | zero => intro s p b l h; omega
  | succ n ih =>
    intro s p b l hn h
    cases s with
    | nil =>
      simp only [lex] at h
      injection h with h
      subst h
      exact ⟨Nat.le_refl _, Nat.le_refl _⟩
    | cons c r =>
      simp only [List.length_cons] at hn ⊢
      cases hb : isBlank c with
      | true =>
        simp only [lex, hb, if_true] at h
        obtain ⟨h1, h2⟩ := ih r (p + 1) false l (by omega) h
        refine ⟨?_, by omega⟩
        rw [show p + (r.length + 1) = p + 1 + r.length by omega]
        cases l with
        | nil => have : p + 1 ≤ _ := h1; show p ≤ _; omega
        | cons w l => exact ⟨by have := h1.1; omega, h1.2⟩
      | false =>
        rw [lex_word _ _ _ _ _ hb] at h
        split at h
        · cases h
        · rename_i he
          have hp := wordOf_pos (r := r) (wordErr_zero (by simpa using he))
          have hle := wordOf_le c r
          simp only [List.length_cons] at hle
          cases hx : lex n ((c :: r).drop (wordOf (c :: r)).1.2.1.length) (p + (wordOf (c :: r)).1.2.1.length) ((wordOf (c :: r)).1.1 == 2) with
          | error x => rw [hx] at h; cases h
          | ok l' =>
            rw [hx] at h
            simp only [behind, List.singleton_append] at h
            injection h with h
            subst h
            obtain ⟨h1, h2⟩ := ih _ _ _ l' (by rw [List.length_drop, List.length_cons]; omega) hx
            rw [List.length_drop, List.length_cons] at h1 h2
            refine ⟨⟨Nat.le_refl _, ?_⟩, by simp only [List.length_cons]; omega⟩
            rw [show p + (r.length + 1) = p + (wordOf (c :: r)).1.2.1.length + (r.length + 1 - (wordOf (c :: r)).1.2.1.length) by omega]
            exact h1

theorem lex_err : ∀ (n : Nat) (s : List UInt8) (p : Nat) (b : Bool) (q e : Nat), lex n s p b = .error (q, e) → e ≠ 0 := by
  intro n
  induction n with
  | zero => intro s p b q e h; cases h
  | succ n ih =>
    intro s p b q e h
    cases s with
    | nil => cases h
    | cons c r =>
      cases hb : isBlank c with
      | true =>
        simp only [lex, hb, if_true] at h
        exact ih r _ _ _ _ h
      | false =>
        rw [lex_word _ _ _ _ _ hb] at h
        split at h
        · rename_i he
          injection h with h
          simp only [Prod.mk.injEq] at h
          rw [← h.2]; exact he
        · cases hx : lex n ((c :: r).drop (wordOf (c :: r)).1.2.1.length) (p + (wordOf (c :: r)).1.2.1.length) ((wordOf (c :: r)).1.1 == 2) with
          | error x =>
            rw [hx] at h
            simp only [behind] at h
            injection h with h
            subst h
            exact ih _ _ _ _ _ hx
          | ok l' => rw [hx] at h; cases h

end Go.Proofs.YtpmonaempgjgbaaGreatDoor
