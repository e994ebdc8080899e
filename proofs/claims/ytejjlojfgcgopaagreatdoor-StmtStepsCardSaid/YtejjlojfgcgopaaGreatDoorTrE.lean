/- The reference's Toks, whole. -/
import Derived.Test.YtejjlojfgcgopaaGreatDoorTrD
set_option linter.unusedSimpArgs false
set_option linter.unusedVariables false
namespace Go.Proofs.YtejjlojfgcgopaaGreatDoor
open Go.RowKit Go.Proofs.Fw
set_option maxRecDepth 100000
set_option maxHeartbeats 4000000

def RI (s : List UInt8) (k : Nat) (t : List AV) (H : AH) : Prop :=
  ∃ i l, i + k = s.length ∧ t = tR s l i ∧ H = HR l ∧ l.length ≤ i ∧ lex (s.length + 1) s 0 false = behind l (lex (k + 1) (s.drop i) i false)

theorem lex_flag (n : Nat) (s : List UInt8) (p : Nat) (h : ∀ c r, s = c :: r → isSmall c = false) (b : Bool) : lex n s p b = lex n s p false := by
  cases n with
  | zero => rfl
  | succ n =>
    cases s with
    | nil => rfl
    | cons c r =>
      have := h c r rfl
      cases hb : isBlank c with
      | true => simp only [lex, hb, if_true]
      | false =>
        rw [lex_word n c r p b hb, lex_word n c r p false hb]
        have : wordErr b c r = wordErr false c r := by simp [wordErr, this]
        rw [this]

theorem RI_word {s : List UInt8} {i k : Nat} {l : List Wd} {c : UInt8} {r : List UInt8} (hik : i + (k + 1) = s.length) (hd : s.drop i = c :: r) (hb : isBlank c = false) (he : (wordOf (c :: r)).2 = 0) (hll : l.length ≤ i)
    (hlex : lex (s.length + 1) s 0 false = behind l (lex (k + 1 + 1) (s.drop i) i false)) (w : Wd) (hw : w = ⟨(wordOf (c :: r)).1.1, (wordOf (c :: r)).1.2.1, i, (wordOf (c :: r)).1.2.2⟩) (L : Nat) (hL : (wordOf (c :: r)).1.2.1.length = L)
    (hx : (wordOf (c :: r)).1.1 = 2 → ∀ h : i + L < s.length, isSmall s[i + L] = false) :
    ∃ j, j < k + 1 ∧ RI s j (tR s (l ++ [w]) (i + L)) (HR (l ++ [w])) := by
  subst hw
  have h1 := wordOf_pos (r := r) he
  have h2 := wordOf_le c r
  have hlen : (c :: r).length = k + 1 := by rw [← hd, List.length_drop]; omega
  rw [hL] at h1 h2
  have he' : wordErr false c r = 0 := by simpa [wordErr] using he
  refine ⟨k + 1 - L, by omega, i + L, _, by omega, rfl, rfl, ?_, ?_⟩
  · simp only [List.length_append, List.length_cons, List.length_nil]; omega
  · rw [hlex, hd, lex_word _ _ _ _ _ hb, if_neg (by simp [he']), behind_behind, hL]
    have hdd : s.drop (i + L) = (c :: r).drop L := by rw [← hd, List.drop_drop]
    rw [← hdd]
    congr 1
    have hdl : (s.drop (i + L)).length = k + 1 - L := by rw [List.length_drop]; omega
    rw [lex_fuel (k + 1) (k + 1 - L + 1) _ _ _ (by omega) (by omega)]
    cases hk : (wordOf (c :: r)).1.1 == 2 with
    | false => rfl
    | true =>
      refine lex_flag _ _ _ (fun c2 r2 h => ?_) true
      have hlt : i + L < s.length := by
        have : (s.drop (i + L)).length = (c2 :: r2).length := by rw [h]
        rw [List.length_drop, List.length_cons] at this
        omega
      have h5 := List.drop_eq_getElem_cons hlt
      rw [h] at h5
      injection h5 with h5 _
      rw [h5]
      exact hx (by simpa using hk) hlt

theorem toksAV_low (x : Except (Nat × Nat) (List Wd)) : low 0 (toksAV x) = true := by
  cases x with
  | error x => rfl
  | ok l =>
    simp only [toksAV, wdsAV, noneAV]
    split
    · rfl
    · simp [wdsCells_low]

theorem rtoks_body (B : Bs) (hB : B.H = []) (hG : GlobOk envT B.g) (s : List UInt8) (hs : s.length < maxS) (k i : Nat) (l : List Wd) (hik : i + (k + 1) = s.length) (hll : l.length ≤ i)
    (hlex : lex (s.length + 1) s 0 false = behind l (lex (k + 1 + 1) (s.drop i) i false)) (Q : AEx → List AV → AH → Prop)
    (hN : ∀ t H, (∃ j t2 H2, j < k + 1 ∧ Less B t H t2 H2 ∧ RI s j t2 H2) → Q .normal t H)
    (hE : ∀ t H, Fin Tryz.prog F10 0 1 (toksAV (lex (s.length + 1) s 0 false)) [] .ret t H → Q .ret t H) :
    Go oR Tryz.prog envT (LpT Tryz.prog B) body10 [] (tR s l i) (HR l) Q := by
  have hi : i < s.length := by omega
  rw [maxS_eq] at hs
  obtain ⟨c, r, hd⟩ : ∃ c r, s.drop i = c :: r := ⟨s[i], s.drop (i + 1), List.drop_eq_getElem_cons hi⟩
  have hc : s[i] = c := by
    have := List.drop_eq_getElem_cons hi
    rw [hd] at this
    injection this with this _
    exact this.symm
  cases hb : isBlank c with
  | true =>
    refine toks_blank B hB hG s l i hi hs (by rw [hc]; simpa [isBlank] using hb) Q (fun t H hle => hN _ _ ⟨k, _, _, by omega, hle, i + 1, l, by omega, rfl, rfl, by omega, ?_⟩)
    have : s.drop (i + 1) = r := by rw [← List.drop_drop, hd]; rfl
    rw [hlex, hd, this]
    simp only [lex, hb, if_true]
  | false =>
    have hb1 : ¬ (s[i].toNat : Int) = 32 := by
      rw [hc]
      simp only [isBlank, Bool.or_eq_false_iff, beq_eq_false_iff_ne] at hb
      omega
    have hb2 : ¬ (s[i].toNat : Int) = 9 := by
      rw [hc]
      simp only [isBlank, Bool.or_eq_false_iff, beq_eq_false_iff_ne] at hb
      omega
    have herr : (wordOf (c :: r)).2 ≠ 0 → lex (s.length + 1) s 0 false = .error (i, (wordOf (c :: r)).2) := fun h => by
      rw [hlex, hd, lex_word _ _ _ _ _ hb, if_pos (by simpa [wordErr] using h)]
      simp [wordErr, behind]
    have hlen : (c :: r).length = k + 1 := by rw [← hd, List.length_drop]; omega
    have htl : ∀ n, n ≤ (c :: r).length → ((c :: r).take n).length = n := fun n h => by rw [List.length_take]; omega
    cases hsm : isSmall c with
    | true =>
      have hfl := frontLen_le isInner (c :: r)
      have hw : wordOf (c :: r) = ((if isKey ((c :: r).take (frontLen isInner (c :: r))) then 4 else 1, (c :: r).take (frontLen isInner (c :: r)), 0), if 31 < frontLen isInner (c :: r) then 4 else 0) := by simp [wordOf, hsm]
      refine toks_letter B hB hG s l i _ hi hs hll hb1 hb2 (by rw [hc]; exact hsm) rfl Q _ rfl (fun h t H hle => ?_) (fun h t H hf => hE _ _ ?_)
      · rw [hd] at h hle
        obtain ⟨j, hj, hI⟩ := RI_word hik hd hb (by rw [hw]; simp; omega) hll hlex _ rfl _ rfl (fun h2 => by rw [hw] at h2; simp only at h2; split at h2 <;> cases h2)
        rw [hw] at hI
        simp only [htl _ hfl] at hI
        exact hN _ _ ⟨j, _, _, hj, hle, hI⟩
      · rw [hd] at h
        rw [herr (by rw [hw]; simp [h]), hw]
        simpa [h] using hf
    | false =>
      cases hdg : isDigit c with
      | true =>
        have hfl := frontLen_le isDigit (c :: r)
        refine toks_digit B hB hG s l i _ hi hs hll hb1 hb2 (by rw [hc]; exact hsm) (by rw [hc]; exact hdg) rfl Q (fun h hx t H hle => ?_) (fun h t H hf => hE _ _ ?_) (fun h hx t H hf => hE _ _ ?_)
        · rw [hd] at h hx hle
          have hw : wordOf (c :: r) = ((2, (c :: r).take (frontLen isDigit (c :: r)), numOf ((c :: r).take (frontLen isDigit (c :: r)))), 0) := by simp [wordOf, hsm, hdg, h]
          obtain ⟨j, hj, hI⟩ := RI_word hik hd hb (by rw [hw]) hll hlex _ rfl (frontLen isDigit (c :: r)) (by rw [hw]; exact htl _ hfl) (fun _ => hx)
          rw [hw] at hI
          exact hN _ _ ⟨j, _, _, hj, hle, hI⟩
        · rw [hd] at h
          have hw : (wordOf (c :: r)).2 = 5 := by simp [wordOf, hsm, hdg, h]
          rw [herr (by rw [hw]; decide), hw]
          exact hf
        · rw [hd] at h hx hf
          obtain ⟨hx, hsx⟩ := hx
          have hw : wordOf (c :: r) = ((2, (c :: r).take (frontLen isDigit (c :: r)), numOf ((c :: r).take (frontLen isDigit (c :: r)))), 0) := by simp [wordOf, hsm, hdg, h]
          have hres : lex (s.length + 1) s 0 false = .error (i + frontLen isDigit (c :: r), 3) := by
            rw [hlex, hd, lex_word _ _ _ _ _ hb, if_neg (by simp [wordErr, hw]), hw]
            simp only [htl _ hfl]
            have hdd : (c :: r).drop (frontLen isDigit (c :: r)) = s[i + frontLen isDigit (c :: r)] :: s.drop (i + frontLen isDigit (c :: r) + 1) := by
              rw [← List.drop_eq_getElem_cons hx, ← List.drop_drop, hd]
            rw [hdd, lex_word _ _ _ _ _ (by
              have := hsx
              simp only [isSmall, Bool.and_eq_true, decide_eq_true_eq] at this
              simp only [isBlank, Bool.or_eq_false_iff, beq_eq_false_iff_ne]
              omega), if_pos (by simp [wordErr, hsx])]
            simp [behind, wordErr, hsx]
          rw [hres]
          exact hf
      | false =>
        refine toks_sign B hB hG s l i _ hi hs hll hb1 hb2 (by rw [hc]; exact hsm) (by rw [hc]; exact hdg) rfl Q (fun h t H hle => ?_) (fun h t H hf => hE _ _ ?_)
        · rw [hd] at h hle
          have hw : wordOf (c :: r) = ((3, (c :: r).take (signLen (c :: r)), 0), 0) := by simp [wordOf, hsm, hdg, h]
          obtain ⟨j, hj, hI⟩ := RI_word hik hd hb (by rw [hw]) hll hlex _ rfl (signLen (c :: r)) (by rw [hw]; exact htl _ (signLen_le _)) (fun h2 => by rw [hw] at h2; cases h2)
          rw [hw] at hI
          exact hN _ _ ⟨j, _, _, hj, hle, hI⟩
        · rw [hd] at h
          have hw : (wordOf (c :: r)).2 = 3 := by simp [wordOf, hsm, hdg, h]
          rw [herr (by rw [hw]; decide), hw]
          exact hf

theorem rtoks_cs (s : List UInt8) (hs : s.length < maxS) (H : AH) : CS Tryz.prog envT 20 [.str s] H (toksAV (lex (s.length + 1) s 0 false)) H := by
  refine CS.tr0 lowT Tryz.func20 (by kernel_rfl) 1 (by simp [Tryz.f20]) (fun B hB hG => ?_) (toksAV_low _) rfl H
  refine Tr.pre oR_cx hG 3 (R := tail10) rfl (by kernel_rfl) (by kernel_rfl) ?_
  rw [Go_of]
  simp [Tryz.f20]
  refine Tr.seqD (a := for10) (b := end10) (by kernel_rfl) ?_
  refine Tr.less (t' := tR s [] 0) (H' := HR []) (less10 hB (by simp) (by simp) (by simp [outR]) (by simp) (by simp [HR, resB])) ?_
  refine Tr.forD (a := body10) (id := 0) (by kernel_rfl) (RI s) s.length ⟨0, [], by omega, rfl, rfl, by simp, ?_⟩ ?_
  · rw [List.drop_zero]
    cases lex (s.length + 1) s 0 false <;> rfl
  rintro k t H ⟨i, l, hik, rfl, rfl, hll, hlex⟩
  refine Tr.go oR_cx hG (by kernel_rfl) ?_
  cases k with
  | succ k => exact rtoks_body B hB hG s hs k i l hik hll hlex _ (fun t H h => h) (fun t H h => h)
  | zero =>
    obtain rfl : i = s.length := by omega
    have hres : lex (s.length + 1) s 0 false = .ok l := by
      rw [hlex, List.drop_length]
      simp [lex, behind]
    rw [hres]
    rcases HR_cases l with ⟨hl, hH⟩ | ⟨hl, hH⟩
    · rw [hH]
      simp [body10, for10, tail10, c10, Tryz.f20, tR, Blk_exit]
      refine Tr.go oR_cx hG (by kernel_rfl) ?_
      simp [end10, tail10, c10, Tryz.f20, buW, resB, toksAV, wdsAV, outR, hl, noneAV]
    · rw [hH]
      simp [body10, for10, tail10, c10, Tryz.f20, tR, Blk_exit]
      refine Tr.go oR_cx hG (by kernel_rfl) ?_
      simp [end10, tail10, c10, Tryz.f20, buW, resB, toksAV, wdsAV, outR, hl, noneAV, wdsCells_low]
end Go.Proofs.YtejjlojfgcgopaaGreatDoor
