/- tok.Line tells the words of every text. -/
import Derived.Test.YtpmonaempgjgbaaGreatDoorTkL
set_option linter.unusedSimpArgs false
set_option linter.unusedVariables false
namespace Go.Proofs.YtpmonaempgjgbaaGreatDoor
open Go.RowKit Go.Proofs.Fw
set_option maxRecDepth 100000
set_option maxHeartbeats 4000000

def behind (l : List Wd) (x : Except (Nat × Nat) (List Wd)) : Except (Nat × Nat) (List Wd) := match x with
  | .ok r => .ok (l ++ r)
  | .error x => .error x

theorem wordOf_pos {c : UInt8} {r : List UInt8} (h : (wordOf (c :: r)).2 = 0) : 0 < (wordOf (c :: r)).1.2.1.length := by
  unfold wordOf at h ⊢
  simp only at h ⊢
  split
  · rename_i h1
    have := frontLen_pos (p := isInner) (c := c) (s := r) (by simp [isInner, h1])
    have h2 := frontLen_le isInner (c :: r)
    simp only [List.length_take]
    omega
  · rename_i h1
    rw [if_neg h1] at h
    split
    · rename_i h1
      have := frontLen_pos (p := isDigit) (s := r) h1
      have h2 := frontLen_le isDigit (c :: r)
      split <;> (simp only [List.length_take]; omega)
    · rename_i h1
      rw [if_neg h1] at h
      split
      · rename_i h2
        rw [if_pos h2] at h
        cases h
      · have h2 := signLen_le (c :: r)
        simp only [List.length_take]
        omega

theorem wordOf_le (c : UInt8) (r : List UInt8) : (wordOf (c :: r)).1.2.1.length ≤ (c :: r).length := by
  have key : ∀ n, ((c :: r).take n).length ≤ (c :: r).length := fun n => by rw [List.length_take]; omega
  unfold wordOf
  simp only
  split
  · exact key _
  · split
    · split <;> exact key _
    · split
      · exact Nat.zero_le _
      · exact key _

/-- What is wrong with the word at a place. -/
def wordErr (num : Bool) (c : UInt8) (r : List UInt8) : Nat := if num && isSmall c then 3 else (wordOf (c :: r)).2

theorem lex_word (n : Nat) (c : UInt8) (r : List UInt8) (p : Nat) (num : Bool) (hb : isBlank c = false) :
    lex (n + 1) (c :: r) p num = if wordErr num c r ≠ 0 then .error (p, wordErr num c r) else
      behind [⟨(wordOf (c :: r)).1.1, (wordOf (c :: r)).1.2.1, p, (wordOf (c :: r)).1.2.2⟩] (lex n ((c :: r).drop (wordOf (c :: r)).1.2.1.length) (p + (wordOf (c :: r)).1.2.1.length) ((wordOf (c :: r)).1.1 == 2)) := by
  simp only [lex, hb, Bool.false_eq_true, if_false]
  show (if wordErr num c r ≠ 0 then _ else _) = _
  by_cases h : wordErr num c r ≠ 0
  · rw [if_pos h, if_pos h]
    rfl
  · rw [if_neg h, if_neg h]
    rfl

theorem wordErr_zero {num : Bool} {c : UInt8} {r : List UInt8} (h : wordErr num c r = 0) : (wordOf (c :: r)).2 = 0 := by
  unfold wordErr at h
  split at h
  · cases h
  · exact h

theorem lex_fuel : ∀ (n m : Nat) (s : List UInt8) (p : Nat) (b : Bool), s.length < n → s.length < m → lex n s p b = lex m s p b := by
  intro n
  induction n with
  | zero => intro m s p b h; omega
  | succ n ih =>
    intro m s p b hn hm
    cases m with
    | zero => omega
    | succ m =>
      cases s with
      | nil => rfl
      | cons c r =>
        simp only [List.length_cons] at hn hm
        cases hb : isBlank c with
        | true => simp only [lex, hb, if_true]; exact ih m r _ _ (by omega) (by omega)
        | false =>
          rw [lex_word n c r p b hb, lex_word m c r p b hb]
          by_cases h : wordErr b c r ≠ 0
          · rw [if_pos h, if_pos h]
          · rw [if_neg h, if_neg h]
            have h1 := wordOf_pos (r := r) (wordErr_zero (by simpa using h))
            rw [ih m _ _ _ (by simp only [List.length_drop, List.length_cons]; omega) (by simp only [List.length_drop, List.length_cons]; omega)]

theorem behind_behind (l m : List Wd) (x : Except (Nat × Nat) (List Wd)) : behind l (behind m x) = behind (l ++ m) x := by
  cases x <;> simp [behind]

def LineI2 (s : List UInt8) (k : Nat) (t : List AV) (H : AH) : Prop :=
  ∃ i l, i + k = s.length ∧ t = mkT 89 [(0, .str s), (4, outAV l), (5, .int .i64 i)] ∧ H = outH l ∧ (∀ x ∈ l, x.at_ + x.text.length ≤ i) ∧ l.length ≤ i ∧
    lex (s.length + 1) s 0 false = behind l (lex (k + 1) (s.drop i) i (numAt l i))

theorem outAV_low (l : List Wd) : low (outH l).length (outAV l) = true := by
  unfold outAV outH
  split
  · rfl
  · simp [lowL_mono (Nat.zero_le 1) _ (wdsCells_low l)]
theorem outH_low (l : List Wd) : lowH (outH l).length (outH l) = true := by
  unfold outH
  split <;> rfl

theorem numAt_snoc (us : List Wd) (u : Wd) (i : Nat) : numAt (us ++ [u]) i = (u.kind == 2 && u.at_ + u.text.length == i) := by
  simp [numAt]

/-- The step of the loop's own law: a word. -/
theorem LineI_word {s : List UInt8} {i k : Nat} {l : List Wd} {c : UInt8} {r : List UInt8} (hik : i + (k + 1) = s.length) (hd : s.drop i = c :: r) (hb : isBlank c = false) (he : wordErr (numAt l i) c r = 0) (hl : ∀ x ∈ l, x.at_ + x.text.length ≤ i) (hll : l.length ≤ i)
    (hlex : lex (s.length + 1) s 0 false = behind l (lex (k + 1 + 1) (s.drop i) i (numAt l i))) :
    ∃ j, j < k + 1 ∧ LineI2 s j (mkT 89 [(0, .str s), (4, outAV (l ++ [⟨(wordOf (c :: r)).1.1, (wordOf (c :: r)).1.2.1, i, (wordOf (c :: r)).1.2.2⟩])), (5, .int .i64 ((i + (wordOf (c :: r)).1.2.1.length : Nat) : Int))])
      (outH (l ++ [⟨(wordOf (c :: r)).1.1, (wordOf (c :: r)).1.2.1, i, (wordOf (c :: r)).1.2.2⟩])) := by
  have h1 := wordOf_pos (r := r) (wordErr_zero he)
  have h2 := wordOf_le c r
  have hlen : (c :: r).length = k + 1 := by rw [← hd, List.length_drop]; omega
  generalize hL : (wordOf (c :: r)).1.2.1.length = L at h1 h2 ⊢
  refine ⟨k + 1 - L, by omega, i + L, _, by omega, rfl, rfl, ?_, ?_, ?_⟩
  · intro x hx
    rcases List.mem_append.1 hx with hx | hx
    · have := hl x hx; omega
    · simp only [List.mem_singleton] at hx
      subst hx
      simp only [hL]
      omega
  · simp only [List.length_append, List.length_cons, List.length_nil]; omega
  · rw [hlex, hd, lex_word _ _ _ _ _ hb, if_neg (by simp [he]), behind_behind, numAt_snoc, hL]
    have : s.drop (i + L) = (c :: r).drop L := by rw [← hd, List.drop_drop]
    rw [this]
    congr 1
    simp only [beq_self_eq_true, Bool.and_true]
    have hdl : ((c :: r).drop L).length = k + 1 - L := by rw [List.length_drop, hlen]
    exact lex_fuel _ _ _ _ _ (by omega) (by omega)

theorem LineI_blank {s : List UInt8} {i k : Nat} {l : List Wd} {c : UInt8} {r : List UInt8} (hik : i + (k + 1) = s.length) (hd : s.drop i = c :: r) (hb : isBlank c = true) (hl : ∀ x ∈ l, x.at_ + x.text.length ≤ i) (hll : l.length ≤ i)
    (hlex : lex (s.length + 1) s 0 false = behind l (lex (k + 1 + 1) (s.drop i) i (numAt l i))) :
    LineI2 s k (mkT 89 [(0, .str s), (4, outAV l), (5, .int .i64 ((i + 1 : Nat) : Int))]) (outH l) := by
  refine ⟨i + 1, l, by omega, rfl, rfl, fun x hx => by have := hl x hx; omega, by omega, ?_⟩
  have : s.drop (i + 1) = r := by rw [← List.drop_drop, hd]; rfl
  rw [hlex, hd, this]
  have hn : numAt l (i + 1) = false := by
    unfold numAt
    cases h : l.getLast? with
    | none => rfl
    | some t =>
      have := hl t (List.mem_of_getLast? h)
      have h2 : (t.at_ + t.text.length == i + 1) = false := by simp only [beq_eq_false_iff_ne]; omega
      simp [h2]
  simp only [lex, hb, if_true, hn]

def oLn : Orc := oTab [(87, oWord), (77, oBytes)]
theorem oLn_sound : Sound Tryz.prog envT oLn := oTab_sound fun p hp => by
  simp only [List.mem_cons, List.not_mem_nil, or_false] at hp
  rcases hp with rfl | rfl
  · exact oWord_sound
  · exact oBytes_sound
theorem oLn_cx : Cx oLn Tryz.prog envT := ⟨oLn_sound, methT, mixed⟩

theorem lineAV_low (x : Except (Nat × Nat) (List Wd)) : low 0 (lineAV x) = true := by
  cases x with
  | error x => rfl
  | ok l =>
    simp only [lineAV, wdsAV]
    split
    · rfl
    · simp [wdsCells_low]

theorem cellsAt (us : List Wd) (u : Wd) : (wdsCells (us ++ [u]))[us.length * 4]? = some (.int .i64 u.kind) ∧ (wdsCells (us ++ [u]))[us.length * 4 + 1]? = some (.str u.text) ∧ (wdsCells (us ++ [u]))[us.length * 4 + 2]? = some (.int .i64 u.at_) := by
  have h := wdsCells_length us
  simp only [wdsCells, List.flatMap_append] at h ⊢
  refine ⟨?_, ?_, ?_⟩
  · rw [List.getElem?_append_right (by omega), h]; simp [wdCells]
  · rw [List.getElem?_append_right (by omega), h, show us.length * 4 + 1 - us.length * 4 = 1 by omega]; simp [wdCells]
  · rw [List.getElem?_append_right (by omega), h, show us.length * 4 + 2 - us.length * 4 = 2 by omega]; simp [wdCells]

/-- The loop's body, at every place that is not the end. -/
theorem line_body (B : Bs) (hB : B.H = []) (s : List UInt8) (hs : s.length < maxS) (k i : Nat) (l : List Wd) (hik : i + (k + 1) = s.length) (hl : ∀ x ∈ l, x.at_ + x.text.length ≤ i) (hll : l.length ≤ i)
    (hlex : lex (s.length + 1) s 0 false = behind l (lex (k + 1 + 1) (s.drop i) i (numAt l i))) (Q : AEx → List AV → AH → Prop)
    (hN : ∀ t H, (∃ j t2 H2, j < k + 1 ∧ Less B t H t2 H2 ∧ LineI2 s j t2 H2) → Q .normal t H)
    (hE : ∀ t H, Fin Tryz.prog Tryz.f45 0 4 (lineAV (lex (s.length + 1) s 0 false)) [] .ret t H → Q .ret t H) :
    Wx oLn Tryz.prog envT body11 (mkT 89 [(0, .str s), (4, outAV l), (5, .int .i64 i)]) (outH l) Q := by
  have hi : i < s.length := by omega
  rw [maxS_eq] at hs
  obtain ⟨c, r, hd⟩ : ∃ c r, s.drop i = c :: r := ⟨s[i], s.drop (i + 1), List.drop_eq_getElem_cons hi⟩
  have hc : s[i] = c := by
    have := List.drop_eq_getElem_cons hi
    rw [hd] at this
    injection this with this _
    exact this.symm
  cases hb : isBlank c with
  | true =>
    refine line_bl B hB oLn s i (outAV l) (outH l) hi (by omega) ?_ Q (fun t hle => hN _ _ ⟨k, _, _, by omega, hle, LineI_blank hik hd hb hl hll hlex⟩) (outAV_low l) (outH_low l)
    rw [hc]
    simpa [isBlank] using hb
  | false =>
    have hb1 : ((s[i].toNat : Int) == 32) = false := by
      rw [hc]
      simp only [isBlank, Bool.or_eq_false_iff, beq_eq_false_iff_ne] at hb
      simp only [beq_eq_false_iff_ne]; omega
    have hb2 : ((s[i].toNat : Int) == 9) = false := by
      rw [hc]
      simp only [isBlank, Bool.or_eq_false_iff, beq_eq_false_iff_ne] at hb
      simp only [beq_eq_false_iff_ne]; omega
    have hlen : (c :: r).length = k + 1 := by rw [← hd, List.length_drop]; omega
    have h24 : ∀ H, oLn 87 [.str (s.drop i)] H = some (wordAV (c :: r), H) := fun H => by
      rw [hd]
      have : (c :: r).length < maxS := by rw [hlen, maxS_eq]; omega
      simp only [List.length_cons] at this
      simp [oLn, oTab, oWord, oPure, this]
    have h25 : ∀ H, oLn 77 [.int .u8 (s[i].toNat : Int)] H = some (.bool (isSmall c), H) := fun H => by
      rw [hc]
      exact oBytes_25 c H
    have hw := wordOf_le c r
    have herr : wordErr (numAt l i) c r ≠ 0 → lex (s.length + 1) s 0 false = .error (i, wordErr (numAt l i) c r) := fun h => by
      rw [hlex, hd, lex_word _ _ _ _ _ hb, if_pos h]; rfl
    rcases List.eq_nil_or_concat l with rfl | ⟨us, u, rfl⟩
    · have he : wordErr (numAt [] i) c r = (wordOf (c :: r)).2 := by simp [wordErr, numAt]
      refine line_w0 B hB oLn s i _ _ _ _ hi (by omega) hb1 hb2 h24 (by omega) Q (fun h0 t H hle => ?_) (fun h0 t H hf => hE _ _ ?_)
      · obtain ⟨j, hj, hI⟩ := LineI_word (l := []) hik hd hb (he.trans h0) hl hll hlex
        exact hN _ _ ⟨j, _, _, hj, hle, hI⟩
      · rw [herr (by rw [he]; exact h0), he]; exact hf
    · rw [List.concat_eq_append] at *
      obtain ⟨c0, c1, c2⟩ := cellsAt us u
      have hu := hl u (by simp)
      have hne : us ++ [u] ≠ [] := by simp
      have he : wordErr (numAt (us ++ [u]) i) c r = if isSmall c = true ∧ u.kind = 2 ∧ u.at_ + u.text.length = i then 3 else (wordOf (c :: r)).2 := by
        rw [numAt_snoc]
        unfold wordErr
        by_cases h1 : isSmall c = true <;> by_cases h2 : u.kind = 2 <;> by_cases h3 : u.at_ + u.text.length = i <;> simp [h1, h2, h3]
      have hout : ∀ l : List Wd, l ≠ [] → outAV l = .slice (.tok 0) 4 l.length (wdsCells l) ∧ outH l = [some (.tok l.length)] := fun l h => by simp [outAV, outH, h]
      rw [(hout _ hne).1, (hout _ hne).2]
      simp only [List.length_append, List.length_cons, List.length_nil, Nat.zero_add] at hll ⊢
      refine line_w1 B hB oLn s i us.length (wdsCells (us ++ [u])) u.kind u.at_ u.text (isSmall c) _ _ _ _ hi (by omega) hb1 hb2 c0 c1 c2 (wdsCells_low _) (by omega) (by omega) h25 h24 (by omega) Q _ he (fun h0 t H hle => ?_) (fun h0 t H hf => hE _ _ ?_)
      · obtain ⟨j, hj, hI⟩ := LineI_word hik hd hb h0 hl (by simpa using hll) hlex
        refine hN _ _ ⟨j, _, _, hj, hle, ?_⟩
        have h3 := hout ((us ++ [u]) ++ [⟨(wordOf (c :: r)).1.1, (wordOf (c :: r)).1.2.1, i, (wordOf (c :: r)).1.2.2⟩]) (by simp)
        rw [h3.1, h3.2] at hI
        simpa [wdsCells] using hI
      · rw [herr h0]; exact hf

noncomputable def tail11 : Code := tailC 2 c11
noncomputable def end11 : Code := sndC tail11
noncomputable def for11 : Code := sndC loop11

/-- tok.Line, at every text that is not too long. -/
theorem line_cs (s : List UInt8) (hs : s.length < maxS) (H : AH) : CS Tryz.prog envT 45 [.str s] H (lineAV (lex (s.length + 1) s 0 false)) H := by
  refine CS.frame (CS.of_Tr (H0 := []) (H1 := []) (c := c11) Tryz.func45 (by kernel_rfl) 4 (by simp [Tryz.f45]) (fun B hB hG => ?_) (lineAV_low _) rfl) lowT rfl H
  refine Tr.pre oLn_cx hG 2 (R := tail11) rfl (by kernel_rfl) (by kernel_rfl) ?_
  rw [Go_of]
  simp [c11, Tryz.f45]
  refine Tr.seqD (a := loop11) (b := end11) (by kernel_rfl) ?_
  refine Tr.pre oLn_cx hG 1 (R := for11) (by kernel_rfl) (by kernel_rfl) (by kernel_rfl) ?_
  rw [Go_of]
  simp [loop11, c11, Tryz.f45]
  refine Tr.less (t' := mkT 89 [(0, .str s), (4, .nilSlice), (5, .int .i64 ((0 : Nat) : Int))]) (H' := []) (Less.mkT 0 (by simp [hB]) ?_ rfl rfl) ?_
  · simp
    exact ⟨.same rfl rfl, .same rfl rfl, .same rfl rfl⟩
  refine Tr.forD (a := body11) (id := 0) (by kernel_rfl) (LineI2 s) s.length ⟨0, [], by omega, rfl, rfl, by simp, by simp, ?_⟩ ?_
  · simp only [List.drop_zero, numAt, List.getLast?_nil]
    cases lex (s.length + 1) s 0 false <;> rfl
  rintro k t H ⟨i, l, hik, rfl, rfl, hl, hll, hlex⟩
  refine Tr.run oLn_cx hG draws11 ?_
  cases k with
  | succ k => exact line_body B hB s hs k i l hik hl hll hlex _ (fun t H h => h) (fun t H h => h)
  | zero =>
    obtain rfl : i = s.length := by omega
    have hres : lex (s.length + 1) s 0 false = .ok l := by
      rw [hlex, List.drop_length]
      simp [lex, behind]
    rw [hres]
    rw [Go_of]
    simp [body11, loop11, c11, Tryz.f45, Blk_exit]
    refine Tr.run oLn_cx hG (by kernel_rfl) ?_
    rw [Go_of]
    by_cases h : l = []
    · subst h
      simp [end11, tail11, c11, Tryz.f45, outAV, outH, lineAV, wdsAV]
    · simp [end11, tail11, c11, Tryz.f45, outAV, outH, lineAV, wdsAV, h, wdsCells_low]
end Go.Proofs.YtpmonaempgjgbaaGreatDoor
