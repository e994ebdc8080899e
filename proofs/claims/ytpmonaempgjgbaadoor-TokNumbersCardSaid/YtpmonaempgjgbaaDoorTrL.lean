/- TokReplace's law, in plain lists; what the law's text returns. -/
import Derived.Test.YtpmonaempgjgbaaDoorTrH
import Derived.Test.YtpmonaempgjgbaaDoorTjB
set_option linter.unusedSimpArgs false
set_option linter.unusedVariables false
namespace Go.Proofs.YtpmonaempgjgbaaDoor
open Go.RowKit Go.Proofs.Fw
set_option maxRecDepth 100000
set_option maxHeartbeats 4000000
-- 

theorem cut_split (s : List UInt8) : s = bodyOfLine s ++ (noteOf s ++ nlOf s) := by
  have h1 : cutNl s ++ nlOf s = s := by
    unfold cutNl nlOf
    by_cases h : hasNl s = true
    · rw [if_pos h, if_pos h]
      have h2 := h
      unfold hasNl at h2
      simp only [Bool.and_eq_true, decide_eq_true_eq, beq_iff_eq] at h2
      rw [← h2.2, List.take_append_drop]
    · rw [if_neg h, if_neg h, List.append_nil]
  have h2 : bodyOfLine s ++ noteOf s = cutNl s := List.take_append_drop _ _
  rw [← List.append_assoc, h2, h1]

theorem drop_split (s : List UInt8) (x : Nat) (h : x ≤ (bodyOfLine s).length) : s.drop x = (bodyOfLine s).drop x ++ (noteOf s ++ nlOf s) := by
  conv => lhs; rw [cut_split s]
  rw [List.drop_append_of_le_length h]

theorem step_eq (s name by_ : List UInt8) (w : Wd) (st : List UInt8 × Nat) (h : w.at_ + w.text.length ≤ (bodyOfLine s).length) : replStep s name by_ st w = rStep (bodyOfLine s) name by_ st w := by
  unfold replStep rStep
  by_cases hc : w.kind = 1 ∧ w.text = name
  · rw [if_pos hc, if_pos hc, hc.2]
    have : s.take w.at_ = (bodyOfLine s).take w.at_ := by
      conv => lhs; rw [cut_split s]
      exact List.take_append_of_le_length (by omega)
    rw [this]
  · rw [if_neg hc, if_neg hc]

theorem fold_eq (s name by_ : List UInt8) : ∀ (l : List Wd) (p : Nat) (st : List UInt8 × Nat), wdsIn p (bodyOfLine s).length l → st.2 ≤ p →
    l.foldl (replStep s name by_) st = l.foldl (rStep (bodyOfLine s) name by_) st ∧ (l.foldl (replStep s name by_) st).2 ≤ (bodyOfLine s).length
  | [], p, st, h, hp => ⟨rfl, Nat.le_trans hp h⟩
  | w :: l, p, st, h, hp => by
    have h2 := wdsIn_le h.2
    simp only [List.foldl_cons]
    rw [← step_eq s name by_ w st h2]
    refine fold_eq s name by_ l _ _ h.2 ?_
    unfold replStep
    split
    · exact Nat.le_refl _
    · have := h.1; omega

theorem law_same (s name by_ : List UInt8) : replOut s name by_ = rreplOut s name by_ := by
  unfold replOut rreplOut
  cases hx : lexB s with
  | error x => rfl
  | ok l =>
    obtain ⟨hin, _⟩ := lex_in _ _ _ _ _ (by omega) hx
    rw [Nat.zero_add] at hin
    obtain ⟨h1, h2⟩ := fold_eq s name by_ l 0 ([], 0) hin (Nat.le_refl _)
    simp only [replP, rreplP]
    rw [h1] at h2 ⊢
    rw [drop_split s _ h2]

theorem wordOf_take (c : UInt8) (r : List UInt8) : (wordOf (c :: r)).1.2.1 = (c :: r).take (wordOf (c :: r)).1.2.1.length := by
  have key : ∀ n, (c :: r).take n = (c :: r).take ((c :: r).take n).length := fun n => by
    rw [List.length_take]
    rcases Nat.le_total n (c :: r).length with h | h
    · rw [Nat.min_eq_left h]
    · rw [Nat.min_eq_right h, List.take_length, List.take_of_length_le h]
  unfold wordOf
  simp only
  split
  · exact key _
  · split
    · split <;> exact key _
    · split
      · rfl
      · exact key _

theorem lex_text : ∀ (n : Nat) (s : List UInt8) (p : Nat) (b : Bool) (l : List Wd), lex n s p b = .ok l → ∀ w ∈ l, p ≤ w.at_ ∧ w.text = (s.drop (w.at_ - p)).take w.text.length := by
  intro n
  induction n with
  | zero => intro s p b l h w hw; simp only [lex] at h; injection h with h; subst h; cases hw
  | succ n ih =>
    intro s p b l h w hw
    cases s with
    | nil => simp only [lex] at h; injection h with h; subst h; cases hw
    | cons c r =>
      cases hb : isBlank c with
      | true =>
        simp only [lex, hb, if_true] at h
        obtain ⟨h1, h2⟩ := ih r _ _ _ h w hw
        refine ⟨by omega, ?_⟩
        rw [show w.at_ - p = (w.at_ - (p + 1)) + 1 by omega, List.drop_succ_cons]
        exact h2
      | false =>
        rw [lex_word _ _ _ _ _ hb] at h
        split at h
        · cases h
        · cases hx : lex n ((c :: r).drop (wordOf (c :: r)).1.2.1.length) (p + (wordOf (c :: r)).1.2.1.length) ((wordOf (c :: r)).1.1 == 2) with
          | error x => rw [hx] at h; cases h
          | ok l' =>
            rw [hx] at h
            simp only [behind, List.singleton_append] at h
            injection h with h
            subst h
            rcases List.mem_cons.1 hw with rfl | hw
            · simp only [Nat.sub_self, List.drop_zero]
              exact ⟨Nat.le_refl _, wordOf_take c r⟩
            · obtain ⟨h1, h2⟩ := ih _ _ _ _ hx w hw
              refine ⟨by omega, ?_⟩
              rw [List.drop_drop] at h2
              rw [show w.at_ - p = (wordOf (c :: r)).1.2.1.length + (w.at_ - (p + (wordOf (c :: r)).1.2.1.length)) by omega]
              exact h2

theorem fold_self (s name : List UInt8) : ∀ (l : List Wd) (p : Nat) (st : List UInt8 × Nat), wdsIn p (bodyOfLine s).length l → (∀ w ∈ l, w.text = (s.drop w.at_).take w.text.length) → st.2 ≤ p → st.1 = s.take st.2 →
    (l.foldl (replStep s name name) st).1 = s.take (l.foldl (replStep s name name) st).2
  | [], _, _, _, _, _, h => h
  | w :: l, p, st, hin, ht, hp, hst => by
    have h1 := hin.1
    have h2 := wdsIn_le hin.2
    have hb := bodyOfLine_len s
    simp only [List.foldl_cons]
    refine fold_self s name l _ _ hin.2 (fun x hx => ht x (List.mem_cons_of_mem _ hx)) ?_ ?_
    · unfold replStep
      split
      · exact Nat.le_refl _
      · omega
    · unfold replStep
      split
      · rename_i hc
        have hw := ht w List.mem_cons_self
        simp only [hst]
        rw [List.take_add, ← hw, hc.2, ← List.append_assoc]
        congr 1
        have : (s.take w.at_).take st.2 = s.take st.2 := by rw [List.take_take]; congr 1; omega
        rw [← this, List.take_append_drop]
      · exact hst

theorem law_self (s name : List UInt8) : replOut s name name = s := by
  unfold replOut
  cases hx : lexB s with
  | error x => rfl
  | ok l =>
    obtain ⟨hin, _⟩ := lex_in _ _ _ _ _ (by omega) hx
    rw [Nat.zero_add] at hin
    have htx : ∀ w ∈ l, w.text = (s.drop w.at_).take w.text.length := fun w hw => by
      obtain ⟨_, h2⟩ := lex_text _ _ _ _ _ hx w hw
      rw [Nat.sub_zero] at h2
      have hle : w.at_ + w.text.length ≤ (bodyOfLine s).length := by
        clear h2
        have key : ∀ (l : List Wd) (p : Nat), wdsIn p (bodyOfLine s).length l → w ∈ l → w.at_ + w.text.length ≤ (bodyOfLine s).length := by
          intro l
          induction l with
          | nil => intro p _ h; cases h
          | cons x l ih =>
            intro p h hm
            rcases List.mem_cons.1 hm with rfl | hm
            · exact wdsIn_le h.2
            · exact ih _ h.2 hm
        exact key l 0 hin hw
      rw [h2]
      have : (s.drop w.at_).take w.text.length = ((bodyOfLine s).drop w.at_).take w.text.length := by
        rw [drop_split s _ (by omega), List.take_append_of_le_length (by rw [List.length_drop]; omega)]
      rw [List.length_take, Nat.min_eq_left (by rw [List.length_drop]; omega), this]
    simp only [replP]
    rw [fold_self s name l 0 ([], 0) hin htx (Nat.le_refl _) rfl, List.take_append_drop]

def oKnown : Orc := call0 7 (.bool true)
theorem oKnown_sound : Sound Tryd.prog envT oKnown := Sound.call0 lowT (run_sound base1_sound methT mixed 100 10 _ _ _ _ _ known_run).1
def oRepl : Orc := oPure 8 (fun args => match args with
    | [.str s, .str n, .str b] => if s.length < 1000000 ∧ b.length < 1000000 then some (s, n, b) else none
    | _ => none) fun x => .str (replOut x.1 x.2.1 x.2.2)
theorem oRepl_sound : Sound Tryd.prog envT oRepl := oPure_sound fun args x H h => by
  split at h
  · split at h
    · rename_i hs
      injection h with h
      subst h
      exact replace_cs _ _ _ hs.1 hs.2 H
    · cases h
  · cases h
def oRrepl : Orc := oPure 9 (fun args => match args with
    | [.str s, .str n, .str b] => if s.length < 1000000 ∧ b.length < 1000000 ∧ n.length < 1000000 then some (s, n, b) else none
    | _ => none) fun x => .str (rreplOut x.1 x.2.1 x.2.2)
theorem oRrepl_sound : Sound Tryd.prog envT oRrepl := oPure_sound fun args x H h => by
  split at h
  · split at h
    · rename_i hs
      injection h with h
      subst h
      exact rreplace_cs _ _ _ hs.1 hs.2.1 hs.2.2 H
    · cases h
  · cases h
def oLw : Orc := oTab [(7, oKnown), (8, oRepl), (9, oRrepl)]
theorem oLw_cx : Cx oLw Tryd.prog envT := ⟨oTab_sound fun p hp => by
  simp only [List.mem_cons, List.not_mem_nil, or_false] at hp
  rcases hp with rfl | rfl | rfl
  · exact oKnown_sound
  · exact oRepl_sound
  · exact oRrepl_sound, methT, mixed⟩

theorem replLaw_cs (s n b : List UInt8) : CS Tryd.prog envT 3 [.str s, .str n, .str b] [] (.bool true) [] := by
  refine CS.run0 oLw_cx lowT Tryd.func3 (by kernel_rfl) (by kernel_rfl) 0 (by simp [Tryd.f3]) ?_ rfl rfl []
  have h7 : ∀ H, oLw 7 [] H = some (.bool true, H) := fun H => by simp [oLw, oTab, oKnown, call0]
  by_cases h1 : s.length ≤ 300
  · have i1 : ¬ (300 : Int) < s.length := by omega
    by_cases h2 : n.length ≤ 40
    · have i2 : ¬ (40 : Int) < n.length := by omega
      by_cases h3 : b.length ≤ 40
      · have i3 : ¬ (40 : Int) < b.length := by omega
        have r1 : ∀ H, oLw 8 [.str s, .str n, .str b] H = some (.str (replOut s n b), H) := fun H => by
          have a1 : s.length < 1000000 := by omega
          have a2 : b.length < 1000000 := by omega
          simp [oLw, oTab, oRepl, oPure, a1, a2]
        have r2 : ∀ H, oLw 8 [.str s, .str n, .str n] H = some (.str s, H) := fun H => by
          have a1 : s.length < 1000000 := by omega
          have a2 : n.length < 1000000 := by omega
          simp [oLw, oTab, oRepl, oPure, a1, a2, law_self]
        have r3 : ∀ H, oLw 9 [.str s, .str n, .str b] H = some (.str (replOut s n b), H) := fun H => by
          have a1 : s.length < 1000000 := by omega
          have a2 : b.length < 1000000 := by omega
          have a3 : n.length < 1000000 := by omega
          simp [oLw, oTab, oRrepl, oPure, a1, a2, a3, law_same]
        simp [Tryd.f3, h7, i1, i2, i3, r1, r2, r3]
      · have i3 : (40 : Int) < b.length := by omega
        simp [Tryd.f3, h7, i1, i2, i3]
    · have i2 : (40 : Int) < n.length := by omega
      simp [Tryd.f3, h7, i1, i2]
  · have i1 : (300 : Int) < s.length := by omega
    simp [Tryd.f3, h7, i1]
end Go.Proofs.YtpmonaempgjgbaaDoor
