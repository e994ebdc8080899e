/- Replace: the program's. -/
import Derived.Test.YtpmonaempgjgbaaDoorTrF
set_option linter.unusedSimpArgs false
set_option linter.unusedVariables false
namespace Go.Proofs.YtpmonaempgjgbaaDoor
open Go.RowKit Go.Proofs.Fw
set_option maxRecDepth 100000
set_option maxHeartbeats 4000000

/-- Words that stand in order, from a place to an end. -/
def wdsIn : Nat → Nat → List Wd → Prop
  | p, e, [] => p ≤ e
  | p, e, w :: r => p ≤ w.at_ ∧ wdsIn (w.at_ + w.text.length) e r

theorem wdsIn_le : ∀ {p e : Nat} {l : List Wd}, wdsIn p e l → p ≤ e
  | _, _, [], h => h
  | p, e, w :: r, h => by
    have := wdsIn_le h.2
    have := h.1
    omega

theorem lex_in : ∀ (n : Nat) (s : List UInt8) (p : Nat) (b : Bool) (l : List Wd), s.length < n → lex n s p b = .ok l → wdsIn p (p + s.length) l ∧ l.length ≤ s.length := by
  intro n
  induction n with
  | zero => intro s p b l h; omega
  | succ n ih =>
    intro s p b l hn h
    cases s with
    | nil =>
      simp only [lex] at h
      injection h with h
      subst h
      exact ⟨Nat.le_refl _, Nat.le_refl _⟩
    | cons c r =>
      simp only [List.length_cons] at hn ⊢
      cases hb : isBlank c with
      | true =>
        simp only [lex, hb, if_true] at h
        obtain ⟨h1, h2⟩ := ih r (p + 1) false l (by omega) h
        refine ⟨?_, by omega⟩
        rw [show p + (r.length + 1) = p + 1 + r.length by omega]
        cases l with
        | nil => have : p + 1 ≤ _ := h1; show p ≤ _; omega
        | cons w l => exact ⟨by have := h1.1; omega, h1.2⟩
      | false =>
        rw [lex_word _ _ _ _ _ hb] at h
        split at h
        · cases h
        · rename_i he
          have hp := wordOf_pos (r := r) (wordErr_zero (by simpa using he))
          have hle := wordOf_le c r
          simp only [List.length_cons] at hle
          cases hx : lex n ((c :: r).drop (wordOf (c :: r)).1.2.1.length) (p + (wordOf (c :: r)).1.2.1.length) ((wordOf (c :: r)).1.1 == 2) with
          | error x => rw [hx] at h; cases h
          | ok l' =>
            rw [hx] at h
            simp only [behind, List.singleton_append] at h
            injection h with h
            subst h
            obtain ⟨h1, h2⟩ := ih _ _ _ l' (by rw [List.length_drop, List.length_cons]; omega) hx
            rw [List.length_drop, List.length_cons] at h1 h2
            refine ⟨⟨Nat.le_refl _, ?_⟩, by simp only [List.length_cons]; omega⟩
            rw [show p + (r.length + 1) = p + (wordOf (c :: r)).1.2.1.length + (r.length + 1 - (wordOf (c :: r)).1.2.1.length) by omega]
            exact h1

theorem lex_err : ∀ (n : Nat) (s : List UInt8) (p : Nat) (b : Bool) (q e : Nat), lex n s p b = .error (q, e) → e ≠ 0 := by
  intro n
  induction n with
  | zero => intro s p b q e h; cases h
  | succ n ih =>
    intro s p b q e h
    cases s with
    | nil => cases h
    | cons c r =>
      cases hb : isBlank c with
      | true =>
        simp only [lex, hb, if_true] at h
        exact ih r _ _ _ _ h
      | false =>
        rw [lex_word _ _ _ _ _ hb] at h
        split at h
        · rename_i he
          injection h with h
          simp only [Prod.mk.injEq] at h
          rw [← h.2]; exact he
        · cases hx : lex n ((c :: r).drop (wordOf (c :: r)).1.2.1.length) (p + (wordOf (c :: r)).1.2.1.length) ((wordOf (c :: r)).1.1 == 2) with
          | error x =>
            rw [hx] at h
            simp only [behind] at h
            injection h with h
            subst h
            exact ih _ _ _ _ _ hx
          | ok l' => rw [hx] at h; cases h

/-- What is put together of a text's words. -/
def replStep (s name by_ : List UInt8) (st : List UInt8 × Nat) (t : Wd) : List UInt8 × Nat := if t.kind = 1 ∧ t.text = name then (st.1 ++ ((s.take t.at_).drop st.2 ++ by_), t.at_ + t.text.length) else st
def replP (s name by_ : List UInt8) (l : List Wd) : List UInt8 := (l.foldl (replStep s name by_) ([], 0)).1 ++ s.drop (l.foldl (replStep s name by_) ([], 0)).2
def lexB (s : List UInt8) : Except (Nat × Nat) (List Wd) := lex ((bodyOfLine s).length + 1) (bodyOfLine s) 0 false
def replOut (s name by_ : List UInt8) : List UInt8 := match lexB s with
  | .ok l => replP s name by_ l
  | .error _ => s

@[simp high] theorem alenW (l : List Wd) : alen Tryd.prog 35 (wdsAV l) = some (.int .i64 l.length) := by
  unfold wdsAV
  split
  · rename_i h; subst h; simp [alen]
  · simp [alen]
@[simp high] theorem aidxW (l : List Wd) (i : Nat) (h : i < l.length) : aindexAddr Tryd.prog 35 (wdsAV l) (.int .i64 (i : Int)) = some (.vptr (wdsCells l) (i * 4)) := by
  have hne : l ≠ [] := by rintro rfl; simp at h
  have : (i : Int) < l.length := by omega
  simp [wdsAV, hne, aindexAddr, h]
theorem cells_at : ∀ (l : List Wd) (i : Nat) (w : Wd), l[i]? = some w → ((wdsCells l).drop (i * 4)).take 4 = wdCells w ∧ i * 4 + 4 ≤ (wdsCells l).length
  | [], i, w, h => by simp at h
  | x :: l, i, w, h => by
    have hc : wdsCells (x :: l) = wdCells x ++ wdsCells l := rfl
    have hx : (wdCells x).length = 4 := rfl
    cases i with
    | zero =>
      simp only [List.getElem?_cons_zero, Option.some.injEq] at h
      subst h
      rw [hc]
      refine ⟨?_, by simp [hx]⟩
      rw [Nat.zero_mul, List.drop_zero, List.take_append_of_le_length (by omega), List.take_of_length_le (by omega)]
    | succ i =>
      simp only [List.getElem?_cons_succ] at h
      obtain ⟨h1, h2⟩ := cells_at l i w h
      rw [hc]
      refine ⟨?_, by simp only [List.length_append, hx]; omega⟩
      rw [List.drop_append, List.drop_of_length_le (by omega), hx, List.nil_append, show (i + 1) * 4 - 4 = i * 4 by omega]
      exact h1
@[simp high] theorem aloadW (l : List Wd) (i : Nat) (H : AH) (h : i < l.length) : aload Tryd.prog H 40 (.vptr (wdsCells l) (i * 4)) = some (.agg [.int .i64 l[i].kind, .str l[i].text, .int .i64 l[i].at_, .int .i64 l[i].n]) := by
  obtain ⟨h1, h2⟩ := cells_at l i l[i] (List.getElem?_eq_getElem h)
  simp only [aload, ldAt, Ty.ag40, Ty.sz40, if_pos h2, h1]
  rfl

def oPart : Orc := oPure 16 (fun args => match args with
    | [.str s] => if s.length < maxS then some s else none
    | _ => none) partsAV
theorem oPart_sound : Sound Tryd.prog envT oPart := oPure_sound fun args x H h => by
  split at h
  · split at h
    · rename_i s hs
      injection h with h
      subst h
      exact part_cs s hs H
    · cases h
  · cases h
def oLine : Orc := oPure 11 (fun args => match args with
    | [.str s] => if s.length < maxS then some s else none
    | _ => none) fun s => lineAV (lex (s.length + 1) s 0 false)
theorem oLine_sound : Sound Tryd.prog envT oLine := oPure_sound fun args x H h => by
  split at h
  · split at h
    · rename_i s hs
      injection h with h
      subst h
      exact line_cs s hs H
    · cases h
  · cases h
def oRp : Orc := oTab [(16, oPart), (11, oLine)]
theorem oRp_cx : Cx oRp Tryd.prog envT := ⟨oTab_sound fun p hp => by
  simp only [List.mem_cons, List.not_mem_nil, or_false] at hp
  rcases hp with rfl | rfl
  · exact oPart_sound
  · exact oLine_sound, methT, mixed⟩

theorem bodyOfLine_len (s : List UInt8) : (bodyOfLine s).length ≤ s.length := by
  have := cutNl_len s
  unfold bodyOfLine
  rw [List.length_take]
  omega

def ReplI (s name by_ : List UInt8) (l : List Wd) (e : Nat) (k : Nat) (t : List AV) (H : AH) : Prop :=
  ∃ j out a p, j + k = l.length ∧ t = mkT 66 [(0, .str s), (1, .str name), (2, .str by_), (12, .str out), (13, .int .i64 ((a : Nat) : Int)), (30, wdsAV l), (31, .int .i64 (l.length : Int)), (32, .int .i64 ((j : Nat) : Int))] ∧ H = [] ∧
    (out, a) = (l.take j).foldl (replStep s name by_) ([], 0) ∧ a ≤ p ∧ wdsIn p e (l.drop j) ∧ out.length ≤ a + j * by_.length

theorem wdsAV_low (l : List Wd) : low 0 (wdsAV l) = true := by
  unfold wdsAV
  split
  · rfl
  · simp [wdsCells_low]

theorem replace_cs (s name by_ : List UInt8) (hs : s.length < 1000000) (hb : by_.length < 1000000) (H : AH) : CS Tryd.prog envT 8 [.str s, .str name, .str by_] H (.str (replOut s name by_)) H := by
  refine CS.tr0 lowT Tryd.func8 (by kernel_rfl) 0 (by simp [Tryd.f8]) (fun B hB hG => ?_) rfl rfl H
  have hs1 : s.length < maxS := by rw [maxS_eq]; omega
  have hbl := bodyOfLine_len s
  have h16 : ∀ H, oRp 16 [.str s] H = some (partsAV s, H) := fun H => by simp [oRp, oTab, oPart, oPure, hs1]
  have h11 : ∀ H, oRp 11 [.str (bodyOfLine s)] H = some (lineAV (lexB s), H) := fun H => by
    have : (bodyOfLine s).length < maxS := by omega
    simp [oRp, oTab, oLine, oPure, this, lexB]
  refine Tr.go oRp_cx hG (by kernel_rfl) ?_
  unfold replOut
  cases hx : lexB s with
  | error x =>
    obtain ⟨p, e⟩ := x
    simp [Tryd.f8, h16, h11, hx, partsAV, lineAV, faultAV]
  | ok l =>
    obtain ⟨hin, hlen⟩ := lex_in _ _ _ _ _ (by omega) hx
    rw [Nat.zero_add] at hin
    simp [Tryd.f8, h16, h11, hx, partsAV, lineAV]
    refine LpT.loopN oRp_cx hG (by kernel_rfl) (ReplI s name by_ l (bodyOfLine s).length) l.length (t' := mkT 66 [(0, .str s), (1, .str name), (2, .str by_), (12, .str []), (13, .int .i64 ((0 : Nat) : Int)), (30, wdsAV l), (31, .int .i64 (l.length : Int)), (32, .int .i64 ((0 : Nat) : Int))]) (H' := [])
      (Less.mk0 hB (by simp [wdsAV_low])) ⟨0, [], 0, 0, by omega, rfl, rfl, rfl, Nat.le_refl _, hin, by simp⟩ ?_
    rintro k t H ⟨j, out, a, p, hjk, rfl, rfl, hfold, hap, hin, hout⟩
    have hpe := wdsIn_le hin
    cases k with
    | zero =>
      obtain rfl : j = l.length := by omega
      rw [List.take_length] at hfold
      have e1 : (a : Int) ≤ s.length := by omega
      have e2 : a ≤ s.length := by omega
      have e3 : out.length + (s.length - a) ≤ 9223372036854775807 := by
        have : l.length * by_.length ≤ 1000000 * 1000000 := Nat.mul_le_mul (by omega) (by omega)
        omega
      have hr : replP s name by_ l = out ++ s.drop a := by rw [replP, ← hfold]
      simp [Blk_exit, e1, e2, e3, hr]
    | succ k =>
      obtain ⟨w, hw⟩ : ∃ w, l[j]? = some w := ⟨_, List.getElem?_eq_getElem (by omega)⟩
      have hj : (j : Int) < l.length := by omega
      have w1 : IntKind.i64.wrap ((j : Int) + 1) = (j : Int) + 1 := wrap_i64 (by omega) (by omega)
      have hd : l.drop j = w :: l.drop (j + 1) := by
        have := List.drop_eq_getElem_cons (l := l) (i := j) (by omega)
        rw [this]
        congr 1
        have := List.getElem?_eq_getElem (l := l) (i := j) (by omega)
        rw [this] at hw
        injection hw
      rw [hd] at hin
      obtain ⟨hp1, hp2⟩ := hin
      have hpe2 := wdsIn_le hp2
      have htk : (l.take (j + 1)).foldl (replStep s name by_) ([], 0) = replStep s name by_ (out, a) w := by
        rw [List.take_add_one, hw, Option.toList_some, List.foldl_append, ← hfold]
        rfl
      have e1 : (a : Int) ≤ (w.at_ : Int) := by omega
      have e2 : (w.at_ : Int) ≤ s.length := by omega
      have e4 : IntKind.i64.wrap ((w.at_ : Int) + (w.text.length : Int)) = (w.at_ : Int) + (w.text.length : Int) := wrap_i64 (by omega) (by omega)
      have e5 : min w.at_ s.length = w.at_ := by omega
      have hjb : j * by_.length ≤ 1000000 * 1000000 := Nat.mul_le_mul (by omega) (by omega)
      have hj1 : (j + 1) * by_.length = j * by_.length + by_.length := by rw [Nat.add_mul, Nat.one_mul]
      have e6 : w.at_ - a + by_.length ≤ 9223372036854775807 := by omega
      have e7 : out.length + (w.at_ - a + by_.length) ≤ 9223372036854775807 := by omega
      have hjl : j < l.length := by omega
      have hlw : l[j] = w := by
        have := List.getElem?_eq_getElem (l := l) (i := j) hjl
        rw [this] at hw
        injection hw
      have nxt : ∀ (a' : List (Nat × AV)) (H : AH) (out' : List UInt8) (q : Nat), (out', q) = replStep s name by_ (out, a) w → q ≤ w.at_ + w.text.length → out'.length ≤ q + (j + 1) * by_.length →
          ((a'.lookup 0).getD .undef = .str s ∧ (a'.lookup 1).getD .undef = .str name ∧ (a'.lookup 2).getD .undef = .str by_ ∧ (a'.lookup 12).getD .undef = .str out' ∧ (a'.lookup 13).getD .undef = .int .i64 (q : Int) ∧ (a'.lookup 30).getD .undef = wdsAV l ∧ (a'.lookup 31).getD .undef = .int .i64 (l.length : Int) ∧ (a'.lookup 32).getD .undef = .int .i64 ((j : Int) + 1)) →
          Nxt B (ReplI s name by_ l (bodyOfLine s).length) (k + 1) (mkT 66 a') H := by
        rintro a' H out' q h1 h2 h3 ⟨g0, g1, g2, g12, g13, g30, g31, g32⟩
        refine Nxt.mk k (by omega) (Less.mk0 (l' := [(0, .str s), (1, .str name), (2, .str by_), (12, .str out'), (13, .int .i64 ((q : Nat) : Int)), (30, wdsAV l), (31, .int .i64 (l.length : Int)), (32, .int .i64 ((j + 1 : Nat) : Int))]) hB ?_) ⟨j + 1, out', q, _, by omega, rfl, rfl, by rw [htk]; exact h1, h2, hp2, h3⟩
        simp [g0, g1, g2, g12, g13, g30, g31, g32, wdsAV_low]
      by_cases hk : w.kind = 1
      · by_cases ht : w.text = name
        · have e8 : (w.at_ : Int) + (name.length : Int) = ((w.at_ + w.text.length : Nat) : Int) := by rw [ht]; omega
          have e9 := e4
          rw [ht] at e9
          have e10 : ((s.take w.at_).drop a).length = w.at_ - a := by rw [List.length_drop, List.length_take, e5]
          simp [hj, hjl, hlw, hk, ht, e1, e2, e5, e6, e7, e9, w1]
          refine nxt _ _ (out ++ ((s.take w.at_).drop a ++ by_)) (w.at_ + w.text.length) ?_ (Nat.le_refl _) ?_ ?_
          · simp [replStep, hk, ht]
          · rw [List.length_append, List.length_append, e10]; omega
          · simp [ht]
        · simp [hj, hjl, hlw, hk, ht, w1]
          refine nxt _ _ out a ?_ (by omega) (by omega) ?_
          · simp [replStep, ht]
          · simp
      · have hk' : ¬ (w.kind : Int) = 1 := by omega
        simp [hj, hjl, hlw, hk, hk', w1]
        refine nxt _ _ out a ?_ (by omega) (by omega) ?_
        · simp [replStep, hk]
        · simp
end Go.Proofs.YtpmonaempgjgbaaDoor
