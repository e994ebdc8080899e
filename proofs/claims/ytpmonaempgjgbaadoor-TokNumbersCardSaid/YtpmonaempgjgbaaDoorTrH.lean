/- Replace: the reference's. -/
import Derived.Test.YtpmonaempgjgbaaDoorTrG
set_option linter.unusedSimpArgs false
set_option linter.unusedVariables false
namespace Go.Proofs.YtpmonaempgjgbaaDoor
open Go.RowKit Go.Proofs.Fw
set_option maxRecDepth 100000
set_option maxHeartbeats 4000000

def rStep (b name by_ : List UInt8) (st : List UInt8 × Nat) (t : Wd) : List UInt8 × Nat := if t.kind = 1 ∧ t.text = name then (st.1 ++ ((b.take t.at_).drop st.2 ++ by_), t.at_ + name.length) else st
def noteOf (s : List UInt8) : List UInt8 := (cutNl s).drop (noteLen (cutNl s))
def rreplP (s name by_ : List UInt8) (l : List Wd) : List UInt8 :=
  (l.foldl (rStep (bodyOfLine s) name by_) ([], 0)).1 ++ ((bodyOfLine s).drop (l.foldl (rStep (bodyOfLine s) name by_) ([], 0)).2 ++ (noteOf s ++ nlOf s))
def rreplOut (s name by_ : List UInt8) : List UInt8 := match lexB s with
  | .ok l => rreplP s name by_ l
  | .error _ => s

@[simp high] theorem alenR (l : List Wd) : alen Tryd.prog 26 (wdsAV l) = some (.int .i64 l.length) := by
  unfold wdsAV
  split
  · rename_i h; subst h; simp [alen]
  · simp [alen]
@[simp high] theorem aidxR (l : List Wd) (i : Nat) (h : i < l.length) : aindexAddr Tryd.prog 26 (wdsAV l) (.int .i64 (i : Int)) = some (.vptr (wdsCells l) (i * 4)) := by
  have hne : l ≠ [] := by rintro rfl; simp at h
  have : (i : Int) < l.length := by omega
  simp [wdsAV, hne, aindexAddr, h]
theorem cell_k (l : List Wd) (i : Nat) (h : i < l.length) (k : Nat) (hk : k < 4) : (wdsCells l)[i * 4 + k]? = (wdCells l[i])[k]? := by
  obtain ⟨h1, h2⟩ := cells_at l i l[i] (List.getElem?_eq_getElem h)
  rw [← h1, List.getElem?_take, if_pos hk, List.getElem?_drop]
@[simp high] theorem cell_0 (l : List Wd) (i : Nat) (h : i < l.length) : (wdsCells l)[i * 4]? = some (.int .i64 l[i].kind) := cell_k l i h 0 (by omega)
@[simp high] theorem cell_1 (l : List Wd) (i : Nat) (h : i < l.length) : (wdsCells l)[i * 4 + 1]? = some (.str l[i].text) := cell_k l i h 1 (by omega)
@[simp high] theorem cell_2 (l : List Wd) (i : Nat) (h : i < l.length) : (wdsCells l)[i * 4 + 2]? = some (.int .i64 l[i].at_) := cell_k l i h 2 (by omega)
@[simp high] theorem cell_3 (l : List Wd) (i : Nat) (h : i < l.length) : (wdsCells l)[i * 4 + 3]? = some (.int .i64 l[i].n) := cell_k l i h 3 (by omega)

def oParts : Orc := oPure 17 (fun args => match args with
    | [.str s] => if s.length < maxS then some s else none
    | _ => none) partsAV
theorem oParts_sound : Sound Tryd.prog envT oParts := oPure_sound fun args x H h => by
  split at h
  · split at h
    · rename_i s hs
      injection h with h
      subst h
      exact rparts_cs s hs H
    · cases h
  · cases h
def oToks : Orc := oPure 10 (fun args => match args with
    | [.str s] => if s.length < maxS then some s else none
    | _ => none) fun s => toksAV (lex (s.length + 1) s 0 false)
theorem oToks_sound : Sound Tryd.prog envT oToks := oPure_sound fun args x H h => by
  split at h
  · split at h
    · rename_i s hs
      injection h with h
      subst h
      exact rtoks_cs s hs H
    · cases h
  · cases h
def oRr : Orc := oTab [(17, oParts), (10, oToks)]
theorem oRr_cx : Cx oRr Tryd.prog envT := ⟨oTab_sound fun p hp => by
  simp only [List.mem_cons, List.not_mem_nil, or_false] at hp
  rcases hp with rfl | rfl
  · exact oParts_sound
  · exact oToks_sound, methT, mixed⟩

def RReplI (s b nt en name by_ : List UInt8) (l : List Wd) (k : Nat) (t : List AV) (H : AH) : Prop :=
  ∃ j out a p, j + k = l.length ∧ t = mkT 80 [(1, .str name), (2, .str by_), (7, .str b), (8, .str nt), (9, .str en), (10, wdsAV l), (12, .str out), (13, .int .i64 ((a : Nat) : Int)), (14, .int .i64 ((j : Nat) : Int))] ∧ H = [] ∧
    (out, a) = (l.take j).foldl (rStep b name by_) ([], 0) ∧ a ≤ p ∧ wdsIn p b.length (l.drop j) ∧ out.length ≤ a + j * by_.length

theorem rreplace_cs (s name by_ : List UInt8) (hs : s.length < 1000000) (hb : by_.length < 1000000) (hnm : name.length < 1000000) (H : AH) : CS Tryd.prog envT 9 [.str s, .str name, .str by_] H (.str (rreplOut s name by_)) H := by
  refine CS.tr0 lowT Tryd.func9 (by kernel_rfl) 0 (by simp [Tryd.f9]) (fun B hB hG => ?_) rfl rfl H
  have hs1 : s.length < maxS := by rw [maxS_eq]; omega
  have hbl := bodyOfLine_len s
  have h17 : ∀ H, oRr 17 [.str s] H = some (partsAV s, H) := fun H => by simp [oRr, oTab, oParts, oPure, hs1]
  have h10 : ∀ H, oRr 10 [.str (bodyOfLine s)] H = some (toksAV (lexB s), H) := fun H => by
    have : (bodyOfLine s).length < maxS := by omega
    simp [oRr, oTab, oToks, oPure, this, lexB]
  refine Tr.go oRr_cx hG (by kernel_rfl) ?_
  unfold rreplOut
  cases hx : lexB s with
  | error x =>
    obtain ⟨p, e⟩ := x
    have he : e ≠ 0 := lex_err _ _ _ _ _ _ hx
    simp [Tryd.f9, h17, h10, hx, partsAV, toksAV, atAV, he]
  | ok l =>
    obtain ⟨hin, hlen⟩ := lex_in _ _ _ _ _ (by omega) hx
    rw [Nat.zero_add] at hin
    have hnl : (noteOf s).length + (nlOf s).length ≤ 1000001 := by
      have := cutNl_len s
      unfold noteOf nlOf
      rw [List.length_drop]
      split <;> simp <;> omega
    simp [Tryd.f9, h17, h10, hx, partsAV, toksAV, noneAV]
    refine LpT.loopN oRr_cx hG (by kernel_rfl) (RReplI s (bodyOfLine s) (noteOf s) (nlOf s) name by_ l) l.length (t' := mkT 80 [(1, .str name), (2, .str by_), (7, .str (bodyOfLine s)), (8, .str (noteOf s)), (9, .str (nlOf s)), (10, wdsAV l), (12, .str []), (13, .int .i64 ((0 : Nat) : Int)), (14, .int .i64 ((0 : Nat) : Int))]) (H' := [])
      (Less.mk0 hB (by simp [wdsAV_low, noteOf])) ⟨0, [], 0, 0, by omega, rfl, rfl, rfl, Nat.le_refl _, hin, by simp⟩ ?_
    rintro k t H ⟨j, out, a, p, hjk, rfl, rfl, hfold, hap, hin, hout⟩
    generalize hbb : bodyOfLine s = b at *
    have hpe := wdsIn_le hin
    cases k with
    | zero =>
      obtain rfl : j = l.length := by omega
      rw [List.take_length] at hfold
      have e1 : (a : Int) ≤ b.length := by omega
      have e2 : a ≤ b.length := by omega
      have e0 : l.length * by_.length ≤ 1000000 * 1000000 := Nat.mul_le_mul (by omega) (by omega)
      have e3 : out.length + (b.length - a) ≤ 9223372036854775807 := by omega
      have e4 : out.length + (b.length - a) + (noteOf s).length ≤ 9223372036854775807 := by omega
      have e5 : out.length + (b.length - a) + (noteOf s).length + (nlOf s).length ≤ 9223372036854775807 := by omega
      have e6 : out.length + (b.length - a + (noteOf s).length) + (nlOf s).length ≤ 9223372036854775807 := by omega
      have e7 : out.length + (b.length - a + (noteOf s).length) ≤ 9223372036854775807 := by omega
      have hr : rreplP s name by_ l = out ++ (b.drop a ++ (noteOf s ++ nlOf s)) := by rw [rreplP, hbb, ← hfold]
      simp [Blk_exit, e1, e2, e3, e4, e5, e6, e7, hr]
    | succ k =>
      obtain ⟨w, hw⟩ : ∃ w, l[j]? = some w := ⟨_, List.getElem?_eq_getElem (by omega)⟩
      have hj : (j : Int) < l.length := by omega
      have hjl : j < l.length := by omega
      have hlw : l[j] = w := by
        have := List.getElem?_eq_getElem (l := l) (i := j) hjl
        rw [this] at hw
        injection hw
      have w1 : IntKind.i64.wrap ((j : Int) + 1) = (j : Int) + 1 := wrap_i64 (by omega) (by omega)
      have hd : l.drop j = w :: l.drop (j + 1) := by
        have := List.drop_eq_getElem_cons (l := l) (i := j) (by omega)
        rw [this, hlw]
      rw [hd] at hin
      obtain ⟨hp1, hp2⟩ := hin
      have hpe2 := wdsIn_le hp2
      have htk : (l.take (j + 1)).foldl (rStep b name by_) ([], 0) = rStep b name by_ (out, a) w := by
        rw [List.take_add_one, hw, Option.toList_some, List.foldl_append, ← hfold]
        rfl
      have e1 : (a : Int) ≤ (w.at_ : Int) := by omega
      have e2 : (w.at_ : Int) ≤ b.length := by omega
      have e4 : IntKind.i64.wrap ((w.at_ : Int) + (name.length : Int)) = (w.at_ : Int) + (name.length : Int) := wrap_i64 (by omega) (by omega)
      have e5 : min w.at_ b.length = w.at_ := by omega
      have hjb : j * by_.length ≤ 1000000 * 1000000 := Nat.mul_le_mul (by omega) (by omega)
      have hj1 : (j + 1) * by_.length = j * by_.length + by_.length := by rw [Nat.add_mul, Nat.one_mul]
      have e6 : out.length + (w.at_ - a) ≤ 9223372036854775807 := by omega
      have e7 : out.length + (w.at_ - a) + by_.length ≤ 9223372036854775807 := by omega
      have e8 : out.length + (w.at_ - a + by_.length) ≤ 9223372036854775807 := by omega
      have nxt : ∀ (a' : List (Nat × AV)) (H : AH) (out' : List UInt8) (q : Nat), (out', q) = rStep b name by_ (out, a) w → q ≤ w.at_ + w.text.length → out'.length ≤ q + (j + 1) * by_.length →
          ((a'.lookup 1).getD .undef = .str name ∧ (a'.lookup 2).getD .undef = .str by_ ∧ (a'.lookup 7).getD .undef = .str b ∧ (a'.lookup 8).getD .undef = .str (noteOf s) ∧ (a'.lookup 9).getD .undef = .str (nlOf s) ∧ (a'.lookup 10).getD .undef = wdsAV l ∧ (a'.lookup 12).getD .undef = .str out' ∧ (a'.lookup 13).getD .undef = .int .i64 (q : Int) ∧ (a'.lookup 14).getD .undef = .int .i64 ((j : Int) + 1)) →
          Nxt B (RReplI s b (noteOf s) (nlOf s) name by_ l) (k + 1) (mkT 80 a') H := by
        rintro a' H out' q h1 h2 h3 ⟨g1, g2, g7, g8, g9, g10, g12, g13, g14⟩
        refine Nxt.mk k (by omega) (Less.mk0 (l' := [(1, .str name), (2, .str by_), (7, .str b), (8, .str (noteOf s)), (9, .str (nlOf s)), (10, wdsAV l), (12, .str out'), (13, .int .i64 ((q : Nat) : Int)), (14, .int .i64 ((j + 1 : Nat) : Int))]) hB ?_) ⟨j + 1, out', q, _, by omega, rfl, rfl, by rw [htk]; exact h1, h2, hp2, h3⟩
        simp [g1, g2, g7, g8, g9, g10, g12, g13, g14, wdsAV_low]
      by_cases hk : w.kind = 1
      · by_cases ht : w.text = name
        · have e10 : ((b.take w.at_).drop a).length = w.at_ - a := by rw [List.length_drop, List.length_take, e5]
          simp [hj, hjl, hlw, hk, ht, e1, e2, e4, e5, e6, e7, e8, w1]
          refine nxt _ _ (out ++ ((b.take w.at_).drop a ++ by_)) (w.at_ + name.length) ?_ (by rw [ht]; exact Nat.le_refl _) ?_ ?_
          · simp [rStep, hk, ht]
          · rw [List.length_append, List.length_append, e10]; omega
          · simp
        · simp [hj, hjl, hlw, hk, ht, w1]
          refine nxt _ _ out a ?_ (by omega) (by omega) ?_
          · simp [rStep, ht]
          · simp
      · have hk' : ¬ (w.kind : Int) = 1 := by omega
        simp [hj, hjl, hlw, hk, hk', w1]
        refine nxt _ _ out a ?_ (by omega) (by omega) ?_
        · simp [rStep, hk]
        · simp
end Go.Proofs.YtpmonaempgjgbaaDoor
