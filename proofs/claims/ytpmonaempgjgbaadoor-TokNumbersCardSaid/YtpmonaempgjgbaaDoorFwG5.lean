/- Regions that draw their order, with one operation that turns the heap. -/
import Derived.Test.YtpmonaempgjgbaaDoorFwG4
set_option linter.unusedSimpArgs false
set_option linter.unusedVariables false
namespace Go.Proofs.Fw
open Go.RowKit

def chkSyn1 (ops : Array Oper) (k : Nat) : List (Nat × Nat × Oper) → Bool
  | [] => true
  | r :: rs => rs.all (fun s => s.2.1.testBit r.1 || (!(r.1 == k) && !(s.1 == k) && r.2.2.apart ops s.2.2)) && chkSyn1 ops k rs

theorem chk_syn1 {ops : Array Oper} {k : Nat} : ∀ (l : List Item), (∀ r ∈ l, r.i ≠ k → r.u = []) → chkSyn1 ops k (l.map Item.syn) = true → chk ops l = true
  | [], _, _ => rfl
  | r :: l, h, hc => by
    simp only [List.map_cons, chkSyn1, Bool.and_eq_true] at hc
    simp only [chk, Bool.and_eq_true]
    refine ⟨?_, chk_syn1 l (fun q hq => h q (List.mem_cons_of_mem _ hq)) hc.2⟩
    rw [List.all_eq_true]
    intro q hq
    have h1 := List.all_eq_true.1 hc.1 q.syn (List.mem_map_of_mem hq)
    simp only [Item.syn, Bool.or_eq_true, Bool.and_eq_true, Bool.not_eq_true', beq_eq_false_iff_ne] at h1
    simp only [okPair, Bool.or_eq_true, Bool.and_eq_true]
    rcases h1 with h1 | ⟨⟨h1, h2⟩, h3⟩
    · exact .inl h1
    · refine .inr ⟨h3, ?_⟩
      simp [footApart, h r List.mem_cons_self h1, h q (List.mem_cons_of_mem _ hq) h2]

theorem evD_append {O : Orc} {P : Program} {E : Env} {ops : Array Oper} : ∀ (l1 l2 : List (Oper × Nat)) (i : Nat) (ms : List Nat) {t t1 t2 : List AV} {H H1 H2 : AH} {a b : List Item},
    evD O P E ops i ms l1 t H = some (t1, H1, a) → evD O P E ops (i + l1.length) ms l2 t1 H1 = some (t2, H2, b) → evD O P E ops i ms (l1 ++ l2) t H = some (t2, H2, a ++ b)
  | [], l2, i, ms, t, t1, t2, H, H1, H2, a, b, h1, h2 => by
    simp only [evD, Option.some.injEq, Prod.mk.injEq] at h1
    obtain ⟨rfl, rfl, rfl⟩ := h1
    simpa using h2
  | p :: l1, l2, i, ms, t, t1, t2, H, H1, H2, a, b, h1, h2 => by
    simp only [evD] at h1
    split at h1
    · rename_i v u S hd
      split at h1
      · rename_i t' K l hr
        simp only [Option.some.injEq, Prod.mk.injEq] at h1
        obtain ⟨rfl, rfl, rfl⟩ := h1
        have := evD_append l1 l2 (i + 1) ms hr (by rw [List.length_cons] at h2; rw [show i + 1 + l1.length = i + (l1.length + 1) by omega]; exact h2)
        simp only [List.cons_append, evD, hd, this]
      · cases h1
    · cases h1

theorem synItems_append : ∀ (l1 l2 : List (Oper × Nat)) (i : Nat) (ms : List Nat), synItems i ms (l1 ++ l2) = synItems i ms l1 ++ synItems (i + l1.length) ms l2
  | [], l2, i, ms => by simp [synItems]
  | p :: l1, l2, i, ms => by
    simp only [List.cons_append, synItems, synItems_append l1 l2 (i + 1) ms, List.length_cons]
    rw [show i + 1 + l1.length = i + (l1.length + 1) by omega]

theorem synItems_i : ∀ (l : List (Oper × Nat)) (i : Nat) (ms : List Nat), ∀ x ∈ synItems i ms l, i ≤ x.1 ∧ x.1 < i + l.length
  | [], _, _, x, h => by cases h
  | p :: l, i, ms, x, h => by
    simp only [synItems] at h
    rcases List.mem_cons.1 h with rfl | h
    · simp
    · have := synItems_i l (i + 1) ms x h
      simp only [List.length_cons]
      omega

theorem evDraw_solid {O : Orc} {P : Program} {E : Env} {ops : Array Oper} {t t1 t2 : List AV} {H : AH} {k : Nat} {l1 l2 : List (Oper × Nat)} {p : Oper × Nat} {v : AV} {u : Ups} {S : List Nat} (h0 : idCount E ops.toList = 0)
    (hl : withIds E ops.toList H.length = l1 ++ p :: l2) (hk : l1.length = k) (h1 : evP O P E ops l1 t H = some t1) (hp : dstep O P E ops t1 H p = some (v, u, S)) (h2 : evP O P E ops l2 (putT t1 p.1.dst v) (applyUps H u) = some t2)
    (hs : chkSyn1 ops k (synItems 0 (masksFrom [] ops.toList) (withIds E ops.toList H.length)) = true) (hb : backOnly 0 ops.toList = true) : evDraw O P E ops t H = some (t2, applyUps H u) := by
  obtain ⟨a, a1, a2, a3⟩ := evP_evD l1 0 (masksFrom [] ops.toList) h1
  obtain ⟨b, b1, b2, b3⟩ := evP_evD l2 (0 + l1.length + 1) (masksFrom [] ops.toList) h2
  have hmid : evD O P E ops (0 + l1.length) (masksFrom [] ops.toList) (p :: l2) t1 H = some (t2, applyUps H u, ⟨0 + l1.length, (masksFrom [] ops.toList).getD (0 + l1.length) 0, p, v, u, S⟩ :: b) := by
    simp only [evD, hp, b1]
  have hall := evD_append l1 (p :: l2) 0 (masksFrom [] ops.toList) a1 hmid
  rw [← hl] at hall
  have hsyn : (a ++ (⟨0 + l1.length, (masksFrom [] ops.toList).getD (0 + l1.length) 0, p, v, u, S⟩ : Item) :: b).map Item.syn = synItems 0 (masksFrom [] ops.toList) (withIds E ops.toList H.length) := by
    rw [hl, synItems_append, List.map_append, List.map_cons, a3, b3]
    rfl
  have hg : grow H (idCount E ops.toList) = H := by rw [h0]; rfl
  have hu : ∀ r ∈ a ++ (⟨0 + l1.length, (masksFrom [] ops.toList).getD (0 + l1.length) 0, p, v, u, S⟩ : Item) :: b, r.i ≠ k → r.u = [] := by
    intro r hr hrk
    rcases List.mem_append.1 hr with hr | hr
    · exact a2 r hr
    · rcases List.mem_cons.1 hr with rfl | hr
      · exact absurd (by simpa using hk) hrk
      · exact b2 r hr
  unfold evDraw
  rw [hg, hall]
  simp only
  rw [if_pos ⟨chk_syn1 (k := k) _ hu (by rw [hsyn]; exact hs), hb⟩]

def okDraw1 (E : Env) (k : Nat) (ops : Array Oper) : Bool := (idCount E ops.toList == 0) && chkSyn1 ops k (synOf 0 (masksFrom [] ops.toList) ops.toList) && backOnly 0 ops.toList

theorem withIds_length (E : Env) : ∀ (l : List Oper) (n : Nat), (withIds E l n).length = l.length
  | [], _ => rfl
  | o :: l, n => by simp only [withIds, List.length_cons, withIds_length E l]

/-- The operation that turns the heap, and what is behind it. -/
def Sol (O : Orc) (P : Program) (E : Env) (ops : Array Oper) (k : Nat) (t1 : List AV) (H : AH) (Q : AEx → List AV → AH → Prop) : Prop :=
  ∃ p v u S, (withIds E ops.toList H.length)[k]? = some p ∧ dstep O P E ops t1 H p = some (v, u, S) ∧ GoP O P E noLoop ops ((withIds E ops.toList H.length).drop (k + 1)) [] (putT t1 p.1.dst v) (applyUps H u) Q

/-- The operation that turns the heap has the number k. -/
theorem Tr.solid {O : Orc} {P : Program} {E : Env} {B : Bs} (X : Cx O P E) (hG : GlobOk E B.g) (k : Nat) {id : Nat} {ops : Array Oper} {t : List AV} {H : AH} {Q : AEx → List AV → AH → Prop} (hd : okDraw1 E k ops = true)
    (h : GoP O P E noLoop ops ((withIds E ops.toList H.length).take k) [] t H fun _ t1 _ => Sol O P E ops k t1 H Q) : Tr P B (.region id ops true) t H Q := by
  simp only [okDraw1, Bool.and_eq_true, beq_iff_eq] at hd
  have h' := WPx.sound (O := O) (P := P) (E := E) h
  unfold WP at h'
  cases h1 : evP O P E ops ((withIds E ops.toList H.length).take k) t H with
  | none => rw [h1] at h'; exact h'.elim
  | some t1 =>
    rw [h1] at h'
    obtain ⟨p, v, u, S, hp, hst, hr⟩ := h'
    have hr' := WPx.sound (O := O) (P := P) (E := E) hr
    unfold WP at hr'
    cases h2 : evP O P E ops ((withIds E ops.toList H.length).drop (k + 1)) (putT t1 p.1.dst v) (applyUps H u) with
    | none => rw [h2] at hr'; exact hr'.elim
    | some t2 =>
      rw [h2] at hr'
      obtain ⟨hlt, hget⟩ := List.getElem?_eq_some_iff.1 hp
      have hl : withIds E ops.toList H.length = (withIds E ops.toList H.length).take k ++ p :: (withIds E ops.toList H.length).drop (k + 1) := by
        rw [← hget, ← List.drop_eq_getElem_cons hlt, List.take_append_drop]
      have hev := evDraw_solid (k := k) hd.1.1 hl (by rw [List.length_take]; omega) h1 hst h2 (by rw [syn_withIds]; exact hd.1.2) hd.2
      refine Tr.of_W (n := 0) X.sound X.meth X.mix hG ?_
      rw [W_draw, hev]
      exact hr'
end Go.Proofs.Fw

