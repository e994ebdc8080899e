/- Regions that draw their order and turn the heap; regions that make a map and look a key up in it. -/
import Derived.Test.YtejjlojfgcgopaaGreatDoorFwG4
import Derived.MapKept
set_option linter.unusedSimpArgs false
set_option linter.unusedVariables false
namespace Go.Proofs.Fw
open Go.RowKit

def chkSyn1 (ops : Array Oper) (k : Nat) : List (Nat × Nat × Oper) → Bool
  | [] => true
  | r :: rs => rs.all (fun s => s.2.1.testBit r.1 || (!(r.1 == k) && !(s.1 == k) && r.2.2.apart ops s.2.2)) && chkSyn1 ops k rs

theorem chk_syn1 {ops : Array Oper} {k : Nat} : ∀ (l : List Item), (∀ r ∈ l, r.i ≠ k → r.u = []) → chkSyn1 ops k (l.map Item.syn) = true → chk ops l = true
  | [], _, _ => rfl
  | r :: l, h, hc => by
    simp only [List.map_cons, chkSyn1, Bool.and_eq_true] at hc
    simp only [chk, Bool.and_eq_true]
    refine ⟨?_, chk_syn1 l (fun q hq => h q (List.mem_cons_of_mem _ hq)) hc.2⟩
    rw [List.all_eq_true]
    intro q hq
    have h1 := List.all_eq_true.1 hc.1 q.syn (List.mem_map_of_mem hq)
    simp only [Item.syn, Bool.or_eq_true, Bool.and_eq_true, Bool.not_eq_true', beq_eq_false_iff_ne] at h1
    simp only [okPair, Bool.or_eq_true, Bool.and_eq_true]
    rcases h1 with h1 | ⟨⟨h1, h2⟩, h3⟩
    · exact .inl h1
    · refine .inr ⟨h3, ?_⟩
      simp [footApart, h r List.mem_cons_self h1, h q (List.mem_cons_of_mem _ hq) h2]

theorem evD_append {O : Orc} {P : Program} {E : Env} {ops : Array Oper} : ∀ (l1 l2 : List (Oper × Nat)) (i : Nat) (ms : List Nat) {t t1 t2 : List AV} {H H1 H2 : AH} {a b : List Item},
    evD O P E ops i ms l1 t H = some (t1, H1, a) → evD O P E ops (i + l1.length) ms l2 t1 H1 = some (t2, H2, b) → evD O P E ops i ms (l1 ++ l2) t H = some (t2, H2, a ++ b)
  | [], l2, i, ms, t, t1, t2, H, H1, H2, a, b, h1, h2 => by
    simp only [evD, Option.some.injEq, Prod.mk.injEq] at h1
    obtain ⟨rfl, rfl, rfl⟩ := h1
    simpa using h2
  | p :: l1, l2, i, ms, t, t1, t2, H, H1, H2, a, b, h1, h2 => by
    simp only [evD] at h1
    split at h1
    · rename_i v u S hd
      split at h1
      · rename_i t' K l hr
        simp only [Option.some.injEq, Prod.mk.injEq] at h1
        obtain ⟨rfl, rfl, rfl⟩ := h1
        have := evD_append l1 l2 (i + 1) ms hr (by rw [List.length_cons] at h2; rw [show i + 1 + l1.length = i + (l1.length + 1) by omega]; exact h2)
        simp only [List.cons_append, evD, hd, this]
      · cases h1
    · cases h1

theorem synItems_append : ∀ (l1 l2 : List (Oper × Nat)) (i : Nat) (ms : List Nat), synItems i ms (l1 ++ l2) = synItems i ms l1 ++ synItems (i + l1.length) ms l2
  | [], l2, i, ms => by simp [synItems]
  | p :: l1, l2, i, ms => by
    simp only [List.cons_append, synItems, synItems_append l1 l2 (i + 1) ms, List.length_cons]
    rw [show i + 1 + l1.length = i + (l1.length + 1) by omega]

theorem synItems_i : ∀ (l : List (Oper × Nat)) (i : Nat) (ms : List Nat), ∀ x ∈ synItems i ms l, i ≤ x.1 ∧ x.1 < i + l.length
  | [], _, _, x, h => by cases h
  | p :: l, i, ms, x, h => by
    simp only [synItems] at h
    rcases List.mem_cons.1 h with rfl | h
    · simp
    · have := synItems_i l (i + 1) ms x h
      simp only [List.length_cons]
      omega

theorem evDraw_solid {O : Orc} {P : Program} {E : Env} {ops : Array Oper} {t t1 t2 : List AV} {H : AH} {k : Nat} {l1 l2 : List (Oper × Nat)} {p : Oper × Nat} {v : AV} {u : Ups} {S : List Nat} (h0 : idCount E ops.toList = 0)
    (hl : withIds E ops.toList H.length = l1 ++ p :: l2) (hk : l1.length = k) (h1 : evP O P E ops l1 t H = some t1) (hp : dstep O P E ops t1 H p = some (v, u, S)) (h2 : evP O P E ops l2 (putT t1 p.1.dst v) (applyUps H u) = some t2)
    (hs : chkSyn1 ops k (synItems 0 (masksFrom [] ops.toList) (withIds E ops.toList H.length)) = true) (hb : backOnly 0 ops.toList = true) : evDraw O P E ops t H = some (t2, applyUps H u) := by
  obtain ⟨a, a1, a2, a3⟩ := evP_evD l1 0 (masksFrom [] ops.toList) h1
  obtain ⟨b, b1, b2, b3⟩ := evP_evD l2 (0 + l1.length + 1) (masksFrom [] ops.toList) h2
  have hmid : evD O P E ops (0 + l1.length) (masksFrom [] ops.toList) (p :: l2) t1 H = some (t2, applyUps H u, ⟨0 + l1.length, (masksFrom [] ops.toList).getD (0 + l1.length) 0, p, v, u, S⟩ :: b) := by
    simp only [evD, hp, b1]
  have hall := evD_append l1 (p :: l2) 0 (masksFrom [] ops.toList) a1 hmid
  rw [← hl] at hall
  have hsyn : (a ++ (⟨0 + l1.length, (masksFrom [] ops.toList).getD (0 + l1.length) 0, p, v, u, S⟩ : Item) :: b).map Item.syn = synItems 0 (masksFrom [] ops.toList) (withIds E ops.toList H.length) := by
    rw [hl, synItems_append, List.map_append, List.map_cons, a3, b3]
    rfl
  have hg : grow H (idCount E ops.toList) = H := by rw [h0]; rfl
  have hu : ∀ r ∈ a ++ (⟨0 + l1.length, (masksFrom [] ops.toList).getD (0 + l1.length) 0, p, v, u, S⟩ : Item) :: b, r.i ≠ k → r.u = [] := by
    intro r hr hrk
    rcases List.mem_append.1 hr with hr | hr
    · exact a2 r hr
    · rcases List.mem_cons.1 hr with rfl | hr
      · exact absurd (by simpa using hk) hrk
      · exact b2 r hr
  unfold evDraw
  rw [hg, hall]
  simp only
  rw [if_pos ⟨chk_syn1 (k := k) _ hu (by rw [hsyn]; exact hs), hb⟩]

def okDraw1 (E : Env) (k : Nat) (ops : Array Oper) : Bool := (idCount E ops.toList == 0) && chkSyn1 ops k (synOf 0 (masksFrom [] ops.toList) ops.toList) && backOnly 0 ops.toList

theorem withIds_length (E : Env) : ∀ (l : List Oper) (n : Nat), (withIds E l n).length = l.length
  | [], _ => rfl
  | o :: l, n => by simp only [withIds, List.length_cons, withIds_length E l]

/-- The operation that turns the heap, and what is behind it. -/
def Sol (O : Orc) (P : Program) (E : Env) (ops : Array Oper) (k : Nat) (t1 : List AV) (H : AH) (Q : AEx → List AV → AH → Prop) : Prop :=
  ∃ p v u S, (withIds E ops.toList H.length)[k]? = some p ∧ dstep O P E ops t1 H p = some (v, u, S) ∧ GoP O P E noLoop ops ((withIds E ops.toList H.length).drop (k + 1)) [] (putT t1 p.1.dst v) (applyUps H u) Q

/-- The operation that turns the heap has the number k. -/
theorem Tr.solid {O : Orc} {P : Program} {E : Env} {B : Bs} (X : Cx O P E) (hG : GlobOk E B.g) (k : Nat) {id : Nat} {ops : Array Oper} {t : List AV} {H : AH} {Q : AEx → List AV → AH → Prop} (hd : okDraw1 E k ops = true)
    (h : GoP O P E noLoop ops ((withIds E ops.toList H.length).take k) [] t H fun _ t1 _ => Sol O P E ops k t1 H Q) : Tr P B (.region id ops true) t H Q := by
  simp only [okDraw1, Bool.and_eq_true, beq_iff_eq] at hd
  have h' := WPx.sound (O := O) (P := P) (E := E) h
  unfold WP at h'
  cases h1 : evP O P E ops ((withIds E ops.toList H.length).take k) t H with
  | none => rw [h1] at h'; exact h'.elim
  | some t1 =>
    rw [h1] at h'
    obtain ⟨p, v, u, S, hp, hst, hr⟩ := h'
    have hr' := WPx.sound (O := O) (P := P) (E := E) hr
    unfold WP at hr'
    cases h2 : evP O P E ops ((withIds E ops.toList H.length).drop (k + 1)) (putT t1 p.1.dst v) (applyUps H u) with
    | none => rw [h2] at hr'; exact hr'.elim
    | some t2 =>
      rw [h2] at hr'
      obtain ⟨hlt, hget⟩ := List.getElem?_eq_some_iff.1 hp
      have hl : withIds E ops.toList H.length = (withIds E ops.toList H.length).take k ++ p :: (withIds E ops.toList H.length).drop (k + 1) := by
        rw [← hget, ← List.drop_eq_getElem_cons hlt, List.take_append_drop]
      have hev := evDraw_solid (k := k) hd.1.1 hl (by rw [List.length_take]; omega) h1 hst h2 (by rw [syn_withIds]; exact hd.1.2) hd.2
      refine Tr.of_W (n := 0) X.sound X.meth X.mix hG ?_
      rw [W_draw, hev]
      exact hr'
end Go.Proofs.Fw

namespace Go.Proofs.Fw
open Go.RowKit

/-- What is told of an operation: its number, what it turns, what it sees. -/
abbrev Foot := Nat × List Nat × List Nat

def Item.foot (r : Item) : Foot := (r.i, r.u.map (·.1), r.S)

section
variable (O : Orc) (P : Program) (E : Env)

/-- The operations of a region that draws its order, in the text's order; ks: those that turn the heap; bs: those whose foot is wanted. -/
def WTr (ops : Array Oper) (ks bs : List Nat) : Nat → List (Oper × Nat) → List AV → AH → List Foot → (List AV → AH → List Foot → Prop) → Prop
  | _, [], t, H, fs, K => K t H fs
  | i, p :: l, t, H, fs, K => WG (wantedA ops t p.1)
      (WTr ops ks bs (i + 1) l (putT t p.1.dst .nothing) H (if bs.contains i = true then fs ++ [(i, [], [])] else fs) K)
      (WS (stepU O P E (aeval E t) (mask H (visIds E H (aeval E t) p)) p.2 (visIds E H (aeval E t) p) p.1) fun r =>
        (ks.contains i = true ∨ r.2 = []) ∧ (r.2.all fun q => (visIds E H (aeval E t) p).contains q.1) = true ∧
          WTr ops ks bs (i + 1) l (putT t p.1.dst r.1) (applyUps H r.2) (if bs.contains i = true then fs ++ [(i, r.2.map (·.1), visIds E H (aeval E t) p)] else fs) K)
end

section
variable {O : Orc} {P : Program} {E : Env}

theorem WTr.items {ops : Array Oper} {ks bs ms : List Nat} : ∀ {l : List (Oper × Nat)} {i : Nat} {t : List AV} {H : AH} {fs : List Foot} {K : List AV → AH → List Foot → Prop}, WTr O P E ops ks bs i l t H fs K →
    ∃ t1 H1 its, evD O P E ops i ms l t H = some (t1, H1, its) ∧ (∀ r ∈ its, ks.contains r.i = false → r.u = []) ∧ K t1 H1 (fs ++ (its.filter fun r => bs.contains r.i).map Item.foot)
  | [], i, t, H, fs, K, h => ⟨t, H, [], rfl, by simp, by rw [List.filter_nil, List.map_nil, List.append_nil]; exact h⟩
  | p :: l, i, t, H, fs, K, h => by
    simp only [WTr] at h
    unfold WG at h
    split at h
    · rename_i b hw
      cases b with
      | false =>
        obtain ⟨t1, H1, its, h1, h2, h3⟩ := WTr.items (ms := ms) (h.1 rfl)
        refine ⟨t1, H1, ⟨i, ms.getD i 0, p, .nothing, [], []⟩ :: its, ?_, ?_, ?_⟩
        · simp only [evD, dstep, hw, applyUps, h1]
        · intro r hr hk
          rcases List.mem_cons.1 hr with rfl | hr
          · rfl
          · exact h2 r hr hk
        · simp only [List.filter_cons]
          split
          · rename_i hb
            rw [if_pos hb, List.append_assoc] at h3
            exact h3
          · rename_i hb
            rw [if_neg hb] at h3
            exact h3
      | true =>
        have h := h.2 rfl
        cases hs : stepU O P E (aeval E t) (mask H (visIds E H (aeval E t) p)) p.2 (visIds E H (aeval E t) p) p.1 with
        | none => rw [hs] at h; exact h.elim
        | some r =>
          obtain ⟨v, u⟩ := r
          rw [hs] at h
          simp only [WS] at h
          obtain ⟨hk, hu, h⟩ := h
          obtain ⟨t1, H1, its, h1, h2, h3⟩ := WTr.items (ms := ms) h
          refine ⟨t1, H1, ⟨i, ms.getD i 0, p, v, u, visIds E H (aeval E t) p⟩ :: its, ?_, ?_, ?_⟩
          · simp only [evD, dstep, hw, hs, hu, if_true, h1]
          · intro r hr hk'
            rcases List.mem_cons.1 hr with rfl | hr
            · rcases hk with hk | hk
              · rw [hk] at hk'; cases hk'
              · exact hk
            · exact h2 r hr hk'
          · simp only [List.filter_cons]
            split
            · rename_i hb
              rw [if_pos hb, List.append_assoc] at h3
              exact h3
            · rename_i hb
              rw [if_neg hb] at h3
              exact h3
    · exact h.elim

/-- Which pairs no order binds, one of them turning the heap. -/
def chkB (ops : Array Oper) (ks : List Nat) (bad : List (Nat × Nat)) : List (Nat × Nat × Oper) → Bool
  | [] => true
  | r :: rs => rs.all (fun s => s.2.1.testBit r.1 || (r.2.2.apart ops s.2.2 && ((!(ks.contains r.1) && !(ks.contains s.1)) || bad.contains (r.1, s.1)))) && chkB ops ks bad rs

def footsApart (a b : Foot) : Bool := (a.2.1.all fun q => !(b.2.2.contains q)) && (b.2.1.all fun q => !(a.2.2.contains q))
/-- The pairs that no order binds are apart by what they turn and see. -/
def badOk (f : List Foot) : List (Nat × Nat) → Bool
  | [] => true
  | (i, j) :: r => (match f.find? (fun x => x.1 == i), f.find? (fun x => x.1 == j) with
    | some a, some b => footsApart a b
    | _, _ => false) && badOk f r

theorem badOk_at {f : List Foot} : ∀ {bad : List (Nat × Nat)}, badOk f bad = true → ∀ {i j : Nat}, (i, j) ∈ bad → ∃ a b, f.find? (fun x => x.1 == i) = some a ∧ f.find? (fun x => x.1 == j) = some b ∧ footsApart a b = true
  | [], _, _, _, h => by cases h
  | (i', j') :: bad, hb, i, j, h => by
    simp only [badOk, Bool.and_eq_true] at hb
    rcases List.mem_cons.1 h with h | h
    · injection h with h1 h2
      subst h1; subst h2
      have h1 := hb.1
      split at h1
      · rename_i a b ha hb'
        exact ⟨a, b, ha, hb', h1⟩
      · cases h1
    · exact badOk_at hb.2 h

theorem find_foot : ∀ {l : List Item} {bs : List Nat} {r : Item}, (l.Pairwise fun a b => a.i ≠ b.i) → r ∈ l → bs.contains r.i = true → ((l.filter fun r => bs.contains r.i).map Item.foot).find? (fun x => x.1 == r.i) = some r.foot
  | [], _, _, _, h, _ => by cases h
  | a :: l, bs, r, hp, h, hb => by
    obtain ⟨h1, h2⟩ := List.pairwise_cons.1 hp
    rcases List.mem_cons.1 h with rfl | h
    · rw [List.filter_cons, if_pos hb, List.map_cons, List.find?_cons]
      simp [Item.foot]
    · have hne := h1 r h
      rw [List.filter_cons]
      split
      · have : ((a.foot).1 == r.i) = false := by simp [Item.foot, hne]
        rw [List.map_cons, List.find?_cons, this]
        exact find_foot h2 h hb
      · exact find_foot h2 h hb

theorem chk_of_B {ops : Array Oper} {ks : List Nat} {bad : List (Nat × Nat)} {L : List Item} (hL : L.Pairwise fun a b => a.i ≠ b.i) (hu : ∀ r ∈ L, ks.contains r.i = false → r.u = [])
    (hbad : badOk ((L.filter fun r => (bad.flatMap fun p => [p.1, p.2]).contains r.i).map Item.foot) bad = true) : ∀ (l : List Item), (∀ r ∈ l, r ∈ L) → chkB ops ks bad (l.map Item.syn) = true → chk ops l = true
  | [], _, _ => rfl
  | r :: l, hs, hc => by
    simp only [List.map_cons, chkB, Bool.and_eq_true] at hc
    simp only [chk, Bool.and_eq_true]
    refine ⟨?_, chk_of_B hL hu hbad l (fun q hq => hs q (List.mem_cons_of_mem _ hq)) hc.2⟩
    rw [List.all_eq_true]
    intro q hq
    have h1 := List.all_eq_true.1 hc.1 q.syn (List.mem_map_of_mem hq)
    simp only [Item.syn, Bool.or_eq_true, Bool.and_eq_true, Bool.not_eq_true'] at h1
    simp only [okPair, Bool.or_eq_true, Bool.and_eq_true]
    rcases h1 with h1 | ⟨h1, h2 | h2⟩
    · exact .inl h1
    · refine .inr ⟨h1, ?_⟩
      simp [footApart, hu r (hs r List.mem_cons_self) h2.1, hu q (hs q (List.mem_cons_of_mem _ hq)) h2.2]
    · refine .inr ⟨h1, ?_⟩
      have hm : (r.i, q.i) ∈ bad := by simpa using h2
      obtain ⟨a, b, ha, hb, hf⟩ := badOk_at hbad hm
      have m1 : (bad.flatMap fun p => [p.1, p.2]).contains r.i = true := by
        rw [List.contains_iff_mem, List.mem_flatMap]
        exact ⟨_, hm, by simp⟩
      have m2 : (bad.flatMap fun p => [p.1, p.2]).contains q.i = true := by
        rw [List.contains_iff_mem, List.mem_flatMap]
        exact ⟨_, hm, by simp⟩
      rw [find_foot hL (hs r List.mem_cons_self) m1] at ha
      rw [find_foot hL (hs q (List.mem_cons_of_mem _ hq)) m2] at hb
      injection ha with ha
      injection hb with hb
      subst ha; subst hb
      simp only [footsApart, Item.foot, Bool.and_eq_true, List.all_eq_true, List.mem_map, forall_exists_index, and_imp] at hf
      simp only [footApart, Bool.and_eq_true, List.all_eq_true]
      exact ⟨fun x hx => hf.1 _ x hx rfl, fun x hx => hf.2 _ x hx rfl⟩

theorem evD_syn {ops : Array Oper} {ms : List Nat} : ∀ {ps : List (Oper × Nat)} {i : Nat} {t : List AV} {H : AH} {t1 : List AV} {H1 : AH} {l : List Item}, evD O P E ops i ms ps t H = some (t1, H1, l) → l.map Item.syn = synItems i ms ps
  | [], i, t, H, t1, H1, l, h => by
    simp only [evD, Option.some.injEq, Prod.mk.injEq] at h
    obtain ⟨_, _, rfl⟩ := h
    rfl
  | p :: ps, i, t, H, t1, H1, l, h => by
    simp only [evD] at h
    split at h
    · split at h
      · rename_i he
        simp only [Option.some.injEq, Prod.mk.injEq] at h
        obtain ⟨_, _, rfl⟩ := h
        simp only [List.map_cons, synItems, Item.syn, evD_syn he]
      · cases h
    · cases h

def okDrawB (ops : Array Oper) (ks : List Nat) (bad : List (Nat × Nat)) : Bool := chkB ops ks bad (synOf 0 (masksFrom [] ops.toList) ops.toList) && backOnly 0 ops.toList

/-- ks: the operations that turn the heap; bad: pairs, of which one turns it, that no order binds. -/
theorem Tr.turns {B : Bs} (X : Cx O P E) (hG : GlobOk E B.g) (ks : List Nat) (bad : List (Nat × Nat)) {id : Nat} {ops : Array Oper} {t : List AV} {H : AH} {Q : AEx → List AV → AH → Prop} (hd : okDrawB ops ks bad = true)
    (h : WTr O P E ops ks (bad.flatMap fun p => [p.1, p.2]) 0 (withIds E ops.toList H.length) t (grow H (idCount E ops.toList)) [] fun t1 H1 f => badOk f bad = true ∧ Q .normal t1 H1) : Tr P B (.region id ops true) t H Q := by
  simp only [okDrawB, Bool.and_eq_true] at hd
  obtain ⟨t1, H1, its, h1, h2, h3, h4⟩ := WTr.items (ms := masksFrom [] ops.toList) h
  obtain ⟨q1, q2, q3, q4⟩ := evD_items _ _ _ _ _ _ _ h1
  have hp : its.Pairwise fun a b => a.i ≠ b.i := by
    have : (its.map (·.i)).Pairwise (· ≠ ·) := by
      rw [q4]
      exact (List.pairwise_lt_range' ..).imp (fun h => Nat.ne_of_lt h)
    exact List.pairwise_map.1 this
  rw [List.nil_append] at h3
  have hsyn : its.map Item.syn = synItems 0 (masksFrom [] ops.toList) (withIds E ops.toList H.length) := evD_syn h1
  have hc : chk ops its = true := chk_of_B hp h2 h3 its (fun _ h => h) (by rw [hsyn, syn_withIds]; exact hd.1)
  refine Tr.of_W (n := 0) X.sound X.meth X.mix hG ?_
  rw [W_draw]
  unfold evDraw
  rw [h1]
  simp only
  rw [if_pos ⟨hc, hd.2⟩]
  exact h4
end

/-- Code whose drawn regions are told of one by one. -/
def soft : Code → Code
  | .region id ops true => .loop (.scope (.region id ops true))
  | .seq a b => .seq (soft a) (soft b)
  | .cond c a b => .cond c (soft a) (soft b)
  | .block id c => .block id (soft c)
  | c => c
theorem soft_draw (id : Nat) (ops : Array Oper) : soft (.region id ops true) = .loop (.scope (.region id ops true)) := nrfl rfl
theorem soft_region (id : Nat) (ops : Array Oper) : soft (.region id ops false) = .region id ops false := nrfl rfl
theorem soft_seq (a b : Code) : soft (.seq a b) = .seq (soft a) (soft b) := nrfl rfl
theorem soft_cond (c : Operand) (a b : Code) : soft (.cond c a b) = .cond c (soft a) (soft b) := nrfl rfl
theorem soft_block (id : Nat) (c : Code) : soft (.block id c) = .block id (soft c) := nrfl rfl
theorem soft_loop (c : Code) : soft (.loop c) = .loop c := nrfl rfl
theorem soft_skip : soft .skip = .skip := nrfl rfl
theorem soft_ret : soft .ret = .ret := nrfl rfl
theorem soft_exit (id : Nat) : soft (.exit id) = .exit id := nrfl rfl
attribute [simp] soft_draw soft_region soft_seq soft_cond soft_block soft_loop soft_skip soft_ret soft_exit

def okSoft : Code → Bool
  | .loop (.scope _) => false
  | .seq a b => okSoft a && okSoft b
  | .cond _ a b => okSoft a && okSoft b
  | .block _ c => okSoft c
  | .scope _ => false
  | _ => true

/-- What is told of a loop, or of a region that draws its order. -/
def LpD (P : Program) (B : Bs) : LoopP := fun c t H Q => match c with
  | .scope r => Tr P B r t H Q
  | c => Tr P B (.loop c) t H Q

section
variable {O : Orc} {P : Program} {E : Env} {B : Bs}

theorem Wt.soft (X : Cx O P E) (hG : GlobOk E B.g) : ∀ {c : Code} {t : List AV} {H : AH} {Q : AEx → List AV → AH → Prop}, okSoft c = true → Wt O P E (LpD P B) (soft c) t H Q → Tr P B c t H Q
  | .skip, t, H, Q, _, h => Tr.skip h
  | .region id ops false, t, H, Q, _, h => Tr.run X hG (by simp [okDraws]) h
  | .region id ops true, t, H, Q, _, h => h
  | .seq a b, t, H, Q, hd, h => by
    simp only [okSoft, Bool.and_eq_true] at hd
    simp only [Fw.soft, Wt] at h
    refine Tr.seq (Tr.mono (Wt.soft X hG hd.1 h) ?_)
    intro e t1 H1 h1
    cases e with
    | normal => exact Wt.soft X hG hd.2 h1
    | exit id => exact h1
    | ret => exact h1
  | .cond c a b, t, H, Q, hd, h => by
    simp only [okSoft, Bool.and_eq_true] at hd
    simp only [Fw.soft, Wt] at h
    unfold WB at h
    split at h
    · rename_i v hv
      exact Tr.cond hG v hv (fun e => Wt.soft X hG hd.1 (h.1 e)) (fun e => Wt.soft X hG hd.2 (h.2 e))
    · exact h.elim
  | .block id c, t, H, Q, hd, h => by
    simp only [okSoft] at hd
    simp only [Fw.soft, Wt] at h
    exact Tr.block (Wt.soft X hG hd h)
  | .exit id, t, H, Q, _, h => Tr.exit h
  | .ret, t, H, Q, _, h => Tr.ret h
  | .loop c, t, H, Q, hd, h => by
    simp only [Fw.soft, Wt] at h
    cases c <;> first | exact h | cases hd
  | .rangeFunc _ _ _ _, _, _, _, _, h => h.elim
  | .scope _, _, _, _, hd, _ => by cases hd
  | .label _, _, _, _, _, h => h.elim
  | .goto _, _, _, _, _, h => h.elim
  | .refuse _, _, _, _, _, h => h.elim

theorem Tr.goD (X : Cx O P E) (hG : GlobOk E B.g) {c : Code} {t : List AV} {H : AH} {Q : AEx → List AV → AH → Prop} (hd : okSoft c = true) (h : Go O P E (LpD P B) (soft c) [] t H Q) : Tr P B c t H Q := Wt.soft X hG hd h

/-- A drawn region within a walk. -/
theorem LpD.turns {Lp : LoopP} {ks0 : List Fr} (X : Cx O P E) (hG : GlobOk E B.g) (ks : List Nat) (bad : List (Nat × Nat)) {id : Nat} {ops : Array Oper} {t : List AV} {H : AH} {Q : AEx → List AV → AH → Prop} (hd : okDrawB ops ks bad = true)
    (h : WTr O P E ops ks (bad.flatMap fun p => [p.1, p.2]) 0 (withIds E ops.toList H.length) t (grow H (idCount E ops.toList)) [] fun t1 H1 f => badOk f bad = true ∧ Go O P E Lp .skip ks0 t1 H1 Q) : LpD P B (.scope (.region id ops true)) t H (unwind O P E Lp ks0 Q) :=
  Tr.turns X hG ks bad hd (by simpa only [unwind_normal] using h)

/-- A loop within a walk, by what holds at its head. -/
theorem LpD.loopN {L : Code} {t : List AV} {H : AH} {Q : AEx → List AV → AH → Prop} (X : Cx O P E) (hG : GlobOk E B.g) (hd : okSoft L = true) (I : Nat → List AV → AH → Prop) (k : Nat) {t' : List AV} {H' : AH} (hl : Less B t H t' H') (hI : I k t' H')
    (h : ∀ k t H, I k t H → Go O P E (LpD P B) (soft L) [] t H (Goes (Nxt B I k) Q)) : LpD P B L t H Q := by
  have key : Tr P B (.loop L) t H Q := Tr.less hl (Tr.loop I k hI fun k t H hI => Tr.goD X hG hd (h k t H hI))
  cases L <;> first | exact key | cases hd
end

/-! The operations of a drawn region, one equation for each kind. -/
theorem mask_mem {H : AH} {S : List Nat} {i : Nat} (h : i ∈ S) : (mask H S).at i = H.at i := by
  rw [mask_at]
  by_cases hl : i < H.length
  · rw [if_pos hl, if_pos (by simpa using h)]
  · rw [if_neg hl, at_ge (by omega)]
theorem idsOfL_mem {x : AV} {i : Nat} (h : i ∈ idsOf x) : ∀ {l : List AV}, x ∈ l → i ∈ idsOfL l
  | [], hx => by cases hx
  | y :: l, hx => by
    rw [idsOfL, List.mem_append]
    rcases List.mem_cons.1 hx with rfl | hx
    · exact .inl h
    · exact .inr (idsOfL_mem h hx)
theorem vis_mem (E : Env) (H : AH) (ρ : Operand → AV) (o : Oper) (fid : Nat) (hq : quietO o.op = false) {x : Operand} (hx : x ∈ o.op.operands) {i : Nat} (h : i ∈ idsOf (ρ x)) : i ∈ visIds E H ρ (o, fid) := by
  have h1 : i ∈ opIds ρ o := by
    unfold opIds
    rw [if_neg (by rw [hq]; decide)]
    exact idsOfL_mem h (List.mem_map_of_mem (by simpa using hx))
  have h2 := clos_sub H 4 _ i h1
  unfold visIds
  split
  · exact List.mem_cons_of_mem _ h2
  · exact h2
theorem aload_mask (P : Program) (u : TypeId) {H : AH} {S : List Nat} {a : AV} (h : ∀ i ∈ idsOf a, i ∈ S) : aload P (mask H S) u a = aload P H u a := by
  cases a with
  | ptr id off => simp only [aload, mask_mem (h id (by simp [idsOf]))]
  | _ => rfl
theorem astore_mask (P : Program) (u : TypeId) {H : AH} {S : List Nat} {a x : AV} (h : ∀ i ∈ idsOf a, i ∈ S) : astore P (mask H S) u a x = astore P H u a x := by
  cases a with
  | ptr id off => simp only [astore, mask_mem (h id (by simp [idsOf]))]
  | _ => rfl
theorem copied_mask (sz : Nat) {H : AH} {S : List Nat} {a : AV} (h : ∀ i ∈ idsOf a, i ∈ S) : copied (mask H S) sz a = copied H sz a := by
  cases a with
  | bsl id off s n c => simp only [copied, mask_mem (h id (by simp [idsOf]))]
  | _ => rfl
theorem aappend_mask (P : Program) (fid : Nat) (u w : TypeId) {H : AH} {S : List Nat} {a x : AV} (h : ∀ i ∈ idsOf a, i ∈ S) (h' : ∀ i ∈ idsOf x, i ∈ S) : aappend P (mask H S) fid u w a x = aappend P H fid u w a x := by
  unfold aappend
  cases a with
  | slice ow sz n cs =>
    cases ow with
    | tok k => simp only [copied_mask _ h', mask_mem (h k (by simp [idsOf]))]
    | _ => simp only [copied_mask _ h']
  | bsl id off s n c => simp only [copied_mask _ h', mask_mem (h id (by simp [idsOf]))]
  | _ => simp only [copied_mask _ h']

def upsOf (S : List Nat) (n : Nat) (r : Option (AV × AH)) : Option (AV × Ups) := match r with
  | some (v, H1) => if H1.length = n then some (v, S.filterMap fun i => (H1.at i).map fun e => (i, e)) else none
  | none => none
theorem upsOf_some (S : List Nat) (n : Nat) (v : AV) (H1 : AH) (h : H1.length = n) : upsOf S n (some (v, H1)) = some (v, S.filterMap fun i => (H1.at i).map fun e => (i, e)) := by simp [upsOf, h]

section
variable (O : Orc) (P : Program) (E : Env)
abbrev TK := List AV → AH → List Foot → Prop
/-- An operation that is wanted. -/
def WTq (ops : Array Oper) (ks bs : List Nat) (i : Nat) (o : Oper) (fid : Nat) (l : List (Oper × Nat)) (t : List AV) (H : AH) (fs : List Foot) (K : TK) : Prop :=
  WS (stepU O P E (aeval E t) (mask H (visIds E H (aeval E t) (o, fid))) fid (visIds E H (aeval E t) (o, fid)) o) fun r =>
        (ks.contains i = true ∨ r.2 = []) ∧ (r.2.all fun q => (visIds E H (aeval E t) (o, fid)).contains q.1) = true ∧
          WTr O P E ops ks bs (i + 1) l (putT t o.dst r.1) (applyUps H r.2) (if bs.contains i = true then fs ++ [(i, r.2.map (·.1), visIds E H (aeval E t) (o, fid))] else fs) K
def WTg (b : Option Bool) (ops : Array Oper) (ks bs : List Nat) (i : Nat) (o : Oper) (fid : Nat) (l : List (Oper × Nat)) (t : List AV) (H : AH) (fs : List Foot) (K : TK) : Prop :=
  WG b (WTr O P E ops ks bs (i + 1) l (putT t o.dst .nothing) H (if bs.contains i = true then fs ++ [(i, [], [])] else fs) K) (WTq O P E ops ks bs i o fid l t H fs K)
/-- A value. -/
def WTv (r : Option AV) (ops : Array Oper) (ks bs : List Nat) (i : Nat) (o : Oper) (fid : Nat) (l : List (Oper × Nat)) (t : List AV) (H : AH) (fs : List Foot) (K : TK) : Prop :=
  WS r fun v => WTr O P E ops ks bs (i + 1) l (putT t o.dst v) H (if bs.contains i = true then fs ++ [(i, [], visIds E H (aeval E t) (o, fid))] else fs) K
/-- A value, and what turns. -/
def WTu (r : Option (AV × Ups)) (ops : Array Oper) (ks bs : List Nat) (i : Nat) (o : Oper) (fid : Nat) (l : List (Oper × Nat)) (t : List AV) (H : AH) (fs : List Foot) (K : TK) : Prop :=
  WS r fun r => (ks.contains i = true ∨ r.2 = []) ∧ (r.2.all fun q => (visIds E H (aeval E t) (o, fid)).contains q.1) = true ∧
          WTr O P E ops ks bs (i + 1) l (putT t o.dst r.1) (applyUps H r.2) (if bs.contains i = true then fs ++ [(i, r.2.map (·.1), visIds E H (aeval E t) (o, fid))] else fs) K
/-- What a call is answered, at what it sees. -/
def WTc (f : Operand) (as : Array Operand) (ops : Array Oper) (ks bs : List Nat) (i : Nat) (o : Oper) (fid : Nat) (l : List (Oper × Nat)) (t : List AV) (H : AH) (fs : List Foot) (K : TK) : Prop :=
  WTu O P E (upsOf (visIds E H (aeval E t) (o, fid)) H.length (callV O P (aeval E t f) (as.toList.map (aeval E t)) (mask H (visIds E H (aeval E t) (o, fid))))) ops ks bs i o fid l t H fs K
end
section
variable {O : Orc} {P : Program} {E : Env} {ops : Array Oper} {ks bs : List Nat} {i : Nat} {l : List (Oper × Nat)} {t : List AV} {H : AH} {fs : List Foot} {K : TK}
theorem WTr_nil : WTr O P E ops ks bs i [] t H fs K = K t H fs := nrfl rfl
theorem WTr_cons (o : Oper) (fid : Nat) : WTr O P E ops ks bs i ((o, fid) :: l) t H fs K = WTg O P E (wantedA ops t o) ops ks bs i o fid l t H fs K := nrfl rfl
theorem WTg_true (o : Oper) (fid : Nat) : WTg O P E (some true) ops ks bs i o fid l t H fs K = WTq O P E ops ks bs i o fid l t H fs K := by simp [WTg, WG]
theorem WTg_false (o : Oper) (fid : Nat) : WTg O P E (some false) ops ks bs i o fid l t H fs K = WTr O P E ops ks bs (i + 1) l (putT t o.dst .nothing) H (if bs.contains i = true then fs ++ [(i, [], [])] else fs) K := by simp [WTg, WG]
theorem WTv_some (v : AV) (o : Oper) (fid : Nat) : WTv O P E (some v) ops ks bs i o fid l t H fs K = WTr O P E ops ks bs (i + 1) l (putT t o.dst v) H (if bs.contains i = true then fs ++ [(i, [], visIds E H (aeval E t) (o, fid))] else fs) K := nrfl rfl
theorem WTu_some (v : AV) (u : Ups) (o : Oper) (fid : Nat) : WTu O P E (some (v, u)) ops ks bs i o fid l t H fs K = ((ks.contains i = true ∨ u = []) ∧ (u.all fun q => (visIds E H (aeval E t) (o, fid)).contains q.1) = true ∧
          WTr O P E ops ks bs (i + 1) l (putT t o.dst v) (applyUps H u) (if bs.contains i = true then fs ++ [(i, u.map (·.1), visIds E H (aeval E t) (o, fid))] else fs) K) := nrfl rfl
theorem WTq_v {o : Oper} {fid : Nat} {r : Option AV} (h : stepU O P E (aeval E t) (mask H (visIds E H (aeval E t) (o, fid))) fid (visIds E H (aeval E t) (o, fid)) o = r.map fun a => (a, [])) :
    WTq O P E ops ks bs i o fid l t H fs K = WTv O P E r ops ks bs i o fid l t H fs K := by
  unfold WTq WTv
  rw [h]
  cases r <;> simp [WS, applyUps]
theorem WTq_u {o : Oper} {fid : Nat} {r : Option (AV × Ups)} (h : stepU O P E (aeval E t) (mask H (visIds E H (aeval E t) (o, fid))) fid (visIds E H (aeval E t) (o, fid)) o = r) :
    WTq O P E ops ks bs i o fid l t H fs K = WTu O P E r ops ks bs i o fid l t H fs K := by
  unfold WTq WTu
  rw [h]
section
variable (fid : Nat) (dst : Option Tmp) (ty : TypeId) (pos : String) (after : Array Edge) (guard : Option (Nat × Bool))
theorem WTq_move (x : Operand) : WTq O P E ops ks bs i ⟨dst, .move x, ty, pos, after, guard⟩ fid l t H fs K = WTv O P E (some ((aeval E t) x)) ops ks bs i ⟨dst, .move x, ty, pos, after, guard⟩ fid l t H fs K := WTq_v rfl
theorem WTq_assign (x : Operand) : WTq O P E ops ks bs i ⟨dst, .assign x, ty, pos, after, guard⟩ fid l t H fs K = WTv O P E (some ((aeval E t) x)) ops ks bs i ⟨dst, .assign x, ty, pos, after, guard⟩ fid l t H fs K := WTq_v rfl
theorem WTq_build (u : TypeId) (parts : Array (Nat × Operand)) : WTq O P E ops ks bs i ⟨dst, .build u parts, ty, pos, after, guard⟩ fid l t H fs K = WTv O P E (abuild P u (parts.toList.map fun p => (p.1, (aeval E t) p.2))) ops ks bs i ⟨dst, .build u parts, ty, pos, after, guard⟩ fid l t H fs K := WTq_v rfl
theorem WTq_buildSlice (u : TypeId) (len : Nat) (parts : Array (Nat × Operand)) : WTq O P E ops ks bs i ⟨dst, .buildSlice u len parts, ty, pos, after, guard⟩ fid l t H fs K = WTv O P E (abuildSlice P u len (parts.toList.map fun p => (p.1, (aeval E t) p.2))) ops ks bs i ⟨dst, .buildSlice u len parts, ty, pos, after, guard⟩ fid l t H fs K := WTq_v rfl
theorem WTq_load (u : TypeId) (a : Operand) : WTq O P E ops ks bs i ⟨dst, .load u a, ty, pos, after, guard⟩ fid l t H fs K = WTv O P E (aload P H u ((aeval E t) a)) ops ks bs i ⟨dst, .load u a, ty, pos, after, guard⟩ fid l t H fs K := WTq_v (by
    show (aload P (mask H _) u (aeval E t a)).map (fun a => (a, ([] : Ups))) = _
    rw [aload_mask P u fun i hi => vis_mem E H (aeval E t) _ fid rfl (by simp [Op.operands]) hi])
theorem WTq_nilCheck (x : Operand) : WTq O P E ops ks bs i ⟨dst, .nilCheck x, ty, pos, after, guard⟩ fid l t H fs K = WTv O P E (anilCheck ((aeval E t) x)) ops ks bs i ⟨dst, .nilCheck x, ty, pos, after, guard⟩ fid l t H fs K := WTq_v rfl
theorem WTq_binOp (op : BinOp) (u : TypeId) (x y : Operand) (w : TypeId) : WTq O P E ops ks bs i ⟨dst, .binOp op u x y w, ty, pos, after, guard⟩ fid l t H fs K = WTv O P E (abin P op u (isConstO x || isConstO y) ((aeval E t) x) ((aeval E t) y)) ops ks bs i ⟨dst, .binOp op u x y w, ty, pos, after, guard⟩ fid l t H fs K := WTq_v rfl
theorem WTq_unOp (op : UnOp) (u : TypeId) (x : Operand) : WTq O P E ops ks bs i ⟨dst, .unOp op u x, ty, pos, after, guard⟩ fid l t H fs K = WTv O P E (aun op ((aeval E t) x)) ops ks bs i ⟨dst, .unOp op u x, ty, pos, after, guard⟩ fid l t H fs K := WTq_v rfl
theorem WTq_makeFunc (fn : Fn) (first captured : Array Operand) : WTq O P E ops ks bs i ⟨dst, .makeFunc fn first captured, ty, pos, after, guard⟩ fid l t H fs K = WTv O P E (some (.func fn (first.toList.map (aeval E t)) (captured.toList.map (aeval E t)))) ops ks bs i ⟨dst, .makeFunc fn first captured, ty, pos, after, guard⟩ fid l t H fs K := WTq_v rfl
theorem WTq_slice (u : TypeId) (x : Operand) (lo hi mx : Option Operand) : WTq O P E ops ks bs i ⟨dst, .slice u x lo hi mx, ty, pos, after, guard⟩ fid l t H fs K = WTv O P E (aslice P u ((aeval E t) x) (lo.map (aeval E t)) (hi.map (aeval E t)) (mx.map (aeval E t))) ops ks bs i ⟨dst, .slice u x lo hi mx, ty, pos, after, guard⟩ fid l t H fs K := WTq_v rfl
theorem WTq_fieldAddr (u : TypeId) (x : Operand) (f : Nat) : WTq O P E ops ks bs i ⟨dst, .fieldAddr u x f, ty, pos, after, guard⟩ fid l t H fs K = WTv O P E (afieldAddr P u ((aeval E t) x) f) ops ks bs i ⟨dst, .fieldAddr u x f, ty, pos, after, guard⟩ fid l t H fs K := WTq_v rfl
theorem WTq_field (u : TypeId) (x : Operand) (f : Nat) : WTq O P E ops ks bs i ⟨dst, .field u x f, ty, pos, after, guard⟩ fid l t H fs K = WTv O P E (afield P u ((aeval E t) x) f) ops ks bs i ⟨dst, .field u x f, ty, pos, after, guard⟩ fid l t H fs K := WTq_v rfl
theorem WTq_indexAddr (u : TypeId) (x j : Operand) : WTq O P E ops ks bs i ⟨dst, .indexAddr u x j, ty, pos, after, guard⟩ fid l t H fs K = WTv O P E (aindexAddr P u ((aeval E t) x) ((aeval E t) j)) ops ks bs i ⟨dst, .indexAddr u x j, ty, pos, after, guard⟩ fid l t H fs K := WTq_v rfl
theorem WTq_index (u : TypeId) (x j : Operand) : WTq O P E ops ks bs i ⟨dst, .index u x j, ty, pos, after, guard⟩ fid l t H fs K = WTv O P E (aindex P u ((aeval E t) x) ((aeval E t) j)) ops ks bs i ⟨dst, .index u x j, ty, pos, after, guard⟩ fid l t H fs K := WTq_v rfl
theorem WTq_typeAssert (x : Operand) (u w : TypeId) (ok : Bool) : WTq O P E ops ks bs i ⟨dst, .typeAssert x u w ok, ty, pos, after, guard⟩ fid l t H fs K = WTv O P E (atypeAssert P ((aeval E t) x) w ok) ops ks bs i ⟨dst, .typeAssert x u w ok, ty, pos, after, guard⟩ fid l t H fs K := WTq_v rfl
theorem WTq_extract (x : Operand) (j : Nat) : WTq O P E ops ks bs i ⟨dst, .extract x j, ty, pos, after, guard⟩ fid l t H fs K = WTv O P E (aextract ((aeval E t) x) j) ops ks bs i ⟨dst, .extract x j, ty, pos, after, guard⟩ fid l t H fs K := WTq_v rfl
theorem WTq_len (x : Operand) (u : TypeId) : WTq O P E ops ks bs i ⟨dst, .call ⟨.builtin .len, #[x], #[u]⟩, ty, pos, after, guard⟩ fid l t H fs K = WTv O P E (alen P u ((aeval E t) x)) ops ks bs i ⟨dst, .call ⟨.builtin .len, #[x], #[u]⟩, ty, pos, after, guard⟩ fid l t H fs K := WTq_v rfl
theorem WTq_max (x y : Operand) (us : Array TypeId) : WTq O P E ops ks bs i ⟨dst, .call ⟨.builtin .max, #[x, y], us⟩, ty, pos, after, guard⟩ fid l t H fs K = WTv O P E (amax2 ((aeval E t) x) ((aeval E t) y)) ops ks bs i ⟨dst, .call ⟨.builtin .max, #[x, y], us⟩, ty, pos, after, guard⟩ fid l t H fs K := WTq_v rfl
theorem WTq_min (x y : Operand) (us : Array TypeId) : WTq O P E ops ks bs i ⟨dst, .call ⟨.builtin .min, #[x, y], us⟩, ty, pos, after, guard⟩ fid l t H fs K = WTv O P E (amin2 ((aeval E t) x) ((aeval E t) y)) ops ks bs i ⟨dst, .call ⟨.builtin .min, #[x, y], us⟩, ty, pos, after, guard⟩ fid l t H fs K := WTq_v rfl
theorem WTq_pick (c a b : Operand) : WTq O P E ops ks bs i ⟨dst, .pick c a b, ty, pos, after, guard⟩ fid l t H fs K = WTv O P E (apick ((aeval E t) c) ((aeval E t) a) ((aeval E t) b)) ops ks bs i ⟨dst, .pick c a b, ty, pos, after, guard⟩ fid l t H fs K := WTq_v (stepU_pick ..)
theorem WTq_makeInterface (u : TypeId) (x : Operand) : WTq O P E ops ks bs i ⟨dst, .makeInterface u x, ty, pos, after, guard⟩ fid l t H fs K = WTv O P E (aface P u ((aeval E t) x)) ops ks bs i ⟨dst, .makeInterface u x, ty, pos, after, guard⟩ fid l t H fs K := WTq_v (stepU_makeInterface ..)
theorem WTq_alloc (u : TypeId) : WTq O P E ops ks bs i ⟨dst, .alloc u, ty, pos, after, guard⟩ fid l t H fs K = WTu O P E (aalloc P fid u) ops ks bs i ⟨dst, .alloc u, ty, pos, after, guard⟩ fid l t H fs K := WTq_u (by
    simp only [stepU, aop, aalloc]
    cases zeroAV P u <;> rfl)
theorem WTq_box (u : TypeId) (x : Operand) : WTq O P E ops ks bs i ⟨dst, .box u x, ty, pos, after, guard⟩ fid l t H fs K = WTu O P E (abox E fid u ((aeval E t) x)) ops ks bs i ⟨dst, .box u x, ty, pos, after, guard⟩ fid l t H fs K := WTq_u (by simp only [stepU, aop, abox])
theorem WTq_store (u : TypeId) (a x : Operand) : WTq O P E ops ks bs i ⟨dst, .store u a x, ty, pos, after, guard⟩ fid l t H fs K = WTu O P E (astore P H u ((aeval E t) a) ((aeval E t) x)) ops ks bs i ⟨dst, .store u a x, ty, pos, after, guard⟩ fid l t H fs K := WTq_u (by
    show astore P (mask H _) u (aeval E t a) (aeval E t x) = _
    rw [astore_mask P u fun i hi => vis_mem E H (aeval E t) _ fid rfl (x := a) (by simp [Op.operands]) hi])
theorem WTq_append (s x : Operand) (u w : TypeId) : WTq O P E ops ks bs i ⟨dst, .call ⟨.builtin .append, #[s, x], #[u, w]⟩, ty, pos, after, guard⟩ fid l t H fs K = WTu O P E (aappend P H fid u w ((aeval E t) s) ((aeval E t) x)) ops ks bs i ⟨dst, .call ⟨.builtin .append, #[s, x], #[u, w]⟩, ty, pos, after, guard⟩ fid l t H fs K := WTq_u (by
    show aappend P (mask H _) fid u w (aeval E t s) (aeval E t x) = _
    rw [aappend_mask P fid u w (fun i hi => vis_mem E H (aeval E t) _ fid rfl (x := s) (by simp [Op.operands, Call.operands]) hi) (fun i hi => vis_mem E H (aeval E t) _ fid rfl (x := x) (by simp [Op.operands, Call.operands]) hi)])
theorem WTq_call (f : Operand) (as : Array Operand) (us : Array TypeId) : WTq O P E ops ks bs i ⟨dst, .call ⟨.value f, as, us⟩, ty, pos, after, guard⟩ fid l t H fs K = WTc O P E f as ops ks bs i ⟨dst, .call ⟨.value f, as, us⟩, ty, pos, after, guard⟩ fid l t H fs K := WTq_u (by
  simp only [stepU, callee, callV]
  rw [← mask_length H (visIds E H (aeval E t) (⟨dst, .call ⟨.value f, as, us⟩, ty, pos, after, guard⟩, fid))]
  cases aeval E t f with
  | func fn a b =>
    cases fn with
    | func i =>
      simp only
      cases goFn P i with
      | true =>
        simp only [if_true]
        cases O i (a ++ as.toList.map (aeval E t) ++ b) (mask H (visIds E H (aeval E t) (⟨dst, .call ⟨.value f, as, us⟩, ty, pos, after, guard⟩, fid))) with
        | none => rfl
        | some r => rfl
      | false => rfl
    | _ => rfl
  | _ => rfl)
end
end
attribute [simp] WTr_nil WTr_cons WTg_true WTg_false WTv_some WTu_some upsOf_some badOk footsApart WTc clos boxIdsL boxIds mask
attribute [simp] maskFrom WTq_move WTq_assign WTq_build WTq_buildSlice WTq_load WTq_nilCheck WTq_binOp WTq_unOp WTq_makeFunc WTq_slice WTq_fieldAddr WTq_field WTq_indexAddr
attribute [simp] WTq_index WTq_typeAssert WTq_extract WTq_len WTq_max WTq_min WTq_pick WTq_makeInterface WTq_alloc WTq_box WTq_store WTq_append WTq_call

/-- A method whose receiver lies in one box. -/
theorem CS.rd {P : Program} {E : Env} {f : FuncId} {fn : Func} {cs cs' rest : List AV} {v : AV} (hE : ∀ i, low 0 (E.glob i) = true) (hf : P.funcs[f]? = some fn) (hb : fn.body = some (bodyOf fn)) (k : Nat) (hn : (AV.ptr 0 0 :: rest).length ≤ fn.ntmps)
    (h : ∀ B : Bs, B.H = [some (.box cs)] → GlobOk E B.g → Tr P B (bodyOf fn) (mkT fn.ntmps (argL 0 (.ptr 0 0 :: rest))) [some (.box cs)] (Fin P fn 1 k v [some (.box cs')]))
    (hr : lowL 0 rest = true) (hv : low 0 v = true) (hc : lowL 0 cs = true) (hc' : lowL 0 cs' = true) {H : AH} {id : Nat} (hH : H.at id = some (.box cs)) : CS P E f (.ptr id 0 :: rest) H v (H.set id (some (.box cs'))) :=
  CS.box (CS.of_Tr (H0 := [some (.box cs)]) (H1 := [some (.box cs')]) hf hb k hn h (low_mono (Nat.zero_le 1) v hv) (by simp [lowH, lowE, lowL_mono (Nat.zero_le 1) cs' hc'])) hE hr hv hc hc' hH
/-- The same where other arguments lead to the receiver, too. -/
theorem CS.rdR {P : Program} {E : Env} {f : FuncId} {fn : Func} {cs cs' rest : List AV} {v : AV} (hE : ∀ i, low 0 (E.glob i) = true) (hf : P.funcs[f]? = some fn) (hb : fn.body = some (bodyOf fn)) (k : Nat) (hn : (AV.ptr 0 0 :: rest).length ≤ fn.ntmps)
    (h : ∀ B : Bs, B.H = [some (.box cs)] → GlobOk E B.g → Tr P B (bodyOf fn) (mkT fn.ntmps (argL 0 (.ptr 0 0 :: rest))) [some (.box cs)] (Fin P fn 1 k v [some (.box cs')]))
    (hr : lowL 1 rest = true) (hv : low 0 v = true) (hc : lowL 0 cs = true) (hc' : lowL 0 cs' = true) {H : AH} {id : Nat} (hH : H.at id = some (.box cs)) : CS P E f (.ptr id 0 :: renL (fun _ => id) rest) H v (H.set id (some (.box cs'))) := by
  have h1 := CS.of_Tr (H0 := [some (.box cs)]) (H1 := [some (.box cs')]) hf hb k hn h (low_mono (Nat.zero_le 1) v hv) (by simp [lowH, lowE, lowL_mono (Nat.zero_le 1) cs' hc'])
  have := CS.embed (k := 1) (fun _ => id) (H := H) (H' := H.set id (some (.box cs'))) h1 rfl rfl (ren_one id) hE (by simp [lowL, low, hr]) (low_mono (Nat.zero_le 1) v hv)
    (by simp [lowH, lowE, lowL_mono (Nat.zero_le 1) cs hc]) (by simp [lowH, lowE, lowL_mono (Nat.zero_le 1) cs' hc'])
    (fun i hi => by
      obtain rfl : i = 0 := by omega
      simp [AH.at, renE, renL_low _ cs hc]
      exact hH)
    (fun i hi => by
      obtain rfl : i = 0 := by omega
      rw [at_set_self hH]
      simp [AH.at, renE, renL_low _ cs' hc'])
    (fun j hj => at_set_ne (hj 0 (by omega)))
  rw [ren_low _ v hv] at this
  simpa [renL, ren] using this
end Go.Proofs.Fw

namespace Go.Proofs.Fw
open Go.RowKit

/-- Whether two keys are the same. -/
def keyEq : AV → AV → Option Bool
  | .int k a, .int k' b => if k = k' then some (decide (a = b)) else none
  | .str s, .str t => some (decide (s = t))
  | _, _ => none
def findA (k : AV) : List (AV × AV) → Option (Option AV)
  | [] => some none
  | (x, v) :: r => (match keyEq k x with
    | some true => some (some v)
    | some false => findA k r
    | none => none)
def kdOk (kd : TypeDesc) (k : AV) : Bool :=
  match kd, k with
  | .int j, .int j' _ => decide (j' = j)
  | .string, .str _ => true
  | _, _ => false

theorem kdOk_key {g : Gh} {kd : TypeDesc} {k : AV} {v : Value} (h : kdOk kd k = true) (hr : RepV g k v) : MapKept.IsKey kd v := by
  unfold kdOk at h
  split at h
  · simp only [RepV] at hr; subst hr
    simpa [MapKept.IsKey] using h
  · simp only [RepV] at hr; subst hr; trivial
  · cases h
theorem keyEq_now {g : Gh} {kd : TypeDesc} {k x : AV} {kv xv : Value} {b : Bool} (hk : kdOk kd k = true) (h : keyEq k x = some b) (hr : RepV g k kv) (hx : RepV g x xv) : Instr.sameNow kd kv xv = some b := by
  unfold keyEq at h
  split at h
  · split at h
    · rename_i e
      injection h with h
      subst e
      simp only [RepV] at hr hx
      subst hr; subst hx
      unfold kdOk at hk
      split at hk
      · simp only [Instr.sameNow, if_true]
        rw [← h]
        congr 1
      · cases ‹_ = AV.str _›
      · cases hk
    · cases h
  · injection h with h
    simp only [RepV] at hr hx
    subst hr; subst hx
    unfold kdOk at hk
    split at hk
    · cases ‹_ = AV.int _ _›
    · simp only [Instr.sameNow]
      rw [← h]
      congr 1
      rw [Bool.eq_iff_iff, MapKept.bytes_beq]
      simp
    · cases hk
  · cases h

/-- The entries of a map. -/
inductive Ents (g : Gh) : List (AV × AV) → List MapEntry → Prop
  | nil : Ents g [] []
  | cons {p : AV × AV} {e : MapEntry} {l : List (AV × AV)} {es : List MapEntry} (h1 : RepV g p.1 e.key) (h2 : RepV g p.2 e.val) (h : Ents g l es) : Ents g (p :: l) (e :: es)
theorem Ents.mono {g g' : Gh} (hl : g.le g') : ∀ {l : List (AV × AV)} {es : List MapEntry}, Ents g l es → Ents g' l es
  | _, _, .nil => .nil
  | _, _, .cons h1 h2 h => .cons (RepV.mono hl _ _ h1) (RepV.mono hl _ _ h2) (h.mono hl)
theorem Ents.snoc {g : Gh} {p : AV × AV} {e : MapEntry} (h1 : RepV g p.1 e.key) (h2 : RepV g p.2 e.val) : ∀ {l : List (AV × AV)} {es : List MapEntry}, Ents g l es → Ents g (l ++ [p]) (es ++ [e])
  | _, _, .nil => .cons h1 h2 .nil
  | _, _, .cons q1 q2 h => .cons q1 q2 (h.snoc h1 h2)
theorem findA_now {g : Gh} {kd : TypeDesc} {k : AV} {kv : Value} (hk : kdOk kd k = true) (hr : RepV g k kv) : ∀ {l : List (AV × AV)} {es : List MapEntry} {r : Option AV} (i : Nat), findA k l = some r → Ents g l es →
    (r = none ∧ Instr.findNow kd kv es i = some none) ∨ ∃ v j u, r = some v ∧ Instr.findNow kd kv es i = some (some (j, u)) ∧ RepV g v u
  | _, _, r, i, h, .nil => by
    simp only [findA, Option.some.injEq] at h
    exact .inl ⟨h.symm, rfl⟩
  | (x, v) :: l, e :: es, r, i, h, .cons h1 h2 hs => by
    simp only [findA] at h
    split at h
    · rename_i hq
      injection h with h
      refine .inr ⟨v, i, e.val, h.symm, ?_, h2⟩
      simp only [Instr.findNow, keyEq_now hk hq hr h1]
    · rename_i hq
      simp only [Instr.findNow, keyEq_now hk hq hr h1]
      exact findA_now hk hr (i + 1) h hs
    · cases h

section
variable (O : Orc) (P : Program) (E : Env) (ops : Array Oper)

def keyDesc (ty : TypeId) : Option (TypeDesc × TypeId) :=
  match P.underlying ty with
  | some (.map kt et) => (P.underlying kt).map (·, et)
  | _ => none
/-- The operations behind the map's making: the slots that hold it, its entries. -/
def evM : List (Oper × Nat) → List AV → AH → List Tmp → List (AV × AV) → Option (List AV × AH)
  | [], t, H, _, _ => some (t, H)
  | (o, fid) :: rest, t, H, ms, es =>
    (match o.guard with
    | some _ => none
    | none => (match o.op with
      | .insert ty (.tmp m) k v => if ms.contains m = true then (match keyDesc P ty with
          | some (kd, _) => if kdOk kd (aeval E t k) = true then (match findA (aeval E t k) es with
            | some none => if (o.dst.isNone) = true then evM rest t H ms (es ++ [(aeval E t k, aeval E t v)]) else none
            | _ => none) else none
          | none => none) else none
      | .lookup ty (.tmp m) k false => if ms.contains m = true then (match keyDesc P ty with
          | some (kd, et) => if kdOk kd (aeval E t k) = true then (match findA (aeval E t k) es, zeroAV P et, o.dst with
            | some (some v), _, some d => if ms.contains d = true then none else evM rest (putT t (some d) v) H ms es
            | some none, some z, some d => if ms.contains d = true then none else evM rest (putT t (some d) z) H ms es
            | _, _, _ => none) else none
          | none => none) else none
      | .move (.tmp m) => if ms.contains m = true then (match o.dst with
          | some d => evM rest (putT t (some d) .undef) H (if d < t.length then d :: ms else ms) es
          | none => none) else (match o.dst with
          | some d => if ms.contains d = true then none else (match stepO O P E (aeval E t) H fid o with
            | some (v, H') => evM rest (putT t (some d) v) H' ms es
            | none => none)
          | none => none)
      | _ => if (o.dst.any ms.contains) = true then none else (match stepO O P E (aeval E t) H fid o with
            | some (v, H') => evM rest (putT t o.dst v) H' ms es
            | none => none)))
def evMR (t : List AV) (H : AH) : Option (List AV × AH) :=
  match withIds E ops.toList H.length with
  | (o, _) :: rest => (match o.guard, o.op, o.dst with
    | none, .makeMap _ none, some d => if d < t.length then evM O P E rest (putT t (some d) .undef) (grow H (idCount E ops.toList)) [d] [] else none
    | _, _, _ => none)
  | [] => none
end

section
variable {O : Orc} {P : Program} {E : Env} {ops : Array Oper}

theorem keyDesc_some {ty : TypeId} {kd : TypeDesc} {et : TypeId} (h : keyDesc P ty = some (kd, et)) : ∃ kt, P.underlying ty = some (.map kt et) ∧ P.underlying kt = some kd := by
  unfold keyDesc at h
  split at h
  · rename_i kt et' hu
    cases hk : P.underlying kt with
    | none => rw [hk] at h; cases h
    | some d =>
      rw [hk] at h
      simp only [Option.map_some, Option.some.injEq, Prod.mk.injEq] at h
      obtain ⟨rfl, rfl⟩ := h
      exact ⟨kt, hu, hk⟩
  · cases h

/-- How things stand while the map is made. -/
structure MapAt (g0 : Gh) (H0 : AH) (w0 : World) (g : Gh) (H : AH) (w : World) (b : Nat) (es : List (AV × AV)) : Prop where
  R : Rel g H w
  p : Post g0 H0 w0 g H w
  new : w0.heap.size ≤ b
  lt : b < w.heap.size
  own : ∀ id e, g.M id = some e → e.block ≠ b
  obj : ∃ (M : Array MapEntry) (c : Nat), w.heap[b]? = some (.map M c) ∧ Ents g es M.toList

theorem MapAt.set {g0 g : Gh} {H0 H : AH} {w0 w : World} {b : Nat} {es es' : List (AV × AV)} (h : MapAt g0 H0 w0 g H w b es) {M : Array MapEntry} {c : Nat} (he : Ents g es' M.toList) :
    MapAt g0 H0 w0 g H { w with heap := w.heap.setIfInBounds b (.map M c) } b es' := by
  obtain ⟨M0, c0, hb, _⟩ := h.obj
  have hh := MapKept.heap_set (o' := .map M c) hb
  have hG : ∀ i, g.G b i = none := fun i => by
    cases hg : g.G b i with
    | none => rfl
    | some v =>
      have := h.R.imm b i v hg
      simp [World.cell?, hb] at this
  refine ⟨⟨?_, h.R.free, ?_, h.R.inj, ?_⟩, ⟨h.p.le, h.p.hid, h.p.new, ?_, by simpa using h.p.size, h.p.os, h.p.tape, h.p.output⟩, h.new, by simpa using h.lt, h.own, ⟨M, c, hh.1, he⟩⟩
  · intro b' i v hv
    by_cases hbb : b' = b
    · subst hbb; rw [hG] at hv; cases hv
    · exact (cell?_of_heap (hh.2 b' hbb)).trans (h.R.imm b' i v hv)
  · intro id e he hne
    obtain ⟨ge, hM, hr⟩ := h.R.ent id e he hne
    exact ⟨ge, hM, hr.keep (Gh.le_refl g) (hh.2 _ (h.own id ge hM)) (fun _ => rfl)⟩
  · intro id e he
    simpa using h.R.blk id e he
  · intro b' hb' hn
    obtain ⟨h1, h2⟩ := h.p.old b' hb' hn
    have := h.new
    exact ⟨(hh.2 b' (by omega)).trans h1, h2⟩

theorem MapAt.step {g0 g g' : Gh} {H0 H H' : AH} {w0 w w' : World} {b : Nat} {es : List (AV × AV)} (R0 : Rel g0 H0 w0) (h : MapAt g0 H0 w0 g H w b es) (R' : Rel g' H' w') (p' : Post g H w g' H' w') : MapAt g0 H0 w0 g' H' w' b es := by
  obtain ⟨M, c, hb, he⟩ := h.obj
  have hlt := h.lt
  have hs := p'.size
  refine ⟨R', Post.trans R0 h.p p', h.new, by omega, ?_, ⟨M, c, ?_, he.mono p'.le⟩⟩
  · intro id e hM
    rcases p'.new id e hM with ⟨e0, h0, hbk⟩ | h0
    · rw [← hbk]; exact h.own id e0 h0
    · omega
  · exact (p'.old b hlt fun id e ge _ _ hM => h.own id ge hM).1.trans hb

/-- The slots that hold the map. -/
def Holds (a : Act) (b : Nat) (ms : List Tmp) : Prop := ∀ m ∈ ms, a.tmps[m]? = some (.map (some b))
theorem Holds.put {a : Act} {b : Nat} {ms : List Tmp} (h : Holds a b ms) {dst : Option Tmp} {u : Value} (hd : ∀ d, dst = some d → d ∉ ms) : Holds (a.put dst u) b ms := by
  intro m hm
  cases dst with
  | none => exact h m hm
  | some d =>
    have : d ≠ m := fun e => hd d rfl (e ▸ hm)
    simp only [Act.put]
    rw [Array.getElem?_setIfInBounds_ne this]
    exact h m hm
theorem Holds.eval {a : Act} {b : Nat} {ms : List Tmp} (h : Holds a b ms) {m : Tmp} (hm : ms.contains m = true) : a.eval (.tmp m) = .map (some b) := by
  have := h m (by simpa using hm)
  simp only [Act.eval]
  rw [Array.getD_eq_getD_getElem?, this]
  rfl

theorem wanted_none {o : Oper} {b : Nat → Option Bool} (h : o.guard = none) : Region.wanted o b = true := by
  unfold Region.wanted
  rw [h]

theorem evM_ok (hS : Sound P E O) (hM : MethOk P E) {Q : Exit → Act → World → Prop} {g0 : Gh} {H0 : AH} {w0 : World} (R0 : Rel g0 H0 w0) {b : Nat} : ∀ (ps : List (Oper × Nat)) (is : List Nat) {g : Gh} {H : AH} {w : World} {tmps : List AV} {a : Act} {ms : List Tmp} {es : List (AV × AV)}
    {tmps' : List AV} {H' : AH}, evM O P E ps tmps H ms es = some (tmps', H') → All2 (fun i p => ops[i]? = some p.1) is ps → Ready E H ps → MapAt g0 H0 w0 g H w b es → Holds a b ms → GlobOk E g → RepL g tmps a.tmps.toList → a.defers = [] →
    (∀ g' a' w', Rel g' H' w' → Post g0 H0 w0 g' H' w' → RepL g' tmps' a'.tmps.toList → a'.defers = [] → Q .normal a' w') → wpOps P ops Q is a w
  | [], is, g, H, w, tmps, a, ms, es, tmps', H', h, hf, _, A, _, hG, hT, hd, hQ => by
    cases hf
    simp only [evM] at h
    injection h with h; simp only [Prod.mk.injEq] at h; obtain ⟨rfl, rfl⟩ := h
    exact hQ g a w A.R A.p hT hd
  | (o, fid) :: ps, is, g, H, w, tmps, a, ms, es, tmps', H', h, hf, hr, A, hm, hG, hT, hd, hQ => by
    cases hf with
    | cons hi hf =>
      rename_i i is
      cases hr with
      | cons _ _ r1 r2 r3 =>
        have plain : ∀ {v : AV} {H1 : AH}, stepO O P E (aeval E tmps) H fid o = some (v, H1) → (∀ d, o.dst = some d → d ∉ ms) → evM O P E ps (putT tmps o.dst v) H1 ms es = some (tmps', H') → o.wp P a w (wpOps P ops Q is) Q := by
          intro v H1 hst hdm h
          refine stepO_ok hS hM A.R hG hT r1 hst fun g' u w' R' p' hv => ?_
          obtain ⟨f1, f2⟩ := stepO_free hS hst
          refine evM_ok hS hM R0 ps is h hf (Ready.step (p := (o, fid)) r3 f1 fun q hq hn hl hfr => ?_) (A.step R0 R' p') (hm.put hdm) (hG.mono p'.le) (putT_ok (RepL.mono p'.le _ _ hT) hv) (by rw [put_defers]; exact hd) hQ
          refine f2 q.2 hl hfr ?_
          by_cases hno : needsId E o.op = true
          · exact .inl (r2 hno q hq hn)
          · exact .inr (by simpa using hno)
        have r3' : ∀ {ps'}, ps' = ps → Ready E H ps' := fun e => e ▸ r3
        simp only [evM] at h
        simp only [wpOps, hi]
        split at h
        · cases h
        · rename_i hgd
          rw [wanted_none hgd]
          simp only [if_true]
          refine .inl ?_
          obtain ⟨M, c, hb, he⟩ := A.obj
          split at h
          · rename_i ty m k v hop
            split at h
            · rename_i hmm
              split at h
              · rename_i kd et hkd
                obtain ⟨kt, hu, hk⟩ := keyDesc_some hkd
                split at h
                · rename_i hko
                  split at h
                  · rename_i hfa
                    split at h
                    · rename_i hdn
                      have hdn : o.dst = none := by simpa using hdn
                      have hkr := aeval_ok hG hT k
                      have hvr := aeval_ok hG hT v
                      have hfn : Instr.findNow kd (a.eval k) M.toList 0 = some none := by
                        rcases findA_now hko hkr 0 hfa he with ⟨_, h1⟩ | ⟨v', j, u, h0, _⟩
                        · exact h1
                        · cases h0
                      have hrun : (execOp a.eval o).run P w = .ok .skip { w with heap := w.heap.setIfInBounds b (.map (M.push { key := a.eval k, val := a.eval v, born := c }) (c + 1)) } := by
                        unfold execOp
                        simp only [hop]
                        rw [hm.eval hmm]
                        simp [Instr.mapUpdate, run_underlying hu, MapKept.run_getObj_map hb, MapKept.run_checkKey hk (kdOk_key hko hkr), MapKept.run_findKey hk hfn, MapKept.run_setObj_map _ hb, Result.andThen]
                      unfold Oper.wp
                      rw [hrun]
                      simp only [Oper.upon, hdn, Act.put]
                      refine evM_ok hS hM R0 ps is h hf r3 (A.set (c := c + 1) (M := M.push { key := a.eval k, val := a.eval v, born := c }) ?_) hm hG hT hd hQ
                      rw [Array.toList_push]
                      exact he.snoc hkr hvr
                    · cases h
                  · cases h
                · cases h
              · cases h
            · cases h
          · rename_i ty m k hop
            split at h
            · rename_i hmm
              split at h
              · rename_i kd et hkd
                obtain ⟨kt, hu, hk⟩ := keyDesc_some hkd
                split at h
                · rename_i hko
                  have hkr := aeval_ok hG hT k
                  have fin : ∀ {v : AV} {u : Value} {d : Tmp}, RepV g v u → o.dst = some d → ms.contains d = false → evM O P E ps (putT tmps (some d) v) H ms es = some (tmps', H') →
                      (Instr.lookup ty (.map (some b)) (a.eval k) false).run P w = .ok u w → o.wp P a w (wpOps P ops Q is) Q := by
                    intro v u d hv hod hmd h hrun
                    have hex : (execOp a.eval o).run P w = .ok (.value u) w := by
                      unfold execOp
                      simp only [hop]
                      rw [hm.eval hmm]
                      simp [hrun, Result.andThen]
                    unfold Oper.wp
                    rw [hex]
                    simp only [Oper.upon, hod]
                    exact evM_ok hS hM R0 ps is h hf r3 A (hm.put fun d' hd' => by injection hd' with hd'; subst hd'; simpa using hmd) hG (putT_ok hT hv) (by rw [put_defers]; exact hd) hQ
                  split at h
                  · rename_i v d hfa hod
                    split at h
                    · cases h
                    · rename_i hmd
                      rcases findA_now hko hkr 0 hfa he with ⟨h0, _⟩ | ⟨v', j, u, h0, h1, h2⟩
                      · cases h0
                      · injection h0 with h0
                        subst h0
                        exact fin h2 hod (by simpa using hmd) h (by simp [Instr.lookup, run_underlying hu, MapKept.run_getObj_map hb, MapKept.run_checkKey hk (kdOk_key hko hkr), MapKept.run_findKey hk h1, Result.andThen])
                  · rename_i z d hfa hz hod
                    split at h
                    · cases h
                    · rename_i hmd
                      obtain ⟨inf, zv, hinf, hzv, hzr⟩ := zeroAV_ok hz
                      have hzrun : (zeroValue et).run P w = .ok zv w := by simp [zeroValue, typeInfo, hinf, hzv, Result.andThen]
                      rcases findA_now hko hkr 0 hfa he with ⟨_, h1⟩ | ⟨v', j, u, h0, _⟩
                      · exact fin (hzr g) hod (by simpa using hmd) h (by simp [Instr.lookup, run_underlying hu, MapKept.run_getObj_map hb, MapKept.run_checkKey hk (kdOk_key hko hkr), MapKept.run_findKey hk h1, hzrun, Result.andThen])
                      · cases h0
                  · cases h
                · cases h
              · cases h
            · cases h
          · rename_i m hop
            split at h
            · rename_i hmm
              split at h
              · rename_i d hod
                have hex : (execOp a.eval o).run P w = .ok (.value (.map (some b))) w := by
                  unfold execOp
                  simp only [hop]
                  rw [hm.eval hmm]
                  rfl
                unfold Oper.wp
                rw [hex]
                simp only [Oper.upon, hod]
                refine evM_ok hS hM R0 ps is h hf r3 A ?_ hG (putT_ok hT (by simp [RepV])) (by rw [put_defers]; exact hd) hQ
                have hsz : a.tmps.size = tmps.length := by have := hT.length; simpa using this
                intro m' hm'
                by_cases he' : m' = d
                · subst he'
                  by_cases hl : m' < tmps.length
                  · simp only [Act.put]
                    rw [Array.getElem?_setIfInBounds_self_of_lt (by rw [hsz]; exact hl)]
                  · rw [if_neg hl] at hm'
                    have := hm m' hm'
                    have hlt := (Array.getElem?_eq_some_iff.1 this).1
                    rw [hsz] at hlt
                    exact absurd hlt hl
                · have hmm' : m' ∈ ms := by
                    split at hm'
                    · rcases List.mem_cons.1 hm' with h1 | h1
                      · exact absurd h1 he'
                      · exact h1
                    · exact hm'
                  simp only [Act.put]
                  rw [Array.getElem?_setIfInBounds_ne (fun e => he' e.symm)]
                  exact hm m' hmm'
              · cases h
            · split at h
              · rename_i d hod
                split at h
                · cases h
                · rename_i hmd
                  split at h
                  · rename_i v H1 hst
                    exact plain hst (fun d' hd' => by rw [hod] at hd'; injection hd' with hd'; subst hd'; simpa using hmd) (by rw [hod]; exact h)
                  · cases h
              · cases h
          · split at h
            · cases h
            · rename_i hmd
              split at h
              · rename_i v H1 hst
                refine plain hst (fun d' hd' => ?_) h
                rw [hd'] at hmd
                simpa using hmd
              · cases h

theorem evMR_ok (hS : Sound P E O) (hM : MethOk P E) {Q : Exit → Act → World → Prop} {id : Nat} {g : Gh} {H : AH} {w : World} {tmps tmps' : List AV} {a : Act} {H' : AH} (h : evMR O P E ops tmps H = some (tmps', H'))
    (R : Rel g H w) (hG : GlobOk E g) (hT : RepL g tmps a.tmps.toList) (hd : a.defers = [])
    (hQ : ∀ g' a' w', Rel g' H' w' → Post g H w g' H' w' → RepL g' tmps' a'.tmps.toList → a'.defers = [] → Q .normal a' w') : (Code.region id ops false).wp P Q a w := by
  refine wp_region ?_
  have hf := forall_withIds (E := E) ops ops.toList H.length 0 (fun j => by simp)
  rw [Array.length_toList, ← List.range_eq_range'] at hf
  have hrd := ready_withIds H 0 (fun _ _ _ => trivial) ops.toList H.length (E := E) (grow H (idCount E ops.toList)) (fun id hid => by
    rw [at_grow]
    unfold AH.at
    rw [List.getElem?_eq_none hid]
    rfl) (by rw [grow_eq]; simp)
  unfold evMR at h
  generalize withIds E ops.toList H.length = ps at hf hrd h
  generalize List.range ops.size = is at hf ⊢
  cases hf with
  | nil => cases h
  | cons hi hf =>
    rename_i i p is ps
    obtain ⟨o, fid⟩ := p
    simp only at h
    cases hrd with
    | cons _ _ r1 r2 r3 =>
      split at h
      · rename_i ty d hgd hop hod
        split at h
        · rename_i hl
          simp only [wpOps, hi]
          rw [wanted_none hgd]
          simp only [if_true]
          refine .inl ?_
          have hex : (execOp a.eval o).run P w = .ok (.value (.map (some w.heap.size))) (w.alloc (.map #[] 0)) := by
            unfold execOp
            simp only [hop]
            rfl
          unfold Oper.wp
          rw [hex]
          simp only [Oper.upon, hod]
          have hsz : a.tmps.size = tmps.length := by have := hT.length; simpa using this
          have hold : ∀ b, b < w.heap.size → (w.alloc (.map #[] 0)).heap[b]? = w.heap[b]? := fun b hb => (MapKept.heap_alloc w _).2 b hb
          have R1 : Rel g H (w.alloc (.map #[] 0)) := ⟨fun b i v h => (cell?_of_heap (hold b (R.lt h))).trans (R.imm b i v h), R.free, fun id e he hne => by
            obtain ⟨ge, hM, hr⟩ := R.ent id e he hne
            exact ⟨ge, hM, hr.keep (Gh.le_refl g) (hold _ (R.blk id ge hM)) (fun _ => rfl)⟩, R.inj, fun id e he => by have := R.blk id e he; simp; omega⟩
          have A : MapAt g (grow H (idCount E ops.toList)) w g (grow H (idCount E ops.toList)) (w.alloc (.map #[] 0)) w.heap.size [] :=
            ⟨R1.grow _, ⟨g.le_refl, fun _ h => ⟨rfl, h⟩, fun _ e h => .inl ⟨e, h, rfl⟩, fun b hb _ => ⟨hold b hb, fun _ => rfl⟩, by simp, rfl, rfl, rfl⟩, Nat.le_refl _, by simp, fun id e he => by have := R.blk id e he; omega, ⟨#[], 0, (MapKept.heap_alloc w _).1, .nil⟩⟩
          refine evM_ok hS hM (R.grow _) ps is h hf r3 A ?_ hG (putT_ok hT (by simp [RepV])) (by rw [put_defers]; exact hd) (fun g' a' w' R' p' => hQ g' a' w' R' p'.ungrow)
          intro m hm
          rcases List.mem_cons.1 hm with rfl | hm
          · simp only [Act.put]
            rw [Array.getElem?_setIfInBounds_self_of_lt (by rw [hsz]; exact hl)]
          · cases hm
        · cases h
      · cases h

theorem Tr.mapR {B : Bs} (X : Cx O P E) (hG : GlobOk E B.g) {id : Nat} {t : List AV} {H : AH} {Q : AEx → List AV → AH → Prop}
    (h : WS (evMR O P E ops t H) fun r => Q .normal r.1 r.2) : Tr P B (.region id ops false) t H Q := by
  intro Q' a w hs k
  obtain ⟨g, R, p, hT, hd⟩ := hs
  cases hr : evMR O P E ops t H with
  | none => rw [hr] at h; exact h.elim
  | some x =>
    obtain ⟨t', H'⟩ := x
    rw [hr] at h
    exact evMR_ok X.sound X.meth hr R (hG.mono p.le) hT hd fun g' a' w' R' p' hT' hd' => k .normal _ _ _ _ h ⟨g', R', Post.trans B.R p p', hT', hd'⟩
end

/-! The walk that stops at such regions, too. -/
def isMapOp : Op → Bool
  | .makeMap _ _ => true
  | _ => false
def isMap (ops : Array Oper) : Bool :=
  match ops.toList with
  | o :: _ => isMapOp o.op
  | [] => false
theorem isMap_cons (o : Oper) (l : List Oper) : isMap (o :: l).toArray = isMapOp o.op := nrfl rfl
theorem isMap_nil : isMap #[] = false := nrfl rfl
def softM : Code → Code
  | .region id ops true => .loop (.scope (.region id ops true))
  | .region id ops false => if isMap ops = true then .loop (.scope (.region id ops false)) else .region id ops false
  | .seq a b => .seq (softM a) (softM b)
  | .cond c a b => .cond c (softM a) (softM b)
  | .block id c => .block id (softM c)
  | c => c
theorem softM_draw (id : Nat) (ops : Array Oper) : softM (.region id ops true) = .loop (.scope (.region id ops true)) := nrfl rfl
theorem softM_region (id : Nat) (ops : Array Oper) : softM (.region id ops false) = if isMap ops = true then .loop (.scope (.region id ops false)) else .region id ops false := nrfl rfl
theorem softM_seq (a b : Code) : softM (.seq a b) = .seq (softM a) (softM b) := nrfl rfl
theorem softM_cond (c : Operand) (a b : Code) : softM (.cond c a b) = .cond c (softM a) (softM b) := nrfl rfl
theorem softM_block (id : Nat) (c : Code) : softM (.block id c) = .block id (softM c) := nrfl rfl
theorem softM_loop (c : Code) : softM (.loop c) = .loop c := nrfl rfl
theorem softM_skip : softM .skip = .skip := nrfl rfl
theorem softM_ret : softM .ret = .ret := nrfl rfl
theorem softM_exit (id : Nat) : softM (.exit id) = .exit id := nrfl rfl
attribute [simp] softM_draw softM_region softM_seq softM_cond softM_block softM_loop softM_skip softM_ret softM_exit isMap_cons isMap_nil
attribute [simp] isMapOp

section
variable {O : Orc} {P : Program} {E : Env} {B : Bs}
theorem Wt.softM (X : Cx O P E) (hG : GlobOk E B.g) : ∀ {c : Code} {t : List AV} {H : AH} {Q : AEx → List AV → AH → Prop}, okSoft c = true → Wt O P E (LpD P B) (softM c) t H Q → Tr P B c t H Q
  | .skip, t, H, Q, _, h => Tr.skip h
  | .region id ops false, t, H, Q, _, h => by
    rw [softM_region] at h
    split at h
    · exact h
    · exact Tr.run X hG (by simp [okDraws]) h
  | .region id ops true, t, H, Q, _, h => h
  | .seq a b, t, H, Q, hd, h => by
    simp only [okSoft, Bool.and_eq_true] at hd
    simp only [Fw.softM, Wt] at h
    refine Tr.seq (Tr.mono (Wt.softM X hG hd.1 h) ?_)
    intro e t1 H1 h1
    cases e with
    | normal => exact Wt.softM X hG hd.2 h1
    | exit id => exact h1
    | ret => exact h1
  | .cond c a b, t, H, Q, hd, h => by
    simp only [okSoft, Bool.and_eq_true] at hd
    simp only [Fw.softM, Wt] at h
    unfold WB at h
    split at h
    · rename_i v hv
      exact Tr.cond hG v hv (fun e => Wt.softM X hG hd.1 (h.1 e)) (fun e => Wt.softM X hG hd.2 (h.2 e))
    · exact h.elim
  | .block id c, t, H, Q, hd, h => by
    simp only [okSoft] at hd
    simp only [Fw.softM, Wt] at h
    exact Tr.block (Wt.softM X hG hd h)
  | .exit id, t, H, Q, _, h => Tr.exit h
  | .ret, t, H, Q, _, h => Tr.ret h
  | .loop c, t, H, Q, hd, h => by
    simp only [Fw.softM, Wt] at h
    cases c <;> first | exact h | cases hd
  | .rangeFunc _ _ _ _, _, _, _, _, h => h.elim
  | .scope _, _, _, _, hd, _ => by cases hd
  | .label _, _, _, _, _, h => h.elim
  | .goto _, _, _, _, _, h => h.elim
  | .refuse _, _, _, _, _, h => h.elim

theorem Tr.goM (X : Cx O P E) (hG : GlobOk E B.g) {c : Code} {t : List AV} {H : AH} {Q : AEx → List AV → AH → Prop} (hd : okSoft c = true) (h : Go O P E (LpD P B) (softM c) [] t H Q) : Tr P B c t H Q := Wt.softM X hG hd h

theorem LpD.mapR {Lp : LoopP} {ks0 : List Fr} (X : Cx O P E) (hG : GlobOk E B.g) {id : Nat} {ops : Array Oper} {t : List AV} {H : AH} {Q : AEx → List AV → AH → Prop}
    (h : WS (evMR O P E ops t H) fun r => Go O P E Lp .skip ks0 r.1 r.2 Q) : LpD P B (.scope (.region id ops false)) t H (unwind O P E Lp ks0 Q) :=
  Tr.mapR X hG (by simpa only [unwind_normal] using h)
end

/-! A contract of the kit's whose callee looks at the cells it is handed. -/
theorem CS.of_calls2 {P : Program} {E : Env} {f : FuncId} {args : List AV} {v : AV} {H : AH}
    (h : ∀ g w cargs, Rel g H w → RepL g args cargs → Calls P f (List.toArray cargs) w fun e w' => ∃ cv, e = .returned cv ∧ (∀ g, RepV g v cv) ∧ Below w.heap.size w w') : CS P E f args H v H := by
  intro g w cargs R hG hA
  refine (h g w cargs R hA).mono ?_
  rintro e w' ⟨cv, rfl, hr, hb⟩
  obtain ⟨R', p⟩ := R.below hb
  exact ⟨g, cv, rfl, R', p, hr g⟩
end Go.Proofs.Fw

