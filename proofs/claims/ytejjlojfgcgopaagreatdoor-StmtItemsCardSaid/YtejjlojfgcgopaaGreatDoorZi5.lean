/- Regions that draw their order and turn the heap; regions tha .. The program's reader of expressions: factor, and so all part -/
import Derived.Test.YtejjlojfgcgopaaGreatDoorZi3
import Derived.Test.YtejjlojfgcgopaaGreatDoorZi4
import Derived.MapKept
import Derived.Test.YtejjlojfgcgopaaGreatDoorChecked
import Derived.Lib.Strings
import Derived.Lib.Walk
import Derived.Lib.BufferWrite
import Derived.Lib.UnsafeStr
import Derived.Lib.Hide
import Derived.Laws.MakeOwn
import Derived.WalkKit
import Derived.KernelRfl
set_option linter.unusedSimpArgs false
set_option linter.unusedVariables false
namespace Go.Proofs.Fw
open Go.RowKit
def chkSyn1 (ops : Array Oper) (k : Nat) : List (Nat × Nat × Oper) → Bool
  | [] => true
  | r :: rs => rs.all (fun s => s.2.1.testBit r.1 || (!(r.1 == k) && !(s.1 == k) && r.2.2.apart ops s.2.2)) && chkSyn1 ops k rs
theorem chk_syn1 {ops : Array Oper} {k : Nat} : ∀ (l : List Item), (∀ r ∈ l, r.i ≠ k → r.u = []) → chkSyn1 ops k (l.map Item.syn) = true → chk ops l = true
  | [], _, _ => rfl
  | r :: l, h, hc => by
    simp only [List.map_cons, chkSyn1, Bool.and_eq_true] at hc
    simp only [chk, Bool.and_eq_true]
    refine ⟨?_, chk_syn1 l (fun q hq => h q (List.mem_cons_of_mem _ hq)) hc.2⟩
    rw [List.all_eq_true]
    intro q hq
    have h1 := List.all_eq_true.1 hc.1 q.syn (List.mem_map_of_mem hq)
    simp only [Item.syn, Bool.or_eq_true, Bool.and_eq_true, Bool.not_eq_true', beq_eq_false_iff_ne] at h1
    simp only [okPair, Bool.or_eq_true, Bool.and_eq_true]
    rcases h1 with h1 | ⟨⟨h1, h2⟩, h3⟩
    · exact .inl h1
    · refine .inr ⟨h3, ?_⟩
      simp [footApart, h r List.mem_cons_self h1, h q (List.mem_cons_of_mem _ hq) h2]
theorem evD_append {O : Orc} {P : Program} {E : Env} {ops : Array Oper} : ∀ (l1 l2 : List (Oper × Nat)) (i : Nat) (ms : List Nat) {t t1 t2 : List AV} {H H1 H2 : AH} {a b : List Item},
    evD O P E ops i ms l1 t H = some (t1, H1, a) → evD O P E ops (i + l1.length) ms l2 t1 H1 = some (t2, H2, b) → evD O P E ops i ms (l1 ++ l2) t H = some (t2, H2, a ++ b)
  | [], l2, i, ms, t, t1, t2, H, H1, H2, a, b, h1, h2 => by
    simp only [evD, Option.some.injEq, Prod.mk.injEq] at h1
    obtain ⟨rfl, rfl, rfl⟩ := h1
    simpa using h2
  | p :: l1, l2, i, ms, t, t1, t2, H, H1, H2, a, b, h1, h2 => by
    simp only [evD] at h1
    split at h1
    · rename_i v u S hd
      split at h1
      · rename_i t' K l hr
        simp only [Option.some.injEq, Prod.mk.injEq] at h1
        obtain ⟨rfl, rfl, rfl⟩ := h1
        have := evD_append l1 l2 (i + 1) ms hr (by rw [List.length_cons] at h2; rw [show i + 1 + l1.length = i + (l1.length + 1) by omega]; exact h2)
        simp only [List.cons_append, evD, hd, this]
      · cases h1
    · cases h1
theorem synItems_append : ∀ (l1 l2 : List (Oper × Nat)) (i : Nat) (ms : List Nat), synItems i ms (l1 ++ l2) = synItems i ms l1 ++ synItems (i + l1.length) ms l2
  | [], l2, i, ms => by simp [synItems]
  | p :: l1, l2, i, ms => by
    simp only [List.cons_append, synItems, synItems_append l1 l2 (i + 1) ms, List.length_cons]
    rw [show i + 1 + l1.length = i + (l1.length + 1) by omega]
theorem evDraw_solid {O : Orc} {P : Program} {E : Env} {ops : Array Oper} {t t1 t2 : List AV} {H : AH} {k : Nat} {l1 l2 : List (Oper × Nat)} {p : Oper × Nat} {v : AV} {u : Ups} {S : List Nat} (h0 : idCount E ops.toList = 0)
    (hl : withIds E ops.toList H.length = l1 ++ p :: l2) (hk : l1.length = k) (h1 : evP O P E ops l1 t H = some t1) (hp : dstep O P E ops t1 H p = some (v, u, S)) (h2 : evP O P E ops l2 (putT t1 p.1.dst v) (applyUps H u) = some t2)
    (hs : chkSyn1 ops k (synItems 0 (masksFrom [] ops.toList) (withIds E ops.toList H.length)) = true) (hb : backOnly 0 ops.toList = true) : evDraw O P E ops t H = some (t2, applyUps H u) := by
  obtain ⟨a, a1, a2, a3⟩ := evP_evD l1 0 (masksFrom [] ops.toList) h1
  obtain ⟨b, b1, b2, b3⟩ := evP_evD l2 (0 + l1.length + 1) (masksFrom [] ops.toList) h2
  have hmid : evD O P E ops (0 + l1.length) (masksFrom [] ops.toList) (p :: l2) t1 H = some (t2, applyUps H u, ⟨0 + l1.length, (masksFrom [] ops.toList).getD (0 + l1.length) 0, p, v, u, S⟩ :: b) := by
    simp only [evD, hp, b1]
  have hall := evD_append l1 (p :: l2) 0 (masksFrom [] ops.toList) a1 hmid
  rw [← hl] at hall
  have hsyn : (a ++ (⟨0 + l1.length, (masksFrom [] ops.toList).getD (0 + l1.length) 0, p, v, u, S⟩ : Item) :: b).map Item.syn = synItems 0 (masksFrom [] ops.toList) (withIds E ops.toList H.length) := by
    rw [hl, synItems_append, List.map_append, List.map_cons, a3, b3]
    rfl
  have hg : grow H (idCount E ops.toList) = H := by rw [h0]; rfl
  have hu : ∀ r ∈ a ++ (⟨0 + l1.length, (masksFrom [] ops.toList).getD (0 + l1.length) 0, p, v, u, S⟩ : Item) :: b, r.i ≠ k → r.u = [] := by
    intro r hr hrk
    rcases List.mem_append.1 hr with hr | hr
    · exact a2 r hr
    · rcases List.mem_cons.1 hr with rfl | hr
      · exact absurd (by simpa using hk) hrk
      · exact b2 r hr
  unfold evDraw
  rw [hg, hall]
  simp only
  rw [if_pos ⟨chk_syn1 (k := k) _ hu (by rw [hsyn]; exact hs), hb⟩]
def okDraw1 (E : Env) (k : Nat) (ops : Array Oper) : Bool := (idCount E ops.toList == 0) && chkSyn1 ops k (synOf 0 (masksFrom [] ops.toList) ops.toList) && backOnly 0 ops.toList
def Sol (O : Orc) (P : Program) (E : Env) (ops : Array Oper) (k : Nat) (t1 : List AV) (H : AH) (Q : AEx → List AV → AH → Prop) : Prop :=
  ∃ p v u S, (withIds E ops.toList H.length)[k]? = some p ∧ dstep O P E ops t1 H p = some (v, u, S) ∧ GoP O P E noLoop ops ((withIds E ops.toList H.length).drop (k + 1)) [] (putT t1 p.1.dst v) (applyUps H u) Q
theorem Tr.solid {O : Orc} {P : Program} {E : Env} {B : Bs} (X : Cx O P E) (hG : GlobOk E B.g) (k : Nat) {id : Nat} {ops : Array Oper} {t : List AV} {H : AH} {Q : AEx → List AV → AH → Prop} (hd : okDraw1 E k ops = true)
    (h : GoP O P E noLoop ops ((withIds E ops.toList H.length).take k) [] t H fun _ t1 _ => Sol O P E ops k t1 H Q) : Tr P B (.region id ops true) t H Q := by
  simp only [okDraw1, Bool.and_eq_true, beq_iff_eq] at hd
  have h' := WPx.sound (O := O) (P := P) (E := E) h
  unfold WP at h'
  cases h1 : evP O P E ops ((withIds E ops.toList H.length).take k) t H with
  | none => rw [h1] at h'; exact h'.elim
  | some t1 =>
    rw [h1] at h'
    obtain ⟨p, v, u, S, hp, hst, hr⟩ := h'
    have hr' := WPx.sound (O := O) (P := P) (E := E) hr
    unfold WP at hr'
    cases h2 : evP O P E ops ((withIds E ops.toList H.length).drop (k + 1)) (putT t1 p.1.dst v) (applyUps H u) with
    | none => rw [h2] at hr'; exact hr'.elim
    | some t2 =>
      rw [h2] at hr'
      obtain ⟨hlt, hget⟩ := List.getElem?_eq_some_iff.1 hp
      have hl : withIds E ops.toList H.length = (withIds E ops.toList H.length).take k ++ p :: (withIds E ops.toList H.length).drop (k + 1) := by
        rw [← hget, ← List.drop_eq_getElem_cons hlt, List.take_append_drop]
      have hev := evDraw_solid (k := k) hd.1.1 hl (by rw [List.length_take]; omega) h1 hst h2 (by rw [syn_withIds]; exact hd.1.2) hd.2
      refine Tr.of_W (n := 0) X.sound X.meth X.mix hG ?_
      rw [W_draw, hev]
      exact hr'
end Go.Proofs.Fw
namespace Go.Proofs.Fw
open Go.RowKit
abbrev Foot := Nat × List Nat × List Nat
def Item.foot (r : Item) : Foot := (r.i, r.u.map (·.1), r.S)
section
variable (O : Orc) (P : Program) (E : Env)
def WTr (ops : Array Oper) (ks bs : List Nat) : Nat → List (Oper × Nat) → List AV → AH → List Foot → (List AV → AH → List Foot → Prop) → Prop
  | _, [], t, H, fs, K => K t H fs
  | i, p :: l, t, H, fs, K => WG (wantedA ops t p.1)
      (WTr ops ks bs (i + 1) l (putT t p.1.dst .nothing) H (if bs.contains i = true then fs ++ [(i, [], [])] else fs) K)
      (WS (stepU O P E (aeval E t) (mask H (visIds E H (aeval E t) p)) p.2 (visIds E H (aeval E t) p) p.1) fun r =>
        (ks.contains i = true ∨ r.2 = []) ∧ (r.2.all fun q => (visIds E H (aeval E t) p).contains q.1) = true ∧
          WTr ops ks bs (i + 1) l (putT t p.1.dst r.1) (applyUps H r.2) (if bs.contains i = true then fs ++ [(i, r.2.map (·.1), visIds E H (aeval E t) p)] else fs) K)
end
section
variable {O : Orc} {P : Program} {E : Env}
theorem WTr.items {ops : Array Oper} {ks bs ms : List Nat} : ∀ {l : List (Oper × Nat)} {i : Nat} {t : List AV} {H : AH} {fs : List Foot} {K : List AV → AH → List Foot → Prop}, WTr O P E ops ks bs i l t H fs K →
    ∃ t1 H1 its, evD O P E ops i ms l t H = some (t1, H1, its) ∧ (∀ r ∈ its, ks.contains r.i = false → r.u = []) ∧ K t1 H1 (fs ++ (its.filter fun r => bs.contains r.i).map Item.foot)
  | [], i, t, H, fs, K, h => ⟨t, H, [], rfl, by simp, by rw [List.filter_nil, List.map_nil, List.append_nil]; exact h⟩
  | p :: l, i, t, H, fs, K, h => by
    simp only [WTr] at h
    unfold WG at h
    split at h
    · rename_i b hw
      cases b with
      | false =>
        obtain ⟨t1, H1, its, h1, h2, h3⟩ := WTr.items (ms := ms) (h.1 rfl)
        refine ⟨t1, H1, ⟨i, ms.getD i 0, p, .nothing, [], []⟩ :: its, ?_, ?_, ?_⟩
        · simp only [evD, dstep, hw, applyUps, h1]
        · intro r hr hk
          rcases List.mem_cons.1 hr with rfl | hr
          · rfl
          · exact h2 r hr hk
        · simp only [List.filter_cons]
          split
          · rename_i hb
            rw [if_pos hb, List.append_assoc] at h3
            exact h3
          · rename_i hb
            rw [if_neg hb] at h3
            exact h3
      | true =>
        have h := h.2 rfl
        cases hs : stepU O P E (aeval E t) (mask H (visIds E H (aeval E t) p)) p.2 (visIds E H (aeval E t) p) p.1 with
        | none => rw [hs] at h; exact h.elim
        | some r =>
          obtain ⟨v, u⟩ := r
          rw [hs] at h
          simp only [WS] at h
          obtain ⟨hk, hu, h⟩ := h
          obtain ⟨t1, H1, its, h1, h2, h3⟩ := WTr.items (ms := ms) h
          refine ⟨t1, H1, ⟨i, ms.getD i 0, p, v, u, visIds E H (aeval E t) p⟩ :: its, ?_, ?_, ?_⟩
          · simp only [evD, dstep, hw, hs, hu, if_true, h1]
          · intro r hr hk'
            rcases List.mem_cons.1 hr with rfl | hr
            · rcases hk with hk | hk
              · rw [hk] at hk'; cases hk'
              · exact hk
            · exact h2 r hr hk'
          · simp only [List.filter_cons]
            split
            · rename_i hb
              rw [if_pos hb, List.append_assoc] at h3
              exact h3
            · rename_i hb
              rw [if_neg hb] at h3
              exact h3
    · exact h.elim
def chkB (ops : Array Oper) (ks : List Nat) (bad : List (Nat × Nat)) : List (Nat × Nat × Oper) → Bool
  | [] => true
  | r :: rs => rs.all (fun s => s.2.1.testBit r.1 || (r.2.2.apart ops s.2.2 && ((!(ks.contains r.1) && !(ks.contains s.1)) || bad.contains (r.1, s.1)))) && chkB ops ks bad rs
def footsApart (a b : Foot) : Bool := (a.2.1.all fun q => !(b.2.2.contains q)) && (b.2.1.all fun q => !(a.2.2.contains q))
def badOk (f : List Foot) : List (Nat × Nat) → Bool
  | [] => true
  | (i, j) :: r => (match f.find? (fun x => x.1 == i), f.find? (fun x => x.1 == j) with
    | some a, some b => footsApart a b
    | _, _ => false) && badOk f r
theorem badOk_at {f : List Foot} : ∀ {bad : List (Nat × Nat)}, badOk f bad = true → ∀ {i j : Nat}, (i, j) ∈ bad → ∃ a b, f.find? (fun x => x.1 == i) = some a ∧ f.find? (fun x => x.1 == j) = some b ∧ footsApart a b = true
  | [], _, _, _, h => by cases h
  | (i', j') :: bad, hb, i, j, h => by
    simp only [badOk, Bool.and_eq_true] at hb
    rcases List.mem_cons.1 h with h | h
    · injection h with h1 h2
      subst h1; subst h2
      have h1 := hb.1
      split at h1
      · rename_i a b ha hb'
        exact ⟨a, b, ha, hb', h1⟩
      · cases h1
    · exact badOk_at hb.2 h
theorem find_foot : ∀ {l : List Item} {bs : List Nat} {r : Item}, (l.Pairwise fun a b => a.i ≠ b.i) → r ∈ l → bs.contains r.i = true → ((l.filter fun r => bs.contains r.i).map Item.foot).find? (fun x => x.1 == r.i) = some r.foot
  | [], _, _, _, h, _ => by cases h
  | a :: l, bs, r, hp, h, hb => by
    obtain ⟨h1, h2⟩ := List.pairwise_cons.1 hp
    rcases List.mem_cons.1 h with rfl | h
    · rw [List.filter_cons, if_pos hb, List.map_cons, List.find?_cons]
      simp [Item.foot]
    · have hne := h1 r h
      rw [List.filter_cons]
      split
      · have : ((a.foot).1 == r.i) = false := by simp [Item.foot, hne]
        rw [List.map_cons, List.find?_cons, this]
        exact find_foot h2 h hb
      · exact find_foot h2 h hb
theorem chk_of_B {ops : Array Oper} {ks : List Nat} {bad : List (Nat × Nat)} {L : List Item} (hL : L.Pairwise fun a b => a.i ≠ b.i) (hu : ∀ r ∈ L, ks.contains r.i = false → r.u = [])
    (hbad : badOk ((L.filter fun r => (bad.flatMap fun p => [p.1, p.2]).contains r.i).map Item.foot) bad = true) : ∀ (l : List Item), (∀ r ∈ l, r ∈ L) → chkB ops ks bad (l.map Item.syn) = true → chk ops l = true
  | [], _, _ => rfl
  | r :: l, hs, hc => by
    simp only [List.map_cons, chkB, Bool.and_eq_true] at hc
    simp only [chk, Bool.and_eq_true]
    refine ⟨?_, chk_of_B hL hu hbad l (fun q hq => hs q (List.mem_cons_of_mem _ hq)) hc.2⟩
    rw [List.all_eq_true]
    intro q hq
    have h1 := List.all_eq_true.1 hc.1 q.syn (List.mem_map_of_mem hq)
    simp only [Item.syn, Bool.or_eq_true, Bool.and_eq_true, Bool.not_eq_true'] at h1
    simp only [okPair, Bool.or_eq_true, Bool.and_eq_true]
    rcases h1 with h1 | ⟨h1, h2 | h2⟩
    · exact .inl h1
    · refine .inr ⟨h1, ?_⟩
      simp [footApart, hu r (hs r List.mem_cons_self) h2.1, hu q (hs q (List.mem_cons_of_mem _ hq)) h2.2]
    · refine .inr ⟨h1, ?_⟩
      have hm : (r.i, q.i) ∈ bad := by simpa using h2
      obtain ⟨a, b, ha, hb, hf⟩ := badOk_at hbad hm
      have m1 : (bad.flatMap fun p => [p.1, p.2]).contains r.i = true := by
        rw [List.contains_iff_mem, List.mem_flatMap]
        exact ⟨_, hm, by simp⟩
      have m2 : (bad.flatMap fun p => [p.1, p.2]).contains q.i = true := by
        rw [List.contains_iff_mem, List.mem_flatMap]
        exact ⟨_, hm, by simp⟩
      rw [find_foot hL (hs r List.mem_cons_self) m1] at ha
      rw [find_foot hL (hs q (List.mem_cons_of_mem _ hq)) m2] at hb
      injection ha with ha
      injection hb with hb
      subst ha; subst hb
      simp only [footsApart, Item.foot, Bool.and_eq_true, List.all_eq_true, List.mem_map, forall_exists_index, and_imp] at hf
      simp only [footApart, Bool.and_eq_true, List.all_eq_true]
      exact ⟨fun x hx => hf.1 _ x hx rfl, fun x hx => hf.2 _ x hx rfl⟩
theorem evD_syn {ops : Array Oper} {ms : List Nat} : ∀ {ps : List (Oper × Nat)} {i : Nat} {t : List AV} {H : AH} {t1 : List AV} {H1 : AH} {l : List Item}, evD O P E ops i ms ps t H = some (t1, H1, l) → l.map Item.syn = synItems i ms ps
  | [], i, t, H, t1, H1, l, h => by
    simp only [evD, Option.some.injEq, Prod.mk.injEq] at h
    obtain ⟨_, _, rfl⟩ := h
    rfl
  | p :: ps, i, t, H, t1, H1, l, h => by
    simp only [evD] at h
    split at h
    · split at h
      · rename_i he
        simp only [Option.some.injEq, Prod.mk.injEq] at h
        obtain ⟨_, _, rfl⟩ := h
        simp only [List.map_cons, synItems, Item.syn, evD_syn he]
      · cases h
    · cases h
def okDrawB (ops : Array Oper) (ks : List Nat) (bad : List (Nat × Nat)) : Bool := chkB ops ks bad (synOf 0 (masksFrom [] ops.toList) ops.toList) && backOnly 0 ops.toList
theorem Tr.turns {B : Bs} (X : Cx O P E) (hG : GlobOk E B.g) (ks : List Nat) (bad : List (Nat × Nat)) {id : Nat} {ops : Array Oper} {t : List AV} {H : AH} {Q : AEx → List AV → AH → Prop} (hd : okDrawB ops ks bad = true)
    (h : WTr O P E ops ks (bad.flatMap fun p => [p.1, p.2]) 0 (withIds E ops.toList H.length) t (grow H (idCount E ops.toList)) [] fun t1 H1 f => badOk f bad = true ∧ Q .normal t1 H1) : Tr P B (.region id ops true) t H Q := by
  simp only [okDrawB, Bool.and_eq_true] at hd
  obtain ⟨t1, H1, its, h1, h2, h3, h4⟩ := WTr.items (ms := masksFrom [] ops.toList) h
  obtain ⟨q1, q2, q3, q4⟩ := evD_items _ _ _ _ _ _ _ h1
  have hp : its.Pairwise fun a b => a.i ≠ b.i := by
    have : (its.map (·.i)).Pairwise (· ≠ ·) := by
      rw [q4]
      exact (List.pairwise_lt_range' ..).imp (fun h => Nat.ne_of_lt h)
    exact List.pairwise_map.1 this
  rw [List.nil_append] at h3
  have hsyn : its.map Item.syn = synItems 0 (masksFrom [] ops.toList) (withIds E ops.toList H.length) := evD_syn h1
  have hc : chk ops its = true := chk_of_B hp h2 h3 its (fun _ h => h) (by rw [hsyn, syn_withIds]; exact hd.1)
  refine Tr.of_W (n := 0) X.sound X.meth X.mix hG ?_
  rw [W_draw]
  unfold evDraw
  rw [h1]
  simp only
  rw [if_pos ⟨hc, hd.2⟩]
  exact h4
end
def soft : Code → Code
  | .region id ops true => .loop (.scope (.region id ops true))
  | .seq a b => .seq (soft a) (soft b)
  | .cond c a b => .cond c (soft a) (soft b)
  | .block id c => .block id (soft c)
  | c => c
theorem soft_draw (id : Nat) (ops : Array Oper) : soft (.region id ops true) = .loop (.scope (.region id ops true)) := nrfl rfl
theorem soft_region (id : Nat) (ops : Array Oper) : soft (.region id ops false) = .region id ops false := nrfl rfl
theorem soft_seq (a b : Code) : soft (.seq a b) = .seq (soft a) (soft b) := nrfl rfl
theorem soft_cond (c : Operand) (a b : Code) : soft (.cond c a b) = .cond c (soft a) (soft b) := nrfl rfl
theorem soft_block (id : Nat) (c : Code) : soft (.block id c) = .block id (soft c) := nrfl rfl
theorem soft_loop (c : Code) : soft (.loop c) = .loop c := nrfl rfl
theorem soft_skip : soft .skip = .skip := nrfl rfl
theorem soft_ret : soft .ret = .ret := nrfl rfl
theorem soft_exit (id : Nat) : soft (.exit id) = .exit id := nrfl rfl
attribute [simp] soft_draw soft_region soft_seq soft_cond soft_block soft_loop soft_skip soft_ret soft_exit
def okSoft : Code → Bool
  | .loop (.scope _) => false
  | .seq a b => okSoft a && okSoft b
  | .cond _ a b => okSoft a && okSoft b
  | .block _ c => okSoft c
  | .scope _ => false
  | _ => true
def LpD (P : Program) (B : Bs) : LoopP := fun c t H Q => match c with
  | .scope r => Tr P B r t H Q
  | c => Tr P B (.loop c) t H Q
section
variable {O : Orc} {P : Program} {E : Env} {B : Bs}
theorem Wt.soft (X : Cx O P E) (hG : GlobOk E B.g) : ∀ {c : Code} {t : List AV} {H : AH} {Q : AEx → List AV → AH → Prop}, okSoft c = true → Wt O P E (LpD P B) (soft c) t H Q → Tr P B c t H Q
  | .skip, t, H, Q, _, h => Tr.skip h
  | .region id ops false, t, H, Q, _, h => Tr.run X hG (by simp [okDraws]) h
  | .region id ops true, t, H, Q, _, h => h
  | .seq a b, t, H, Q, hd, h => by
    simp only [okSoft, Bool.and_eq_true] at hd
    simp only [Fw.soft, Wt] at h
    refine Tr.seq (Tr.mono (Wt.soft X hG hd.1 h) ?_)
    intro e t1 H1 h1
    cases e with
    | normal => exact Wt.soft X hG hd.2 h1
    | exit id => exact h1
    | ret => exact h1
  | .cond c a b, t, H, Q, hd, h => by
    simp only [okSoft, Bool.and_eq_true] at hd
    simp only [Fw.soft, Wt] at h
    unfold WB at h
    split at h
    · rename_i v hv
      exact Tr.cond hG v hv (fun e => Wt.soft X hG hd.1 (h.1 e)) (fun e => Wt.soft X hG hd.2 (h.2 e))
    · exact h.elim
  | .block id c, t, H, Q, hd, h => by
    simp only [okSoft] at hd
    simp only [Fw.soft, Wt] at h
    exact Tr.block (Wt.soft X hG hd h)
  | .exit id, t, H, Q, _, h => Tr.exit h
  | .ret, t, H, Q, _, h => Tr.ret h
  | .loop c, t, H, Q, hd, h => by
    simp only [Fw.soft, Wt] at h
    cases c <;> first | exact h | cases hd
  | .rangeFunc _ _ _ _, _, _, _, _, h => h.elim
  | .scope _, _, _, _, hd, _ => by cases hd
  | .label _, _, _, _, _, h => h.elim
  | .goto _, _, _, _, _, h => h.elim
  | .refuse _, _, _, _, _, h => h.elim
theorem Tr.goD (X : Cx O P E) (hG : GlobOk E B.g) {c : Code} {t : List AV} {H : AH} {Q : AEx → List AV → AH → Prop} (h : Go O P E (LpD P B) (soft c) [] t H Q) (hd : okSoft c = true := by kernel_rfl) : Tr P B c t H Q := Wt.soft X hG hd h
theorem LpD.turns {Lp : LoopP} {ks0 : List Fr} (X : Cx O P E) (hG : GlobOk E B.g) (ks : List Nat) (bad : List (Nat × Nat)) {id : Nat} {ops : Array Oper} {t : List AV} {H : AH} {Q : AEx → List AV → AH → Prop}
    (h : WTr O P E ops ks (bad.flatMap fun p => [p.1, p.2]) 0 (withIds E ops.toList H.length) t (grow H (idCount E ops.toList)) [] fun t1 H1 f => badOk f bad = true ∧ Go O P E Lp .skip ks0 t1 H1 Q) (hd : okDrawB ops ks bad = true := by kernel_rfl) : LpD P B (.scope (.region id ops true)) t H (unwind O P E Lp ks0 Q) :=
  Tr.turns X hG ks bad hd (by simpa only [unwind_normal] using h)
theorem LpD.loopN {L : Code} {t : List AV} {H : AH} {Q : AEx → List AV → AH → Prop} (X : Cx O P E) (hG : GlobOk E B.g) (I : Nat → List AV → AH → Prop) (k : Nat) {t' : List AV} {H' : AH} (hl : Less B t H t' H') (hI : I k t' H')
    (h : ∀ k t H, I k t H → Go O P E (LpD P B) (soft L) [] t H (Goes (Nxt B I k) Q)) (hd : okSoft L = true := by kernel_rfl) : LpD P B L t H Q := by
  have key : Tr P B (.loop L) t H Q := Tr.less hl (Tr.loop I k hI fun k t H hI => Tr.goD X hG (h k t H hI) hd)
  cases L <;> first | exact key | cases hd
end
theorem mask_mem {H : AH} {S : List Nat} {i : Nat} (h : i ∈ S) : (mask H S).at i = H.at i := by
  rw [mask_at]
  by_cases hl : i < H.length
  · rw [if_pos hl, if_pos (by simpa using h)]
  · rw [if_neg hl, at_ge (by omega)]
theorem idsOfL_mem {x : AV} {i : Nat} (h : i ∈ idsOf x) : ∀ {l : List AV}, x ∈ l → i ∈ idsOfL l
  | [], hx => by cases hx
  | y :: l, hx => by
    rw [idsOfL, List.mem_append]
    rcases List.mem_cons.1 hx with rfl | hx
    · exact .inl h
    · exact .inr (idsOfL_mem h hx)
theorem vis_mem (E : Env) (H : AH) (ρ : Operand → AV) (o : Oper) (fid : Nat) (hq : quietO o.op = false) {x : Operand} (hx : x ∈ seenO o.op) {i : Nat} (h : i ∈ idsOf (ρ x)) : i ∈ visIds E H ρ (o, fid) := by
  have h1 : i ∈ opIds ρ o := by
    unfold opIds
    rw [if_neg (by rw [hq]; decide)]
    exact idsOfL_mem h (List.mem_map_of_mem hx)
  have h2 := clos_sub H (depO o.op) _ i h1
  unfold visIds
  split
  · exact List.mem_cons_of_mem _ h2
  · exact h2
theorem aload_mask (P : Program) (u : TypeId) {H : AH} {S : List Nat} {a : AV} (h : ∀ i ∈ idsOf a, i ∈ S) : aload P (mask H S) u a = aload P H u a := by
  cases a with
  | ptr id off => simp only [aload, mask_mem (h id (by simp [idsOf]))]
  | sptr id ver sz off => simp only [aload, mask_mem (h id (by simp [idsOf]))]
  | _ => rfl
theorem astore_mask (P : Program) (u : TypeId) {H : AH} {S : List Nat} {a x : AV} (h : ∀ i ∈ idsOf a, i ∈ S) : astore P (mask H S) u a x = astore P H u a x := by
  cases a with
  | ptr id off => simp only [astore, mask_mem (h id (by simp [idsOf]))]
  | lptr k sz n => simp only [astore, mask_mem (h k (by simp [idsOf]))]
  | _ => rfl
theorem copied_mask (sz : Nat) {H : AH} {S : List Nat} {a : AV} (h : ∀ i ∈ idsOf a, i ∈ S) : copied (mask H S) sz a = copied H sz a := by
  cases a with
  | bsl id off s n c => simp only [copied, mask_mem (h id (by simp [idsOf]))]
  | _ => rfl
theorem aappend_mask (P : Program) (fid : Nat) (u w : TypeId) {H : AH} {S : List Nat} {a x : AV} (h : ∀ i ∈ idsOf a, i ∈ S) (h' : ∀ i ∈ idsOf x, i ∈ S) : aappend P (mask H S) fid u w a x = aappend P H fid u w a x := by
  unfold aappend
  cases a with
  | slice ow sz n cs =>
    cases ow with
    | tok k => simp only [copied_mask _ h', mask_mem (h k (by simp [idsOf]))]
    | _ => simp only [copied_mask _ h']
  | bsl id off s n c => simp only [copied_mask _ h', mask_mem (h id (by simp [idsOf]))]
  | _ => simp only [copied_mask _ h']
theorem aappendL_mask (P : Program) (fid : Nat) (u w : TypeId) {H : AH} {S : List Nat} {a x : AV} (h : ∀ i ∈ idsOf a, i ∈ S) (h' : ∀ i ∈ idsOf x, i ∈ S) : aappendL P (mask H S) fid u w a x = aappendL P H fid u w a x := by
  unfold aappendL
  cases a with
  | slice ow sz n cs =>
    cases ow with
    | tok k => simp only [copied_mask _ h', mask_mem (h k (by simp [idsOf]))]
    | _ => simp only [copied_mask _ h']
  | _ => simp only [copied_mask _ h']
theorem aappendS_mask (P : Program) (fid : Nat) (u w : TypeId) {H : AH} {S : List Nat} {a x : AV} (h : ∀ i ∈ idsOf a, i ∈ S) (h' : ∀ i ∈ idsOf x, i ∈ S) : aappendS P (mask H S) fid u w a x = aappendS P H fid u w a x := by
  unfold aappendS
  cases a with
  | stk k ver sz n => simp only [copied_mask _ h', mask_mem (h k (by simp [idsOf]))]
  | _ => simp only [copied_mask _ h']
theorem aapp_mask (P : Program) (E : Env) (fid : Nat) (u w : TypeId) {H : AH} {S : List Nat} {a x : AV} (h : ∀ i ∈ idsOf a, i ∈ S) (h' : ∀ i ∈ idsOf x, i ∈ S) : aapp P E (mask H S) fid u w a x = aapp P E H fid u w a x := by
  unfold aapp
  rw [aappendS_mask P fid u w h h', aappendL_mask P fid u w h h', aappend_mask P fid u w h h']
def upsOf (S : List Nat) (n : Nat) (r : Option (AV × AH)) : Option (AV × Ups) := match r with
  | some (v, H1) => if H1.length = n then some (v, S.filterMap fun i => (H1.at i).map fun e => (i, e)) else none
  | none => none
theorem upsOf_some (S : List Nat) (n : Nat) (v : AV) (H1 : AH) (h : H1.length = n) : upsOf S n (some (v, H1)) = some (v, S.filterMap fun i => (H1.at i).map fun e => (i, e)) := by simp [upsOf, h]
section
variable (O : Orc) (P : Program) (E : Env)
abbrev TK := List AV → AH → List Foot → Prop
def WTq (ops : Array Oper) (ks bs : List Nat) (i : Nat) (o : Oper) (fid : Nat) (l : List (Oper × Nat)) (t : List AV) (H : AH) (fs : List Foot) (K : TK) : Prop :=
  WS (stepU O P E (aeval E t) (mask H (visIds E H (aeval E t) (o, fid))) fid (visIds E H (aeval E t) (o, fid)) o) fun r =>
        (ks.contains i = true ∨ r.2 = []) ∧ (r.2.all fun q => (visIds E H (aeval E t) (o, fid)).contains q.1) = true ∧
          WTr O P E ops ks bs (i + 1) l (putT t o.dst r.1) (applyUps H r.2) (if bs.contains i = true then fs ++ [(i, r.2.map (·.1), visIds E H (aeval E t) (o, fid))] else fs) K
def WTg (b : Option Bool) (ops : Array Oper) (ks bs : List Nat) (i : Nat) (o : Oper) (fid : Nat) (l : List (Oper × Nat)) (t : List AV) (H : AH) (fs : List Foot) (K : TK) : Prop :=
  WG b (WTr O P E ops ks bs (i + 1) l (putT t o.dst .nothing) H (if bs.contains i = true then fs ++ [(i, [], [])] else fs) K) (WTq O P E ops ks bs i o fid l t H fs K)
def WTv (r : Option AV) (ops : Array Oper) (ks bs : List Nat) (i : Nat) (o : Oper) (fid : Nat) (l : List (Oper × Nat)) (t : List AV) (H : AH) (fs : List Foot) (K : TK) : Prop :=
  WS r fun v => WTr O P E ops ks bs (i + 1) l (putT t o.dst v) H (if bs.contains i = true then fs ++ [(i, [], visIds E H (aeval E t) (o, fid))] else fs) K
def WTu (r : Option (AV × Ups)) (ops : Array Oper) (ks bs : List Nat) (i : Nat) (o : Oper) (fid : Nat) (l : List (Oper × Nat)) (t : List AV) (H : AH) (fs : List Foot) (K : TK) : Prop :=
  WS r fun r => (ks.contains i = true ∨ r.2 = []) ∧ (r.2.all fun q => (visIds E H (aeval E t) (o, fid)).contains q.1) = true ∧
          WTr O P E ops ks bs (i + 1) l (putT t o.dst r.1) (applyUps H r.2) (if bs.contains i = true then fs ++ [(i, r.2.map (·.1), visIds E H (aeval E t) (o, fid))] else fs) K
def WTc (f : Operand) (aS : Array Operand) (ops : Array Oper) (ks bs : List Nat) (i : Nat) (o : Oper) (fid : Nat) (l : List (Oper × Nat)) (t : List AV) (H : AH) (fs : List Foot) (K : TK) : Prop :=
  WTu O P E (upsOf (visIds E H (aeval E t) (o, fid)) H.length (callV O P (aeval E t f) (aS.toList.map (aeval E t)) (mask H (visIds E H (aeval E t) (o, fid))))) ops ks bs i o fid l t H fs K
end
section
variable {O : Orc} {P : Program} {E : Env} {ops : Array Oper} {ks bs : List Nat} {i : Nat} {l : List (Oper × Nat)} {t : List AV} {H : AH} {fs : List Foot} {K : TK}
theorem WTr_nil : WTr O P E ops ks bs i [] t H fs K = K t H fs := nrfl rfl
theorem WTr_cons (o : Oper) (fid : Nat) : WTr O P E ops ks bs i ((o, fid) :: l) t H fs K = WTg O P E (wantedA ops t o) ops ks bs i o fid l t H fs K := nrfl rfl
theorem WTg_true (o : Oper) (fid : Nat) : WTg O P E (some true) ops ks bs i o fid l t H fs K = WTq O P E ops ks bs i o fid l t H fs K := by simp [WTg, WG]
theorem WTg_false (o : Oper) (fid : Nat) : WTg O P E (some false) ops ks bs i o fid l t H fs K = WTr O P E ops ks bs (i + 1) l (putT t o.dst .nothing) H (if bs.contains i = true then fs ++ [(i, [], [])] else fs) K := by simp [WTg, WG]
theorem WTv_some (v : AV) (o : Oper) (fid : Nat) : WTv O P E (some v) ops ks bs i o fid l t H fs K = WTr O P E ops ks bs (i + 1) l (putT t o.dst v) H (if bs.contains i = true then fs ++ [(i, [], visIds E H (aeval E t) (o, fid))] else fs) K := nrfl rfl
theorem WTu_some (v : AV) (u : Ups) (o : Oper) (fid : Nat) : WTu O P E (some (v, u)) ops ks bs i o fid l t H fs K = ((ks.contains i = true ∨ u = []) ∧ (u.all fun q => (visIds E H (aeval E t) (o, fid)).contains q.1) = true ∧
          WTr O P E ops ks bs (i + 1) l (putT t o.dst v) (applyUps H u) (if bs.contains i = true then fs ++ [(i, u.map (·.1), visIds E H (aeval E t) (o, fid))] else fs) K) := nrfl rfl
theorem WTq_v {o : Oper} {fid : Nat} {r : Option AV} (h : stepU O P E (aeval E t) (mask H (visIds E H (aeval E t) (o, fid))) fid (visIds E H (aeval E t) (o, fid)) o = r.map fun a => (a, [])) :
    WTq O P E ops ks bs i o fid l t H fs K = WTv O P E r ops ks bs i o fid l t H fs K := by
  unfold WTq WTv
  rw [h]
  cases r <;> simp [WS, applyUps]
theorem WTq_u {o : Oper} {fid : Nat} {r : Option (AV × Ups)} (h : stepU O P E (aeval E t) (mask H (visIds E H (aeval E t) (o, fid))) fid (visIds E H (aeval E t) (o, fid)) o = r) :
    WTq O P E ops ks bs i o fid l t H fs K = WTu O P E r ops ks bs i o fid l t H fs K := by
  unfold WTq WTu
  rw [h]
section
variable (fid : Nat) (dst : Option Tmp) (ty : TypeId) (pos : String) (after : Array Edge) (guard : Option (Nat × Bool))
theorem WTq_move (x : Operand) : WTq O P E ops ks bs i ⟨dst, .move x, ty, pos, after, guard⟩ fid l t H fs K = WTv O P E (some ((aeval E t) x)) ops ks bs i ⟨dst, .move x, ty, pos, after, guard⟩ fid l t H fs K := WTq_v rfl
theorem WTq_assign (x : Operand) : WTq O P E ops ks bs i ⟨dst, .assign x, ty, pos, after, guard⟩ fid l t H fs K = WTv O P E (some ((aeval E t) x)) ops ks bs i ⟨dst, .assign x, ty, pos, after, guard⟩ fid l t H fs K := WTq_v rfl
theorem WTq_build (u : TypeId) (parts : Array (Nat × Operand)) : WTq O P E ops ks bs i ⟨dst, .build u parts, ty, pos, after, guard⟩ fid l t H fs K = WTv O P E (abuild P u (parts.toList.map fun p => (p.1, (aeval E t) p.2))) ops ks bs i ⟨dst, .build u parts, ty, pos, after, guard⟩ fid l t H fs K := WTq_v rfl
theorem WTq_buildSlice (u : TypeId) (len : Nat) (parts : Array (Nat × Operand)) : WTq O P E ops ks bs i ⟨dst, .buildSlice u len parts, ty, pos, after, guard⟩ fid l t H fs K = WTv O P E (abuildSlice P u len (parts.toList.map fun p => (p.1, (aeval E t) p.2))) ops ks bs i ⟨dst, .buildSlice u len parts, ty, pos, after, guard⟩ fid l t H fs K := WTq_v rfl
theorem WTq_load (u : TypeId) (a : Operand) : WTq O P E ops ks bs i ⟨dst, .load u a, ty, pos, after, guard⟩ fid l t H fs K = WTv O P E (aload P H u ((aeval E t) a)) ops ks bs i ⟨dst, .load u a, ty, pos, after, guard⟩ fid l t H fs K := WTq_v (by
    show (aload P (mask H _) u (aeval E t a)).map (fun a => (a, ([] : Ups))) = _
    rw [aload_mask P u fun i hi => vis_mem E H (aeval E t) _ fid rfl (by simp [Op.operands]) hi])
theorem WTq_nilCheck (x : Operand) : WTq O P E ops ks bs i ⟨dst, .nilCheck x, ty, pos, after, guard⟩ fid l t H fs K = WTv O P E (anilCheck ((aeval E t) x)) ops ks bs i ⟨dst, .nilCheck x, ty, pos, after, guard⟩ fid l t H fs K := WTq_v rfl
theorem WTq_binOp (op : BinOp) (u : TypeId) (x y : Operand) (w : TypeId) : WTq O P E ops ks bs i ⟨dst, .binOp op u x y w, ty, pos, after, guard⟩ fid l t H fs K = WTv O P E (abin P op u (isConstO x || isConstO y) ((aeval E t) x) ((aeval E t) y)) ops ks bs i ⟨dst, .binOp op u x y w, ty, pos, after, guard⟩ fid l t H fs K := WTq_v rfl
theorem WTq_unOp (op : UnOp) (u : TypeId) (x : Operand) : WTq O P E ops ks bs i ⟨dst, .unOp op u x, ty, pos, after, guard⟩ fid l t H fs K = WTv O P E (aun op ((aeval E t) x)) ops ks bs i ⟨dst, .unOp op u x, ty, pos, after, guard⟩ fid l t H fs K := WTq_v rfl
theorem WTq_makeFunc (fn : Fn) (first captured : Array Operand) : WTq O P E ops ks bs i ⟨dst, .makeFunc fn first captured, ty, pos, after, guard⟩ fid l t H fs K = WTv O P E (some (.func fn (first.toList.map (aeval E t)) (captured.toList.map (aeval E t)))) ops ks bs i ⟨dst, .makeFunc fn first captured, ty, pos, after, guard⟩ fid l t H fs K := WTq_v rfl
theorem WTq_slice (u : TypeId) (x : Operand) (lo hi mx : Option Operand) : WTq O P E ops ks bs i ⟨dst, .slice u x lo hi mx, ty, pos, after, guard⟩ fid l t H fs K = WTv O P E (aslice P u ((aeval E t) x) (lo.map (aeval E t)) (hi.map (aeval E t)) (mx.map (aeval E t))) ops ks bs i ⟨dst, .slice u x lo hi mx, ty, pos, after, guard⟩ fid l t H fs K := WTq_v rfl
theorem WTq_fieldAddr (u : TypeId) (x : Operand) (f : Nat) : WTq O P E ops ks bs i ⟨dst, .fieldAddr u x f, ty, pos, after, guard⟩ fid l t H fs K = WTv O P E (afieldAddr P u ((aeval E t) x) f) ops ks bs i ⟨dst, .fieldAddr u x f, ty, pos, after, guard⟩ fid l t H fs K := WTq_v rfl
theorem WTq_field (u : TypeId) (x : Operand) (f : Nat) : WTq O P E ops ks bs i ⟨dst, .field u x f, ty, pos, after, guard⟩ fid l t H fs K = WTv O P E (afield P u ((aeval E t) x) f) ops ks bs i ⟨dst, .field u x f, ty, pos, after, guard⟩ fid l t H fs K := WTq_v rfl
theorem WTq_indexAddr (u : TypeId) (x j : Operand) : WTq O P E ops ks bs i ⟨dst, .indexAddr u x j, ty, pos, after, guard⟩ fid l t H fs K = WTv O P E (aindexAddr P u ((aeval E t) x) ((aeval E t) j)) ops ks bs i ⟨dst, .indexAddr u x j, ty, pos, after, guard⟩ fid l t H fs K := WTq_v rfl
theorem WTq_index (u : TypeId) (x j : Operand) : WTq O P E ops ks bs i ⟨dst, .index u x j, ty, pos, after, guard⟩ fid l t H fs K = WTv O P E (aindex P u ((aeval E t) x) ((aeval E t) j)) ops ks bs i ⟨dst, .index u x j, ty, pos, after, guard⟩ fid l t H fs K := WTq_v rfl
theorem WTq_typeAssert (x : Operand) (u w : TypeId) (ok : Bool) : WTq O P E ops ks bs i ⟨dst, .typeAssert x u w ok, ty, pos, after, guard⟩ fid l t H fs K = WTv O P E (atypeAssert P ((aeval E t) x) w ok) ops ks bs i ⟨dst, .typeAssert x u w ok, ty, pos, after, guard⟩ fid l t H fs K := WTq_v rfl
theorem WTq_extract (x : Operand) (j : Nat) : WTq O P E ops ks bs i ⟨dst, .extract x j, ty, pos, after, guard⟩ fid l t H fs K = WTv O P E (aextract ((aeval E t) x) j) ops ks bs i ⟨dst, .extract x j, ty, pos, after, guard⟩ fid l t H fs K := WTq_v rfl
theorem WTq_len (x : Operand) (u : TypeId) : WTq O P E ops ks bs i ⟨dst, .call ⟨.builtin .len, #[x], #[u]⟩, ty, pos, after, guard⟩ fid l t H fs K = WTv O P E (alen P u ((aeval E t) x)) ops ks bs i ⟨dst, .call ⟨.builtin .len, #[x], #[u]⟩, ty, pos, after, guard⟩ fid l t H fs K := WTq_v rfl
theorem WTq_max (x y : Operand) (us : Array TypeId) : WTq O P E ops ks bs i ⟨dst, .call ⟨.builtin .max, #[x, y], us⟩, ty, pos, after, guard⟩ fid l t H fs K = WTv O P E (amax2 ((aeval E t) x) ((aeval E t) y)) ops ks bs i ⟨dst, .call ⟨.builtin .max, #[x, y], us⟩, ty, pos, after, guard⟩ fid l t H fs K := WTq_v rfl
theorem WTq_min (x y : Operand) (us : Array TypeId) : WTq O P E ops ks bs i ⟨dst, .call ⟨.builtin .min, #[x, y], us⟩, ty, pos, after, guard⟩ fid l t H fs K = WTv O P E (amin2 ((aeval E t) x) ((aeval E t) y)) ops ks bs i ⟨dst, .call ⟨.builtin .min, #[x, y], us⟩, ty, pos, after, guard⟩ fid l t H fs K := WTq_v rfl
theorem WTq_pick (c a b : Operand) : WTq O P E ops ks bs i ⟨dst, .pick c a b, ty, pos, after, guard⟩ fid l t H fs K = WTv O P E (apick ((aeval E t) c) ((aeval E t) a) ((aeval E t) b)) ops ks bs i ⟨dst, .pick c a b, ty, pos, after, guard⟩ fid l t H fs K := WTq_v (stepU_pick ..)
theorem WTq_makeInterface (u : TypeId) (x : Operand) : WTq O P E ops ks bs i ⟨dst, .makeInterface u x, ty, pos, after, guard⟩ fid l t H fs K = WTv O P E (aface P u ((aeval E t) x)) ops ks bs i ⟨dst, .makeInterface u x, ty, pos, after, guard⟩ fid l t H fs K := WTq_v (stepU_makeInterface ..)
theorem WTq_alloc (u : TypeId) : WTq O P E ops ks bs i ⟨dst, .alloc u, ty, pos, after, guard⟩ fid l t H fs K = WTu O P E (aalloc P fid u) ops ks bs i ⟨dst, .alloc u, ty, pos, after, guard⟩ fid l t H fs K := WTq_u (by
    simp only [stepU, aop, aalloc]
    cases zeroAV P u <;> rfl)
theorem WTq_box (u : TypeId) (x : Operand) : WTq O P E ops ks bs i ⟨dst, .box u x, ty, pos, after, guard⟩ fid l t H fs K = WTu O P E (abox E fid u ((aeval E t) x)) ops ks bs i ⟨dst, .box u x, ty, pos, after, guard⟩ fid l t H fs K := WTq_u (by simp only [stepU, aop, abox])
theorem WTq_store (u : TypeId) (a x : Operand) : WTq O P E ops ks bs i ⟨dst, .store u a x, ty, pos, after, guard⟩ fid l t H fs K = WTu O P E (astore P H u ((aeval E t) a) ((aeval E t) x)) ops ks bs i ⟨dst, .store u a x, ty, pos, after, guard⟩ fid l t H fs K := WTq_u (by
    show astore P (mask H _) u (aeval E t a) (aeval E t x) = _
    rw [astore_mask P u fun i hi => vis_mem E H (aeval E t) _ fid rfl (x := a) (by simp [Op.operands]) hi])
theorem WTq_append (s x : Operand) (u w : TypeId) : WTq O P E ops ks bs i ⟨dst, .call ⟨.builtin .append, #[s, x], #[u, w]⟩, ty, pos, after, guard⟩ fid l t H fs K = WTu O P E (aapp P E H fid u w ((aeval E t) s) ((aeval E t) x)) ops ks bs i ⟨dst, .call ⟨.builtin .append, #[s, x], #[u, w]⟩, ty, pos, after, guard⟩ fid l t H fs K := WTq_u (by
    show aapp P E (mask H _) fid u w (aeval E t s) (aeval E t x) = _
    rw [aapp_mask P E fid u w (fun i hi => vis_mem E H (aeval E t) _ fid rfl (x := s) (by simp [Op.operands, Call.operands]) hi) (fun i hi => vis_mem E H (aeval E t) _ fid rfl (x := x) (by simp [Op.operands, Call.operands]) hi)])
theorem WTq_call (f : Operand) (aS : Array Operand) (us : Array TypeId) : WTq O P E ops ks bs i ⟨dst, .call ⟨.value f, aS, us⟩, ty, pos, after, guard⟩ fid l t H fs K = WTc O P E f aS ops ks bs i ⟨dst, .call ⟨.value f, aS, us⟩, ty, pos, after, guard⟩ fid l t H fs K := WTq_u (by
  simp only [stepU, callee, callV]
  rw [← mask_length H (visIds E H (aeval E t) (⟨dst, .call ⟨.value f, aS, us⟩, ty, pos, after, guard⟩, fid))]
  cases aeval E t f with
  | func fn a b =>
    cases fn with
    | func i =>
      simp only
      cases goFn P i with
      | true =>
        simp only [if_true]
        cases O i (a ++ aS.toList.map (aeval E t) ++ b) (mask H (visIds E H (aeval E t) (⟨dst, .call ⟨.value f, aS, us⟩, ty, pos, after, guard⟩, fid))) with
        | none => rfl
        | some r => rfl
      | false => rfl
    | _ => rfl
  | _ => rfl)
end
end
attribute [simp] WTr_nil WTr_cons WTg_true WTg_false WTv_some WTu_some upsOf_some badOk footsApart WTc clos boxIdsL boxIds mask
attribute [simp] maskFrom WTq_move WTq_assign WTq_build WTq_buildSlice WTq_load WTq_nilCheck WTq_binOp WTq_unOp WTq_makeFunc WTq_slice WTq_fieldAddr WTq_field WTq_indexAddr
attribute [simp] WTq_index WTq_typeAssert WTq_extract WTq_len WTq_max WTq_min WTq_pick WTq_makeInterface WTq_alloc WTq_box WTq_store WTq_append WTq_call
theorem CS.rd {P : Program} {E : Env} {f : FuncId} {fn : Func} {cs cs' rest : List AV} {v : AV} (hE : ∀ i, low 0 (E.glob i) = true) (hf : P.funcs[f]? = some fn) (hb : fn.body = some (bodyOf fn)) (k : Nat) (hn : (AV.ptr 0 0 :: rest).length ≤ fn.ntmps)
    (h : ∀ B : Bs, B.H = [some (.box cs)] → GlobOk E B.g → Tr P B (bodyOf fn) (mkT fn.ntmps (argL 0 (.ptr 0 0 :: rest))) [some (.box cs)] (Fin P fn 1 k v [some (.box cs')]))
    (hr : lowL 0 rest = true) (hv : low 0 v = true) (hc : lowL 0 cs = true) (hc' : lowL 0 cs' = true) {H : AH} {id : Nat} (hH : H.at id = some (.box cs)) : CS P E f (.ptr id 0 :: rest) H v (H.set id (some (.box cs'))) :=
  CS.box (CS.of_Tr (H0 := [some (.box cs)]) (H1 := [some (.box cs')]) hf hb k hn h (low_mono (Nat.zero_le 1) v hv) (by simp [lowH, lowE, lowL_mono (Nat.zero_le 1) cs' hc'])) hE hr hv hc hc' hH
theorem CS.rdR {P : Program} {E : Env} {f : FuncId} {fn : Func} {cs cs' rest : List AV} {v : AV} (hE : ∀ i, low 0 (E.glob i) = true) (hf : P.funcs[f]? = some fn) (hb : fn.body = some (bodyOf fn)) (k : Nat) (hn : (AV.ptr 0 0 :: rest).length ≤ fn.ntmps)
    (h : ∀ B : Bs, B.H = [some (.box cs)] → GlobOk E B.g → Tr P B (bodyOf fn) (mkT fn.ntmps (argL 0 (.ptr 0 0 :: rest))) [some (.box cs)] (Fin P fn 1 k v [some (.box cs')]))
    (hr : lowL 1 rest = true) (hv : low 0 v = true) (hc : lowL 0 cs = true) (hc' : lowL 0 cs' = true) {H : AH} {id : Nat} (hH : H.at id = some (.box cs)) : CS P E f (.ptr id 0 :: renL (fun _ => id) rest) H v (H.set id (some (.box cs'))) := by
  have h1 := CS.of_Tr (H0 := [some (.box cs)]) (H1 := [some (.box cs')]) hf hb k hn h (low_mono (Nat.zero_le 1) v hv) (by simp [lowH, lowE, lowL_mono (Nat.zero_le 1) cs' hc'])
  have := CS.embed (k := 1) (fun _ => id) (H := H) (H' := H.set id (some (.box cs'))) h1 rfl rfl (ren_one id) hE (by simp [lowL, low, hr]) (low_mono (Nat.zero_le 1) v hv)
    (by simp [lowH, lowE, lowL_mono (Nat.zero_le 1) cs hc]) (by simp [lowH, lowE, lowL_mono (Nat.zero_le 1) cs' hc'])
    (fun i hi => by
      obtain rfl : i = 0 := by omega
      simp [AH.at, renE, renL_low _ cs hc]
      exact hH)
    (fun i hi => by
      obtain rfl : i = 0 := by omega
      rw [at_set_self hH]
      simp [AH.at, renE, renL_low _ cs' hc'])
    (fun j hj => at_set_ne (hj 0 (by omega)))
  rw [ren_low _ v hv] at this
  simpa [renL, ren] using this
end Go.Proofs.Fw
namespace Go.Proofs.Fw
open Go.RowKit
def keyEq : AV → AV → Option Bool
  | .int k a, .int k' b => if k = k' then some (decide (a = b)) else none
  | .str s, .str t => some (decide (s = t))
  | _, _ => none
def findA (k : AV) : List (AV × AV) → Option (Option AV)
  | [] => some none
  | (x, v) :: r => (match keyEq k x with
    | some true => some (some v)
    | some false => findA k r
    | none => none)
def kdOk (kd : TypeDesc) (k : AV) : Bool :=
  match kd, k with
  | .int j, .int j' _ => decide (j' = j)
  | .string, .str _ => true
  | _, _ => false
theorem kdOk_key {g : Gh} {kd : TypeDesc} {k : AV} {v : Value} (h : kdOk kd k = true) (hr : RepV g k v) : MapKept.IsKey kd v := by
  unfold kdOk at h
  split at h
  · simp only [RepV] at hr; subst hr
    simpa [MapKept.IsKey] using h
  · simp only [RepV] at hr; subst hr; trivial
  · cases h
theorem keyEq_now {g : Gh} {kd : TypeDesc} {k x : AV} {kv xv : Value} {b : Bool} (hk : kdOk kd k = true) (h : keyEq k x = some b) (hr : RepV g k kv) (hx : RepV g x xv) : Instr.sameNow kd kv xv = some b := by
  unfold keyEq at h
  split at h
  · split at h
    · rename_i e
      injection h with h
      subst e
      simp only [RepV] at hr hx
      subst hr; subst hx
      unfold kdOk at hk
      split at hk
      · simp only [Instr.sameNow, if_true]
        rw [← h]
        congr 1
      · cases ‹_ = AV.str _›
      · cases hk
    · cases h
  · injection h with h
    simp only [RepV] at hr hx
    subst hr; subst hx
    unfold kdOk at hk
    split at hk
    · cases ‹_ = AV.int _ _›
    · simp only [Instr.sameNow]
      rw [← h]
      congr 1
      rw [Bool.eq_iff_iff, MapKept.bytes_beq]
      simp
    · cases hk
  · cases h
inductive Ents (g : Gh) : List (AV × AV) → List MapEntry → Prop
  | nil : Ents g [] []
  | cons {p : AV × AV} {e : MapEntry} {l : List (AV × AV)} {es : List MapEntry} (h1 : RepV g p.1 e.key) (h2 : RepV g p.2 e.val) (h : Ents g l es) : Ents g (p :: l) (e :: es)
theorem Ents.mono {g g' : Gh} (hl : g.le g') : ∀ {l : List (AV × AV)} {es : List MapEntry}, Ents g l es → Ents g' l es
  | _, _, .nil => .nil
  | _, _, .cons h1 h2 h => .cons (RepV.mono hl _ _ h1) (RepV.mono hl _ _ h2) (h.mono hl)
theorem Ents.snoc {g : Gh} {p : AV × AV} {e : MapEntry} (h1 : RepV g p.1 e.key) (h2 : RepV g p.2 e.val) : ∀ {l : List (AV × AV)} {es : List MapEntry}, Ents g l es → Ents g (l ++ [p]) (es ++ [e])
  | _, _, .nil => .cons h1 h2 .nil
  | _, _, .cons q1 q2 h => .cons q1 q2 (h.snoc h1 h2)
theorem findA_now {g : Gh} {kd : TypeDesc} {k : AV} {kv : Value} (hk : kdOk kd k = true) (hr : RepV g k kv) : ∀ {l : List (AV × AV)} {es : List MapEntry} {r : Option AV} (i : Nat), findA k l = some r → Ents g l es →
    (r = none ∧ Instr.findNow kd kv es i = some none) ∨ ∃ v j u, r = some v ∧ Instr.findNow kd kv es i = some (some (j, u)) ∧ RepV g v u
  | _, _, r, i, h, .nil => by
    simp only [findA, Option.some.injEq] at h
    exact .inl ⟨h.symm, rfl⟩
  | (x, v) :: l, e :: es, r, i, h, .cons h1 h2 hs => by
    simp only [findA] at h
    split at h
    · rename_i hq
      injection h with h
      refine .inr ⟨v, i, e.val, h.symm, ?_, h2⟩
      simp only [Instr.findNow, keyEq_now hk hq hr h1]
    · rename_i hq
      simp only [Instr.findNow, keyEq_now hk hq hr h1]
      exact findA_now hk hr (i + 1) h hs
    · cases h
section
variable (O : Orc) (P : Program) (E : Env) (ops : Array Oper)
def keyDesc (ty : TypeId) : Option (TypeDesc × TypeId) :=
  match P.underlying ty with
  | some (.map kt et) => (P.underlying kt).map (·, et)
  | _ => none
def evM : List (Oper × Nat) → List AV → AH → List Tmp → List (AV × AV) → Option (List AV × AH)
  | [], t, H, _, _ => some (t, H)
  | (o, fid) :: rest, t, H, ms, es =>
    (match o.guard with
    | some _ => none
    | none => (match o.op with
      | .insert ty (.tmp m) k v => if ms.contains m = true then (match keyDesc P ty with
          | some (kd, _) => if kdOk kd (aeval E t k) = true then (match findA (aeval E t k) es with
            | some none => if (o.dst.isNone) = true then evM rest t H ms (es ++ [(aeval E t k, aeval E t v)]) else none
            | _ => none) else none
          | none => none) else none
      | .lookup ty (.tmp m) k false => if ms.contains m = true then (match keyDesc P ty with
          | some (kd, et) => if kdOk kd (aeval E t k) = true then (match findA (aeval E t k) es, zeroAV P et, o.dst with
            | some (some v), _, some d => if ms.contains d = true then none else evM rest (putT t (some d) v) H ms es
            | some none, some z, some d => if ms.contains d = true then none else evM rest (putT t (some d) z) H ms es
            | _, _, _ => none) else none
          | none => none) else none
      | .move (.tmp m) => if ms.contains m = true then (match o.dst with
          | some d => evM rest (putT t (some d) .undef) H (if d < t.length then d :: ms else ms) es
          | none => none) else (match o.dst with
          | some d => if ms.contains d = true then none else (match stepO O P E (aeval E t) H fid o with
            | some (v, H') => evM rest (putT t (some d) v) H' ms es
            | none => none)
          | none => none)
      | _ => if (o.dst.any ms.contains) = true then none else (match stepO O P E (aeval E t) H fid o with
            | some (v, H') => evM rest (putT t o.dst v) H' ms es
            | none => none)))
def evMR (t : List AV) (H : AH) : Option (List AV × AH) :=
  match withIds E ops.toList H.length with
  | (o, _) :: rest => (match o.guard, o.op, o.dst with
    | none, .makeMap _ none, some d => if d < t.length then evM O P E rest (putT t (some d) .undef) (grow H (idCount E ops.toList)) [d] [] else none
    | _, _, _ => none)
  | [] => none
end
section
variable {O : Orc} {P : Program} {E : Env} {ops : Array Oper}
theorem keyDesc_some {ty : TypeId} {kd : TypeDesc} {et : TypeId} (h : keyDesc P ty = some (kd, et)) : ∃ kt, P.underlying ty = some (.map kt et) ∧ P.underlying kt = some kd := by
  unfold keyDesc at h
  split at h
  · rename_i kt et' hu
    cases hk : P.underlying kt with
    | none => rw [hk] at h; cases h
    | some d =>
      rw [hk] at h
      simp only [Option.map_some, Option.some.injEq, Prod.mk.injEq] at h
      obtain ⟨rfl, rfl⟩ := h
      exact ⟨kt, hu, hk⟩
  · cases h
structure MapAt (g0 : Gh) (H0 : AH) (w0 : World) (g : Gh) (H : AH) (w : World) (b : Nat) (es : List (AV × AV)) : Prop where
  R : Rel g H w
  p : Post g0 H0 w0 g H w
  new : w0.heap.size ≤ b
  lt : b < w.heap.size
  own : ∀ id e, g.M id = some e → e.block ≠ b
  obj : ∃ (M : Array MapEntry) (c : Nat), w.heap[b]? = some (.map M c) ∧ Ents g es M.toList
theorem MapAt.set {g0 g : Gh} {H0 H : AH} {w0 w : World} {b : Nat} {es es' : List (AV × AV)} (h : MapAt g0 H0 w0 g H w b es) {M : Array MapEntry} {c : Nat} (he : Ents g es' M.toList) :
    MapAt g0 H0 w0 g H { w with heap := w.heap.setIfInBounds b (.map M c) } b es' := by
  obtain ⟨M0, c0, hb, _⟩ := h.obj
  have hh := MapKept.heap_set (o' := .map M c) hb
  have hG : ∀ i, g.G b i = none := fun i => by
    cases hg : g.G b i with
    | none => rfl
    | some v =>
      have := h.R.imm b i v hg
      simp [World.cell?, hb] at this
  refine ⟨⟨?_, h.R.free, ?_, h.R.inj, ?_⟩, ⟨h.p.le, h.p.hid, h.p.new, ?_, by simpa using h.p.size, h.p.os, h.p.tape, h.p.output⟩, h.new, by simpa using h.lt, h.own, ⟨M, c, hh.1, he⟩⟩
  · intro b' i v hv
    by_cases hbb : b' = b
    · subst hbb; rw [hG] at hv; cases hv
    · exact (cell?_of_heap (hh.2 b' hbb)).trans (h.R.imm b' i v hv)
  · intro id e he hne
    obtain ⟨ge, hM, hr⟩ := h.R.ent id e he hne
    exact ⟨ge, hM, hr.keep (Gh.le_refl g) (hh.2 _ (h.own id ge hM)) (fun _ => rfl)⟩
  · intro id e he
    simpa using h.R.blk id e he
  · intro b' hb' hn
    obtain ⟨h1, h2⟩ := h.p.old b' hb' hn
    have := h.new
    exact ⟨(hh.2 b' (by omega)).trans h1, h2⟩
theorem MapAt.step {g0 g g' : Gh} {H0 H H' : AH} {w0 w w' : World} {b : Nat} {es : List (AV × AV)} (R0 : Rel g0 H0 w0) (h : MapAt g0 H0 w0 g H w b es) (R' : Rel g' H' w') (p' : Post g H w g' H' w') : MapAt g0 H0 w0 g' H' w' b es := by
  obtain ⟨M, c, hb, he⟩ := h.obj
  have hlt := h.lt
  have hs := p'.size
  refine ⟨R', Post.trans R0 h.p p', h.new, by omega, ?_, ⟨M, c, ?_, he.mono p'.le⟩⟩
  · intro id e hM
    rcases p'.new id e hM with ⟨e0, h0, hbk⟩ | h0
    · rw [← hbk]; exact h.own id e0 h0
    · omega
  · exact (p'.old b hlt fun id e ge _ _ hM => h.own id ge hM).1.trans hb
def Holds (a : Act) (b : Nat) (ms : List Tmp) : Prop := ∀ m ∈ ms, a.tmps[m]? = some (.map (some b))
theorem Holds.put {a : Act} {b : Nat} {ms : List Tmp} (h : Holds a b ms) {dst : Option Tmp} {u : Value} (hd : ∀ d, dst = some d → d ∉ ms) : Holds (a.put dst u) b ms := by
  intro m hm
  cases dst with
  | none => exact h m hm
  | some d =>
    have : d ≠ m := fun e => hd d rfl (e ▸ hm)
    simp only [Act.put]
    rw [Array.getElem?_setIfInBounds_ne this]
    exact h m hm
theorem Holds.eval {a : Act} {b : Nat} {ms : List Tmp} (h : Holds a b ms) {m : Tmp} (hm : ms.contains m = true) : a.eval (.tmp m) = .map (some b) := by
  have := h m (by simpa using hm)
  simp only [Act.eval]
  rw [Array.getD_eq_getD_getElem?, this]
  rfl
theorem wanted_none {o : Oper} {b : Nat → Option Bool} (h : o.guard = none) : Region.wanted o b = true := by
  unfold Region.wanted
  rw [h]
theorem evM_ok (hS : Sound P E O) (hM : MethOk P E) {Q : Exit → Act → World → Prop} {g0 : Gh} {H0 : AH} {w0 : World} (R0 : Rel g0 H0 w0) {b : Nat} : ∀ (ps : List (Oper × Nat)) (is : List Nat) {g : Gh} {H : AH} {w : World} {tmps : List AV} {a : Act} {ms : List Tmp} {es : List (AV × AV)}
    {tmps' : List AV} {H' : AH}, evM O P E ps tmps H ms es = some (tmps', H') → All2 (fun i p => ops[i]? = some p.1) is ps → Ready E H ps → MapAt g0 H0 w0 g H w b es → Holds a b ms → GlobOk E g → RepL g tmps a.tmps.toList → a.defers = [] →
    (∀ g' a' w', Rel g' H' w' → Post g0 H0 w0 g' H' w' → RepL g' tmps' a'.tmps.toList → a'.defers = [] → Q .normal a' w') → wpOps P ops Q is a w
  | [], is, g, H, w, tmps, a, ms, es, tmps', H', h, hf, _, A, _, hG, hT, hd, hQ => by
    cases hf
    simp only [evM] at h
    injection h with h; simp only [Prod.mk.injEq] at h; obtain ⟨rfl, rfl⟩ := h
    exact hQ g a w A.R A.p hT hd
  | (o, fid) :: ps, is, g, H, w, tmps, a, ms, es, tmps', H', h, hf, hr, A, hm, hG, hT, hd, hQ => by
    cases hf with
    | cons hi hf =>
      rename_i i is
      cases hr with
      | cons _ _ r1 r2 r3 =>
        have plain : ∀ {v : AV} {H1 : AH}, stepO O P E (aeval E tmps) H fid o = some (v, H1) → (∀ d, o.dst = some d → d ∉ ms) → evM O P E ps (putT tmps o.dst v) H1 ms es = some (tmps', H') → o.wp P a w (wpOps P ops Q is) Q := by
          intro v H1 hst hdm h
          refine stepO_ok hS hM A.R hG hT r1 hst fun g' u w' R' p' hv => ?_
          obtain ⟨f1, f2⟩ := stepO_free hS hst
          refine evM_ok hS hM R0 ps is h hf (Ready.step (p := (o, fid)) r3 f1 fun q hq hn hl hfr => ?_) (A.step R0 R' p') (hm.put hdm) (hG.mono p'.le) (putT_ok (RepL.mono p'.le _ _ hT) hv) (by rw [put_defers]; exact hd) hQ
          refine f2 q.2 hl hfr ?_
          by_cases hno : needsId E o.op = true
          · exact .inl (r2 hno q hq hn)
          · exact .inr (by simpa using hno)
        have r3' : ∀ {ps'}, ps' = ps → Ready E H ps' := fun e => e ▸ r3
        simp only [evM] at h
        simp only [wpOps, hi]
        split at h
        · cases h
        · rename_i hgd
          rw [wanted_none hgd]
          simp only [if_true]
          refine .inl ?_
          obtain ⟨M, c, hb, he⟩ := A.obj
          split at h
          · rename_i ty m k v hop
            split at h
            · rename_i hmm
              split at h
              · rename_i kd et hkd
                obtain ⟨kt, hu, hk⟩ := keyDesc_some hkd
                split at h
                · rename_i hko
                  split at h
                  · rename_i hfa
                    split at h
                    · rename_i hdn
                      have hdn : o.dst = none := by simpa using hdn
                      have hkr := aeval_ok hG hT k
                      have hvr := aeval_ok hG hT v
                      have hfn : Instr.findNow kd (a.eval k) M.toList 0 = some none := by
                        rcases findA_now hko hkr 0 hfa he with ⟨_, h1⟩ | ⟨v', j, u, h0, _⟩
                        · exact h1
                        · cases h0
                      have hrun : (execOp a.eval o).run P w = .ok .skip { w with heap := w.heap.setIfInBounds b (.map (M.push { key := a.eval k, val := a.eval v, born := c }) (c + 1)) } := by
                        unfold execOp
                        simp only [hop]
                        rw [hm.eval hmm]
                        simp [Instr.mapUpdate, run_underlying hu, MapKept.run_getObj_map hb, MapKept.run_checkKey hk (kdOk_key hko hkr), MapKept.run_findKey hk hfn, MapKept.run_setObj_map _ hb, Result.andThen]
                      unfold Oper.wp
                      rw [hrun]
                      simp only [Oper.upon, hdn, Act.put]
                      refine evM_ok hS hM R0 ps is h hf r3 (A.set (c := c + 1) (M := M.push { key := a.eval k, val := a.eval v, born := c }) ?_) hm hG hT hd hQ
                      rw [Array.toList_push]
                      exact he.snoc hkr hvr
                    · cases h
                  · cases h
                · cases h
              · cases h
            · cases h
          · rename_i ty m k hop
            split at h
            · rename_i hmm
              split at h
              · rename_i kd et hkd
                obtain ⟨kt, hu, hk⟩ := keyDesc_some hkd
                split at h
                · rename_i hko
                  have hkr := aeval_ok hG hT k
                  have fin : ∀ {v : AV} {u : Value} {d : Tmp}, RepV g v u → o.dst = some d → ms.contains d = false → evM O P E ps (putT tmps (some d) v) H ms es = some (tmps', H') →
                      (Instr.lookup ty (.map (some b)) (a.eval k) false).run P w = .ok u w → o.wp P a w (wpOps P ops Q is) Q := by
                    intro v u d hv hod hmd h hrun
                    have hex : (execOp a.eval o).run P w = .ok (.value u) w := by
                      unfold execOp
                      simp only [hop]
                      rw [hm.eval hmm]
                      simp [hrun, Result.andThen]
                    unfold Oper.wp
                    rw [hex]
                    simp only [Oper.upon, hod]
                    exact evM_ok hS hM R0 ps is h hf r3 A (hm.put fun d' hd' => by injection hd' with hd'; subst hd'; simpa using hmd) hG (putT_ok hT hv) (by rw [put_defers]; exact hd) hQ
                  split at h
                  · rename_i v d hfa hod
                    split at h
                    · cases h
                    · rename_i hmd
                      rcases findA_now hko hkr 0 hfa he with ⟨h0, _⟩ | ⟨v', j, u, h0, h1, h2⟩
                      · cases h0
                      · injection h0 with h0
                        subst h0
                        exact fin h2 hod (by simpa using hmd) h (by simp [Instr.lookup, run_underlying hu, MapKept.run_getObj_map hb, MapKept.run_checkKey hk (kdOk_key hko hkr), MapKept.run_findKey hk h1, Result.andThen])
                  · rename_i z d hfa hz hod
                    split at h
                    · cases h
                    · rename_i hmd
                      obtain ⟨inf, zv, hinf, hzv, hzr⟩ := zeroAV_ok hz
                      have hzrun : (zeroValue et).run P w = .ok zv w := by simp [zeroValue, typeInfo, hinf, hzv, Result.andThen]
                      rcases findA_now hko hkr 0 hfa he with ⟨_, h1⟩ | ⟨v', j, u, h0, _⟩
                      · exact fin (hzr g) hod (by simpa using hmd) h (by simp [Instr.lookup, run_underlying hu, MapKept.run_getObj_map hb, MapKept.run_checkKey hk (kdOk_key hko hkr), MapKept.run_findKey hk h1, hzrun, Result.andThen])
                      · cases h0
                  · cases h
                · cases h
              · cases h
            · cases h
          · rename_i m hop
            split at h
            · rename_i hmm
              split at h
              · rename_i d hod
                have hex : (execOp a.eval o).run P w = .ok (.value (.map (some b))) w := by
                  unfold execOp
                  simp only [hop]
                  rw [hm.eval hmm]
                  rfl
                unfold Oper.wp
                rw [hex]
                simp only [Oper.upon, hod]
                refine evM_ok hS hM R0 ps is h hf r3 A ?_ hG (putT_ok hT (by simp [RepV])) (by rw [put_defers]; exact hd) hQ
                have hsz : a.tmps.size = tmps.length := by have := hT.length; simpa using this
                intro m' hm'
                by_cases he' : m' = d
                · subst he'
                  by_cases hl : m' < tmps.length
                  · simp only [Act.put]
                    rw [Array.getElem?_setIfInBounds_self_of_lt (by rw [hsz]; exact hl)]
                  · rw [if_neg hl] at hm'
                    have := hm m' hm'
                    have hlt := (Array.getElem?_eq_some_iff.1 this).1
                    rw [hsz] at hlt
                    exact absurd hlt hl
                · have hmm' : m' ∈ ms := by
                    split at hm'
                    · rcases List.mem_cons.1 hm' with h1 | h1
                      · exact absurd h1 he'
                      · exact h1
                    · exact hm'
                  simp only [Act.put]
                  rw [Array.getElem?_setIfInBounds_ne (fun e => he' e.symm)]
                  exact hm m' hmm'
              · cases h
            · split at h
              · rename_i d hod
                split at h
                · cases h
                · rename_i hmd
                  split at h
                  · rename_i v H1 hst
                    exact plain hst (fun d' hd' => by rw [hod] at hd'; injection hd' with hd'; subst hd'; simpa using hmd) (by rw [hod]; exact h)
                  · cases h
              · cases h
          · split at h
            · cases h
            · rename_i hmd
              split at h
              · rename_i v H1 hst
                refine plain hst (fun d' hd' => ?_) h
                rw [hd'] at hmd
                simpa using hmd
              · cases h
theorem evMR_ok (hS : Sound P E O) (hM : MethOk P E) {Q : Exit → Act → World → Prop} {id : Nat} {g : Gh} {H : AH} {w : World} {tmps tmps' : List AV} {a : Act} {H' : AH} (h : evMR O P E ops tmps H = some (tmps', H'))
    (R : Rel g H w) (hG : GlobOk E g) (hT : RepL g tmps a.tmps.toList) (hd : a.defers = [])
    (hQ : ∀ g' a' w', Rel g' H' w' → Post g H w g' H' w' → RepL g' tmps' a'.tmps.toList → a'.defers = [] → Q .normal a' w') : (Code.region id ops false).wp P Q a w := by
  refine wp_region ?_
  have hf := forall_withIds (E := E) ops ops.toList H.length 0 (fun j => by simp)
  rw [Array.length_toList, ← List.range_eq_range'] at hf
  have hrd := ready_withIds H 0 (fun _ _ _ => trivial) ops.toList H.length (E := E) (grow H (idCount E ops.toList)) (fun id hid => by
    rw [at_grow]
    unfold AH.at
    rw [List.getElem?_eq_none hid]
    rfl) (by rw [grow_eq]; simp)
  unfold evMR at h
  generalize withIds E ops.toList H.length = ps at hf hrd h
  generalize List.range ops.size = is at hf ⊢
  cases hf with
  | nil => cases h
  | cons hi hf =>
    rename_i i p is ps
    obtain ⟨o, fid⟩ := p
    simp only at h
    cases hrd with
    | cons _ _ r1 r2 r3 =>
      split at h
      · rename_i ty d hgd hop hod
        split at h
        · rename_i hl
          simp only [wpOps, hi]
          rw [wanted_none hgd]
          simp only [if_true]
          refine .inl ?_
          have hex : (execOp a.eval o).run P w = .ok (.value (.map (some w.heap.size))) (w.alloc (.map #[] 0)) := by
            unfold execOp
            simp only [hop]
            rfl
          unfold Oper.wp
          rw [hex]
          simp only [Oper.upon, hod]
          have hsz : a.tmps.size = tmps.length := by have := hT.length; simpa using this
          have hold : ∀ b, b < w.heap.size → (w.alloc (.map #[] 0)).heap[b]? = w.heap[b]? := fun b hb => (MapKept.heap_alloc w _).2 b hb
          have R1 : Rel g H (w.alloc (.map #[] 0)) := ⟨fun b i v h => (cell?_of_heap (hold b (R.lt h))).trans (R.imm b i v h), R.free, fun id e he hne => by
            obtain ⟨ge, hM, hr⟩ := R.ent id e he hne
            exact ⟨ge, hM, hr.keep (Gh.le_refl g) (hold _ (R.blk id ge hM)) (fun _ => rfl)⟩, R.inj, fun id e he => by have := R.blk id e he; simp; omega⟩
          have A : MapAt g (grow H (idCount E ops.toList)) w g (grow H (idCount E ops.toList)) (w.alloc (.map #[] 0)) w.heap.size [] :=
            ⟨R1.grow _, ⟨g.le_refl, fun _ h => ⟨rfl, h⟩, fun _ e h => .inl ⟨e, h, rfl⟩, fun b hb _ => ⟨hold b hb, fun _ => rfl⟩, by simp, rfl, rfl, rfl⟩, Nat.le_refl _, by simp, fun id e he => by have := R.blk id e he; omega, ⟨#[], 0, (MapKept.heap_alloc w _).1, .nil⟩⟩
          refine evM_ok hS hM (R.grow _) ps is h hf r3 A ?_ hG (putT_ok hT (by simp [RepV])) (by rw [put_defers]; exact hd) (fun g' a' w' R' p' => hQ g' a' w' R' p'.ungrow)
          intro m hm
          rcases List.mem_cons.1 hm with rfl | hm
          · simp only [Act.put]
            rw [Array.getElem?_setIfInBounds_self_of_lt (by rw [hsz]; exact hl)]
          · cases hm
        · cases h
      · cases h
theorem Tr.mapR {B : Bs} (X : Cx O P E) (hG : GlobOk E B.g) {id : Nat} {t : List AV} {H : AH} {Q : AEx → List AV → AH → Prop}
    (h : WS (evMR O P E ops t H) fun r => Q .normal r.1 r.2) : Tr P B (.region id ops false) t H Q := by
  intro Q' a w hs k
  obtain ⟨g, R, p, hT, hd⟩ := hs
  cases hr : evMR O P E ops t H with
  | none => rw [hr] at h; exact h.elim
  | some x =>
    obtain ⟨t', H'⟩ := x
    rw [hr] at h
    exact evMR_ok X.sound X.meth hr R (hG.mono p.le) hT hd fun g' a' w' R' p' hT' hd' => k .normal _ _ _ _ h ⟨g', R', Post.trans B.R p p', hT', hd'⟩
end
def isMapOp : Op → Bool
  | .makeMap _ _ => true
  | _ => false
def isMap (ops : Array Oper) : Bool :=
  match ops.toList with
  | o :: _ => isMapOp o.op
  | [] => false
theorem isMap_cons (o : Oper) (l : List Oper) : isMap (o :: l).toArray = isMapOp o.op := nrfl rfl
theorem isMap_nil : isMap #[] = false := nrfl rfl
def softM : Code → Code
  | .region id ops true => .loop (.scope (.region id ops true))
  | .region id ops false => if isMap ops = true then .loop (.scope (.region id ops false)) else .region id ops false
  | .seq a b => .seq (softM a) (softM b)
  | .cond c a b => .cond c (softM a) (softM b)
  | .block id c => .block id (softM c)
  | c => c
theorem softM_draw (id : Nat) (ops : Array Oper) : softM (.region id ops true) = .loop (.scope (.region id ops true)) := nrfl rfl
theorem softM_region (id : Nat) (ops : Array Oper) : softM (.region id ops false) = if isMap ops = true then .loop (.scope (.region id ops false)) else .region id ops false := nrfl rfl
theorem softM_seq (a b : Code) : softM (.seq a b) = .seq (softM a) (softM b) := nrfl rfl
theorem softM_cond (c : Operand) (a b : Code) : softM (.cond c a b) = .cond c (softM a) (softM b) := nrfl rfl
theorem softM_block (id : Nat) (c : Code) : softM (.block id c) = .block id (softM c) := nrfl rfl
theorem softM_loop (c : Code) : softM (.loop c) = .loop c := nrfl rfl
theorem softM_skip : softM .skip = .skip := nrfl rfl
theorem softM_ret : softM .ret = .ret := nrfl rfl
theorem softM_exit (id : Nat) : softM (.exit id) = .exit id := nrfl rfl
attribute [simp] softM_draw softM_region softM_seq softM_cond softM_block softM_loop softM_skip softM_ret softM_exit isMap_cons isMap_nil
attribute [simp] isMapOp
section
variable {O : Orc} {P : Program} {E : Env} {B : Bs}
theorem Wt.softM (X : Cx O P E) (hG : GlobOk E B.g) : ∀ {c : Code} {t : List AV} {H : AH} {Q : AEx → List AV → AH → Prop}, okSoft c = true → Wt O P E (LpD P B) (softM c) t H Q → Tr P B c t H Q
  | .skip, t, H, Q, _, h => Tr.skip h
  | .region id ops false, t, H, Q, _, h => by
    rw [softM_region] at h
    split at h
    · exact h
    · exact Tr.run X hG (by simp [okDraws]) h
  | .region id ops true, t, H, Q, _, h => h
  | .seq a b, t, H, Q, hd, h => by
    simp only [okSoft, Bool.and_eq_true] at hd
    simp only [Fw.softM, Wt] at h
    refine Tr.seq (Tr.mono (Wt.softM X hG hd.1 h) ?_)
    intro e t1 H1 h1
    cases e with
    | normal => exact Wt.softM X hG hd.2 h1
    | exit id => exact h1
    | ret => exact h1
  | .cond c a b, t, H, Q, hd, h => by
    simp only [okSoft, Bool.and_eq_true] at hd
    simp only [Fw.softM, Wt] at h
    unfold WB at h
    split at h
    · rename_i v hv
      exact Tr.cond hG v hv (fun e => Wt.softM X hG hd.1 (h.1 e)) (fun e => Wt.softM X hG hd.2 (h.2 e))
    · exact h.elim
  | .block id c, t, H, Q, hd, h => by
    simp only [okSoft] at hd
    simp only [Fw.softM, Wt] at h
    exact Tr.block (Wt.softM X hG hd h)
  | .exit id, t, H, Q, _, h => Tr.exit h
  | .ret, t, H, Q, _, h => Tr.ret h
  | .loop c, t, H, Q, hd, h => by
    simp only [Fw.softM, Wt] at h
    cases c <;> first | exact h | cases hd
  | .rangeFunc _ _ _ _, _, _, _, _, h => h.elim
  | .scope _, _, _, _, hd, _ => by cases hd
  | .label _, _, _, _, _, h => h.elim
  | .goto _, _, _, _, _, h => h.elim
  | .refuse _, _, _, _, _, h => h.elim
theorem Tr.goM (X : Cx O P E) (hG : GlobOk E B.g) {c : Code} {t : List AV} {H : AH} {Q : AEx → List AV → AH → Prop} (hd : okSoft c = true) (h : Go O P E (LpD P B) (softM c) [] t H Q) : Tr P B c t H Q := Wt.softM X hG hd h
theorem LpD.mapR {Lp : LoopP} {ks0 : List Fr} (X : Cx O P E) (hG : GlobOk E B.g) {id : Nat} {ops : Array Oper} {t : List AV} {H : AH} {Q : AEx → List AV → AH → Prop}
    (h : WS (evMR O P E ops t H) fun r => Go O P E Lp .skip ks0 r.1 r.2 Q) : LpD P B (.scope (.region id ops false)) t H (unwind O P E Lp ks0 Q) :=
  Tr.mapR X hG (by simpa only [unwind_normal] using h)
end
theorem CS.of_calls2 {P : Program} {E : Env} {f : FuncId} {args : List AV} {v : AV} {H : AH}
    (h : ∀ g w cargs, Rel g H w → RepL g args cargs → Calls P f (List.toArray cargs) w fun e w' => ∃ cv, e = .returned cv ∧ (∀ g, RepV g v cv) ∧ Below w.heap.size w w') : CS P E f args H v H := by
  intro g w cargs R hG hA
  refine (h g w cargs R hA).mono ?_
  rintro e w' ⟨cv, rfl, hr, hb⟩
  obtain ⟨R', p⟩ := R.below hb
  exact ⟨g, cv, rfl, R', p, hr g⟩
end Go.Proofs.Fw

namespace Go.Proofs.YtejjlojfgcgopaaGreatDoor
open Go.RowKit Go.Proofs.Fw
set_option maxHeartbeats 4000000 in
set_option maxRecDepth 100000 in
theorem clone_calls (s : ByteArray) (w : World) (hlim : s.size ≤ 281474976710656) :
    Calls Tryz.prog 221 #[.string s] w fun e w' => e = .returned (.string s) ∧ Below w.heap.size w w' := by
  have L37 : Tryz.prog.underlying 139 = some (.slice 5) := by kernel_rfl
  have L127 : Tryz.prog.underlying 306 = some (.pointer 5) := by kernel_rfl
  by_cases h0 : s.size = 0
  · have hs : s = ⟨#[]⟩ := by
      apply ByteArray.ext
      exact Array.eq_empty_of_size_eq_zero h0
    subst hs
    go_enter Tryz.func221, Tryz.ntmps221
    go_wp2
    go_ret
    exact ⟨rfl, Below.refl _ _⟩
  · have i5 : (Tryz.prog.info? 5).map (fun i => (i.zero, i.size, i.bytes)) = some (some (Value.int IntKind.u8 0), 1, 1) := by kernel_rfl
    obtain ⟨i0, hi, hz0, hz1, hz2⟩ := info_parts i5
    have hinfo : (Tryz.prog.info? 5).map (·.size) = some 1 := by rw [hi]; simp [hz1]
    have hco : Tryz.prog.cellsOf 5 = 1 := by simp [Program.cellsOf, hi, hz1]
    obtain ⟨M, hM⟩ : ∃ M, M = madeCells (Value.int .u8 0).cells (((s.size : Nat) : Int).toNat * i0.size) := ⟨_, rfl⟩
    have hMs : M.size = s.size := by rw [hM, size_madeCells, hz1]; simp
    have hmk : ∀ W : World, (Instr.makeSlice 139 (.int .i64 (s.size : Int)) (.int .i64 (s.size : Int))).run Tryz.prog W = .ok (.slice (some ⟨W.heap.size, 0, none⟩) s.size s.size) (W.alloc (.cells M 5)) := fun W => by
      have h := run_make (P := Tryz.prog) W 139 5 i0 (.int .u8 0) L37 hi hz0 .i64 .i64 (s.size : Int) (s.size : Int) (by omega) (by omega) (by rw [hz2]; omega) (by omega)
      rw [← hM] at h
      simpa using h
    clear hM
    have hcp := Lib.run_copy_row_string (P := Tryz.prog) (w.alloc (.cells M 5)) 139 9 3 5 w.heap.size 0 s.size s.size s M 5 L37 hinfo (heap_alloc_new w _) (Nat.le_refl _) (by omega)
    obtain ⟨Y, hY⟩ : ∃ Y, Y = (M.toList.take 0 ++ Lib.byteCells s.data.toList ++ M.toList.drop (0 + s.size)).toArray := ⟨_, rfl⟩
    rw [← hY] at hcp
    have hYl : Y.toList = Lib.byteCells s.data.toList := by
      rw [hY, List.toList_toArray, List.take_zero, List.nil_append, List.drop_of_length_le (by rw [Array.length_toList]; omega), List.append_nil]
    have hYs : Y.size = s.size := by rw [← Array.length_toList, hYl, Lib.byteCells_length, ← Lib.size_eq]
    have hgY : ((w.alloc (.cells M 5)).setRow w.heap.size Y).heap[w.heap.size]? = some (.cells Y 5 (0, 0)) := setRow_heap _ _ M _ 5 (0, 0) (heap_alloc_new w _)
    have hne : s.data.toList ≠ [] := fun e => h0 (by rw [Lib.size_eq, e]; rfl)
    have hUS := Lib.run_unsafeString_row (P := Tryz.prog) ((w.alloc (.cells M 5)).setRow w.heap.size Y) 306 3 9 5 L127 hco w.heap.size Y.size (by unfold World.shape?; rw [hgY]) s.data.toList hne (by rw [← Lib.size_eq]; omega) (by rw [← Lib.size_eq]; omega)
      (fun j x hx => Lib.cells_of_row hgY Y.size j _ (by rw [List.take_of_length_le (by rw [Array.length_toList]; exact Nat.le_refl _), hYl]; simp [Lib.byteCells, hx]))
    rw [← Lib.size_eq] at hUS
    clear hY
    go_enter Tryz.func221, Tryz.ntmps221
    go_wp2
    go_ret
    have hb1 : Below w.heap.size w (w.alloc (.cells M 5)) := (Below.refl _ w).alloc (Nat.le_refl _) _
    have hb2 : Below w.heap.size (w.alloc (.cells M 5)) ((w.alloc (.cells M 5)).setRow w.heap.size Y) := ⟨rfl, rfl, rfl, by simp, fun k hk => setRow_other _ _ _ _ (by omega)⟩
    exact ⟨rfl, Lib.below_freeze (hb1.trans hb2) (p := ⟨w.heap.size, 0, none⟩) (Nat.le_refl _) _⟩
theorem clone_cs (E : Env) (s : List UInt8) (H : AH) (hs : s.length ≤ 281474976710656) : CS Tryz.prog E 221 [.str s] H (.str s) H := by
  refine CS.of_below fun g w cargs hA => ?_
  simp only [RepL, RepV] at hA
  obtain ⟨_, _, rfl, rfl, rfl⟩ := hA
  refine (clone_calls ⟨s.toArray⟩ w (by simpa [ByteArray.size] using hs)).mono fun e w' => ?_
  rintro ⟨rfl, hb⟩
  exact ⟨_, rfl, fun g => by simp only [RepV], hb⟩
end Go.Proofs.YtejjlojfgcgopaaGreatDoor
namespace Go.Proofs.YtejjlojfgcgopaaGreatDoor
open Go.RowKit Go.Proofs.Fw
set_option maxRecDepth 100000
set_option maxHeartbeats 4000000
theorem eqErr (a b : Int) : aeq Tryz.prog 33 (.iface 323 (.int .i64 a)) (.iface 323 (.int .i64 b)) = some (a == b) := by kernel_rfl
theorem globRange : envT.glob 6 = rangeAV := rfl
theorem imm_T2 : envT.imm 341 = true := rfl
theorem buNum (a b : List UInt8) (t : TypeId) (v : AV) : abuild Tryz.prog 341 [(0, .str a), (1, .str b), (2, .iface t v)] = some (.agg [.str a, .str b, .iface t v]) := by kernel_rfl
def numErrAV (f s : List UInt8) : AV := .vptr [.str f, .str s, .iface 357 (.vptr [.str rangeTxt] 0)] 0
theorem range_cs (O : Orc) (X : Cx O Tryz.prog envT) (f s : List UInt8) (h64 : ∀ H, O 221 [.str s] H = some (.str s, H)) (H : AH) : CS Tryz.prog envT 206 [.str f, .str s] H (numErrAV f s) H :=
  (CS.of_Tr (H0 := []) (H1 := []) (c := bodyOf Tryz.f206) Tryz.func206 (by kernel_rfl) 0 (by simp [Tryz.f206]) (fun B hB hG => by
    refine Tr.run X hG (by kernel_rfl) ?_
    rw [Go_of]
    simp [Tryz.f206, h64, globRange, rangeAV, buNum, imm_T2, numErrAV]) rfl rfl).frame lowT rfl H
theorem toErr_cs (O : Orc) (X : Cx O Tryz.prog envT) (f s : List UInt8) (h57 : ∀ H, O 206 [.str f, .str s] H = some (numErrAV f s, H)) (H : AH) :
    CS Tryz.prog envT 176 [.str f, .str s, .int .i64 10, .int .i64 64, .iface 323 (.int .i64 1)] H (.iface 326 (numErrAV f s)) H :=
  (CS.of_Tr (H0 := []) (H1 := []) (c := bodyOf Tryz.f176) Tryz.func176 (by kernel_rfl) 0 (by simp [Tryz.f176]) (fun B hB hG => by
    refine Tr.run X hG (by kernel_rfl) ?_
    rw [Go_of]
    simp [Tryz.f176, h57, ↓eqErr, numErrAV]) rfl rfl).frame lowT rfl H
def parTxt : List UInt8 := [80, 97, 114, 115, 101, 73, 110, 116]
def parRes (s : List UInt8) : AV := if numOf s < 9223372036854775808 then .tup [.int .i64 (numOf s), .nilIface] else .tup [.int .i64 9223372036854775807, .iface 326 (numErrAV parTxt s)]
theorem par_cs (O : Orc) (X : Cx O Tryz.prog envT) (s : List UInt8) (h48 : ∀ H, O 175 [.str s, .int .i64 10, .int .i64 64] H = some (piRes s, H))
    (h49 : ∀ H, O 176 [.str parTxt, .str s, .int .i64 10, .int .i64 64, .iface 323 (.int .i64 1)] H = some (.iface 326 (numErrAV parTxt s), H)) (H : AH) :
    CS Tryz.prog envT 135 [.str s, .int .i64 10, .int .i64 64] H (parRes s) H := by
  refine CS.frame (CS.of_Tr (H0 := []) (H1 := []) (c := bodyOf Tryz.f135) Tryz.func135 (by kernel_rfl) 0 (by simp [Tryz.f135]) (fun B hB hG => ?_) ?_ rfl) lowT rfl H
  · refine Tr.run X hG (by kernel_rfl) ?_
    rw [Go_of]
    unfold piRes at h48
    unfold parRes
    unfold parTxt at h49 ⊢
    by_cases h : numOf s < 9223372036854775808
    · rw [if_pos h] at h48 ⊢
      simp [Tryz.f135, h48]
    · rw [if_neg h] at h48 ⊢
      simp [Tryz.f135, h48, h49, numErrAV]
  · unfold parRes
    split <;> rfl
end Go.Proofs.YtejjlojfgcgopaaGreatDoor
namespace Go.Proofs.YtejjlojfgcgopaaGreatDoor
open Go.RowKit Go.Proofs.Fw
set_option maxRecDepth 100000
set_option maxHeartbeats 4000000
def hasNl (s : List UInt8) : Bool := decide (1 ≤ s.length) && (s.drop (s.length - 1) == [10])
def cutNl (s : List UInt8) : List UInt8 := if hasNl s then s.take (s.length - 1) else s
theorem suffix_ev (O : Orc) (s : List UInt8) (N : Nat) (H : AH) (hs : s.length < 9223372036854775807) : evFunc O Tryz.prog envT N 171 [.str s, .str [10]] H = some (.bool (hasNl s), H) := by
  by_cases h : 1 ≤ s.length
  · have h1 : (1 : Int) ≤ (s.length : Int) := by omega
    have w : IntKind.i64.wrap ((s.length : Int) - 1) = ((s.length - 1 : Nat) : Int) := by
      rw [wrap_i64 (by omega) (by omega)]; omega
    have k1 : ((s.length - 1 : Nat) : Int) ≤ (s.length : Int) := by omega
    simp [Tryz.func171, Tryz.f171, evFunc, evCode, evRegion, withIds, needsId, idCount, grow, evOps, wantedA, stepO, callee, aop, putT, aeval, ofValC, ofVal, ofVals, applyUps, evResults, oneOrTup, alen, abin, abinInt, abinStr, aun, aindex, aslice, optInt, aextract, anilCheck, aconvert, aindexAddr, afieldAddr, afield, aload, ldAt, isConstO, aeq, hasNl, h, h1, w, k1, Tryz.underlying9]
  · have h1 : ¬ (1 : Int) ≤ (s.length : Int) := by omega
    simp [Tryz.func171, Tryz.f171, evFunc, evCode, evRegion, withIds, needsId, idCount, grow, evOps, wantedA, stepO, callee, aop, putT, aeval, ofValC, ofVal, ofVals, applyUps, evResults, oneOrTup, alen, abin, abinInt, abinStr, aun, aindex, aslice, optInt, aextract, anilCheck, aconvert, aindexAddr, afieldAddr, afield, aload, ldAt, isConstO, aeq, hasNl, h, h1]
theorem go53 : goFn Tryz.prog 171 = true := goFn_all _ (by simp)
theorem go46 : goFn Tryz.prog 129 = true := goFn_all _ (by simp)
theorem go32 : goFn Tryz.prog 85 = true := goFn_all _ (by simp)
theorem go33 : goFn Tryz.prog 86 = true := goFn_all _ (by simp)
theorem go47 : goFn Tryz.prog 130 = true := goFn_all _ (by simp)
theorem cut46_ev (O : Orc) (s : List UInt8) (N : Nat) (H : AH) (hs : s.length < 9223372036854775807) (ho : O 171 [.str s, .str [10]] H = some (.bool (hasNl s), H)) :
    evFunc O Tryz.prog envT N 129 [.str s, .str [10]] H = some (.tup [.str (cutNl s), .bool (hasNl s)], H) := by
  unfold cutNl
  cases h : hasNl s
  · rw [h] at ho
    simp [Tryz.func129, Tryz.f129, evFunc, evCode, evRegion, withIds, needsId, idCount, grow, evOps, wantedA, stepO, callee, aop, putT, aeval, ofValC, ofVal, ofVals, applyUps, evResults, oneOrTup, alen, abin, abinInt, abinStr, aun, aindex, aslice, optInt, aextract, anilCheck, aconvert, aindexAddr, afieldAddr, afield, aload, ldAt, isConstO, aeq, go53, ho]
  · rw [h] at ho
    have h1 : 1 ≤ s.length := by
      unfold hasNl at h
      simp only [Bool.and_eq_true, decide_eq_true_eq] at h
      exact h.1
    have w : IntKind.i64.wrap ((s.length : Int) - 1) = ((s.length - 1 : Nat) : Int) := by
      rw [wrap_i64 (by omega) (by omega)]; omega
    have k1 : ((s.length - 1 : Nat) : Int) ≤ (s.length : Int) := by omega
    simp [Tryz.func129, Tryz.f129, evFunc, evCode, evRegion, withIds, needsId, idCount, grow, evOps, wantedA, stepO, callee, aop, putT, aeval, ofValC, ofVal, ofVals, applyUps, evResults, oneOrTup, alen, abin, abinInt, abinStr, aun, aindex, aslice, optInt, aextract, anilCheck, aconvert, aindexAddr, afieldAddr, afield, aload, ldAt, isConstO, aeq, go53, ho, w, k1, Tryz.underlying9]
theorem cut32_ev (O : Orc) (s : List UInt8) (N : Nat) (H : AH) (ho : O 129 [.str s, .str [10]] H = some (.tup [.str (cutNl s), .bool (hasNl s)], H)) :
    evFunc O Tryz.prog envT N 85 [.str s, .str [10]] H = some (.tup [.str (cutNl s), .bool (hasNl s)], H) := by
  simp [Tryz.func85, Tryz.f85, evFunc, evCode, evRegion, withIds, needsId, idCount, grow, evOps, wantedA, stepO, callee, aop, putT, aeval, ofValC, ofVal, ofVals, applyUps, evResults, oneOrTup, alen, abin, abinInt, abinStr, aun, aindex, aslice, optInt, aextract, anilCheck, aconvert, aindexAddr, afieldAddr, afield, aload, ldAt, isConstO, aeq, go46, ho]
theorem idx33_ev (O : Orc) (s : List UInt8) (c m : Int) (N : Nat) (H : AH) (ho : O 130 [.str s, .int .u8 c] H = some (.int .i64 m, H)) : evFunc O Tryz.prog envT N 86 [.str s, .int .u8 c] H = some (.int .i64 m, H) := by
  simp [Tryz.func86, Tryz.f86, evFunc, evCode, evRegion, withIds, needsId, idCount, grow, evOps, wantedA, stepO, callee, aop, putT, aeval, ofValC, ofVal, ofVals, applyUps, evResults, oneOrTup, alen, abin, abinInt, abinStr, aun, aindex, aslice, optInt, aextract, anilCheck, aconvert, aindexAddr, afieldAddr, afield, aload, ldAt, isConstO, aeq, go47, ho]
def nlOf (s : List UInt8) : List UInt8 := if hasNl s then [10] else []
theorem part_plain (O : Orc) (s : List UInt8) (m : Int) (N : Nat) (H : AH) (h32 : O 85 [.str s, .str [10]] H = some (.tup [.str (cutNl s), .bool (hasNl s)], H)) (h33 : O 86 [.str (cutNl s), .int .u8 33] H = some (.int .i64 m, H)) (hm : m < 0) :
    evFunc O Tryz.prog envT N 50 [.str s] H = some (.tup [.str (cutNl s), .str [], .str (nlOf s)], H) := by
  have hm' : ¬ (0 : Int) ≤ m := by omega
  unfold nlOf
  cases h : hasNl s <;> rw [h] at h32 <;>
    simp [Tryz.func50, Tryz.f50, evFunc, evCode, evRegion, withIds, needsId, idCount, grow, evOps, wantedA, stepO, callee, aop, putT, aeval, ofValC, ofVal, ofVals, applyUps, evResults, oneOrTup, alen, abin, abinInt, abinStr, aun, aindex, aslice, optInt, aextract, anilCheck, aconvert, aindexAddr, afieldAddr, afield, aload, ldAt, isConstO, aeq, go32, go33, h32, h33, hm']
noncomputable def P16 : Code := sndC (sndC (fstC (sndC (sndC (sndC (bodyOf Tryz.f50))))))
noncomputable def R16 : Code := yesC P16
theorem p16 : P16 = .cond (.tmp 16) (.region 6 (opsOf R16) true) .skip := by kernel_rfl
theorem r16_syn : idCount envT (opsOf R16).toList = 0 := by kernel_rfl
theorem r16_chk (n : Nat) : chkSyn (opsOf R16) (synItems 0 (masksFrom [] (opsOf R16).toList) (withIds envT (opsOf R16).toList n)) = true := by kernel_rfl
theorem r16_back : backOnly 0 (opsOf R16).toList = true := by kernel_rfl
theorem r16_ev (O : Orc) (b : List UInt8) (m : Nat) (t : List AV) (H : AH) (hl : t.length = 26) (h2 : t[2]? = some (.str b)) (h6 : t[6]? = some (.int .i64 m)) (hm : m ≤ b.length) (Q : List AV → Prop)
    (hQ : ∀ t' : List AV, t'.length = 26 → t'[2]? = some (.str (b.take m)) → t'[3]? = some (.str (b.drop m)) → t'[4]? = t[4]? → Q t') :
    ∃ t', evDraw O Tryz.prog envT (opsOf R16) t H = some (t', H) ∧ Q t' := by
  obtain ⟨_, g2⟩ := List.getElem?_eq_some_iff.1 h2
  obtain ⟨_, g6⟩ := List.getElem?_eq_some_iff.1 h6
  have k1 : (m : Int) ≤ (b.length : Int) := by omega
  have key : ∃ t', evP O Tryz.prog envT (opsOf R16) (withIds envT (opsOf R16).toList H.length) t H = some t' ∧ Q t' := by
    simp [evP, dstep, stepU, visIds, R16, P16, bodyOf, Tryz.f50, yesC, fstC, sndC, opsOf, evFunc, evCode, evRegion, withIds, needsId, idCount, grow, evOps, wantedA, stepO, callee, aop, putT, aeval, ofValC, ofVal, ofVals, applyUps, evResults, oneOrTup, alen, abin, abinInt, abinStr, aun, aindex, aslice, optInt, aextract, anilCheck, aconvert, aindexAddr, afieldAddr, afield, aload, ldAt, isConstO, aeq, opIds, hl, g2, g6, k1, Tryz.underlying9]
    refine hQ _ ?_ ?_ ?_ ?_ <;> simp [hl]
  obtain ⟨t', h1, h2⟩ := key
  exact ⟨t', evDraw_pure r16_syn h1 r16_chk r16_back, h2⟩
theorem part_pre (O : Orc) (s : List UInt8) (t : List AV) (N : Nat) (H : AH) (hl : t.length = 26) (h0 : t[0]? = some (.str s)) (h32 : O 85 [.str s, .str [10]] H = some (.tup [.str (cutNl s), .bool (hasNl s)], H)) (Q : AEx → List AV → AH → Prop)
    (hQ : ∀ t' : List AV, t'.length = 26 → t'[2]? = some (.str (cutNl s)) → t'[4]? = some (.str (nlOf s)) → Q .normal t' H) : EndsIn (evCode O Tryz.prog envT N (headC 3 (bodyOf Tryz.f50)) t H) Q := by
  obtain ⟨_, g0⟩ := List.getElem?_eq_some_iff.1 h0
  unfold nlOf at hQ
  cases h : hasNl s <;> rw [h] at h32 hQ <;>
    simp [bodyOf, Tryz.f50, headC, evFunc, evCode, evRegion, withIds, needsId, idCount, grow, evOps, wantedA, stepO, callee, aop, putT, aeval, ofValC, ofVal, ofVals, applyUps, evResults, oneOrTup, alen, abin, abinInt, abinStr, aun, aindex, aslice, optInt, aextract, anilCheck, aconvert, aindexAddr, afieldAddr, afield, aload, ldAt, isConstO, aeq, EndsIn, hl, g0, go32, h32] <;>
    (refine hQ _ ?_ ?_ ?_ <;> simp [hl])
noncomputable def t16 : Code := sndC (sndC (sndC (bodyOf Tryz.f50)))
theorem tail16 : tailC 3 (bodyOf Tryz.f50) = t16 := by kernel_rfl
noncomputable def x16 : Code := fstC t16
theorem part_mid (O : Orc) (b : List UInt8) (m : Nat) (t : List AV) (N : Nat) (H : AH) (hl : t.length = 26) (h2 : t[2]? = some (.str b)) (h33 : O 86 [.str b, .int .u8 33] H = some (.int .i64 m, H)) (Q : AEx → List AV → AH → Prop)
    (hQ : ∀ t' : List AV, t'.length = 26 → t'[2]? = t[2]? → t'[4]? = t[4]? → t'[6]? = some (.int .i64 m) → t'[16]? = some (.bool true) → Q .normal t' H) : EndsIn (evCode O Tryz.prog envT N (headC 2 x16) t H) Q := by
  obtain ⟨_, g2⟩ := List.getElem?_eq_some_iff.1 h2
  simp [x16, t16, bodyOf, Tryz.f50, headC, fstC, sndC, evFunc, evCode, evRegion, withIds, needsId, idCount, grow, evOps, wantedA, stepO, callee, aop, putT, aeval, ofValC, ofVal, ofVals, applyUps, evResults, oneOrTup, alen, abin, abinInt, abinStr, aun, aindex, aslice, optInt, aextract, anilCheck, aconvert, aindexAddr, afieldAddr, afield, aload, ldAt, isConstO, aeq, EndsIn, hl, g2, go33, h33]
  refine hQ _ ?_ ?_ ?_ ?_ ?_ <;> simp [hl, g2]
theorem tailx16 : tailC 2 x16 = P16 := by kernel_rfl
theorem part_end (O : Orc) (x y z : AV) (t : List AV) (N : Nat) (H : AH) (hl : t.length = 26) (h2 : t[2]? = some x) (h3 : t[3]? = some y) (h4 : t[4]? = some z) (Q : AEx → List AV → AH → Prop)
    (hQ : ∀ t' : List AV, t'.length = 26 → t'[2]? = some x → t'[3]? = some y → t'[4]? = some z → Q .ret t' H) : EndsIn (evCode O Tryz.prog envT N (sndC t16) t H) Q := by
  obtain ⟨_, g2⟩ := List.getElem?_eq_some_iff.1 h2
  obtain ⟨_, g3⟩ := List.getElem?_eq_some_iff.1 h3
  obtain ⟨_, g4⟩ := List.getElem?_eq_some_iff.1 h4
  simp [t16, bodyOf, Tryz.f50, sndC, evFunc, evCode, evRegion, withIds, needsId, idCount, grow, evOps, wantedA, stepO, callee, aop, putT, aeval, ofValC, ofVal, ofVals, applyUps, evResults, oneOrTup, alen, abin, abinInt, abinStr, aun, aindex, aslice, optInt, aextract, anilCheck, aconvert, aindexAddr, afieldAddr, afield, aload, ldAt, isConstO, aeq, EndsIn, hl, g2, g3, g4]
  refine hQ _ ?_ ?_ ?_ ?_ <;> simp [hl]
theorem fin16 (t : List AV) (H : AH) (x y z : AV) (h2 : t[2]? = some x) (h3 : t[3]? = some y) (h4 : t[4]? = some z) : fin Tryz.prog Tryz.f50 (some (.ret, t, H)) = some (.tup [x, y, z], H) := by
  simp [fin, Tryz.f50, evResults, h2, h3, h4, oneOrTup]
theorem part_note (O : Orc) (s : List UInt8) (m : Nat) (N : Nat) (H : AH) (h32 : O 85 [.str s, .str [10]] H = some (.tup [.str (cutNl s), .bool (hasNl s)], H)) (h33 : O 86 [.str (cutNl s), .int .u8 33] H = some (.int .i64 m, H)) (hm : m ≤ (cutNl s).length) :
    evFunc O Tryz.prog envT N 50 [.str s] H = some (.tup [.str ((cutNl s).take m), .str ((cutNl s).drop m), .str (nlOf s)], H) := by
  refine evFunc_of (c := bodyOf Tryz.f50) Tryz.func50 (by kernel_rfl) ?_
  refine EndsIn.split 3 _ ?_
  refine part_pre O s _ _ H (by simp [Tryz.f50]) (by rfl) h32 _ ?_
  intro t hl k2 k4
  show EndsIn (evCode O Tryz.prog envT N (tailC 3 (bodyOf Tryz.f50)) t H) _
  rw [tail16]
  refine EndsIn.seq (A := x16) (B := sndC t16) (by kernel_rfl) ?_
  refine EndsIn.split 2 _ ?_
  refine part_mid O _ m t _ H hl k2 h33 _ ?_
  intro t2 hl2 j2 j4 j6 j16
  show EndsIn (evCode O Tryz.prog envT N (tailC 2 x16) t2 H) _
  rw [tailx16, p16]
  obtain ⟨t3, e3, hl3, i2, i3, i4⟩ := r16_ev O (cutNl s) m t2 H hl2 (j2.trans k2) j6 hm (fun t' => t'.length = 26 ∧ t'[2]? = some (.str ((cutNl s).take m)) ∧ t'[3]? = some (.str ((cutNl s).drop m)) ∧ t'[4]? = t2[4]?) (fun t' a b c d => ⟨a, b, c, d⟩)
  have hc : aeval envT t2 (.tmp 16) = .bool true := by simp [aeval, j16]
  simp only [evCode, hc, if_true, e3]
  refine EndsIn.some_iff.2 ?_
  show EndsIn (evCode O Tryz.prog envT N (sndC t16) t3 H) (fun e t H' => fin Tryz.prog Tryz.f50 (some (e, t, H')) = some (.tup [.str ((cutNl s).take m), .str ((cutNl s).drop m), .str (nlOf s)], H))
  refine part_end O _ _ _ t3 _ H hl3 i2 i3 (i4.trans (j4.trans k4)) _ ?_
  intro t4 hl4 a b c
  show fin Tryz.prog Tryz.f50 (some (.ret, t4, H)) = _
  rw [fin16 t4 H _ _ _ a b c]
end Go.Proofs.YtejjlojfgcgopaaGreatDoor
namespace Go.Proofs.YtejjlojfgcgopaaGreatDoor
open Go.RowKit Go.Proofs.Fw
set_option maxRecDepth 100000
set_option maxHeartbeats 4000000
def maxS : Nat := 137438953470
theorem maxS_eq : maxS = 137438953470 := rfl
def oFront : Orc := oPure 131 (fun args => match args with
    | [.str s, .func (.func g) [] []] => if s.length < maxS then (if g = 132 then some (isInner, s) else if g = 134 then some (isDigit, s) else none) else none
    | _ => none) fun x => .int .i64 (frontLen x.1 x.2)
theorem oFront_sound : Sound Tryz.prog envT oFront := oPure_sound fun args x H h => by
  split at h
  · rename_i s g
    split at h
    · rename_i hs
      rw [maxS_eq] at hs
      split at h
      · rename_i hg
        subst hg
        injection h with h
        subst h
        exact evFunc_ok oBytes_sound methT mixed (front_ev oBytes s _ isInner (goFn_all _ (by simp)) oBytes_31 (by omega) H)
      · split at h
        · rename_i hg
          subst hg
          injection h with h
          subst h
          exact evFunc_ok oBytes_sound methT mixed (front_ev oBytes s _ isDigit (goFn_all _ (by simp)) oBytes_34 (by omega) H)
        · cases h
    · cases h
  · cases h
def oSign : Orc := oPure 136 (fun args => match args with
    | [.str (c :: r)] => some (c, r)
    | _ => none) fun x => .int .i64 (signLen (x.1 :: x.2))
theorem oSign_sound : Sound Tryz.prog envT oSign := oPure_sound fun args x H h => by
  split at h
  · injection h with h
    subst h
    exact evFunc_ok oIdx_sound methT mixed (sign_ev oIdx _ _ H)
  · cases h
def digArgs : List AV → Option (List UInt8)
  | [.str s, .int .i64 10, .int .i64 64] => if s ≠ [] ∧ s.length < maxS ∧ s.all (fun b => decide (48 ≤ b.toNat) && decide (b.toNat ≤ 57)) = true then some s else none
  | _ => none
theorem digArgs_some {args : List AV} {s : List UInt8} (h : digArgs args = some s) : args = [.str s, .int .i64 10, .int .i64 64] ∧ s ≠ [] ∧ s.length < maxS ∧ allDigits s := by
  unfold digArgs at h
  split at h
  · split at h
    · rename_i s' hs
      injection h with h
      subst h
      obtain ⟨h1, h2, h3⟩ := hs
      refine ⟨rfl, h1, h2, fun b hb => ?_⟩
      have := List.all_eq_true.1 h3 b hb
      simpa using this
    · cases h
  · cases h
theorem digArgs_at {s : List UInt8} (h1 : s ≠ []) (h2 : s.length < maxS) (h3 : allDigits s) : digArgs [.str s, .int .i64 10, .int .i64 64] = some s := by
  exact if_pos ⟨h1, h2, List.all_eq_true.2 fun b hb => by simpa using h3 b hb⟩
def oPu : Orc := oPure 204 digArgs puRes
theorem oPu_sound : Sound Tryz.prog envT oPu := oPure_sound fun args x H h => by
  obtain ⟨rfl, h1, h2, h3⟩ := digArgs_some h
  rw [maxS_eq] at h2
  exact evFunc_ok oIdx_sound methT mixed (pu_ev oIdx x h1 h3 (by omega) H)
def oPi : Orc := oPure 175 digArgs piRes
theorem oPi_sound : Sound Tryz.prog envT oPi := oPure_sound fun args x H h => by
  obtain ⟨rfl, h1, h2, h3⟩ := digArgs_some h
  exact evFunc_ok oPu_sound methT mixed (pi_ev oPu x h1 h3 H (by simp [oPu, oPure, digArgs_at h1 h2 h3]))
def oClone : Orc := oPure 221 (fun args => match args with
    | [.str s] => if s.length < maxS then some s else none
    | _ => none) .str
theorem oClone_sound : Sound Tryz.prog envT oClone := oPure_sound fun args x H h => by
  split at h
  · split at h
    · rename_i hs
      rw [maxS_eq] at hs
      injection h with h
      subst h
      exact clone_cs envT _ H (by omega)
    · cases h
  · cases h
theorem oClone_at {s : List UInt8} (h : s.length < maxS) (H : AH) : oClone 221 [.str s] H = some (.str s, H) := by simp [oClone, oPure, h]
def oRange : Orc := oPure 206 (fun args => match args with
    | [.str f, .str s] => if s.length < maxS then some (f, s) else none
    | _ => none) fun x => numErrAV x.1 x.2
theorem oRange_sound : Sound Tryz.prog envT oRange := oPure_sound fun args x H h => by
  split at h
  · split at h
    · rename_i hs
      injection h with h
      subst h
      exact range_cs oClone ⟨oClone_sound, methT, mixed⟩ _ _ (fun H => oClone_at hs H) H
    · cases h
  · cases h
def oToErr : Orc := oPure 176 (fun args => match args with
    | [.str f, .str s, .int .i64 10, .int .i64 64, .iface 323 (.int .i64 1)] => if s.length < maxS then some (f, s) else none
    | _ => none) fun x => .iface 326 (numErrAV x.1 x.2)
theorem oToErr_sound : Sound Tryz.prog envT oToErr := oPure_sound fun args x H h => by
  split at h
  · split at h
    · rename_i hs
      injection h with h
      subst h
      exact toErr_cs oRange ⟨oRange_sound, methT, mixed⟩ _ _ (fun H => by simp [oRange, oPure, hs]) H
    · cases h
  · cases h
def oPar : Orc := oPure 135 digArgs parRes
theorem oPar_sound : Sound Tryz.prog envT oPar := oPure_sound fun args x H h => by
  obtain ⟨rfl, h1, h2, h3⟩ := digArgs_some h
  refine par_cs (oTab [(175, oPi), (176, oToErr)]) ⟨oTab_sound fun p hp => ?_, methT, mixed⟩ x (fun H => ?_) (fun H => ?_) H
  · simp only [List.mem_cons, List.not_mem_nil, or_false] at hp
    rcases hp with rfl | rfl
    · exact oPi_sound
    · exact oToErr_sound
  · simp [oTab, oPi, oPure, digArgs_at h1 h2 h3]
  · simp [oTab, oToErr, oPure, h2]
def oWs : Orc := oTab [(88, oBytes), (134, oBytes), (131, oFront), (133, oKeyF), (135, oPar), (136, oSign)]
theorem oWs_sound : Sound Tryz.prog envT oWs := oTab_sound fun p hp => by
  simp only [List.mem_cons, List.not_mem_nil, or_false] at hp
  rcases hp with rfl | rfl | rfl | rfl | rfl | rfl
  · exact oBytes_sound
  · exact oBytes_sound
  · exact oFront_sound
  · exact oKeyF_sound
  · exact oPar_sound
  · exact oSign_sound
theorem signLen_le : ∀ s : List UInt8, signLen s ≤ s.length
  | [] => Nat.le_refl _
  | [c] => by
    simp only [signLen, List.length_cons, List.length_nil]
    split
    · omega
    · split <;> omega
  | c :: d :: r => by
    unfold signLen
    simp only [List.length_cons]
    split
    · split <;> omega
    · split <;> omega
theorem front_all (p : UInt8 → Bool) : ∀ (s : List UInt8), ∀ b ∈ s.take (frontLen p s), p b = true
  | [], b, h => by simp at h
  | c :: s, b, h => by
    unfold frontLen at h
    rw [List.takeWhile_cons] at h
    split at h
    · rename_i hc
      simp only [List.length_cons, List.take_succ_cons, List.mem_cons] at h
      rcases h with rfl | h
      · exact hc
      · exact front_all p s b (by unfold frontLen; exact h)
    · simp at h
theorem frontLen_pos {p : UInt8 → Bool} {c : UInt8} {s : List UInt8} (h : p c = true) : 0 < frontLen p (c :: s) := by
  unfold frontLen
  rw [List.takeWhile_cons, if_pos h]
  simp
theorem word_cs (c : UInt8) (r : List UInt8) (hs : (c :: r).length < maxS) (H : AH) : CS Tryz.prog envT 87 [.str (c :: r)] H (wordAV (c :: r)) H := by
  have key : ∀ (v : AV), (∃ H', evFunc oWs Tryz.prog envT 0 87 [.str (c :: r)] [] = some (v, H')) → v = wordAV (c :: r) → CS Tryz.prog envT 87 [.str (c :: r)] H (wordAV (c :: r)) H := by
    rintro v ⟨H', h⟩ rfl
    have := CS.of_ev oWs_sound methT mixed lowT (f := 87) (args := [.str (c :: r)]) (v := wordAV (c :: r)) 0 ⟨H', h, rfl, rfl⟩ rfl H
    exact this
  have hlen : ∀ p, (frontLen p (c :: r) : Int) ≤ (r.length : Int) + 1 := fun p => by
    have := frontLen_le p (c :: r)
    simp only [List.length_cons] at this
    omega
  have hmin : ∀ p, min (frontLen p (c :: r)) (r.length + 1) = frontLen p (c :: r) := fun p => by
    have := frontLen_le p (c :: r)
    simp only [List.length_cons] at this
    omega
  have hfr : ∀ H, oWs 131 [.str (c :: r), .func (.func 132) [] []] H = some (.int .i64 (frontLen isInner (c :: r)), H) := fun H => by
    simp only [List.length_cons] at hs
    simp [oWs, oTab, oFront, oPure, hs]
  have hfd : ∀ H, oWs 131 [.str (c :: r), .func (.func 134) [] []] H = some (.int .i64 (frontLen isDigit (c :: r)), H) := fun H => by
    simp only [List.length_cons] at hs
    simp [oWs, oTab, oFront, oPure, hs]
  have h25 : ∀ H, oWs 88 [.int .u8 (c.toNat : Int)] H = some (.bool (isSmall c), H) := fun H => oBytes_25 c H
  have h34 : ∀ H, oWs 134 [.int .u8 (c.toNat : Int)] H = some (.bool (isDigit c), H) := fun H => oBytes_34 c H
  cases h1 : isSmall c
  · rw [h1] at h25
    cases h2 : isDigit c
    · rw [h2] at h34
      have h36 : ∀ H, oWs 136 [.str (c :: r)] H = some (.int .i64 (signLen (c :: r)), H) := fun H => by simp [oWs, oTab, oSign, oPure]
      refine key _ (word_sign oWs c r 0 h25 h34 h36 (by have := signLen_le (c :: r); simp only [List.length_cons] at this; omega)) ?_
      by_cases h0 : signLen (c :: r) = 0
      · simp [wordAV, wordOf, h1, h2, h0, tokAV]
      · simp [wordAV, wordOf, h1, h2, h0, tokAV]
    · rw [h2] at h34
      have hd : allDigits ((c :: r).take (frontLen isDigit (c :: r))) := fun b hb => by
        have := front_all isDigit (c :: r) b hb
        simpa [isDigit] using this
      have hne : (c :: r).take (frontLen isDigit (c :: r)) ≠ [] := fun h => by
        have h3 := frontLen_pos (s := r) h2
        rw [List.take_eq_nil_iff] at h
        rcases h with h | h
        · omega
        · cases h
      have hlt : ((c :: r).take (frontLen isDigit (c :: r))).length < maxS := Nat.lt_of_le_of_lt (List.length_take_le _ _) (by have := frontLen_le isDigit (c :: r); omega)
      have h35 : ∀ H, oWs 135 [.str ((c :: r).take (frontLen isDigit (c :: r))), .int .i64 10, .int .i64 64] H = some (parRes ((c :: r).take (frontLen isDigit (c :: r))), H) := fun H => by
        simp only [oWs, oTab, List.lookup]
        simp [oPar, oPure, digArgs_at hne hlt hd]
      unfold parRes at h35
      by_cases h3 : numOf ((c :: r).take (frontLen isDigit (c :: r))) < 9223372036854775808
      · rw [if_pos h3] at h35
        refine key _ (word_number oWs c r _ .nilIface false (by simp) 0 h25 h34 hfd h35 (hlen _) (hmin _)) ?_
        simp [wordAV, wordOf, h1, h2, h3, tokAV]
      · rw [if_neg h3] at h35
        refine key _ (word_number oWs c r _ _ true (by simp) 0 h25 h34 hfd h35 (hlen _) (hmin _)) ?_
        simp [wordAV, wordOf, h1, h2, h3, tokAV]
  · rw [h1] at h25
    have h14 : ∀ H, oWs 133 [.str ((c :: r).take (frontLen isInner (c :: r)))] H = some (.bool (isKey ((c :: r).take (frontLen isInner (c :: r)))), H) := fun H => by
      simp only [oWs, oTab, List.lookup]
      simp [oKeyF, callS]
    refine key _ (word_name oWs c r _ 0 h25 hfr h14 (hlen _) (hmin _)) ?_
    simp only [wordAV, wordOf, h1, tokAV]
    by_cases h2 : isKey ((c :: r).take (frontLen isInner (c :: r))) = true
    · by_cases h3 : 31 < frontLen isInner (c :: r)
      · simp [h2, h3]
      · simp [h2, h3]
    · by_cases h3 : 31 < frontLen isInner (c :: r)
      · simp [h2, h3]
      · simp [h2, h3]
def oWord : Orc := oPure 87 (fun args => match args with
    | [.str (c :: r)] => if (c :: r).length < maxS then some (c, r) else none
    | _ => none) fun x => wordAV (x.1 :: x.2)
theorem oWord_sound : Sound Tryz.prog envT oWord := oPure_sound fun args x H h => by
  split at h
  · split at h
    · rename_i hs
      injection h with h
      subst h
      exact word_cs _ _ hs H
    · cases h
  · cases h
end Go.Proofs.YtejjlojfgcgopaaGreatDoor
namespace Go.Proofs.YtejjlojfgcgopaaGreatDoor
open Go.RowKit Go.Proofs.Fw
set_option maxRecDepth 100000
set_option maxHeartbeats 4000000
def behind (l : List Wd) (x : Except (Nat × Nat) (List Wd)) : Except (Nat × Nat) (List Wd) := match x with
  | .ok r => .ok (l ++ r)
  | .error x => .error x
theorem wordOf_pos {c : UInt8} {r : List UInt8} (h : (wordOf (c :: r)).2 = 0) : 0 < (wordOf (c :: r)).1.2.1.length := by
  unfold wordOf at h ⊢
  simp only at h ⊢
  split
  · rename_i h1
    have := frontLen_pos (p := isInner) (c := c) (s := r) (by simp [isInner, h1])
    have h2 := frontLen_le isInner (c :: r)
    simp only [List.length_take]
    omega
  · rename_i h1
    rw [if_neg h1] at h
    split
    · rename_i h1
      have := frontLen_pos (p := isDigit) (s := r) h1
      have h2 := frontLen_le isDigit (c :: r)
      split <;> (simp only [List.length_take]; omega)
    · rename_i h1
      rw [if_neg h1] at h
      split
      · rename_i h2
        rw [if_pos h2] at h
        cases h
      · have h2 := signLen_le (c :: r)
        simp only [List.length_take]
        omega
theorem wordOf_le (c : UInt8) (r : List UInt8) : (wordOf (c :: r)).1.2.1.length ≤ (c :: r).length := by
  have key : ∀ n, ((c :: r).take n).length ≤ (c :: r).length := fun n => by rw [List.length_take]; omega
  unfold wordOf
  simp only
  split
  · exact key _
  · split
    · split <;> exact key _
    · split
      · exact Nat.zero_le _
      · exact key _
def wordErr (num : Bool) (c : UInt8) (r : List UInt8) : Nat := if num && isSmall c then 3 else (wordOf (c :: r)).2
theorem lex_word (n : Nat) (c : UInt8) (r : List UInt8) (p : Nat) (num : Bool) (hb : isBlank c = false) :
    lex (n + 1) (c :: r) p num = if wordErr num c r ≠ 0 then .error (p, wordErr num c r) else
      behind [⟨(wordOf (c :: r)).1.1, (wordOf (c :: r)).1.2.1, p, (wordOf (c :: r)).1.2.2⟩] (lex n ((c :: r).drop (wordOf (c :: r)).1.2.1.length) (p + (wordOf (c :: r)).1.2.1.length) ((wordOf (c :: r)).1.1 == 2)) := by
  simp only [lex, hb, Bool.false_eq_true, if_false]
  show (if wordErr num c r ≠ 0 then _ else _) = _
  by_cases h : wordErr num c r ≠ 0
  · rw [if_pos h, if_pos h]
    rfl
  · rw [if_neg h, if_neg h]
    rfl
theorem wordErr_zero {num : Bool} {c : UInt8} {r : List UInt8} (h : wordErr num c r = 0) : (wordOf (c :: r)).2 = 0 := by
  unfold wordErr at h
  split at h
  · cases h
  · exact h
theorem lex_fuel : ∀ (n m : Nat) (s : List UInt8) (p : Nat) (b : Bool), s.length < n → s.length < m → lex n s p b = lex m s p b := by
  intro n
  induction n with
  | zero => intro m s p b h; omega
  | succ n ih =>
    intro m s p b hn hm
    cases m with
    | zero => omega
    | succ m =>
      cases s with
      | nil => rfl
      | cons c r =>
        simp only [List.length_cons] at hn hm
        cases hb : isBlank c with
        | true => simp only [lex, hb, if_true]; exact ih m r _ _ (by omega) (by omega)
        | false =>
          rw [lex_word n c r p b hb, lex_word m c r p b hb]
          by_cases h : wordErr b c r ≠ 0
          · rw [if_pos h, if_pos h]
          · rw [if_neg h, if_neg h]
            have h1 := wordOf_pos (r := r) (wordErr_zero (by simpa using h))
            rw [ih m _ _ _ (by simp only [List.length_drop, List.length_cons]; omega) (by simp only [List.length_drop, List.length_cons]; omega)]
theorem behind_behind (l m : List Wd) (x : Except (Nat × Nat) (List Wd)) : behind l (behind m x) = behind (l ++ m) x := by
  cases x <;> simp [behind]
def LineI2 (s : List UInt8) (k : Nat) (t : List AV) (H : AH) : Prop :=
  ∃ i l, i + k = s.length ∧ t = mkT 89 [(0, .str s), (4, outAV l), (5, .int .i64 i)] ∧ H = outH l ∧ (∀ x ∈ l, x.at_ + x.text.length ≤ i) ∧ l.length ≤ i ∧
    lex (s.length + 1) s 0 false = behind l (lex (k + 1) (s.drop i) i (numAt l i))
theorem outAV_low (l : List Wd) : low (outH l).length (outAV l) = true := by
  unfold outAV outH
  split
  · rfl
  · simp [lowL_mono (Nat.zero_le 1) _ (wdsCells_low l)]
theorem outH_low (l : List Wd) : lowH (outH l).length (outH l) = true := by
  unfold outH
  split <;> rfl
theorem numAt_snoc (us : List Wd) (u : Wd) (i : Nat) : numAt (us ++ [u]) i = (u.kind == 2 && u.at_ + u.text.length == i) := by
  simp [numAt]
theorem LineI_word {s : List UInt8} {i k : Nat} {l : List Wd} {c : UInt8} {r : List UInt8} (hik : i + (k + 1) = s.length) (hd : s.drop i = c :: r) (hb : isBlank c = false) (he : wordErr (numAt l i) c r = 0) (hl : ∀ x ∈ l, x.at_ + x.text.length ≤ i) (hll : l.length ≤ i)
    (hlex : lex (s.length + 1) s 0 false = behind l (lex (k + 1 + 1) (s.drop i) i (numAt l i))) :
    ∃ j, j < k + 1 ∧ LineI2 s j (mkT 89 [(0, .str s), (4, outAV (l ++ [⟨(wordOf (c :: r)).1.1, (wordOf (c :: r)).1.2.1, i, (wordOf (c :: r)).1.2.2⟩])), (5, .int .i64 ((i + (wordOf (c :: r)).1.2.1.length : Nat) : Int))])
      (outH (l ++ [⟨(wordOf (c :: r)).1.1, (wordOf (c :: r)).1.2.1, i, (wordOf (c :: r)).1.2.2⟩])) := by
  have h1 := wordOf_pos (r := r) (wordErr_zero he)
  have h2 := wordOf_le c r
  have hlen : (c :: r).length = k + 1 := by rw [← hd, List.length_drop]; omega
  generalize hL : (wordOf (c :: r)).1.2.1.length = L at h1 h2 ⊢
  refine ⟨k + 1 - L, by omega, i + L, _, by omega, rfl, rfl, ?_, ?_, ?_⟩
  · intro x hx
    rcases List.mem_append.1 hx with hx | hx
    · have := hl x hx; omega
    · simp only [List.mem_singleton] at hx
      subst hx
      simp only [hL]
      omega
  · simp only [List.length_append, List.length_cons, List.length_nil]; omega
  · rw [hlex, hd, lex_word _ _ _ _ _ hb, if_neg (by simp [he]), behind_behind, numAt_snoc, hL]
    have : s.drop (i + L) = (c :: r).drop L := by rw [← hd, List.drop_drop]
    rw [this]
    congr 1
    simp only [beq_self_eq_true, Bool.and_true]
    have hdl : ((c :: r).drop L).length = k + 1 - L := by rw [List.length_drop, hlen]
    exact lex_fuel _ _ _ _ _ (by omega) (by omega)
theorem LineI_blank {s : List UInt8} {i k : Nat} {l : List Wd} {c : UInt8} {r : List UInt8} (hik : i + (k + 1) = s.length) (hd : s.drop i = c :: r) (hb : isBlank c = true) (hl : ∀ x ∈ l, x.at_ + x.text.length ≤ i) (hll : l.length ≤ i)
    (hlex : lex (s.length + 1) s 0 false = behind l (lex (k + 1 + 1) (s.drop i) i (numAt l i))) :
    LineI2 s k (mkT 89 [(0, .str s), (4, outAV l), (5, .int .i64 ((i + 1 : Nat) : Int))]) (outH l) := by
  refine ⟨i + 1, l, by omega, rfl, rfl, fun x hx => by have := hl x hx; omega, by omega, ?_⟩
  have : s.drop (i + 1) = r := by rw [← List.drop_drop, hd]; rfl
  rw [hlex, hd, this]
  have hn : numAt l (i + 1) = false := by
    unfold numAt
    cases h : l.getLast? with
    | none => rfl
    | some t =>
      have := hl t (List.mem_of_getLast? h)
      have h2 : (t.at_ + t.text.length == i + 1) = false := by simp only [beq_eq_false_iff_ne]; omega
      simp [h2]
  simp only [lex, hb, if_true, hn]
def oLn : Orc := oTab [(87, oWord), (88, oBytes)]
theorem oLn_sound : Sound Tryz.prog envT oLn := oTab_sound fun p hp => by
  simp only [List.mem_cons, List.not_mem_nil, or_false] at hp
  rcases hp with rfl | rfl
  · exact oWord_sound
  · exact oBytes_sound
theorem oLn_cx : Cx oLn Tryz.prog envT := ⟨oLn_sound, methT, mixed⟩
theorem lineAV_low (x : Except (Nat × Nat) (List Wd)) : low 0 (lineAV x) = true := by
  cases x with
  | error x => rfl
  | ok l =>
    simp only [lineAV, wdsAV]
    split
    · rfl
    · simp [wdsCells_low]
theorem cellsAt (us : List Wd) (u : Wd) : (wdsCells (us ++ [u]))[us.length * 4]? = some (.int .i64 u.kind) ∧ (wdsCells (us ++ [u]))[us.length * 4 + 1]? = some (.str u.text) ∧ (wdsCells (us ++ [u]))[us.length * 4 + 2]? = some (.int .i64 u.at_) := by
  have h := wdsCells_length us
  simp only [wdsCells, List.flatMap_append] at h ⊢
  refine ⟨?_, ?_, ?_⟩
  · rw [List.getElem?_append_right (by omega), h]; simp [wdCells]
  · rw [List.getElem?_append_right (by omega), h, show us.length * 4 + 1 - us.length * 4 = 1 by omega]; simp [wdCells]
  · rw [List.getElem?_append_right (by omega), h, show us.length * 4 + 2 - us.length * 4 = 2 by omega]; simp [wdCells]
theorem line_body (B : Bs) (hB : B.H = []) (s : List UInt8) (hs : s.length < maxS) (k i : Nat) (l : List Wd) (hik : i + (k + 1) = s.length) (hl : ∀ x ∈ l, x.at_ + x.text.length ≤ i) (hll : l.length ≤ i)
    (hlex : lex (s.length + 1) s 0 false = behind l (lex (k + 1 + 1) (s.drop i) i (numAt l i))) (Q : AEx → List AV → AH → Prop)
    (hN : ∀ t H, (∃ j t2 H2, j < k + 1 ∧ Less B t H t2 H2 ∧ LineI2 s j t2 H2) → Q .normal t H)
    (hE : ∀ t H, Fin Tryz.prog Tryz.f51 0 4 (lineAV (lex (s.length + 1) s 0 false)) [] .ret t H → Q .ret t H) :
    Wx oLn Tryz.prog envT body11 (mkT 89 [(0, .str s), (4, outAV l), (5, .int .i64 i)]) (outH l) Q := by
  have hi : i < s.length := by omega
  rw [maxS_eq] at hs
  obtain ⟨c, r, hd⟩ : ∃ c r, s.drop i = c :: r := ⟨s[i], s.drop (i + 1), List.drop_eq_getElem_cons hi⟩
  have hc : s[i] = c := by
    have := List.drop_eq_getElem_cons hi
    rw [hd] at this
    injection this with this _
    exact this.symm
  cases hb : isBlank c with
  | true =>
    refine line_bl B hB oLn s i (outAV l) (outH l) hi (by omega) ?_ Q (fun t hle => hN _ _ ⟨k, _, _, by omega, hle, LineI_blank hik hd hb hl hll hlex⟩) (outAV_low l) (outH_low l)
    rw [hc]
    simpa [isBlank] using hb
  | false =>
    have hb1 : ((s[i].toNat : Int) == 32) = false := by
      rw [hc]
      simp only [isBlank, Bool.or_eq_false_iff, beq_eq_false_iff_ne] at hb
      simp only [beq_eq_false_iff_ne]; omega
    have hb2 : ((s[i].toNat : Int) == 9) = false := by
      rw [hc]
      simp only [isBlank, Bool.or_eq_false_iff, beq_eq_false_iff_ne] at hb
      simp only [beq_eq_false_iff_ne]; omega
    have hlen : (c :: r).length = k + 1 := by rw [← hd, List.length_drop]; omega
    have h24 : ∀ H, oLn 87 [.str (s.drop i)] H = some (wordAV (c :: r), H) := fun H => by
      rw [hd]
      have : (c :: r).length < maxS := by rw [hlen, maxS_eq]; omega
      simp only [List.length_cons] at this
      simp [oLn, oTab, oWord, oPure, this]
    have h25 : ∀ H, oLn 88 [.int .u8 (s[i].toNat : Int)] H = some (.bool (isSmall c), H) := fun H => by
      rw [hc]
      exact oBytes_25 c H
    have hw := wordOf_le c r
    have herr : wordErr (numAt l i) c r ≠ 0 → lex (s.length + 1) s 0 false = .error (i, wordErr (numAt l i) c r) := fun h => by
      rw [hlex, hd, lex_word _ _ _ _ _ hb, if_pos h]; rfl
    rcases List.eq_nil_or_concat l with rfl | ⟨us, u, rfl⟩
    · have he : wordErr (numAt [] i) c r = (wordOf (c :: r)).2 := by simp [wordErr, numAt]
      refine line_w0 B hB oLn s i _ _ _ _ hi (by omega) hb1 hb2 h24 (by omega) Q (fun h0 t H hle => ?_) (fun h0 t H hf => hE _ _ ?_)
      · obtain ⟨j, hj, hI⟩ := LineI_word (l := []) hik hd hb (he.trans h0) hl hll hlex
        exact hN _ _ ⟨j, _, _, hj, hle, hI⟩
      · rw [herr (by rw [he]; exact h0), he]; exact hf
    · rw [List.concat_eq_append] at *
      obtain ⟨c0, c1, c2⟩ := cellsAt us u
      have hu := hl u (by simp)
      have hne : us ++ [u] ≠ [] := by simp
      have he : wordErr (numAt (us ++ [u]) i) c r = if isSmall c = true ∧ u.kind = 2 ∧ u.at_ + u.text.length = i then 3 else (wordOf (c :: r)).2 := by
        rw [numAt_snoc]
        unfold wordErr
        by_cases h1 : isSmall c = true <;> by_cases h2 : u.kind = 2 <;> by_cases h3 : u.at_ + u.text.length = i <;> simp [h1, h2, h3]
      have hout : ∀ l : List Wd, l ≠ [] → outAV l = .slice (.tok 0) 4 l.length (wdsCells l) ∧ outH l = [some (.tok l.length)] := fun l h => by simp [outAV, outH, h]
      rw [(hout _ hne).1, (hout _ hne).2]
      simp only [List.length_append, List.length_cons, List.length_nil, Nat.zero_add] at hll ⊢
      refine line_w1 B hB oLn s i us.length (wdsCells (us ++ [u])) u.kind u.at_ u.text (isSmall c) _ _ _ _ hi (by omega) hb1 hb2 c0 c1 c2 (wdsCells_low _) (by omega) (by omega) h25 h24 (by omega) Q _ he (fun h0 t H hle => ?_) (fun h0 t H hf => hE _ _ ?_)
      · obtain ⟨j, hj, hI⟩ := LineI_word hik hd hb h0 hl (by simpa using hll) hlex
        refine hN _ _ ⟨j, _, _, hj, hle, ?_⟩
        have h3 := hout ((us ++ [u]) ++ [⟨(wordOf (c :: r)).1.1, (wordOf (c :: r)).1.2.1, i, (wordOf (c :: r)).1.2.2⟩]) (by simp)
        rw [h3.1, h3.2] at hI
        simpa [wdsCells] using hI
      · rw [herr h0]; exact hf
noncomputable def tail11 : Code := tailC 2 c11
noncomputable def end11 : Code := sndC tail11
noncomputable def for11 : Code := sndC loop11
theorem line_cs (s : List UInt8) (hs : s.length < maxS) (H : AH) : CS Tryz.prog envT 51 [.str s] H (lineAV (lex (s.length + 1) s 0 false)) H := by
  refine CS.frame (CS.of_Tr (H0 := []) (H1 := []) (c := c11) Tryz.func51 (by kernel_rfl) 4 (by simp [Tryz.f51]) (fun B hB hG => ?_) (lineAV_low _) rfl) lowT rfl H
  refine Tr.pre oLn_cx hG 2 (R := tail11) rfl (by kernel_rfl) (by kernel_rfl) ?_
  rw [Go_of]
  simp [c11, Tryz.f51]
  refine Tr.seqD (a := loop11) (b := end11) (by kernel_rfl) ?_
  refine Tr.pre oLn_cx hG 1 (R := for11) (by kernel_rfl) (by kernel_rfl) (by kernel_rfl) ?_
  rw [Go_of]
  simp [loop11, c11, Tryz.f51]
  refine Tr.less (t' := mkT 89 [(0, .str s), (4, .nilSlice), (5, .int .i64 ((0 : Nat) : Int))]) (H' := []) (Less.mkT 0 (by simp [hB]) ?_ rfl rfl) ?_
  · simp
    exact ⟨.same rfl rfl, .same rfl rfl, .same rfl rfl⟩
  refine Tr.forD (a := body11) (id := 0) (by kernel_rfl) (LineI2 s) s.length ⟨0, [], by omega, rfl, rfl, by simp, by simp, ?_⟩ ?_
  · simp only [List.drop_zero, numAt, List.getLast?_nil]
    cases lex (s.length + 1) s 0 false <;> rfl
  rintro k t H ⟨i, l, hik, rfl, rfl, hl, hll, hlex⟩
  refine Tr.run oLn_cx hG draws11 ?_
  cases k with
  | succ k => exact line_body B hB s hs k i l hik hl hll hlex _ (fun t H h => h) (fun t H h => h)
  | zero =>
    obtain rfl : i = s.length := by omega
    have hres : lex (s.length + 1) s 0 false = .ok l := by
      rw [hlex, List.drop_length]
      simp [lex, behind]
    rw [hres]
    rw [Go_of]
    simp [body11, loop11, c11, Tryz.f51, Blk_exit]
    refine Tr.run oLn_cx hG (by kernel_rfl) ?_
    rw [Go_of]
    by_cases h : l = []
    · subst h
      simp [end11, tail11, c11, Tryz.f51, outAV, outH, lineAV, wdsAV]
    · simp [end11, tail11, c11, Tryz.f51, outAV, outH, lineAV, wdsAV, h, wdsCells_low]
end Go.Proofs.YtejjlojfgcgopaaGreatDoor

namespace Go.Proofs.YtejjlojfgcgopaaGreatDoor
open Go.RowKit Go.Proofs.Fw
set_option maxRecDepth 100000
set_option maxHeartbeats 4000000
def envX : Env := ⟨envN.glob, methN, fun t => envN.imm t || t == 27 || t == 42, fun _ => false, fun _ => false⟩
@[simp] theorem envX_soft (t : TypeId) : envX.soft t = false := nrfl rfl
theorem methXOk : MethOk Tryz.prog envX := methNOk
theorem lowX : ∀ i, low 0 (envX.glob i) = true := lowN
theorem CS.toX {f : FuncId} {args : List AV} {H H' : AH} {v : AV} (h : CS Tryz.prog envN f args H v H') : CS Tryz.prog envX f args H v H' := fun g w cargs R hG hA => h g w cargs R hG hA
theorem Sound.toX {O : Orc} (h : Sound Tryz.prog envN O) : Sound Tryz.prog envX O := fun f args H v H' ho => by
  obtain ⟨h1, h2, h3⟩ := h f args H v H' ho
  exact ⟨CS.toX h1, h2, h3⟩
@[simp] theorem immXF : envX.imm 156 = true := by decide
@[simp] theorem immXE : envX.imm 27 = true := by decide
@[simp] theorem immXR : envX.imm 304 = false := by decide
theorem oNilX : Cx oNil Tryz.prog envX := ⟨oNil_sound, methXOk, mixed⟩
def exprTxt : List UInt8 := [101, 120, 112, 114]
def eAV : Option (Nat × Nat) → AV
  | none => .nilIface
  | some (p, c) => errAV [(exprTxt, (p : Int))] (c : Int)
@[simp ↓ high] theorem eAV_low (x : Option (Nat × Nat)) : low 0 (eAV x) = true := by
  cases x with
  | none => rfl
  | some x => exact errAV_low _ _
@[simp ↓ high] theorem eAV_ids (x : Option (Nat × Nat)) : idsOf (eAV x) = [] := by
  cases x with
  | none => rfl
  | some x => simp [eAV, errAV, idsOf]
@[simp high] theorem eAV_eql (x : Option (Nat × Nat)) : abin Tryz.prog .eql 33 true (eAV x) .nilIface = some (.bool x.isNone) := by
  cases x with
  | none => simp [eAV]
  | some x => simp [eAV]
@[simp high] theorem eAV_neq (x : Option (Nat × Nat)) : abin Tryz.prog .neq 33 true (eAV x) .nilIface = some (.bool x.isSome) := by
  cases x with
  | none => simp [eAV]
  | some x => simp [eAV]
@[simp ↓ high] theorem eAV_known (x : Option (Nat × Nat)) : (eAV x).known = true := by
  cases x <;> simp [eAV, errAV]
@[simp ↓ high] theorem eAV_one (x : Option (Nat × Nat)) : (eAV x).one = true := by
  cases x <;> simp [eAV, errAV]
@[simp ↓ high] theorem eAV_cells (x : Option (Nat × Nat)) : cellsAV (eAV x) = [eAV x] := by
  cases x <;> simp [eAV, errAV]
theorem eAV_inj {x y : Option (Nat × Nat)} (h : eAV x = eAV y) : x = y := by
  cases x with
  | none => cases y with
    | none => rfl
    | some y => simp [eAV, errAV] at h
  | some x => cases y with
    | none => simp [eAV, errAV] at h
    | some y =>
      obtain ⟨p, c⟩ := x
      obtain ⟨q, d⟩ := y
      simp [eAV, errAV] at h
      obtain ⟨h1, h2⟩ := h
      have e1 : p = q := by omega
      have e2 : c = d := by omega
      rw [e1, e2]
@[simp ↓ high] theorem wdsAV_low' (l : List Wd) : low 0 (wdsAV l) = true := by
  unfold wdsAV; split
  · rfl
  · exact wdsCells_low l
@[simp ↓ high] theorem wdsAV_ids (l : List Wd) : idsOf (wdsAV l) = [] := by
  unfold wdsAV; split <;> rfl
@[simp ↓ high] theorem wdsAV_known (l : List Wd) : (wdsAV l).known = true := by unfold wdsAV; split <;> rfl
@[simp ↓ high] theorem wdsAV_one (l : List Wd) : (wdsAV l).one = true := by unfold wdsAV; split <;> rfl
@[simp ↓ high] theorem wdsAV_cells (l : List Wd) : cellsAV (wdsAV l) = [wdsAV l] := by unfold wdsAV; split <;> rfl
@[simp high] theorem alenX (l : List Wd) : alen Tryz.prog 125 (wdsAV l) = some (.int .i64 l.length) := by
  unfold wdsAV
  split
  · rename_i h; subst h; simp [alen]
  · simp [alen]
theorem cells_atX : ∀ (l : List Wd) (i : Nat) (w : Wd), l[i]? = some w → ((wdsCells l).drop (i * 4)).take 4 = wdCells w ∧ i * 4 + 4 ≤ (wdsCells l).length
  | [], i, w, h => by simp at h
  | x :: l, i, w, h => by
    have hc : wdsCells (x :: l) = wdCells x ++ wdsCells l := rfl
    have hx : (wdCells x).length = 4 := rfl
    cases i with
    | zero =>
      simp only [List.getElem?_cons_zero, Option.some.injEq] at h
      subst h
      rw [hc]
      refine ⟨?_, by simp [hx]⟩
      rw [Nat.zero_mul, List.drop_zero, List.take_append_of_le_length (by omega), List.take_of_length_le (by omega)]
    | succ i =>
      simp only [List.getElem?_cons_succ] at h
      obtain ⟨h1, h2⟩ := cells_atX l i w h
      rw [hc]
      refine ⟨?_, by simp only [List.length_append, hx]; omega⟩
      rw [List.drop_append, List.drop_of_length_le (by omega), hx, List.nil_append, show (i + 1) * 4 - 4 = i * 4 by omega]
      exact h1
@[simp high] theorem aidxX {l : List Wd} {i : Nat} (h : i < l.length) : aindexAddr Tryz.prog 125 (wdsAV l) (.int .i64 (i : Int)) = some (.vptr (wdsCells l) (i * 4)) := by
  have hne : l ≠ [] := by rintro rfl; simp at h
  have : (i : Int) < l.length := by omega
  simp [wdsAV, hne, aindexAddr, h]
theorem cellX {l : List Wd} {i : Nat} {w : Wd} (h : l[i]? = some w) : (wdsCells l)[i * 4]? = some (.int .i64 w.kind) ∧ (wdsCells l)[i * 4 + 1]? = some (.str w.text) ∧ (wdsCells l)[i * 4 + 3]? = some (.int .i64 w.n) := by
  obtain ⟨h1, h2⟩ := cells_atX l i w h
  have key : ∀ k, k < 4 → (wdsCells l)[i * 4 + k]? = (wdCells w)[k]? := by
    intro k hk
    rw [← h1, List.getElem?_take, if_pos hk, List.getElem?_drop]
  exact ⟨by simpa [wdCells] using key 0 (by omega), by simpa [wdCells] using key 1 (by omega), by simpa [wdCells] using key 3 (by omega)⟩
def rdC (ts : List Wd) (a d : Int) (x : Option (Nat × Nat)) : List AV := [wdsAV ts, .int .i64 a, .int .i64 d, eAV x]
@[simp] theorem rdC_eq (ts : List Wd) (a d : Int) (x : Option (Nat × Nat)) : rdC ts a d x = [wdsAV ts, .int .i64 a, .int .i64 d, eAV x] := nrfl rfl
def St.cells (ts : List Wd) (r : St) : List AV := rdC ts r.at_ r.deep r.err
theorem St.cells_low (ts : List Wd) (r : St) : lowL 0 (r.cells ts) = true := by simp [St.cells]
theorem St.cells_inj {ts : List Wd} {r q : St} (h : r.cells ts = q.cells ts) : r = q := by
  obtain ⟨a, d, x⟩ := r
  obtain ⟨b, e, y⟩ := q
  simp only [St.cells, rdC_eq, List.cons.injEq, AV.int.injEq, true_and, and_true] at h
  obtain ⟨h1, h2, h3⟩ := h
  have := eAV_inj h3
  subst this
  simp only [St.mk.injEq, and_true]
  omega
theorem fail_cs (ts : List Wd) (r : St) (p e : Nat) {H : AH} {id : Nat} (hH : H.at id = some (.box (r.cells ts))) :
    CS Tryz.prog envX 181 [.ptr id 0, .int .i64 (p : Int), .int .i64 (e : Int)] H (.tup []) (H.set id (some (.box ((r.fail p e).cells ts)))) := by
  refine CS.rd lowX Tryz.func181 (by kernel_rfl) 0 (by simp [Tryz.f181]) (fun B hB hG => ?_) (by simp) rfl (St.cells_low ts r) (St.cells_low ts _) hH
  refine Tr.goD oNilX hG ?_
  cases he : r.err with
  | none => simp [Tryz.f181, St.cells, St.fail, he, eAV, errAV, buFault, exprTxt]
  | some x => simp [Tryz.f181, St.cells, St.fail, he]
def Ex.kd : Ex → Int
  | .none => 0
  | .num _ => 1
  | .var _ => 2
  | .elem _ _ => 3
  | .neg _ => 4
  | .bin k _ _ => k
def Ex.nn : Ex → Int
  | .num n => n
  | _ => 0
def Ex.nm : Ex → List UInt8
  | .var s => s
  | .elem s _ => s
  | _ => []
mutual
def exC : Ex → List AV
  | .none => [.int .i64 0, .int .i64 0, .str [], .nilSlice]
  | .num n => [.int .i64 1, .int .i64 n, .str [], .nilSlice]
  | .var s => [.int .i64 2, .int .i64 0, .str s, .nilSlice]
  | .elem s a => [.int .i64 3, .int .i64 0, .str s, .slice .unk 4 a.length (exsC a)]
  | .neg e => [.int .i64 4, .int .i64 0, .str [], .slice .full 4 1 (exC e)]
  | .bin k a b => [.int .i64 k, .int .i64 0, .str [], .slice .full 4 2 (exC a ++ exC b)]
def exsC : List Ex → List AV
  | [] => []
  | e :: l => exC e ++ exsC l
end
def Ex.ar (e : Ex) : AV := (exC e).getD 3 .undef
@[simp] theorem exC_eq (e : Ex) : exC e = [.int .i64 e.kd, .int .i64 e.nn, .str e.nm, e.ar] := by
  cases e <;> rfl
theorem ar_none : Ex.none.ar = .nilSlice := nrfl rfl
theorem ar_num (n : Nat) : (Ex.num n).ar = .nilSlice := nrfl rfl
theorem ar_var (s : List UInt8) : (Ex.var s).ar = .nilSlice := nrfl rfl
theorem ar_elem (s : List UInt8) (a : List Ex) : (Ex.elem s a).ar = .slice .unk 4 a.length (exsC a) := nrfl rfl
theorem ar_neg (e : Ex) : (Ex.neg e).ar = .slice .full 4 1 (exC e) := nrfl rfl
theorem ar_bin (k : Nat) (a b : Ex) : (Ex.bin k a b).ar = .slice .full 4 2 (exC a ++ exC b) := nrfl rfl
mutual
theorem exC_low : ∀ e : Ex, lowL 0 (exC e) = true
  | .none => rfl
  | .num _ => rfl
  | .var _ => rfl
  | .elem s a => by rw [exC]; have := exsC_low a; simp [this]
  | .neg e => by rw [exC]; have := exC_low e; simpa using this
  | .bin k a b => by rw [exC]; have h1 := exC_low a; have h2 := exC_low b; simp only [exC_eq] at h1 h2; simp only [lowL, low, Bool.and_eq_true, true_and, and_true, Bool.true_and] at h1 h2; simp [h1, h2]
theorem exsC_low : ∀ l : List Ex, lowL 0 (exsC l) = true
  | [] => rfl
  | e :: l => by rw [exsC, lowL_append, exC_low e, exsC_low l]; rfl
end
theorem exsC_append : ∀ a b : List Ex, exsC (a ++ b) = exsC a ++ exsC b
  | [], b => rfl
  | e :: a, b => by rw [List.cons_append, exsC, exsC, exsC_append a b, List.append_assoc]
@[simp ↓ high] theorem ar_low (e : Ex) : low 0 e.ar = true := by
  have := exC_low e
  rw [exC_eq] at this
  simpa using this
@[simp ↓ high] theorem ar_ids (e : Ex) : idsOf e.ar = [] := by
  cases e <;> rfl
@[simp ↓ high] theorem ar_known (e : Ex) : e.ar.known = true := by cases e <;> rfl
@[simp ↓ high] theorem ar_one (e : Ex) : e.ar.one = true := by cases e <;> rfl
@[simp ↓ high] theorem ar_cells (e : Ex) : cellsAV e.ar = [e.ar] := by cases e <;> rfl
def exAV (e : Ex) : AV := .agg (exC e)
@[simp] theorem exAV_eq (e : Ex) : exAV e = .agg [.int .i64 e.kd, .int .i64 e.nn, .str e.nm, e.ar] := by rw [exAV, exC_eq]
@[simp] theorem buE0 : abuild Tryz.prog 27 [] = some (.agg [.int .i64 0, .int .i64 0, .str [], .nilSlice]) := by kernel_rfl
@[simp] theorem buE1 (k n : Int) : abuild Tryz.prog 27 [(0, .int .i64 k), (1, .int .i64 n)] = some (.agg [.int .i64 k, .int .i64 n, .str [], .nilSlice]) := by kernel_rfl
@[simp] theorem buE2 (k : Int) (s : List UInt8) : abuild Tryz.prog 27 [(0, .int .i64 k), (2, .str s)] = some (.agg [.int .i64 k, .int .i64 0, .str s, .nilSlice]) := by kernel_rfl
@[simp] theorem buE3 (k : Int) (ow : Own) (sz n : Nat) (cs : List AV) : abuild Tryz.prog 27 [(0, .int .i64 k), (3, .slice ow sz n cs)] = some (.agg [.int .i64 k, .int .i64 0, .str [], .slice ow sz n cs]) := by kernel_rfl
@[simp] theorem bsE1 (a b c d : AV) : abuildSlice Tryz.prog 25 1 [(0, .agg [a, b, c, d])] = some (.slice .full 4 1 [a, b, c, d]) := by kernel_rfl
@[simp] theorem bsE2 (a b c d e f g h : AV) : abuildSlice Tryz.prog 25 2 [(0, .agg [a, b, c, d]), (1, .agg [e, f, g, h])] = some (.slice .full 4 2 [a, b, c, d, e, f, g, h]) := by kernel_rfl
theorem next_cs (ts : List Wd) (r : St) (s : List UInt8) {H : AH} {id : Nat} (hH : H.at id = some (.box (r.cells ts))) :
    CS Tryz.prog envX 180 [.ptr id 0, .str s] H (.bool (nextB ts r s)) (H.set id (some (.box (r.cells ts)))) := by
  refine CS.rd lowX Tryz.func180 (by kernel_rfl) 0 (by simp [Tryz.f180]) (fun B hB hG => ?_) (by simp) rfl (St.cells_low ts r) (St.cells_low ts _) hH
  refine Tr.goD oNilX hG ?_
  simp [Tryz.f180, St.cells]
  refine LpD.turns oNilX hG [] [] ?_
  cases he : r.err with
  | some x => simp [nextB, he]
  | none =>
    by_cases hl : r.at_ < ts.length
    · have hl' : (r.at_ : Int) < ts.length := by omega
      obtain ⟨w, hw⟩ : ∃ w, ts[r.at_]? = some w := ⟨_, List.getElem?_eq_getElem hl⟩
      obtain ⟨c0, c1, c3⟩ := cellX hw
      have hn : isS ts r.at_ s = (w.kind == 3 && w.text == s) := by simp only [isS, hw]
      by_cases hk : w.kind = 3
      · simp [nextB, hn, he, hl, hl', hk, c0, c1]
      · have hk' : ((w.kind : Int) == 3) = false := by rw [beq_eq_false_iff_ne]; omega
        simp [nextB, hn, he, hl, hl', hk, hk', c0, c1]
    · have hl' : ¬ ((r.at_ : Int) < ts.length) := by omega
      have hw : ts[r.at_]? = none := List.getElem?_eq_none (by omega)
      have hn : isS ts r.at_ s = false := by simp only [isS, hw]
      simp [nextB, hn, he, hl', hw]
end Go.Proofs.YtejjlojfgcgopaaGreatDoor

namespace Go.Proofs.YtejjlojfgcgopaaGreatDoor
open Go.RowKit Go.Proofs.Fw
set_option maxRecDepth 100000
set_option maxHeartbeats 4000000
theorem fail_eq (r : St) (p e : Nat) : r.fail p e = ⟨r.at_, r.deep, some (r.err.getD (p, e))⟩ := by
  obtain ⟨a, d, x⟩ := r
  cases x <;> rfl
theorem at_set_noneX {H : AH} {i j : Nat} {e x : Ent} (hx : H.at i = some x) (hj : H.at j = none) : AH.at (H.set i (some e)) j = none := by
  have hij : i ≠ j := fun h => by subst h; rw [hx] at hj; cases hj
  unfold AH.at at hj ⊢
  rw [List.getElem?_set_ne hij]
  exact hj
open Classical in
noncomputable def oRd (ts : List Wd) (f0 : FuncId) (spec : List AV → St → Option (AV × St)) : Orc := fun f args H =>
  if f = f0 then (match args with
    | .ptr id 0 :: rest => if h : ∃ r : St, H.at id = some (.box (r.cells ts)) then (spec rest h.choose).map fun x => (x.1, H.set id (some (.box (x.2.cells ts)))) else none
    | _ => none) else none
theorem oRd_at {ts : List Wd} {f0 : FuncId} {spec : List AV → St → Option (AV × St)} {id : Nat} {rest : List AV} {H : AH} {r : St} (h : H.at id = some (.box (r.cells ts))) :
    oRd ts f0 spec f0 (.ptr id 0 :: rest) H = (spec rest r).map fun x => (x.1, H.set id (some (.box (x.2.cells ts)))) := by
  have hx : ∃ r : St, H.at id = some (.box (r.cells ts)) := ⟨r, h⟩
  have hc := h.symm.trans hx.choose_spec
  simp only [Option.some.injEq, Ent.box.injEq] at hc
  have : hx.choose = r := (St.cells_inj hc).symm
  simp only [oRd, if_true, dif_pos hx, this]
theorem oRd_sound {ts : List Wd} {f0 : FuncId} {spec : List AV → St → Option (AV × St)}
    (h : ∀ rest r v r', spec rest r = some (v, r') → ∀ H id, H.at id = some (.box (r.cells ts)) → CS Tryz.prog envX f0 (.ptr id 0 :: rest) H v (H.set id (some (.box (r'.cells ts))))) : Sound Tryz.prog envX (oRd ts f0 spec) := by
  intro f args H v H' ho
  unfold oRd at ho
  split at ho
  · rename_i hf
    subst hf
    split at ho
    · rename_i id rest
      split at ho
      · rename_i hx
        obtain ⟨x, hs, hx2⟩ := Option.map_eq_some_iff.1 ho
        simp only [Prod.mk.injEq] at hx2
        obtain ⟨rfl, rfl⟩ := hx2
        refine ⟨h _ _ _ _ hs _ _ hx.choose_spec, by simp, fun j _ hj => at_set_noneX hx.choose_spec hj⟩
      · cases ho
    · cases ho
  · cases ho
def nextSpec (ts : List Wd) (rest : List AV) (r : St) : Option (AV × St) := match rest with
  | [.str s] => some (.bool (nextB ts r s), r)
  | _ => none
def failSpec (rest : List AV) (r : St) : Option (AV × St) := match rest with
  | [.int .i64 p, .int .i64 e] => if 0 ≤ p ∧ 0 ≤ e then some (.tup [], r.fail p.toNat e.toNat) else none
  | _ => none
theorem next_sound (ts : List Wd) : Sound Tryz.prog envX (oRd ts 180 (nextSpec ts)) := oRd_sound fun rest r v r' h H id hH => by
  unfold nextSpec at h
  split at h
  · injection h with h
    simp only [Prod.mk.injEq] at h
    obtain ⟨rfl, rfl⟩ := h
    exact next_cs ts r _ hH
  · cases h
theorem fail_sound (ts : List Wd) : Sound Tryz.prog envX (oRd ts 181 failSpec) := oRd_sound fun rest r v r' h H id hH => by
  unfold failSpec at h
  split at h
  · rename_i p e
    split at h
    · rename_i hpe
      injection h with h
      simp only [Prod.mk.injEq] at h
      obtain ⟨rfl, rfl⟩ := h
      have := fail_cs ts r p.toNat e.toNat hH
      rwa [Int.toNat_of_nonneg hpe.1, Int.toNat_of_nonneg hpe.2] at this
    · cases h
  · cases h
theorem rd_at {ts : List Wd} {a d : Int} {x : Option (Nat × Nat)} {H : AH} (ha : 0 ≤ a) (hd : 0 ≤ d) : AH.at (some (.box [wdsAV ts, .int .i64 a, .int .i64 d, eAV x]) :: H) 0 = some (.box ((⟨a.toNat, d.toNat, x⟩ : St).cells ts)) := by
  simp [AH.at, St.cells, Int.toNat_of_nonneg ha, Int.toNat_of_nonneg hd]
structure Sm1 (O : Orc) (ts : List Wd) : Prop where
  next : ∀ (a d : Int) (x : Option (Nat × Nat)) (s : List UInt8) (H : AH), 0 ≤ a → 0 ≤ d → O 180 [.ptr 0 0, .str s] (some (.box [wdsAV ts, .int .i64 a, .int .i64 d, eAV x]) :: H) =
    some (.bool (nextB ts ⟨a.toNat, d.toNat, x⟩ s), some (.box [wdsAV ts, .int .i64 a, .int .i64 d, eAV x]) :: H)
  fail : ∀ (a d : Int) (x : Option (Nat × Nat)) (p e : Int) (H : AH), 0 ≤ a → 0 ≤ d → 0 ≤ p → 0 ≤ e → O 181 [.ptr 0 0, .int .i64 p, .int .i64 e] (some (.box [wdsAV ts, .int .i64 a, .int .i64 d, eAV x]) :: H) =
    some (.tup [], some (.box [wdsAV ts, .int .i64 a, .int .i64 d, eAV (some (x.getD (p.toNat, e.toNat)))]) :: H)
theorem sm_next {ts : List Wd} {a d : Int} {x : Option (Nat × Nat)} (s : List UInt8) (H : AH) (ha : 0 ≤ a) (hd : 0 ≤ d) : oRd ts 180 (nextSpec ts) 180 [.ptr 0 0, .str s] (some (.box [wdsAV ts, .int .i64 a, .int .i64 d, eAV x]) :: H) =
    some (.bool (nextB ts ⟨a.toNat, d.toNat, x⟩ s), some (.box [wdsAV ts, .int .i64 a, .int .i64 d, eAV x]) :: H) := by
  rw [oRd_at (rd_at ha hd)]
  simp [nextSpec, St.cells, Int.toNat_of_nonneg ha, Int.toNat_of_nonneg hd]
theorem sm_fail {ts : List Wd} {a d : Int} {x : Option (Nat × Nat)} (p e : Int) (H : AH) (ha : 0 ≤ a) (hd : 0 ≤ d) (hp : 0 ≤ p) (he : 0 ≤ e) : oRd ts 181 failSpec 181 [.ptr 0 0, .int .i64 p, .int .i64 e] (some (.box [wdsAV ts, .int .i64 a, .int .i64 d, eAV x]) :: H) =
    some (.tup [], some (.box [wdsAV ts, .int .i64 a, .int .i64 d, eAV (some (x.getD (p.toNat, e.toNat)))]) :: H) := by
  rw [oRd_at (rd_at ha hd)]
  simp [failSpec, fail_eq, St.cells, Int.toNat_of_nonneg ha, Int.toNat_of_nonneg hd, hp, he]
noncomputable def oSm1 (ts : List Wd) : Orc := oTab [(180, oRd ts 180 (nextSpec ts)), (181, oRd ts 181 failSpec)]
theorem oSm1_cx (ts : List Wd) : Cx (oSm1 ts) Tryz.prog envX := ⟨oTab_sound (by
  intro p hp
  simp only [List.mem_cons, List.not_mem_nil, or_false] at hp
  rcases hp with rfl | rfl
  · exact next_sound ts
  · exact fail_sound ts), methXOk, mixed⟩
theorem oSm1_sm (ts : List Wd) : Sm1 (oSm1 ts) ts := ⟨fun a d x s H ha hd => by
    rw [← sm_next s H ha hd]; simp [oSm1, oTab, List.lookup], fun a d x p e H ha hd hp he => by
    rw [← sm_fail p e H ha hd hp he]; simp [oSm1, oTab, List.lookup]⟩
theorem nextB_lt {ts : List Wd} {r : St} {s : List UInt8} (h : nextB ts r s = true) : r.at_ < ts.length := by
  simp only [nextB, isS, Bool.and_eq_true] at h
  have h2 := h.2
  split at h2
  · rename_i hw; exact (List.getElem?_eq_some_iff.1 hw).1
  · cases h2
def takesR (ts : List Wd) (r : St) (s : List UInt8) : St := if nextB ts r s = true then r.step else r
theorem takes_cs (ts : List Wd) (hts : ts.length < 1000000) (r : St) (s : List UInt8) {H : AH} {id : Nat} (hH : H.at id = some (.box (r.cells ts))) :
    CS Tryz.prog envX 233 [.ptr id 0, .str s] H (.bool (nextB ts r s)) (H.set id (some (.box ((takesR ts r s).cells ts)))) := by
  refine CS.rd lowX Tryz.func233 (by kernel_rfl) 0 (by simp [Tryz.f233]) (fun B hB hG => ?_) (by simp) rfl (St.cells_low ts r) (St.cells_low ts _) hH
  refine Tr.goD (oSm1_cx ts) hG ?_
  cases hn : nextB ts r s with
  | true =>
    have hl := nextB_lt hn
    have w1 : IntKind.i64.wrap ((r.at_ : Int) + 1) = (r.at_ : Int) + 1 := wrap_i64 (by omega) (by omega)
    simp [Tryz.f233, St.cells, takesR, hn, (oSm1_sm ts).next, w1, St.step]
  | false => simp [Tryz.f233, St.cells, takesR, hn, (oSm1_sm ts).next]
def takesSpec (ts : List Wd) (rest : List AV) (r : St) : Option (AV × St) := match rest with
  | [.str s] => some (.bool (nextB ts r s), takesR ts r s)
  | _ => none
theorem takes_sound (ts : List Wd) (hts : ts.length < 1000000) : Sound Tryz.prog envX (oRd ts 233 (takesSpec ts)) := oRd_sound fun rest r v r' h H id hH => by
  unfold takesSpec at h
  split at h
  · injection h with h
    simp only [Prod.mk.injEq] at h
    obtain ⟨rfl, rfl⟩ := h
    exact takes_cs ts hts r _ hH
  · cases h
theorem sm_takes_t {ts : List Wd} {a d : Int} {x : Option (Nat × Nat)} (s : List UInt8) (H : AH) (ha : 0 ≤ a) (hd : 0 ≤ d) (hn : nextB ts ⟨a.toNat, d.toNat, x⟩ s = true) :
    oRd ts 233 (takesSpec ts) 233 [.ptr 0 0, .str s] (some (.box [wdsAV ts, .int .i64 a, .int .i64 d, eAV x]) :: H) = some (.bool true, some (.box [wdsAV ts, .int .i64 (a + 1), .int .i64 d, eAV x]) :: H) := by
  rw [oRd_at (rd_at ha hd)]
  simp [takesSpec, takesR, hn, St.step, St.cells, Int.toNat_of_nonneg ha, Int.toNat_of_nonneg hd]
theorem sm_takes_f {ts : List Wd} {a d : Int} {x : Option (Nat × Nat)} (s : List UInt8) (H : AH) (ha : 0 ≤ a) (hd : 0 ≤ d) (hn : nextB ts ⟨a.toNat, d.toNat, x⟩ s = false) :
    oRd ts 233 (takesSpec ts) 233 [.ptr 0 0, .str s] (some (.box [wdsAV ts, .int .i64 a, .int .i64 d, eAV x]) :: H) = some (.bool false, some (.box [wdsAV ts, .int .i64 a, .int .i64 d, eAV x]) :: H) := by
  rw [oRd_at (rd_at ha hd)]
  simp [takesSpec, takesR, hn, St.cells, Int.toNat_of_nonneg ha, Int.toNat_of_nonneg hd]
noncomputable def oSm2 (ts : List Wd) : Orc := oTab [(233, oRd ts 233 (takesSpec ts)), (181, oRd ts 181 failSpec)]
theorem oSm2_cx (ts : List Wd) (hts : ts.length < 1000000) : Cx (oSm2 ts) Tryz.prog envX := ⟨oTab_sound (by
  intro p hp
  simp only [List.mem_cons, List.not_mem_nil, or_false] at hp
  rcases hp with rfl | rfl
  · exact takes_sound ts hts
  · exact fail_sound ts), methXOk, mixed⟩
theorem oSm2_t {ts : List Wd} : ∀ (a d : Int) (x : Option (Nat × Nat)) (s : List UInt8) (H : AH), 0 ≤ a → 0 ≤ d → nextB ts ⟨a.toNat, d.toNat, x⟩ s = true →
    oSm2 ts 233 [.ptr 0 0, .str s] (some (.box [wdsAV ts, .int .i64 a, .int .i64 d, eAV x]) :: H) = some (.bool true, some (.box [wdsAV ts, .int .i64 (a + 1), .int .i64 d, eAV x]) :: H) := fun a d x s H ha hd hn => by
  rw [← sm_takes_t s H ha hd hn]; simp [oSm2, oTab, List.lookup]
theorem oSm2_f {ts : List Wd} : ∀ (a d : Int) (x : Option (Nat × Nat)) (s : List UInt8) (H : AH), 0 ≤ a → 0 ≤ d → nextB ts ⟨a.toNat, d.toNat, x⟩ s = false →
    oSm2 ts 233 [.ptr 0 0, .str s] (some (.box [wdsAV ts, .int .i64 a, .int .i64 d, eAV x]) :: H) = some (.bool false, some (.box [wdsAV ts, .int .i64 a, .int .i64 d, eAV x]) :: H) := fun a d x s H ha hd hn => by
  rw [← sm_takes_f s H ha hd hn]; simp [oSm2, oTab, List.lookup]
theorem oSm2_fail {ts : List Wd} : ∀ (a d : Int) (x : Option (Nat × Nat)) (p e : Int) (H : AH), 0 ≤ a → 0 ≤ d → 0 ≤ p → 0 ≤ e → oSm2 ts 181 [.ptr 0 0, .int .i64 p, .int .i64 e] (some (.box [wdsAV ts, .int .i64 a, .int .i64 d, eAV x]) :: H) =
    some (.tup [], some (.box [wdsAV ts, .int .i64 a, .int .i64 d, eAV (some (x.getD (p.toNat, e.toNat)))]) :: H) := fun a d x p e H ha hd hp he => by
  rw [← sm_fail p e H ha hd hp he]; simp [oSm2, oTab, List.lookup]
theorem must_cs (ts : List Wd) (hts : ts.length < 1000000) (r : St) (s : List UInt8) {H : AH} {id : Nat} (hH : H.at id = some (.box (r.cells ts))) :
    CS Tryz.prog envX 235 [.ptr id 0, .str s] H (.tup []) (H.set id (some (.box ((mustS ts r s).cells ts)))) := by
  refine CS.rd lowX Tryz.func235 (by kernel_rfl) 0 (by simp [Tryz.f235]) (fun B hB hG => ?_) (by simp) rfl (St.cells_low ts r) (St.cells_low ts _) hH
  refine Tr.goD (oSm2_cx ts hts) hG ?_
  cases hn : nextB ts r s with
  | true => simp [Tryz.f235, St.cells, mustS, hn, oSm2_t, St.step]
  | false => simp [Tryz.f235, St.cells, mustS, hn, oSm2_f, oSm2_fail, fail_eq]
def mustSpec (ts : List Wd) (rest : List AV) (r : St) : Option (AV × St) := match rest with
  | [.str s] => some (.tup [], mustS ts r s)
  | _ => none
theorem must_sound (ts : List Wd) (hts : ts.length < 1000000) : Sound Tryz.prog envX (oRd ts 235 (mustSpec ts)) := oRd_sound fun rest r v r' h H id hH => by
  unfold mustSpec at h
  split at h
  · injection h with h
    simp only [Prod.mk.injEq] at h
    obtain ⟨rfl, rfl⟩ := h
    exact must_cs ts hts r _ hH
  · cases h
end Go.Proofs.YtejjlojfgcgopaaGreatDoor
namespace Go.Proofs.YtejjlojfgcgopaaGreatDoor
open Go.RowKit Go.Proofs.Fw
set_option maxRecDepth 100000
set_option maxHeartbeats 4000000
theorem Less.mkK {B : Bs} {n : Nat} {l l' : List (Nat × AV)} {H H' : AH} (m : Nat) (hm : B.H.length ≤ m) (h : ∀ p ∈ l', (l.lookup p.1).getD .undef = p.2 ∧ low m p.2 = true) (hH : H.take m = H') (hl : lowH m H' = true) : Less B (Fw.mkT n l) H (Fw.mkT n l') H' :=
  Less.mkT m hm (fun p hp => .same (h p hp).1 (h p hp).2) hH hl
theorem low_at (m : Nat) {a : AV} (h : low 0 a = true) : low m a = true := low_mono (Nat.zero_le m) a h
@[simp ↓ high] theorem ar_lowm (m : Nat) (e : Ex) : low m e.ar = true := low_at m (ar_low e)
@[simp ↓ high] theorem eAV_lowm (m : Nat) (x : Option (Nat × Nat)) : low m (eAV x) = true := low_at m (eAV_low x)
@[simp ↓ high] theorem wdsAV_lowm (m : Nat) (l : List Wd) : low m (wdsAV l) = true := low_at m (wdsAV_low' l)
@[simp] theorem kd_none : Ex.none.kd = 0 := nrfl rfl
@[simp] theorem kd_num (n : Nat) : (Ex.num n).kd = 1 := nrfl rfl
@[simp] theorem kd_var (s : List UInt8) : (Ex.var s).kd = 2 := nrfl rfl
@[simp] theorem kd_elem (s : List UInt8) (a : List Ex) : (Ex.elem s a).kd = 3 := nrfl rfl
@[simp] theorem kd_neg (e : Ex) : (Ex.neg e).kd = 4 := nrfl rfl
@[simp] theorem kd_bin (k : Nat) (a b : Ex) : (Ex.bin k a b).kd = (k : Int) := nrfl rfl
@[simp] theorem nn_none : Ex.none.nn = 0 := nrfl rfl
@[simp] theorem nn_num (n : Nat) : (Ex.num n).nn = n := nrfl rfl
@[simp] theorem nn_var (s : List UInt8) : (Ex.var s).nn = 0 := nrfl rfl
@[simp] theorem nn_elem (s : List UInt8) (a : List Ex) : (Ex.elem s a).nn = 0 := nrfl rfl
@[simp] theorem nn_neg (e : Ex) : (Ex.neg e).nn = 0 := nrfl rfl
@[simp] theorem nn_bin (k : Nat) (a b : Ex) : (Ex.bin k a b).nn = 0 := nrfl rfl
@[simp] theorem nm_none : Ex.none.nm = [] := nrfl rfl
@[simp] theorem nm_num (n : Nat) : (Ex.num n).nm = [] := nrfl rfl
@[simp] theorem nm_var (s : List UInt8) : (Ex.var s).nm = s := nrfl rfl
@[simp] theorem nm_elem (s : List UInt8) (a : List Ex) : (Ex.elem s a).nm = s := nrfl rfl
@[simp] theorem nm_neg (e : Ex) : (Ex.neg e).nm = [] := nrfl rfl
@[simp] theorem nm_bin (k : Nat) (a b : Ex) : (Ex.bin k a b).nm = [] := nrfl rfl
attribute [simp] ar_none ar_num ar_var ar_elem ar_neg ar_bin
def upw (of : Rd) : Prop := ∀ r, r.at_ ≤ (of r).2.at_
theorem rowL_up {ts : List Wd} {of : Rd} (h : upw of) {f s : List UInt8} {one two : Nat} : ∀ (n : Nat) (e : Ex), upw (rowL ts of f one s two n e)
  | 0, e, r => Nat.le_refl _
  | n + 1, e, r => by
    have h1 := h r.step
    simp only [rowL]
    split
    · exact Nat.le_refl _
    · split
      · have := rowL_up h (ts := ts) (f := f) (s := s) (one := one) (two := two) n (.bin two e (of r.step).1) (of r.step).2
        simp only [St.step] at h1 this ⊢
        omega
      · split
        · have := rowL_up h (ts := ts) (f := f) (s := s) (one := one) (two := two) n (.bin one e (of r.step).1) (of r.step).2
          simp only [St.step] at h1 this ⊢
          omega
        · exact Nat.le_refl _
theorem rowF_up {ts : List Wd} {of : Rd} (h : upw of) {f s : List UInt8} {one two : Nat} : upw (rowF ts of f one s two) := fun r => Nat.le_trans (h r) (rowL_up h _ _ _)
def Ans (O : Orc) (ts : List Wd) (g : FuncId) (of : Rd) (n : Nat) : Prop := ∀ (a d : Int) (x : Option (Nat × Nat)) (H : AH), 0 ≤ a → 0 ≤ d → d ≤ 20 → ts.length - a.toNat < n →
  O g [.ptr 0 0] (some (.box [wdsAV ts, .int .i64 a, .int .i64 d, eAV x]) :: H) = some (exAV (of ⟨a.toNat, d.toNat, x⟩).1, some (.box ((of ⟨a.toNat, d.toNat, x⟩).2.cells ts)) :: H)
def RowI (ts : List Wd) (of : Rd) (g : FuncId) (f : List UInt8) (one : Nat) (s : List UInt8) (two : Nat) (n : Nat) (res : Ex × St) (k : Nat) (t : List AV) (H : AH) : Prop :=
  ∃ (e : Ex) (r : St), rowL ts of f one s two k e r = res ∧ ts.length - r.at_ < k ∧ ts.length - r.at_ < n ∧ r.deep ≤ 20 ∧
    t = mkT 47 [(0, .ptr 0 0), (1, .func (.func g) [.ptr 0 0] []), (2, .str f), (3, .int .i64 one), (4, .str s), (5, .int .i64 two), (12, .ptr 1 0), (13, .ptr 2 0)] ∧
    H = [some (.box (r.cells ts)), some (.box (exC .none)), some (.box (exC e))]
theorem row_tr (ts : List Wd) (hts : ts.length < 1000000) {O : Orc} (X : Cx O Tryz.prog envX) (hN : ∀ (a d : Int) (x : Option (Nat × Nat)) (s : List UInt8) (H : AH), 0 ≤ a → 0 ≤ d → O 180 [.ptr 0 0, .str s] (some (.box [wdsAV ts, .int .i64 a, .int .i64 d, eAV x]) :: H) =
    some (.bool (nextB ts ⟨a.toNat, d.toNat, x⟩ s), some (.box [wdsAV ts, .int .i64 a, .int .i64 d, eAV x]) :: H)) {g : FuncId} (hg : goFn Tryz.prog g = true) {of : Rd} {n : Nat} (hA : Ans O ts g of n) (hu : upw of) (hd : ∀ r, (of r).2.deep = r.deep)
    (f : List UInt8) (one : Nat) (s : List UInt8) (two : Nat) (r : St) (hr : r.deep ≤ 20) (hn : ts.length - r.at_ < n) (B : Bs) (hB : B.H = [some (.box (r.cells ts))]) (hG : GlobOk envX B.g) :
    Tr Tryz.prog B (bodyOf Tryz.f209) (mkT 47 (argL 0 [.ptr 0 0, .func (.func g) [.ptr 0 0] [], .str f, .int .i64 one, .str s, .int .i64 two])) [some (.box (r.cells ts))]
      (Fin Tryz.prog Tryz.f209 1 0 (exAV (rowF ts of f one s two r).1) [some (.box ((rowF ts of f one s two r).2.cells ts))]) := by
  have hdr : ((r.deep : Int)) ≤ 20 := by omega
  have h1 := fun H => hA r.at_ r.deep r.err H (by omega) (by omega) hdr (by simpa using hn)
  simp only [Int.toNat_natCast] at h1
  have hu1 := hu r
  have hd1 := hd r
  simp only [rowF]
  generalize hof : of r = p at *
  obtain ⟨e, q⟩ := p
  simp only at h1 hu1 hd1
  refine Tr.goD X hG ?_
  simp [St.cells] at h1
  simp [Tryz.f209, St.cells, hg, h1]
  refine LpD.loopN X hG (RowI ts of g f one s two n (rowL ts of f one s two (ts.length + 1) e q)) (ts.length + 1)
    (t' := mkT 47 [(0, .ptr 0 0), (1, .func (.func g) [.ptr 0 0] []), (2, .str f), (3, .int .i64 one), (4, .str s), (5, .int .i64 two), (12, .ptr 1 0), (13, .ptr 2 0)])
    (H' := [some (.box (q.cells ts)), some (.box (exC .none)), some (.box (exC e))]) (Less.mkK 3 (by simp [hB]) (by simp) (by simp [St.cells]) (by simp [St.cells])) ⟨e, q, rfl, by omega, by omega, by omega, rfl, rfl⟩ ?_
  rintro k t H ⟨e', r', hres, hk, hkn, hdp, rfl, rfl⟩
  cases k with
  | zero => omega
  | succ k =>
    have hdp' : (r'.deep : Int) ≤ 20 := by omega
    cases he : r'.err with
    | some x =>
      have hr2 : rowL ts of f one s two (k + 1) e' r' = (.none, r') := by simp [rowL, he]
      rw [← hres, hr2]
      simp [St.cells, he, Blk_exit]
    | none =>
      obtain ⟨a, d, x⟩ := r'
      simp only at he hk hkn hdp hdp'
      subst he
      cases hs : nextB ts ⟨a, d, none⟩ s with
      | true =>
        have hl : a < ts.length := nextB_lt hs
        have w1 : IntKind.i64.wrap ((a : Int) + 1) = (a : Int) + 1 := wrap_i64 (by omega) (by omega)
        have h2 := fun H => hA (a + 1 : Nat) d none H (by omega) (by omega) hdp' (by simp only [Int.toNat_natCast]; omega)
        simp [St.cells] at h2
        simp [St.cells, hN, hs, w1, Blk_exit]
        refine LpD.turns X hG [3, 6] [(0, 3), (1, 3)] ?_
        simp [hg, h2]
        refine Nxt.mk k (by omega) (Less.mkK 3 (l' := [(0, .ptr 0 0), (1, .func (.func g) [.ptr 0 0] []), (2, .str f), (3, .int .i64 one), (4, .str s), (5, .int .i64 two), (12, .ptr 1 0), (13, .ptr 2 0)])
          (H' := [some (.box ((of ⟨a + 1, d, none⟩).2.cells ts)), some (.box (exC .none)), some (.box (exC (.bin two e' (of ⟨a + 1, d, none⟩).1)))]) (by simp [hB]) (by simp) (by simp [St.cells]) (by simp [St.cells]))
          ⟨.bin two e' (of ⟨a + 1, d, none⟩).1, (of ⟨a + 1, d, none⟩).2, ?_, ?_, ?_, ?_, rfl, rfl⟩
        · rw [← hres]; simp [rowL, hs, St.step]
        · have := hu ⟨a + 1, d, none⟩; simp only at this; omega
        · have := hu ⟨a + 1, d, none⟩; simp only at this; omega
        · have := hd ⟨a + 1, d, none⟩; simp only at this; omega
      | false =>
        cases hf : nextB ts ⟨a, d, none⟩ f with
        | true =>
          have hl : a < ts.length := nextB_lt hf
          have w1 : IntKind.i64.wrap ((a : Int) + 1) = (a : Int) + 1 := wrap_i64 (by omega) (by omega)
          have h2 := fun H => hA (a + 1 : Nat) d none H (by omega) (by omega) hdp' (by simp only [Int.toNat_natCast]; omega)
          simp [St.cells] at h2
          simp [St.cells, hN, hs, hf, w1, Blk_exit]
          refine LpD.turns X hG [3, 6] [(0, 3), (1, 3)] ?_
          simp [hg, h2]
          refine Nxt.mk k (by omega) (Less.mkK 3 (l' := [(0, .ptr 0 0), (1, .func (.func g) [.ptr 0 0] []), (2, .str f), (3, .int .i64 one), (4, .str s), (5, .int .i64 two), (12, .ptr 1 0), (13, .ptr 2 0)])
            (H' := [some (.box ((of ⟨a + 1, d, none⟩).2.cells ts)), some (.box (exC .none)), some (.box (exC (.bin one e' (of ⟨a + 1, d, none⟩).1)))]) (by simp [hB]) (by simp) (by simp [St.cells]) (by simp [St.cells]))
            ⟨.bin one e' (of ⟨a + 1, d, none⟩).1, (of ⟨a + 1, d, none⟩).2, ?_, ?_, ?_, ?_, rfl, rfl⟩
          · rw [← hres]; simp [rowL, hs, hf, St.step]
          · have := hu ⟨a + 1, d, none⟩; simp only at this; omega
          · have := hu ⟨a + 1, d, none⟩; simp only at this; omega
          · have := hd ⟨a + 1, d, none⟩; simp only at this; omega
        | false =>
          have hr2 : rowL ts of f one s two (k + 1) e' ⟨a, d, none⟩ = (e', ⟨a, d, none⟩) := by simp [rowL, hs, hf]
          rw [← hres, hr2]
          simp [St.cells, hN, hs, hf, Blk_exit]
theorem row_cs (ts : List Wd) (hts : ts.length < 1000000) {O : Orc} (X : Cx O Tryz.prog envX) (hN : ∀ (a d : Int) (x : Option (Nat × Nat)) (s : List UInt8) (H : AH), 0 ≤ a → 0 ≤ d → O 180 [.ptr 0 0, .str s] (some (.box [wdsAV ts, .int .i64 a, .int .i64 d, eAV x]) :: H) =
    some (.bool (nextB ts ⟨a.toNat, d.toNat, x⟩ s), some (.box [wdsAV ts, .int .i64 a, .int .i64 d, eAV x]) :: H)) {g : FuncId} (hg : goFn Tryz.prog g = true) {of : Rd} {n : Nat} (hA : Ans O ts g of n) (hu : upw of) (hd : ∀ r, (of r).2.deep = r.deep)
    (f : List UInt8) (one : Nat) (s : List UInt8) (two : Nat) (r : St) (hr : r.deep ≤ 20) (hn : ts.length - r.at_ < n) {H : AH} {id : Nat} (hH : H.at id = some (.box (r.cells ts))) :
    CS Tryz.prog envX 209 [.ptr id 0, .func (.func g) [.ptr id 0] [], .str f, .int .i64 one, .str s, .int .i64 two] H (exAV (rowF ts of f one s two r).1) (H.set id (some (.box ((rowF ts of f one s two r).2.cells ts)))) := by
  have := CS.rdR (rest := [.func (.func g) [.ptr 0 0] [], .str f, .int .i64 one, .str s, .int .i64 two]) lowX Tryz.func209 (by kernel_rfl) 0 (by simp [Tryz.f209])
    (fun B hB hG => row_tr ts hts X hN hg hA hu hd f one s two r hr hn B hB hG) (by simp) (by simp) (St.cells_low ts r) (St.cells_low ts _) hH
  simpa [renL, ren] using this
end Go.Proofs.YtejjlojfgcgopaaGreatDoor
namespace Go.Proofs.YtejjlojfgcgopaaGreatDoor
open Go.RowKit Go.Proofs.Fw
set_option maxRecDepth 100000
set_option maxHeartbeats 4000000
theorem inF_up {p : Nat} {f : Rd} (h : upw f) : upw (inF p f) := by
  intro r
  by_cases hd : r.deep + 1 > 20
  · cases he : r.err with
    | none => simp [inF, hd, he, St.fail]
    | some x => simp [inF, hd, he, St.fail]
  · cases he : r.err with
    | none => simp only [inF, if_neg hd, he, Option.isNone_none, if_true]; exact h ⟨r.at_, r.deep + 1, none⟩
    | some x => simp [inF, hd, he]
theorem fail_at (r : St) (p e : Nat) : (r.fail p e).at_ = r.at_ := by unfold St.fail; split <;> rfl
theorem must_up (ts : List Wd) (r : St) (s : List UInt8) : r.at_ ≤ (mustS ts r s).at_ := by
  unfold mustS; split
  · simp [St.step]
  · rw [fail_at]; exact Nat.le_refl _
theorem subL_up {ts : List Wd} {f : Rd} (h : upw f) : ∀ (n : Nat) (a : List Ex) (r : St), r.at_ ≤ (subL ts f n a r).2.at_
  | 0, _, _ => Nat.le_refl _
  | n + 1, a, r => by
    have h1 := h r
    simp only [subL]
    split
    · have h2 := subL_up h (ts := ts) n (a ++ [(f r).1]) (if a.length + 1 == 4 then (f r).2.fail (f r).2.at_ 4 else (f r).2).step
      have h3 : (f r).2.at_ ≤ (if a.length + 1 == 4 then (f r).2.fail (f r).2.at_ 4 else (f r).2).step.at_ := by
        split
        · simp [St.step, fail_at]
        · simp [St.step]
      omega
    · exact h1
theorem facF_up {ts : List Wd} {sf f : Rd} (hs : upw sf) (h : upw f) : upw (facF ts sf f) := by
  intro r
  unfold facF
  split
  · split
    · simp [St.step]
    · split
      · unfold nameF
        split
        · have h1 := subL_up (ts := ts) hs 6 [] r.step.step
          have h2 := must_up ts (subL ts sf 6 [] r.step.step).2 shutT
          simp only [St.step] at h1 h2 ⊢
          omega
        · simp [St.step]
      · split
        · have := inF_up (p := r.at_) h r.step
          simp only [St.step] at this ⊢
          omega
        · split
          · have h1 := inF_up (p := r.at_) hs r.step
            have h2 := must_up ts (inF r.at_ sf r.step).2 shutT
            simp only [St.step] at h1 h2 ⊢
            omega
          · rw [fail_at]; exact Nat.le_refl _
  · rw [fail_at]; exact Nat.le_refl _
theorem fac_up (ts : List Wd) : ∀ n, upw (fac ts n)
  | 0 => fun _ => Nat.le_refl _
  | n + 1 => facF_up (rowF_up (rowF_up (fac_up ts n))) (fac_up ts n)
theorem fac_deep (ts : List Wd) (n : Nat) : ∀ r, (fac ts n r).2.deep = r.deep := (fac_ok ts n).2.2.2.1
theorem term_deep (ts : List Wd) (n : Nat) : ∀ r, (termF ts (fac ts n) r).2.deep = r.deep := (rowF_ok (ts := ts) (f := starT) (s := slashT) (fac_ok ts n) (by decide) 7 8).2.2.2.1
theorem sum_deep (ts : List Wd) (n : Nat) : ∀ r, (sumF ts (fac ts n) r).2.deep = r.deep := (sumF_ok (ts := ts) (fac_ok ts n)).2.2.2.1
theorem term_up (ts : List Wd) (n : Nat) : upw (termF ts (fac ts n)) := rowF_up (fac_up ts n)
theorem sum_up (ts : List Wd) (n : Nat) : upw (sumF ts (fac ts n)) := rowF_up (term_up ts n)
open Classical in
noncomputable def oRdI (ts : List Wd) (f0 : FuncId) (spec : Nat → List AV → St → Option (AV × St)) : Orc := fun f args H =>
  if f = f0 then (match args with
    | .ptr id 0 :: rest => if h : ∃ r : St, H.at id = some (.box (r.cells ts)) then (spec id rest h.choose).map fun x => (x.1, H.set id (some (.box (x.2.cells ts)))) else none
    | _ => none) else none
theorem oRdI_at {ts : List Wd} {f0 : FuncId} {spec : Nat → List AV → St → Option (AV × St)} {id : Nat} {rest : List AV} {H : AH} {r : St} (h : H.at id = some (.box (r.cells ts))) :
    oRdI ts f0 spec f0 (.ptr id 0 :: rest) H = (spec id rest r).map fun x => (x.1, H.set id (some (.box (x.2.cells ts)))) := by
  have hx : ∃ r : St, H.at id = some (.box (r.cells ts)) := ⟨r, h⟩
  have hc := h.symm.trans hx.choose_spec
  simp only [Option.some.injEq, Ent.box.injEq] at hc
  have : hx.choose = r := (St.cells_inj hc).symm
  simp only [oRdI, if_true, dif_pos hx, this]
theorem oRdI_sound {ts : List Wd} {f0 : FuncId} {spec : Nat → List AV → St → Option (AV × St)}
    (h : ∀ id rest r v r', spec id rest r = some (v, r') → ∀ H, H.at id = some (.box (r.cells ts)) → CS Tryz.prog envX f0 (.ptr id 0 :: rest) H v (H.set id (some (.box (r'.cells ts))))) : Sound Tryz.prog envX (oRdI ts f0 spec) := by
  intro f args H v H' ho
  unfold oRdI at ho
  split at ho
  · rename_i hf
    subst hf
    split at ho
    · rename_i id rest
      split at ho
      · rename_i hx
        obtain ⟨x, hs, hx2⟩ := Option.map_eq_some_iff.1 ho
        simp only [Prod.mk.injEq] at hx2
        obtain ⟨rfl, rfl⟩ := hx2
        refine ⟨h _ _ _ _ _ hs _ hx.choose_spec, by simp, fun j _ hj => at_set_noneX hx.choose_spec hj⟩
      · cases ho
    · cases ho
  · cases ho
def partSpec (ts : List Wd) (of : Rd) (n : Nat) (rest : List AV) (r : St) : Option (AV × St) := match rest with
  | [] => if r.deep ≤ 20 ∧ ts.length - r.at_ < n then some (exAV (of r).1, (of r).2) else none
  | _ => none
def PartS (ts : List Wd) (g : FuncId) (of : Rd) (n : Nat) : Prop := Sound Tryz.prog envX (oRd ts g (partSpec ts of n))
theorem PartS.mk' {ts : List Wd} {g : FuncId} {of : Rd} {n : Nat} (h : ∀ r : St, r.deep ≤ 20 → ts.length - r.at_ < n → ∀ H id, H.at id = some (.box (r.cells ts)) → CS Tryz.prog envX g [.ptr id 0] H (exAV (of r).1) (H.set id (some (.box ((of r).2.cells ts))))) : PartS ts g of n :=
  oRd_sound fun rest r v r' hs H id hH => by
    unfold partSpec at hs
    split at hs
    · split at hs
      · rename_i hc
        injection hs with hs
        simp only [Prod.mk.injEq] at hs
        obtain ⟨rfl, rfl⟩ := hs
        exact h r hc.1 hc.2 H id hH
      · cases hs
    · cases hs
theorem part_at {ts : List Wd} {g : FuncId} {of : Rd} {n : Nat} : Ans (oRd ts g (partSpec ts of n)) ts g of n := fun a d x H ha hd hd2 hm => by
  rw [oRd_at (rd_at ha hd)]
  have h1 : d.toNat ≤ 20 := by omega
  simp only [partSpec, if_pos (And.intro h1 hm), Option.map_some, List.set_cons_zero]
noncomputable def oNG (ts : List Wd) (g : FuncId) (of : Rd) (n : Nat) : Orc := orElse (oRd ts 180 (nextSpec ts)) (oRd ts g (partSpec ts of n))
theorem oNG_cx {ts : List Wd} {g : FuncId} {of : Rd} {n : Nat} (h : PartS ts g of n) : Cx (oNG ts g of n) Tryz.prog envX := ⟨Sound.orElse (next_sound ts) h, methXOk, mixed⟩
theorem oNG_next {ts : List Wd} {g : FuncId} {of : Rd} {n : Nat} (a d : Int) (x : Option (Nat × Nat)) (s : List UInt8) (H : AH) (ha : 0 ≤ a) (hd : 0 ≤ d) : oNG ts g of n 180 [.ptr 0 0, .str s] (some (.box [wdsAV ts, .int .i64 a, .int .i64 d, eAV x]) :: H) =
    some (.bool (nextB ts ⟨a.toNat, d.toNat, x⟩ s), some (.box [wdsAV ts, .int .i64 a, .int .i64 d, eAV x]) :: H) := by
  simp only [oNG, orElse, sm_next s H ha hd]
theorem oNG_ans {ts : List Wd} {g : FuncId} {of : Rd} {n : Nat} (hg : g ≠ 180) : Ans (oNG ts g of n) ts g of n := fun a d x H ha hd hd2 hm => by
  have := part_at (g := g) (of := of) (n := n) a d x H ha hd hd2 hm
  have h1 : oRd ts 180 (nextSpec ts) g [.ptr 0 0] (some (.box [wdsAV ts, .int .i64 a, .int .i64 d, eAV x]) :: H) = none := by simp [oRd, hg]
  simp only [oNG, orElse, h1, this]
def rowSpec (ts : List Wd) (g : FuncId) (of : Rd) (n : Nat) (id : Nat) (rest : List AV) (r : St) : Option (AV × St) := match rest with
  | [.func (.func g') [.ptr id' 0] [], .str f, .int .i64 one, .str s, .int .i64 two] =>
    if g' = g ∧ id' = id ∧ 0 ≤ one ∧ 0 ≤ two ∧ r.deep ≤ 20 ∧ ts.length - r.at_ < n then some (exAV (rowF ts of f one.toNat s two.toNat r).1, (rowF ts of f one.toNat s two.toNat r).2) else none
  | _ => none
theorem row_sound {ts : List Wd} (hts : ts.length < 1000000) {g : FuncId} {of : Rd} {n : Nat} (h : PartS ts g of n) (hne : g ≠ 180) (hg : goFn Tryz.prog g = true) (hu : upw of) (hd : ∀ r, (of r).2.deep = r.deep) :
    Sound Tryz.prog envX (oRdI ts 209 (rowSpec ts g of n)) := oRdI_sound fun id rest r v r' hs H hH => by
  unfold rowSpec at hs
  split at hs
  · rename_i g' id' f one s two
    split at hs
    · rename_i hc
      obtain ⟨rfl, rfl, h1, h2, h3, h4⟩ := hc
      injection hs with hs
      simp only [Prod.mk.injEq] at hs
      obtain ⟨rfl, rfl⟩ := hs
      have := row_cs ts hts (oNG_cx h) (fun a d x s H ha hd => oNG_next a d x s H ha hd) hg (oNG_ans hne) hu hd f one.toNat s two.toNat r h3 h4 hH
      rwa [Int.toNat_of_nonneg h1, Int.toNat_of_nonneg h2] at this
    · cases hs
  · cases hs
theorem row_ans {ts : List Wd} {g : FuncId} {of : Rd} {n : Nat} {a d : Int} {x : Option (Nat × Nat)} (f s : List UInt8) (one two : Nat) (H : AH) (ha : 0 ≤ a) (hd : 0 ≤ d) (hd2 : d ≤ 20) (hm : ts.length - a.toNat < n) :
    oRdI ts 209 (rowSpec ts g of n) 209 [.ptr 0 0, .func (.func g) [.ptr 0 0] [], .str f, .int .i64 one, .str s, .int .i64 two] (some (.box [wdsAV ts, .int .i64 a, .int .i64 d, eAV x]) :: H) =
    some (exAV (rowF ts of f one s two ⟨a.toNat, d.toNat, x⟩).1, some (.box ((rowF ts of f one s two ⟨a.toNat, d.toNat, x⟩).2.cells ts)) :: H) := by
  rw [oRdI_at (rd_at ha hd)]
  have h1 : d.toNat ≤ 20 := by omega
  simp [rowSpec, h1, hm]
theorem term_part {ts : List Wd} (hts : ts.length < 1000000) {n : Nat} (h : PartS ts 224 (fac ts n) n) : PartS ts 210 (termF ts (fac ts n)) n := PartS.mk' fun r hr hn H id hH => by
  have X : Cx (oRdI ts 209 (rowSpec ts 224 (fac ts n) n)) Tryz.prog envX := ⟨row_sound hts h (by decide) Tx.go224 (fac_up ts n) (fac_deep ts n), methXOk, mixed⟩
  refine CS.rd lowX Tryz.func210 (by kernel_rfl) 0 (by simp [Tryz.f210]) (fun B hB hG => ?_) rfl (by simp) (St.cells_low ts r) (St.cells_low ts _) hH
  refine Tr.goD X hG ?_
  have h1 := fun H => row_ans (g := 224) (of := fac ts n) (x := r.err) starT slashT 7 8 H (a := r.at_) (d := r.deep) (by omega) (by omega) (by omega) (by simpa using hn)
  simp [starT, slashT] at h1
  simp [Tryz.f210, St.cells, h1, termF, starT, slashT]
theorem sum_part {ts : List Wd} (hts : ts.length < 1000000) {n : Nat} (h : PartS ts 224 (fac ts n) n) : PartS ts 178 (sumF ts (fac ts n)) n := PartS.mk' fun r hr hn H id hH => by
  have X : Cx (oRdI ts 209 (rowSpec ts 210 (termF ts (fac ts n)) n)) Tryz.prog envX := ⟨row_sound hts (term_part hts h) (by decide) Tx.go210 (term_up ts n) (term_deep ts n), methXOk, mixed⟩
  refine CS.rd lowX Tryz.func178 (by kernel_rfl) 0 (by simp [Tryz.f178]) (fun B hB hG => ?_) rfl (by simp) (St.cells_low ts r) (St.cells_low ts _) hH
  refine Tr.goD X hG ?_
  have h1 := fun H => row_ans (g := 210) (of := termF ts (fac ts n)) (x := r.err) plusT minusT 5 6 H (a := r.at_) (d := r.deep) (by omega) (by omega) (by omega) (by simpa using hn)
  simp [plusT, minusT] at h1
  simp [Tryz.f178, St.cells, h1, sumF, plusT, minusT]
end Go.Proofs.YtejjlojfgcgopaaGreatDoor
namespace Go.Proofs.YtejjlojfgcgopaaGreatDoor
open Go.RowKit Go.Proofs.Fw
set_option maxRecDepth 100000
set_option maxHeartbeats 4000000
theorem within_cs (ts : List Wd) {O : Orc} (X : Cx O Tryz.prog envX) (hF : ∀ (a d : Int) (x : Option (Nat × Nat)) (p e : Int) (H : AH), 0 ≤ a → 0 ≤ d → 0 ≤ p → 0 ≤ e → O 181 [.ptr 0 0, .int .i64 p, .int .i64 e] (some (.box [wdsAV ts, .int .i64 a, .int .i64 d, eAV x]) :: H) =
    some (.tup [], some (.box [wdsAV ts, .int .i64 a, .int .i64 d, eAV (some (x.getD (p.toNat, e.toNat)))]) :: H)) {g : FuncId} (hg : goFn Tryz.prog g = true) {of : Rd} {n : Nat} (hA : Ans O ts g of n) (hd : ∀ r, (of r).2.deep = r.deep)
    (p : Nat) (r : St) (hr : r.deep ≤ 20) (hn : ts.length - r.at_ < n) {H : AH} {id : Nat} (hH : H.at id = some (.box (r.cells ts))) :
    CS Tryz.prog envX 234 [.ptr id 0, .int .i64 p, .func (.func g) [.ptr id 0] []] H (exAV (inF p of r).1) (H.set id (some (.box ((inF p of r).2.cells ts)))) := by
  have := CS.rdR (rest := [.int .i64 p, .func (.func g) [.ptr 0 0] []]) lowX Tryz.func234 (by kernel_rfl) 0 (by simp [Tryz.f234])
    (fun B hB hG => show Tr Tryz.prog B (bodyOf Tryz.f234) _ _ (Fin Tryz.prog Tryz.f234 1 0 (exAV (inF p of r).1) [some (.box ((inF p of r).2.cells ts))]) from by
      refine Tr.goD X hG ?_
      obtain ⟨a, d, x⟩ := r
      simp only at hr hn
      have w1 : IntKind.i64.wrap ((d : Int) + 1) = (d : Int) + 1 := wrap_i64 (by omega) (by omega)
      have w2 : IntKind.i64.wrap (d : Int) = (d : Int) := wrap_i64 (by omega) (by omega)
      have h0 : 0 ≤ (d : Int) + 1 := by omega
      have hne : IntKind.i64.wrap (4 : Int) = 4 := by decide
      by_cases hd20 : d + 1 > 20
      · have hd20' : (20 : Int) < (d : Int) + 1 := by omega
        cases x with
        | none => simp [Tryz.f234, St.cells, w1, w2, h0, hd20', hF, inF, hd20, fail_eq]
        | some x => simp [Tryz.f234, St.cells, w1, w2, h0, hd20', hF, inF, hd20, fail_eq]
      · have hd20' : ¬ (20 : Int) < (d : Int) + 1 := by omega
        cases x with
        | some x => simp [Tryz.f234, St.cells, w1, w2, h0, hd20', inF, hd20]
        | none =>
          have h1 := fun H => hA a (d + 1 : Nat) none H (by omega) (by omega) (by omega) (by simpa using hn)
          have hdd := hd ⟨a, d + 1, none⟩
          simp only at hdd
          simp [St.cells, hdd] at h1
          simp [Tryz.f234, St.cells, w1, w2, h0, hd20', inF, hd20, hg, h1, hdd]) (by simp) (by simp) (St.cells_low ts r) (St.cells_low ts _) hH
  simpa [renL, ren] using this
@[simp high] theorem exsC_lowm (m : Nat) (l : List Ex) : lowL m (exsC l) = true := lowL_mono (Nat.zero_le m) _ (exsC_low l)
theorem elemE : elemChk Tryz.prog 25 4 = true := by kernel_rfl
theorem exC_one (e : Ex) : ([.int .i64 e.kd, .int .i64 e.nn, .str e.nm, e.ar] : List AV).all AV.one = true := by
  cases e <;> rfl
def subAV (a : List Ex) : AV := if a = [] then .nilSlice else .slice (.tok 3) 4 a.length (exsC a)
def subH (ts : List Wd) (s : List UInt8) (a : List Ex) (r : St) : AH := [some (.box (r.cells ts)), some (.box (exC .none)), some (.box [.int .i64 3, .int .i64 0, .str s, subAV a])] ++ (if a = [] then [] else [some (.tok a.length)])
def NameI (ts : List Wd) (sum : Rd) (n : Nat) (s : List UInt8) (res : List Ex × St) (k : Nat) (t : List AV) (H : AH) : Prop :=
  ∃ (a : List Ex) (r : St), subL ts sum k a r = res ∧ k + a.length = 6 ∧ a.length ≤ 4 ∧ (a.length = 4 → r.err.isSome = true) ∧ ts.length - r.at_ < n ∧ r.deep ≤ 20 ∧ t = mkT 58 [(0, .ptr 0 0), (2, .ptr 1 0), (3, .ptr 2 0)] ∧ H = subH ts s a r
structure NameO (O : Orc) (ts : List Wd) (sum : Rd) (n : Nat) : Prop where
  fail : ∀ (a d : Int) (x : Option (Nat × Nat)) (p e : Int) (H : AH), 0 ≤ a → 0 ≤ d → 0 ≤ p → 0 ≤ e → O 181 [.ptr 0 0, .int .i64 p, .int .i64 e] (some (.box [wdsAV ts, .int .i64 a, .int .i64 d, eAV x]) :: H) =
    some (.tup [], some (.box [wdsAV ts, .int .i64 a, .int .i64 d, eAV (some (x.getD (p.toNat, e.toNat)))]) :: H)
  next : ∀ (a d : Int) (x : Option (Nat × Nat)) (s : List UInt8) (H : AH), 0 ≤ a → 0 ≤ d → O 180 [.ptr 0 0, .str s] (some (.box [wdsAV ts, .int .i64 a, .int .i64 d, eAV x]) :: H) =
    some (.bool (nextB ts ⟨a.toNat, d.toNat, x⟩ s), some (.box [wdsAV ts, .int .i64 a, .int .i64 d, eAV x]) :: H)
  takesT : ∀ (a d : Int) (x : Option (Nat × Nat)) (s : List UInt8) (H : AH), 0 ≤ a → 0 ≤ d → nextB ts ⟨a.toNat, d.toNat, x⟩ s = true →
    O 233 [.ptr 0 0, .str s] (some (.box [wdsAV ts, .int .i64 a, .int .i64 d, eAV x]) :: H) = some (.bool true, some (.box [wdsAV ts, .int .i64 (a + 1), .int .i64 d, eAV x]) :: H)
  takesF : ∀ (a d : Int) (x : Option (Nat × Nat)) (s : List UInt8) (H : AH), 0 ≤ a → 0 ≤ d → nextB ts ⟨a.toNat, d.toNat, x⟩ s = false →
    O 233 [.ptr 0 0, .str s] (some (.box [wdsAV ts, .int .i64 a, .int .i64 d, eAV x]) :: H) = some (.bool false, some (.box [wdsAV ts, .int .i64 a, .int .i64 d, eAV x]) :: H)
  must : ∀ (a d : Int) (x : Option (Nat × Nat)) (s : List UInt8) (H : AH), 0 ≤ a → 0 ≤ d → O 235 [.ptr 0 0, .str s] (some (.box [wdsAV ts, .int .i64 a, .int .i64 d, eAV x]) :: H) =
    some (.tup [], some (.box ((mustS ts ⟨a.toNat, d.toNat, x⟩ s).cells ts)) :: H)
  sum : Ans O ts 178 sum n
theorem name_cs (ts : List Wd) (hts : ts.length < 1000000) {O : Orc} (X : Cx O Tryz.prog envX) {sum : Rd} {n : Nat} (hO : NameO O ts sum n) (hu : upw sum) (hd : ∀ r, (sum r).2.deep = r.deep) (hk : keepsE sum)
    (w : Wd) (r : St) (he : r.err = none) (hw : ts[r.at_]? = some w) (hr : r.deep ≤ 20) (hn : ts.length - r.at_ < n + 1) {H : AH} {id : Nat} (hH : H.at id = some (.box (r.cells ts))) :
    CS Tryz.prog envX 232 [.ptr id 0] H (exAV (nameF ts sum w.text r).1) (H.set id (some (.box ((nameF ts sum w.text r).2.cells ts)))) := by
  refine CS.rd lowX Tryz.func232 (by kernel_rfl) 0 (by simp [Tryz.f232]) (fun B hB hG => ?_) rfl (by simp) (St.cells_low ts r) (St.cells_low ts _) hH
  obtain ⟨a, d, x⟩ := r
  simp only at he hw hr hn
  subst he
  have hl : a < ts.length := (List.getElem?_eq_some_iff.1 hw).1
  have hl' : (a : Int) < ts.length := by omega
  obtain ⟨c0, c1, c3⟩ := cellX hw
  have w1 : IntKind.i64.wrap ((a : Int) + 1) = (a : Int) + 1 := wrap_i64 (by omega) (by omega)
  have h0 : 0 ≤ (a : Int) + 1 := by omega
  refine Tr.goD X hG ?_
  simp [Tryz.f232, St.cells]
  refine LpD.turns X hG [12, 13] [(0, 12), (1, 12), (2, 12), (3, 12), (4, 12), (5, 12), (6, 12), (7, 12), (8, 12), (9, 12), (10, 12), (11, 12)] ?_
  cases ho : nextB ts ⟨a + 1, d, none⟩ openT with
  | false =>
    have h1 : nameF ts sum w.text ⟨a, d, none⟩ = (.var w.text, ⟨a + 1, d, none⟩) := by simp [nameF, St.step, ho]
    have h2 := fun H => hO.takesF ((a : Int) + 1) d none openT H h0 (by omega) (by simpa using ho)
    simp [openT] at h2
    simp [hl, hl', c1, w1, h2, h1]
  | true =>
    have h2 := fun H => hO.takesT ((a : Int) + 1) d none openT H h0 (by omega) (by simpa using ho)
    simp [openT] at h2
    have hl2 : a + 1 < ts.length := nextB_lt ho
    have h1 : nameF ts sum w.text ⟨a, d, none⟩ = (.elem w.text (subL ts sum 6 [] ⟨a + 1 + 1, d, none⟩).1, mustS ts (subL ts sum 6 [] ⟨a + 1 + 1, d, none⟩).2 shutT) := by simp [nameF, St.step, ho]
    simp [hl, hl', c1, w1, h2, h1]
    generalize hres0 : subL ts sum 6 [] ⟨a + 1 + 1, d, none⟩ = res
    refine LpD.loopN X hG (NameI ts sum n w.text res) 6 (t' := mkT 58 [(0, .ptr 0 0), (2, .ptr 1 0), (3, .ptr 2 0)]) (H' := subH ts w.text [] ⟨a + 1 + 1, d, none⟩)
      (Less.mkK 3 (by simp [hB]) (by simp) (by simp [subH, subAV, St.cells]) (by simp [subH, subAV, St.cells])) ⟨[], ⟨a + 1 + 1, d, none⟩, hres0, rfl, by simp, by simp, by simp only; omega, hr, rfl, rfl⟩ ?_
    rintro k t H ⟨a', r', hres, hka, hle, h4, hm, hdp, rfl, rfl⟩
    obtain ⟨b, d', x⟩ := r'
    simp only at h4 hm hdp
    have hdp' : (d' : Int) ≤ 20 := by omega
    have hs := fun H => hO.sum b d' x H (by omega) (by omega) hdp' (by simpa using hm)
    have hus := hu ⟨b, d', x⟩
    have hds := hd ⟨b, d', x⟩
    have hks := hk ⟨b, d', x⟩
    simp only at hus hds hks
    cases k with
    | zero =>
      omega
    | succ k =>
    have hsub : subL ts sum (k + 1) a' ⟨b, d', x⟩ = if nextB ts (sum ⟨b, d', x⟩).2 commaT then subL ts sum k (a' ++ [(sum ⟨b, d', x⟩).1]) (if a'.length + 1 == 4 then (sum ⟨b, d', x⟩).2.fail (sum ⟨b, d', x⟩).2.at_ 4 else (sum ⟨b, d', x⟩).2).step else (a' ++ [(sum ⟨b, d', x⟩).1], (sum ⟨b, d', x⟩).2) := rfl
    rw [hsub] at hres
    simp only [Int.toNat_natCast] at hs
    generalize sum ⟨b, d', x⟩ = p at *
    obtain ⟨e, ⟨b2, d2, x2⟩⟩ := p
    simp only at hus hds hks hres
    subst hds
    have happ0 := fun H => aappend_nil (P := Tryz.prog) (t := 25) (sz := 4) (m := 1) (H := H) (fid := 3) (ow := .full) elemE (by decide) (by decide) (exC_one e)
    have happ1 := fun H (h : AH.at H 3 = some (.tok a'.length)) => aappend_tok (P := Tryz.prog) (t := 25) (sz := 4) (m := 1) (H := H) (fid := 4) (ow := .full) (xs := exsC a') elemE h (by decide) (by omega) (exC_one e)
    simp [St.cells] at hs
    cases hc : nextB ts ⟨b2, d2, x2⟩ commaT with
    | false =>
      rw [hc] at hres
      simp only [Bool.false_eq_true, if_false] at hres
      subst hres
      have hmu := fun H => hO.must b2 d2 x2 shutT H (by omega) (by omega)
      have hne := fun H => hO.next b2 d2 x2 commaT H (by omega) (by omega)
      simp [shutT, St.cells] at hmu
      simp [commaT] at hne
      have hc' := hc
      simp [commaT] at hc'
      by_cases ha : a' = []
      · subst ha
        simp [subH, subAV, St.cells]
        refine LpD.turns X hG [3, 5, 7] [(0, 3), (1, 3)] ?_
        simp [hs, happ0, hne, hc', Blk_exit, hmu, shutT, exsC]
      · have hpos : a'.length ≠ 0 := fun h => ha (List.eq_nil_of_length_eq_zero h)
        simp [subH, subAV, St.cells, ha]
        refine LpD.turns X hG [3, 5, 7] [(0, 3), (1, 3)] ?_
        simp [hs, happ1, hne, hc', Blk_exit, hmu, shutT, exsC, exsC_append, exsC_low]
    | true =>
      have hb2 : b2 < ts.length := nextB_lt hc
      obtain rfl : x2 = none := by
        cases x2 with
        | none => rfl
        | some y => simp [nextB] at hc
      have h3 : a'.length ≤ 3 := by
        rcases Nat.lt_or_ge a'.length 4 with h | h
        · omega
        · have := h4 (by omega)
          cases x with
          | none => cases this
          | some y => have := hks y rfl; cases this
      have w5 : IntKind.i64.wrap ((b2 : Int) + 1) = (b2 : Int) + 1 := wrap_i64 (by omega) (by omega)
      rw [hc] at hres
      simp only [if_true] at hres
      have hne := fun H => hO.next b2 d2 none commaT H (by omega) (by omega)
      simp [commaT] at hne
      have hc' := hc
      simp [commaT] at hc'
      by_cases ha : a' = []
      · subst ha
        simp [subH, subAV, St.cells]
        refine LpD.turns X hG [3, 5, 7] [(0, 3), (1, 3)] ?_
        simp [hs, happ0, hne, hc', w5, exsC]
        refine Nxt.mk k (by omega) (Less.mkK 4 (l' := [(0, .ptr 0 0), (2, .ptr 1 0), (3, .ptr 2 0)]) (H' := subH ts w.text [e] ⟨b2 + 1, d2, none⟩) (by simp [hB]) (by simp) (by simp [subH, subAV, St.cells, exsC]) (by simp [subH, subAV, St.cells, exsC]))
          ⟨[e], ⟨b2 + 1, d2, none⟩, ?_, ?_, by simp, by simp, ?_, hdp, rfl, rfl⟩
        · rw [← hres]; simp [St.step]
        · simp only [List.length_cons, List.length_nil] at hka ⊢; omega
        · simp only; omega
      · have hpos : a'.length ≠ 0 := fun h => ha (List.eq_nil_of_length_eq_zero h)
        by_cases hf : a'.length + 1 = 4
        · have hf' : ((a'.length : Int) + 1 = 4) := by omega
          have hf2 : a'.length = 3 := by omega
          have hfl := fun H => hO.fail b2 d2 none b2 4 H (by omega) (by omega) (by omega) (by omega)
          simp at hfl
          simp [subH, subAV, St.cells, ha]
          refine LpD.turns X hG [3, 5, 7] [(0, 3), (1, 3)] ?_
          simp [hs, happ1, hne, hc', w5, exsC, exsC_append, hf', hfl, exsC_low]
          refine Nxt.mk k (by omega) (Less.mkK 4 (l' := [(0, .ptr 0 0), (2, .ptr 1 0), (3, .ptr 2 0)]) (H' := subH ts w.text (a' ++ [e]) ⟨b2 + 1, d2, some (b2, 4)⟩) (by simp [hB]) (by simp) (by simp [subH, subAV, St.cells, exsC, exsC_append]) (by simp [subH, subAV, St.cells, exsC, exsC_append, exsC_low]))
            ⟨a' ++ [e], ⟨b2 + 1, d2, some (b2, 4)⟩, ?_, ?_, ?_, by simp, ?_, hdp, rfl, rfl⟩
          · rw [← hres]; simp [St.step, hf2, fail_eq]
          · simp only [List.length_append, List.length_cons, List.length_nil] at hka ⊢; omega
          · simp only [List.length_append, List.length_cons, List.length_nil]; omega
          · simp only; omega
        · have hf' : ¬ ((a'.length : Int) + 1 = 4) := by omega
          have hf2 : ¬ a'.length = 3 := by omega
          simp [subH, subAV, St.cells, ha]
          refine LpD.turns X hG [3, 5, 7] [(0, 3), (1, 3)] ?_
          simp [hs, happ1, hne, hc', w5, exsC, exsC_append, hf', exsC_low]
          refine Nxt.mk k (by omega) (Less.mkK 4 (l' := [(0, .ptr 0 0), (2, .ptr 1 0), (3, .ptr 2 0)]) (H' := subH ts w.text (a' ++ [e]) ⟨b2 + 1, d2, none⟩) (by simp [hB]) (by simp) (by simp [subH, subAV, St.cells, exsC, exsC_append]) (by simp [subH, subAV, St.cells, exsC, exsC_append, exsC_low]))
            ⟨a' ++ [e], ⟨b2 + 1, d2, none⟩, ?_, ?_, ?_, ?_, ?_, hdp, rfl, rfl⟩
          · rw [← hres]; simp [St.step, hf2]
          · simp only [List.length_append, List.length_cons, List.length_nil] at hka ⊢; omega
          · simp only [List.length_append, List.length_cons, List.length_nil]; omega
          · simp only [List.length_append, List.length_cons, List.length_nil]; omega
          · simp only; omega
end Go.Proofs.YtejjlojfgcgopaaGreatDoor

namespace Go.Proofs.YtejjlojfgcgopaaGreatDoor
open Go.RowKit Go.Proofs.Fw
set_option maxRecDepth 100000
set_option maxHeartbeats 4000000
structure FacO (O : Orc) (ts : List Wd) (n : Nat) : Prop where
  fail : ∀ (a d : Int) (x : Option (Nat × Nat)) (p e : Int) (H : AH), 0 ≤ a → 0 ≤ d → 0 ≤ p → 0 ≤ e → O 181 [.ptr 0 0, .int .i64 p, .int .i64 e] (some (.box [wdsAV ts, .int .i64 a, .int .i64 d, eAV x]) :: H) =
    some (.tup [], some (.box [wdsAV ts, .int .i64 a, .int .i64 d, eAV (some (x.getD (p.toNat, e.toNat)))]) :: H)
  takesT : ∀ (a d : Int) (x : Option (Nat × Nat)) (s : List UInt8) (H : AH), 0 ≤ a → 0 ≤ d → nextB ts ⟨a.toNat, d.toNat, x⟩ s = true →
    O 233 [.ptr 0 0, .str s] (some (.box [wdsAV ts, .int .i64 a, .int .i64 d, eAV x]) :: H) = some (.bool true, some (.box [wdsAV ts, .int .i64 (a + 1), .int .i64 d, eAV x]) :: H)
  takesF : ∀ (a d : Int) (x : Option (Nat × Nat)) (s : List UInt8) (H : AH), 0 ≤ a → 0 ≤ d → nextB ts ⟨a.toNat, d.toNat, x⟩ s = false →
    O 233 [.ptr 0 0, .str s] (some (.box [wdsAV ts, .int .i64 a, .int .i64 d, eAV x]) :: H) = some (.bool false, some (.box [wdsAV ts, .int .i64 a, .int .i64 d, eAV x]) :: H)
  must : ∀ (a d : Int) (x : Option (Nat × Nat)) (s : List UInt8) (H : AH), 0 ≤ a → 0 ≤ d → O 235 [.ptr 0 0, .str s] (some (.box [wdsAV ts, .int .i64 a, .int .i64 d, eAV x]) :: H) =
    some (.tup [], some (.box ((mustS ts ⟨a.toNat, d.toNat, x⟩ s).cells ts)) :: H)
  name : ∀ (a d : Int) (w : Wd) (H : AH), 0 ≤ a → 0 ≤ d → d ≤ 20 → ts[a.toNat]? = some w → ts.length - a.toNat < n + 1 → O 232 [.ptr 0 0] (some (.box [wdsAV ts, .int .i64 a, .int .i64 d, eAV none]) :: H) =
    some (exAV (nameF ts (sumF ts (fac ts n)) w.text ⟨a.toNat, d.toNat, none⟩).1, some (.box ((nameF ts (sumF ts (fac ts n)) w.text ⟨a.toNat, d.toNat, none⟩).2.cells ts)) :: H)
  inFac : ∀ (a d p : Int) (x : Option (Nat × Nat)) (H : AH), 0 ≤ a → 0 ≤ d → d ≤ 20 → 0 ≤ p → ts.length - a.toNat < n → O 234 [.ptr 0 0, .int .i64 p, .func (.func 224) [.ptr 0 0] []] (some (.box [wdsAV ts, .int .i64 a, .int .i64 d, eAV x]) :: H) =
    some (exAV (inF p.toNat (fac ts n) ⟨a.toNat, d.toNat, x⟩).1, some (.box ((inF p.toNat (fac ts n) ⟨a.toNat, d.toNat, x⟩).2.cells ts)) :: H)
  inSum : ∀ (a d p : Int) (x : Option (Nat × Nat)) (H : AH), 0 ≤ a → 0 ≤ d → d ≤ 20 → 0 ≤ p → ts.length - a.toNat < n → O 234 [.ptr 0 0, .int .i64 p, .func (.func 178) [.ptr 0 0] []] (some (.box [wdsAV ts, .int .i64 a, .int .i64 d, eAV x]) :: H) =
    some (exAV (inF p.toNat (sumF ts (fac ts n)) ⟨a.toNat, d.toNat, x⟩).1, some (.box ((inF p.toNat (sumF ts (fac ts n)) ⟨a.toNat, d.toNat, x⟩).2.cells ts)) :: H)
theorem factor_cs (ts : List Wd) (hts : ts.length < 1000000) {n : Nat} {O : Orc} (X : Cx O Tryz.prog envX) (hO : FacO O ts n) (r : St) (hr : r.deep ≤ 20) (hn : ts.length - r.at_ < n + 1) {H : AH} {id : Nat} (hH : H.at id = some (.box (r.cells ts))) :
    CS Tryz.prog envX 224 [.ptr id 0] H (exAV (fac ts (n + 1) r).1) (H.set id (some (.box ((fac ts (n + 1) r).2.cells ts)))) := by
  refine CS.rd lowX Tryz.func224 (by kernel_rfl) 0 (by simp [Tryz.f224]) (fun B hB hG => ?_) rfl (by simp) (St.cells_low ts r) (St.cells_low ts _) hH
  obtain ⟨a, d, x⟩ := r
  simp only at hr hn
  have hr' : (d : Int) ≤ 20 := by omega
  have hfac : fac ts (n + 1) ⟨a, d, x⟩ = facF ts (sumF ts (fac ts n)) (fac ts n) ⟨a, d, x⟩ := rfl
  rw [hfac]
  have hfl := fun H => hO.fail a d x a 2 H (by omega) (by omega) (by omega) (by omega)
  simp at hfl
  refine Tr.goD X hG ?_
  simp [Tryz.f224, St.cells]
  refine LpD.turns X hG [] [] ?_
  cases x with
  | some y =>
    have h1 : facF ts (sumF ts (fac ts n)) (fac ts n) ⟨a, d, some y⟩ = (.none, ⟨a, d, some y⟩) := by simp [facF, St.fail]
    simp [h1, hfl]
  | none =>
    by_cases hl : a < ts.length
    · have hl' : (a : Int) < ts.length := by omega
      have hl2 : ¬ ((ts.length : Int) ≤ a) := by omega
      obtain ⟨w, hw⟩ : ∃ w, ts[a]? = some w := ⟨_, List.getElem?_eq_getElem hl⟩
      obtain ⟨c0, c1, c3⟩ := cellX hw
      obtain ⟨cc1, cc2⟩ := cells_atX ts a w hw
      have w1 : IntKind.i64.wrap ((a : Int) + 1) = (a : Int) + 1 := wrap_i64 (by omega) (by omega)
      simp [hl, hl', hl2]
      refine LpD.turns X hG [14, 16] [(0, 14), (1, 14), (2, 14), (3, 14), (4, 14), (5, 14), (6, 14), (7, 14), (8, 14), (9, 14), (10, 14), (11, 14), (12, 14), (13, 14)] ?_
      simp [hl, hl', cc1, cc2, wdCells]
      by_cases hk2 : w.kind = 2
      · have e2 : (w.kind : Int) = 2 := by omega
        have h1 : facF ts (sumF ts (fac ts n)) (fac ts n) ⟨a, d, none⟩ = (.num w.n, ⟨a + 1, d, none⟩) := by simp only [facF, hw, hk2]; rfl
        simp [e2, w1, h1]
      · have e2 : ¬ (w.kind : Int) = 2 := by omega
        have b2 : (w.kind == 2) = false := by rw [beq_eq_false_iff_ne]; exact hk2
        by_cases hk1 : w.kind = 1
        · have e1 : (w.kind : Int) = 1 := by omega
          have h1 : facF ts (sumF ts (fac ts n)) (fac ts n) ⟨a, d, none⟩ = nameF ts (sumF ts (fac ts n)) w.text ⟨a, d, none⟩ := by simp only [facF, hw, hk1]; rfl
          have hnm := fun H => hO.name a d w H (by omega) (by omega) hr' (by simpa using hw) (by simpa using hn)
          simp [St.cells] at hnm
          simp [e1, hnm, h1]
        · have e1 : ¬ (w.kind : Int) = 1 := by omega
          have b1 : (w.kind == 1) = false := by rw [beq_eq_false_iff_ne]; exact hk1
          have nx : ∀ s, nextB ts ⟨a, d, none⟩ s = isS ts a s := fun s => by simp [nextB]
          have hm1 : ts.length - (a + 1) < n := by omega
          have h0 : 0 ≤ (a : Int) + 1 := by omega
          cases hmi : isS ts a minusT with
          | true =>
            have h1 : facF ts (sumF ts (fac ts n)) (fac ts n) ⟨a, d, none⟩ = (.neg (inF a (fac ts n) ⟨a + 1, d, none⟩).1, (inF a (fac ts n) ⟨a + 1, d, none⟩).2) := by simp only [facF, hw, b2, b1, hmi]; rfl
            have ht := fun H => hO.takesT a d none minusT H (by omega) (by omega) (by simp [nx, hmi])
            have hi := fun H => hO.inFac ((a : Int) + 1) d a none H h0 (by omega) hr' (by omega) (by simpa using hm1)
            simp [minusT] at ht
            simp [St.cells] at hi
            simp [e2, e1, ht, hi, h1]
          | false =>
            have ht := fun H => hO.takesF a d none minusT H (by omega) (by omega) (by simp [nx, hmi])
            simp [minusT] at ht
            cases hop : isS ts a openT with
            | true =>
              have h1 : facF ts (sumF ts (fac ts n)) (fac ts n) ⟨a, d, none⟩ = ((inF a (sumF ts (fac ts n)) ⟨a + 1, d, none⟩).1, mustS ts (inF a (sumF ts (fac ts n)) ⟨a + 1, d, none⟩).2 shutT) := by simp only [facF, hw, b2, b1, hmi, hop]; rfl
              have ht2 := fun H => hO.takesT a d none openT H (by omega) (by omega) (by simp [nx, hop])
              have hi := fun H => hO.inSum ((a : Int) + 1) d a none H h0 (by omega) hr' (by omega) (by simpa using hm1)
              simp [openT] at ht2
              simp [St.cells] at hi
              rw [h1]
              generalize inF a (sumF ts (fac ts n)) ⟨a + 1, d, none⟩ = p at *
              obtain ⟨e, ⟨a2, d2, x2⟩⟩ := p
              have hmu := fun H => hO.must a2 d2 x2 shutT H (by omega) (by omega)
              simp [shutT, St.cells] at hmu
              simp only at hi
              simp [e2, e1, ht, ht2, hi, hmu, shutT]
            | false =>
              have h1 : facF ts (sumF ts (fac ts n)) (fac ts n) ⟨a, d, none⟩ = (.none, ⟨a, d, some (a, 2)⟩) := by simp only [facF, hw, b2, b1, hmi, hop]; rfl
              have ht2 := fun H => hO.takesF a d none openT H (by omega) (by omega) (by simp [nx, hop])
              simp [openT] at ht2
              simp [e2, e1, ht, ht2, hfl, h1]
    · have hw : ts[a]? = none := List.getElem?_eq_none (by omega)
      have hl' : ¬ (a : Int) < ts.length := by omega
      have hl2 : ((ts.length : Int) ≤ a) := by omega
      have h1 : facF ts (sumF ts (fac ts n)) (fac ts n) ⟨a, d, none⟩ = (.none, ⟨a, d, some (a, 2)⟩) := by simp only [facF, hw]; rfl
      simp [h1, hfl, hl', hl2]
end Go.Proofs.YtejjlojfgcgopaaGreatDoor
namespace Go.Proofs.YtejjlojfgcgopaaGreatDoor
open Go.RowKit Go.Proofs.Fw
set_option maxRecDepth 100000
set_option maxHeartbeats 4000000
theorem sm_must {ts : List Wd} {a d : Int} {x : Option (Nat × Nat)} (s : List UInt8) (H : AH) (ha : 0 ≤ a) (hd : 0 ≤ d) :
    oRd ts 235 (mustSpec ts) 235 [.ptr 0 0, .str s] (some (.box [wdsAV ts, .int .i64 a, .int .i64 d, eAV x]) :: H) = some (.tup [], some (.box ((mustS ts ⟨a.toNat, d.toNat, x⟩ s).cells ts)) :: H) := by
  rw [oRd_at (rd_at ha hd)]
  simp [mustSpec]
noncomputable def oNm (ts : List Wd) (n : Nat) : Orc := oTab [(181, oRd ts 181 failSpec), (180, oRd ts 180 (nextSpec ts)),
  (233, oRd ts 233 (takesSpec ts)), (235, oRd ts 235 (mustSpec ts)),
  (178, oRd ts 178 (partSpec ts (sumF ts (fac ts n)) n))]
theorem oNm_cx {ts : List Wd} (hts : ts.length < 1000000) {n : Nat} (h : PartS ts 178 (sumF ts (fac ts n)) n) : Cx (oNm ts n) Tryz.prog envX := ⟨oTab_sound (by
  intro p hp
  simp only [List.mem_cons, List.not_mem_nil, or_false] at hp
  rcases hp with rfl | rfl | rfl | rfl | rfl
  · exact fail_sound ts
  · exact next_sound ts
  · exact takes_sound ts hts
  · exact must_sound ts hts
  · exact h), methXOk, mixed⟩
theorem oNm_O (ts : List Wd) (n : Nat) : NameO (oNm ts n) ts (sumF ts (fac ts n)) n where
  fail := fun a d x p e H ha hd hp he => by rw [← sm_fail p e H ha hd hp he]; simp [oNm, oTab, List.lookup]
  next := fun a d x s H ha hd => by rw [← sm_next s H ha hd]; simp [oNm, oTab, List.lookup]
  takesT := fun a d x s H ha hd hn => by rw [← sm_takes_t s H ha hd hn]; simp [oNm, oTab, List.lookup]
  takesF := fun a d x s H ha hd hn => by rw [← sm_takes_f s H ha hd hn]; simp [oNm, oTab, List.lookup]
  must := fun a d x s H ha hd => by rw [← sm_must s H ha hd]; simp [oNm, oTab, List.lookup]
  sum := fun a d x H ha hd hd2 hm => by rw [← part_at (g := 178) (of := sumF ts (fac ts n)) (n := n) a d x H ha hd hd2 hm]; simp [oNm, oTab, List.lookup]
def nameSpec (ts : List Wd) (n : Nat) (rest : List AV) (r : St) : Option (AV × St) := match rest, r.err, ts[r.at_]? with
  | [], none, some w => if r.deep ≤ 20 ∧ ts.length - r.at_ < n + 1 then some (exAV (nameF ts (sumF ts (fac ts n)) w.text r).1, (nameF ts (sumF ts (fac ts n)) w.text r).2) else none
  | _, _, _ => none
theorem name_sound {ts : List Wd} (hts : ts.length < 1000000) {n : Nat} (h : PartS ts 178 (sumF ts (fac ts n)) n) : Sound Tryz.prog envX (oRd ts 232 (nameSpec ts n)) := oRd_sound fun rest r v r' hs H id hH => by
  unfold nameSpec at hs
  split at hs
  · rename_i w he hw
    split at hs
    · rename_i hc
      injection hs with hs
      simp only [Prod.mk.injEq] at hs
      obtain ⟨rfl, rfl⟩ := hs
      exact name_cs ts hts (oNm_cx hts h) (oNm_O ts n) (sum_up ts n) (sum_deep ts n) (sumF_ok (ts := ts) (fac_ok ts n)).2.1 w r he hw hc.1 hc.2 hH
    · cases hs
  · cases hs
noncomputable def oFG (ts : List Wd) (g : FuncId) (of : Rd) (n : Nat) : Orc := orElse (oRd ts 181 failSpec) (oRd ts g (partSpec ts of n))
theorem within_of {ts : List Wd} {g : FuncId} {of : Rd} {n : Nat} (h : PartS ts g of n) (hne : g ≠ 181) (hg : goFn Tryz.prog g = true) (hd : ∀ r, (of r).2.deep = r.deep) (p : Nat) (r : St) (hr : r.deep ≤ 20) (hn : ts.length - r.at_ < n) {H : AH} {id : Nat} (hH : H.at id = some (.box (r.cells ts))) :
    CS Tryz.prog envX 234 [.ptr id 0, .int .i64 p, .func (.func g) [.ptr id 0] []] H (exAV (inF p of r).1) (H.set id (some (.box ((inF p of r).2.cells ts)))) := by
  have X : Cx (oFG ts g of n) Tryz.prog envX := ⟨Sound.orElse (fail_sound ts) h, methXOk, mixed⟩
  refine within_cs ts X (fun a d x p e H ha hd hp he => ?_) hg (n := n) (fun a d x H ha hd hd2 hm => ?_) hd p r hr hn hH
  · simp only [oFG, orElse, sm_fail p e H ha hd hp he]
  · have h1 : oRd ts 181 failSpec g [.ptr 0 0] (some (.box [wdsAV ts, .int .i64 a, .int .i64 d, eAV x]) :: H) = none := by simp [oRd, hne]
    simp only [oFG, orElse, h1, part_at (g := g) (of := of) (n := n) a d x H ha hd hd2 hm]
def inSpec (ts : List Wd) (n : Nat) (id : Nat) (rest : List AV) (r : St) : Option (AV × St) := match rest with
  | [.int .i64 p, .func (.func g) [.ptr id' 0] []] =>
    if id' = id ∧ 0 ≤ p ∧ r.deep ≤ 20 ∧ ts.length - r.at_ < n then
      (if g = 224 then some (exAV (inF p.toNat (fac ts n) r).1, (inF p.toNat (fac ts n) r).2)
      else if g = 178 then some (exAV (inF p.toNat (sumF ts (fac ts n)) r).1, (inF p.toNat (sumF ts (fac ts n)) r).2) else none)
    else none
  | _ => none
theorem in_sound {ts : List Wd} {n : Nat} (hf : PartS ts 224 (fac ts n) n) (hs : PartS ts 178 (sumF ts (fac ts n)) n) : Sound Tryz.prog envX (oRdI ts 234 (inSpec ts n)) := oRdI_sound fun id rest r v r' hq H hH => by
  unfold inSpec at hq
  split at hq
  · rename_i p g id'
    split at hq
    · rename_i hc
      obtain ⟨rfl, h1, h2, h3⟩ := hc
      split at hq
      · rename_i hg
        subst hg
        injection hq with hq
        simp only [Prod.mk.injEq] at hq
        obtain ⟨rfl, rfl⟩ := hq
        have := within_of hf (by decide) Tx.go224 (fac_deep ts n) p.toNat r h2 h3 hH
        rwa [Int.toNat_of_nonneg h1] at this
      · split at hq
        · rename_i hg
          subst hg
          injection hq with hq
          simp only [Prod.mk.injEq] at hq
          obtain ⟨rfl, rfl⟩ := hq
          have := within_of hs (by decide) Tx.go178 (sum_deep ts n) p.toNat r h2 h3 hH
          rwa [Int.toNat_of_nonneg h1] at this
        · cases hq
    · cases hq
  · cases hq
noncomputable def oFc (ts : List Wd) (n : Nat) : Orc := oTab [(181, oRd ts 181 failSpec), (233, oRd ts 233 (takesSpec ts)),
  (235, oRd ts 235 (mustSpec ts)), (232, oRd ts 232 (nameSpec ts n)), (234, oRdI ts 234 (inSpec ts n))]
theorem oFc_cx {ts : List Wd} (hts : ts.length < 1000000) {n : Nat} (hf : PartS ts 224 (fac ts n) n) : Cx (oFc ts n) Tryz.prog envX := ⟨oTab_sound (by
  have hs := sum_part hts hf
  intro p hp
  simp only [List.mem_cons, List.not_mem_nil, or_false] at hp
  rcases hp with rfl | rfl | rfl | rfl | rfl
  · exact fail_sound ts
  · exact takes_sound ts hts
  · exact must_sound ts hts
  · exact name_sound hts hs
  · exact in_sound hf hs), methXOk, mixed⟩
theorem oFc_O (ts : List Wd) (n : Nat) : FacO (oFc ts n) ts n where
  fail := fun a d x p e H ha hd hp he => by rw [← sm_fail p e H ha hd hp he]; simp [oFc, oTab, List.lookup]
  takesT := fun a d x s H ha hd hn => by rw [← sm_takes_t s H ha hd hn]; simp [oFc, oTab, List.lookup]
  takesF := fun a d x s H ha hd hn => by rw [← sm_takes_f s H ha hd hn]; simp [oFc, oTab, List.lookup]
  must := fun a d x s H ha hd => by rw [← sm_must s H ha hd]; simp [oFc, oTab, List.lookup]
  name := fun a d w H ha hd hd2 hw hm => by
    have e1 : oFc ts n 232 [.ptr 0 0] (some (.box [wdsAV ts, .int .i64 a, .int .i64 d, eAV none]) :: H) = oRd ts 232 (nameSpec ts n) 232 [.ptr 0 0] (some (.box [wdsAV ts, .int .i64 a, .int .i64 d, eAV none]) :: H) := by simp [oFc, oTab, List.lookup]
    rw [e1, oRd_at (rd_at ha hd)]
    have h1 : d.toNat ≤ 20 := by omega
    simp only [nameSpec, hw, if_pos (And.intro h1 hm), Option.map_some, List.set_cons_zero]
  inFac := fun a d p x H ha hd hd2 hp hm => by
    have e1 : oFc ts n 234 [.ptr 0 0, .int .i64 p, .func (.func 224) [.ptr 0 0] []] (some (.box [wdsAV ts, .int .i64 a, .int .i64 d, eAV x]) :: H) = oRdI ts 234 (inSpec ts n) 234 [.ptr 0 0, .int .i64 p, .func (.func 224) [.ptr 0 0] []] (some (.box [wdsAV ts, .int .i64 a, .int .i64 d, eAV x]) :: H) := by simp [oFc, oTab, List.lookup]
    rw [e1, oRdI_at (rd_at ha hd)]
    have h1 : d.toNat ≤ 20 := by omega
    simp only [inSpec, if_pos (show (True ∧ 0 ≤ p ∧ d.toNat ≤ 20 ∧ ts.length - a.toNat < n) from ⟨trivial, hp, h1, hm⟩), if_true, Option.map_some, List.set_cons_zero]
  inSum := fun a d p x H ha hd hd2 hp hm => by
    have e1 : oFc ts n 234 [.ptr 0 0, .int .i64 p, .func (.func 178) [.ptr 0 0] []] (some (.box [wdsAV ts, .int .i64 a, .int .i64 d, eAV x]) :: H) = oRdI ts 234 (inSpec ts n) 234 [.ptr 0 0, .int .i64 p, .func (.func 178) [.ptr 0 0] []] (some (.box [wdsAV ts, .int .i64 a, .int .i64 d, eAV x]) :: H) := by simp [oFc, oTab, List.lookup]
    rw [e1, oRdI_at (rd_at ha hd)]
    have h1 : d.toNat ≤ 20 := by omega
    have h2 : ¬ (178 = 224) := by decide
    simp only [inSpec, if_pos (show (True ∧ 0 ≤ p ∧ d.toNat ≤ 20 ∧ ts.length - a.toNat < n) from ⟨trivial, hp, h1, hm⟩), if_neg h2, if_true, Option.map_some, List.set_cons_zero]
theorem factor_part {ts : List Wd} (hts : ts.length < 1000000) : ∀ n, PartS ts 224 (fac ts n) n
  | 0 => PartS.mk' fun r _ hn => absurd hn (Nat.not_lt_zero _)
  | n + 1 => PartS.mk' fun r hr hn H id hH => factor_cs ts hts (oFc_cx hts (factor_part hts n)) (oFc_O ts n) r hr hn hH
theorem sums {ts : List Wd} (hts : ts.length < 1000000) : PartS ts 178 (sumAt ts) (ts.length + 1) := sum_part hts (factor_part hts _)
theorem sum_at1 {ts : List Wd} {a d : Int} {x : Option (Nat × Nat)} {e0 : Option Ent} (H : AH) (ha : 0 ≤ a) (hd : 0 ≤ d) (hd2 : d ≤ 20) :
    oRd ts 178 (partSpec ts (sumAt ts) (ts.length + 1)) 178 [.ptr 1 0] (e0 :: some (.box [wdsAV ts, .int .i64 a, .int .i64 d, eAV x]) :: H) =
      some (exAV (sumAt ts ⟨a.toNat, d.toNat, x⟩).1, e0 :: some (.box ((sumAt ts ⟨a.toNat, d.toNat, x⟩).2.cells ts)) :: H) := by
  have h0 : AH.at (e0 :: some (.box [wdsAV ts, .int .i64 a, .int .i64 d, eAV x]) :: H) 1 = some (.box ((⟨a.toNat, d.toNat, x⟩ : St).cells ts)) := by
    simp [AH.at, St.cells, Int.toNat_of_nonneg ha, Int.toNat_of_nonneg hd]
  rw [oRd_at h0]
  have h1 : d.toNat ≤ 20 := by omega
  have h2 : ts.length - a.toNat < ts.length + 1 := by omega
  simp only [partSpec, if_pos (And.intro h1 h2), Option.map_some, List.set_cons_succ, List.set_cons_zero]
@[simp] theorem buRd (ts : List Wd) : abuild Tryz.prog 304 [(0, wdsAV ts)] = some (.agg [wdsAV ts, .int .i64 0, .int .i64 0, .nilIface]) := by
  unfold wdsAV
  split <;> kernel_rfl
theorem eAV_none : eAV none = .nilIface := nrfl rfl
def parseAV (x : Ex × Nat × Option (Nat × Nat)) : AV := .tup [exAV x.1, .int .i64 x.2.1, eAV x.2.2]
theorem parse_cs (ts : List Wd) (hts : ts.length < 1000000) (H : AH) : CS Tryz.prog envX 145 [wdsAV ts] H (parseAV (parseX ts)) H := by
  have X : Cx (oRd ts 178 (partSpec ts (sumAt ts) (ts.length + 1))) Tryz.prog envX := ⟨sums hts, methXOk, mixed⟩
  refine CS.tr0 lowX Tryz.func145 (by kernel_rfl) 0 (by simp [Tryz.f145]) (fun B hB hG => ?_) (by simp [parseAV]) (by simp) H
  refine Tr.goD X hG ?_
  have h1 := fun H e0 => sum_at1 (ts := ts) (a := 0) (d := 0) (x := none) (e0 := e0) H (by omega) (by omega) (by omega)
  simp only [parseX]
  simp [St.cells, eAV_none] at h1
  generalize sumAt ts ⟨0, 0, none⟩ = p at *
  obtain ⟨e, ⟨b, d, x⟩⟩ := p
  simp only at h1
  cases x with
  | none =>
    simp [Tryz.f145, h1]
    refine LpD.turns X hG [5] [(1, 5), (2, 5), (3, 5), (4, 5)] ?_
    simp [parseAV, eAV_none]
  | some y =>
    simp [Tryz.f145, h1]
    refine LpD.turns X hG [5] [(1, 5), (2, 5), (3, 5), (4, 5)] ?_
    simp [parseAV]
end Go.Proofs.YtejjlojfgcgopaaGreatDoor
