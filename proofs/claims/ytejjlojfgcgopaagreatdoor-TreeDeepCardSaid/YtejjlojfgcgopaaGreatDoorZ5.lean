/- Regions that draw their order and turn the heap; regions that make a map and look a key up in it. -/
import Derived.Test.YtejjlojfgcgopaaGreatDoorZ4
import Derived.MapKept
set_option linter.unusedSimpArgs false
set_option linter.unusedVariables false
namespace Go.Proofs.Fw
open Go.RowKit
def chkSyn1 (ops : Array Oper) (k : Nat) : List (Nat × Nat × Oper) → Bool
  | [] => true
  | r :: rs => rs.all (fun s => s.2.1.testBit r.1 || (!(r.1 == k) && !(s.1 == k) && r.2.2.apart ops s.2.2)) && chkSyn1 ops k rs
theorem chk_syn1 {ops : Array Oper} {k : Nat} : ∀ (l : List Item), (∀ r ∈ l, r.i ≠ k → r.u = []) → chkSyn1 ops k (l.map Item.syn) = true → chk ops l = true
  | [], _, _ => rfl
  | r :: l, h, hc => by
    simp only [List.map_cons, chkSyn1, Bool.and_eq_true] at hc
    simp only [chk, Bool.and_eq_true]
    refine ⟨?_, chk_syn1 l (fun q hq => h q (List.mem_cons_of_mem _ hq)) hc.2⟩
    rw [List.all_eq_true]
    intro q hq
    have h1 := List.all_eq_true.1 hc.1 q.syn (List.mem_map_of_mem hq)
    simp only [Item.syn, Bool.or_eq_true, Bool.and_eq_true, Bool.not_eq_true', beq_eq_false_iff_ne] at h1
    simp only [okPair, Bool.or_eq_true, Bool.and_eq_true]
    rcases h1 with h1 | ⟨⟨h1, h2⟩, h3⟩
    · exact .inl h1
    · refine .inr ⟨h3, ?_⟩
      simp [footApart, h r List.mem_cons_self h1, h q (List.mem_cons_of_mem _ hq) h2]
theorem evD_append {O : Orc} {P : Program} {E : Env} {ops : Array Oper} : ∀ (l1 l2 : List (Oper × Nat)) (i : Nat) (ms : List Nat) {t t1 t2 : List AV} {H H1 H2 : AH} {a b : List Item},
    evD O P E ops i ms l1 t H = some (t1, H1, a) → evD O P E ops (i + l1.length) ms l2 t1 H1 = some (t2, H2, b) → evD O P E ops i ms (l1 ++ l2) t H = some (t2, H2, a ++ b)
  | [], l2, i, ms, t, t1, t2, H, H1, H2, a, b, h1, h2 => by
    simp only [evD, Option.some.injEq, Prod.mk.injEq] at h1
    obtain ⟨rfl, rfl, rfl⟩ := h1
    simpa using h2
  | p :: l1, l2, i, ms, t, t1, t2, H, H1, H2, a, b, h1, h2 => by
    simp only [evD] at h1
    split at h1
    · rename_i v u S hd
      split at h1
      · rename_i t' K l hr
        simp only [Option.some.injEq, Prod.mk.injEq] at h1
        obtain ⟨rfl, rfl, rfl⟩ := h1
        have := evD_append l1 l2 (i + 1) ms hr (by rw [List.length_cons] at h2; rw [show i + 1 + l1.length = i + (l1.length + 1) by omega]; exact h2)
        simp only [List.cons_append, evD, hd, this]
      · cases h1
    · cases h1
theorem synItems_append : ∀ (l1 l2 : List (Oper × Nat)) (i : Nat) (ms : List Nat), synItems i ms (l1 ++ l2) = synItems i ms l1 ++ synItems (i + l1.length) ms l2
  | [], l2, i, ms => by simp [synItems]
  | p :: l1, l2, i, ms => by
    simp only [List.cons_append, synItems, synItems_append l1 l2 (i + 1) ms, List.length_cons]
    rw [show i + 1 + l1.length = i + (l1.length + 1) by omega]
theorem evDraw_solid {O : Orc} {P : Program} {E : Env} {ops : Array Oper} {t t1 t2 : List AV} {H : AH} {k : Nat} {l1 l2 : List (Oper × Nat)} {p : Oper × Nat} {v : AV} {u : Ups} {S : List Nat} (h0 : idCount E ops.toList = 0)
    (hl : withIds E ops.toList H.length = l1 ++ p :: l2) (hk : l1.length = k) (h1 : evP O P E ops l1 t H = some t1) (hp : dstep O P E ops t1 H p = some (v, u, S)) (h2 : evP O P E ops l2 (putT t1 p.1.dst v) (applyUps H u) = some t2)
    (hs : chkSyn1 ops k (synItems 0 (masksFrom [] ops.toList) (withIds E ops.toList H.length)) = true) (hb : backOnly 0 ops.toList = true) : evDraw O P E ops t H = some (t2, applyUps H u) := by
  obtain ⟨a, a1, a2, a3⟩ := evP_evD l1 0 (masksFrom [] ops.toList) h1
  obtain ⟨b, b1, b2, b3⟩ := evP_evD l2 (0 + l1.length + 1) (masksFrom [] ops.toList) h2
  have hmid : evD O P E ops (0 + l1.length) (masksFrom [] ops.toList) (p :: l2) t1 H = some (t2, applyUps H u, ⟨0 + l1.length, (masksFrom [] ops.toList).getD (0 + l1.length) 0, p, v, u, S⟩ :: b) := by
    simp only [evD, hp, b1]
  have hall := evD_append l1 (p :: l2) 0 (masksFrom [] ops.toList) a1 hmid
  rw [← hl] at hall
  have hsyn : (a ++ (⟨0 + l1.length, (masksFrom [] ops.toList).getD (0 + l1.length) 0, p, v, u, S⟩ : Item) :: b).map Item.syn = synItems 0 (masksFrom [] ops.toList) (withIds E ops.toList H.length) := by
    rw [hl, synItems_append, List.map_append, List.map_cons, a3, b3]
    rfl
  have hg : grow H (idCount E ops.toList) = H := by rw [h0]; rfl
  have hu : ∀ r ∈ a ++ (⟨0 + l1.length, (masksFrom [] ops.toList).getD (0 + l1.length) 0, p, v, u, S⟩ : Item) :: b, r.i ≠ k → r.u = [] := by
    intro r hr hrk
    rcases List.mem_append.1 hr with hr | hr
    · exact a2 r hr
    · rcases List.mem_cons.1 hr with rfl | hr
      · exact absurd (by simpa using hk) hrk
      · exact b2 r hr
  unfold evDraw
  rw [hg, hall]
  simp only
  rw [if_pos ⟨chk_syn1 (k := k) _ hu (by rw [hsyn]; exact hs), hb⟩]
def okDraw1 (E : Env) (k : Nat) (ops : Array Oper) : Bool := (idCount E ops.toList == 0) && chkSyn1 ops k (synOf 0 (masksFrom [] ops.toList) ops.toList) && backOnly 0 ops.toList
def Sol (O : Orc) (P : Program) (E : Env) (ops : Array Oper) (k : Nat) (t1 : List AV) (H : AH) (Q : AEx → List AV → AH → Prop) : Prop :=
  ∃ p v u S, (withIds E ops.toList H.length)[k]? = some p ∧ dstep O P E ops t1 H p = some (v, u, S) ∧ GoP O P E noLoop ops ((withIds E ops.toList H.length).drop (k + 1)) [] (putT t1 p.1.dst v) (applyUps H u) Q
theorem Tr.solid {O : Orc} {P : Program} {E : Env} {B : Bs} (X : Cx O P E) (hG : GlobOk E B.g) (k : Nat) {id : Nat} {ops : Array Oper} {t : List AV} {H : AH} {Q : AEx → List AV → AH → Prop} (hd : okDraw1 E k ops = true)
    (h : GoP O P E noLoop ops ((withIds E ops.toList H.length).take k) [] t H fun _ t1 _ => Sol O P E ops k t1 H Q) : Tr P B (.region id ops true) t H Q := by
  simp only [okDraw1, Bool.and_eq_true, beq_iff_eq] at hd
  have h' := WPx.sound (O := O) (P := P) (E := E) h
  unfold WP at h'
  cases h1 : evP O P E ops ((withIds E ops.toList H.length).take k) t H with
  | none => rw [h1] at h'; exact h'.elim
  | some t1 =>
    rw [h1] at h'
    obtain ⟨p, v, u, S, hp, hst, hr⟩ := h'
    have hr' := WPx.sound (O := O) (P := P) (E := E) hr
    unfold WP at hr'
    cases h2 : evP O P E ops ((withIds E ops.toList H.length).drop (k + 1)) (putT t1 p.1.dst v) (applyUps H u) with
    | none => rw [h2] at hr'; exact hr'.elim
    | some t2 =>
      rw [h2] at hr'
      obtain ⟨hlt, hget⟩ := List.getElem?_eq_some_iff.1 hp
      have hl : withIds E ops.toList H.length = (withIds E ops.toList H.length).take k ++ p :: (withIds E ops.toList H.length).drop (k + 1) := by
        rw [← hget, ← List.drop_eq_getElem_cons hlt, List.take_append_drop]
      have hev := evDraw_solid (k := k) hd.1.1 hl (by rw [List.length_take]; omega) h1 hst h2 (by rw [syn_withIds]; exact hd.1.2) hd.2
      refine Tr.of_W (n := 0) X.sound X.meth X.mix hG ?_
      rw [W_draw, hev]
      exact hr'
end Go.Proofs.Fw
namespace Go.Proofs.Fw
open Go.RowKit
abbrev Foot := Nat × List Nat × List Nat
def Item.foot (r : Item) : Foot := (r.i, r.u.map (·.1), r.S)
section
variable (O : Orc) (P : Program) (E : Env)
def WTr (ops : Array Oper) (ks bs : List Nat) : Nat → List (Oper × Nat) → List AV → AH → List Foot → (List AV → AH → List Foot → Prop) → Prop
  | _, [], t, H, fs, K => K t H fs
  | i, p :: l, t, H, fs, K => WG (wantedA ops t p.1)
      (WTr ops ks bs (i + 1) l (putT t p.1.dst .nothing) H (if bs.contains i = true then fs ++ [(i, [], [])] else fs) K)
      (WS (stepU O P E (aeval E t) (mask H (visIds E H (aeval E t) p)) p.2 (visIds E H (aeval E t) p) p.1) fun r =>
        (ks.contains i = true ∨ r.2 = []) ∧ (r.2.all fun q => (visIds E H (aeval E t) p).contains q.1) = true ∧
          WTr ops ks bs (i + 1) l (putT t p.1.dst r.1) (applyUps H r.2) (if bs.contains i = true then fs ++ [(i, r.2.map (·.1), visIds E H (aeval E t) p)] else fs) K)
end
section
variable {O : Orc} {P : Program} {E : Env}
theorem WTr.items {ops : Array Oper} {ks bs ms : List Nat} : ∀ {l : List (Oper × Nat)} {i : Nat} {t : List AV} {H : AH} {fs : List Foot} {K : List AV → AH → List Foot → Prop}, WTr O P E ops ks bs i l t H fs K →
    ∃ t1 H1 its, evD O P E ops i ms l t H = some (t1, H1, its) ∧ (∀ r ∈ its, ks.contains r.i = false → r.u = []) ∧ K t1 H1 (fs ++ (its.filter fun r => bs.contains r.i).map Item.foot)
  | [], i, t, H, fs, K, h => ⟨t, H, [], rfl, by simp, by rw [List.filter_nil, List.map_nil, List.append_nil]; exact h⟩
  | p :: l, i, t, H, fs, K, h => by
    simp only [WTr] at h
    unfold WG at h
    split at h
    · rename_i b hw
      cases b with
      | false =>
        obtain ⟨t1, H1, its, h1, h2, h3⟩ := WTr.items (ms := ms) (h.1 rfl)
        refine ⟨t1, H1, ⟨i, ms.getD i 0, p, .nothing, [], []⟩ :: its, ?_, ?_, ?_⟩
        · simp only [evD, dstep, hw, applyUps, h1]
        · intro r hr hk
          rcases List.mem_cons.1 hr with rfl | hr
          · rfl
          · exact h2 r hr hk
        · simp only [List.filter_cons]
          split
          · rename_i hb
            rw [if_pos hb, List.append_assoc] at h3
            exact h3
          · rename_i hb
            rw [if_neg hb] at h3
            exact h3
      | true =>
        have h := h.2 rfl
        cases hs : stepU O P E (aeval E t) (mask H (visIds E H (aeval E t) p)) p.2 (visIds E H (aeval E t) p) p.1 with
        | none => rw [hs] at h; exact h.elim
        | some r =>
          obtain ⟨v, u⟩ := r
          rw [hs] at h
          simp only [WS] at h
          obtain ⟨hk, hu, h⟩ := h
          obtain ⟨t1, H1, its, h1, h2, h3⟩ := WTr.items (ms := ms) h
          refine ⟨t1, H1, ⟨i, ms.getD i 0, p, v, u, visIds E H (aeval E t) p⟩ :: its, ?_, ?_, ?_⟩
          · simp only [evD, dstep, hw, hs, hu, if_true, h1]
          · intro r hr hk'
            rcases List.mem_cons.1 hr with rfl | hr
            · rcases hk with hk | hk
              · rw [hk] at hk'; cases hk'
              · exact hk
            · exact h2 r hr hk'
          · simp only [List.filter_cons]
            split
            · rename_i hb
              rw [if_pos hb, List.append_assoc] at h3
              exact h3
            · rename_i hb
              rw [if_neg hb] at h3
              exact h3
    · exact h.elim
def chkB (ops : Array Oper) (ks : List Nat) (bad : List (Nat × Nat)) : List (Nat × Nat × Oper) → Bool
  | [] => true
  | r :: rs => rs.all (fun s => s.2.1.testBit r.1 || (r.2.2.apart ops s.2.2 && ((!(ks.contains r.1) && !(ks.contains s.1)) || bad.contains (r.1, s.1)))) && chkB ops ks bad rs
def footsApart (a b : Foot) : Bool := (a.2.1.all fun q => !(b.2.2.contains q)) && (b.2.1.all fun q => !(a.2.2.contains q))
def badOk (f : List Foot) : List (Nat × Nat) → Bool
  | [] => true
  | (i, j) :: r => (match f.find? (fun x => x.1 == i), f.find? (fun x => x.1 == j) with
    | some a, some b => footsApart a b
    | _, _ => false) && badOk f r
theorem badOk_at {f : List Foot} : ∀ {bad : List (Nat × Nat)}, badOk f bad = true → ∀ {i j : Nat}, (i, j) ∈ bad → ∃ a b, f.find? (fun x => x.1 == i) = some a ∧ f.find? (fun x => x.1 == j) = some b ∧ footsApart a b = true
  | [], _, _, _, h => by cases h
  | (i', j') :: bad, hb, i, j, h => by
    simp only [badOk, Bool.and_eq_true] at hb
    rcases List.mem_cons.1 h with h | h
    · injection h with h1 h2
      subst h1; subst h2
      have h1 := hb.1
      split at h1
      · rename_i a b ha hb'
        exact ⟨a, b, ha, hb', h1⟩
      · cases h1
    · exact badOk_at hb.2 h
theorem find_foot : ∀ {l : List Item} {bs : List Nat} {r : Item}, (l.Pairwise fun a b => a.i ≠ b.i) → r ∈ l → bs.contains r.i = true → ((l.filter fun r => bs.contains r.i).map Item.foot).find? (fun x => x.1 == r.i) = some r.foot
  | [], _, _, _, h, _ => by cases h
  | a :: l, bs, r, hp, h, hb => by
    obtain ⟨h1, h2⟩ := List.pairwise_cons.1 hp
    rcases List.mem_cons.1 h with rfl | h
    · rw [List.filter_cons, if_pos hb, List.map_cons, List.find?_cons]
      simp [Item.foot]
    · have hne := h1 r h
      rw [List.filter_cons]
      split
      · have : ((a.foot).1 == r.i) = false := by simp [Item.foot, hne]
        rw [List.map_cons, List.find?_cons, this]
        exact find_foot h2 h hb
      · exact find_foot h2 h hb
theorem chk_of_B {ops : Array Oper} {ks : List Nat} {bad : List (Nat × Nat)} {L : List Item} (hL : L.Pairwise fun a b => a.i ≠ b.i) (hu : ∀ r ∈ L, ks.contains r.i = false → r.u = [])
    (hbad : badOk ((L.filter fun r => (bad.flatMap fun p => [p.1, p.2]).contains r.i).map Item.foot) bad = true) : ∀ (l : List Item), (∀ r ∈ l, r ∈ L) → chkB ops ks bad (l.map Item.syn) = true → chk ops l = true
  | [], _, _ => rfl
  | r :: l, hs, hc => by
    simp only [List.map_cons, chkB, Bool.and_eq_true] at hc
    simp only [chk, Bool.and_eq_true]
    refine ⟨?_, chk_of_B hL hu hbad l (fun q hq => hs q (List.mem_cons_of_mem _ hq)) hc.2⟩
    rw [List.all_eq_true]
    intro q hq
    have h1 := List.all_eq_true.1 hc.1 q.syn (List.mem_map_of_mem hq)
    simp only [Item.syn, Bool.or_eq_true, Bool.and_eq_true, Bool.not_eq_true'] at h1
    simp only [okPair, Bool.or_eq_true, Bool.and_eq_true]
    rcases h1 with h1 | ⟨h1, h2 | h2⟩
    · exact .inl h1
    · refine .inr ⟨h1, ?_⟩
      simp [footApart, hu r (hs r List.mem_cons_self) h2.1, hu q (hs q (List.mem_cons_of_mem _ hq)) h2.2]
    · refine .inr ⟨h1, ?_⟩
      have hm : (r.i, q.i) ∈ bad := by simpa using h2
      obtain ⟨a, b, ha, hb, hf⟩ := badOk_at hbad hm
      have m1 : (bad.flatMap fun p => [p.1, p.2]).contains r.i = true := by
        rw [List.contains_iff_mem, List.mem_flatMap]
        exact ⟨_, hm, by simp⟩
      have m2 : (bad.flatMap fun p => [p.1, p.2]).contains q.i = true := by
        rw [List.contains_iff_mem, List.mem_flatMap]
        exact ⟨_, hm, by simp⟩
      rw [find_foot hL (hs r List.mem_cons_self) m1] at ha
      rw [find_foot hL (hs q (List.mem_cons_of_mem _ hq)) m2] at hb
      injection ha with ha
      injection hb with hb
      subst ha; subst hb
      simp only [footsApart, Item.foot, Bool.and_eq_true, List.all_eq_true, List.mem_map, forall_exists_index, and_imp] at hf
      simp only [footApart, Bool.and_eq_true, List.all_eq_true]
      exact ⟨fun x hx => hf.1 _ x hx rfl, fun x hx => hf.2 _ x hx rfl⟩
theorem evD_syn {ops : Array Oper} {ms : List Nat} : ∀ {ps : List (Oper × Nat)} {i : Nat} {t : List AV} {H : AH} {t1 : List AV} {H1 : AH} {l : List Item}, evD O P E ops i ms ps t H = some (t1, H1, l) → l.map Item.syn = synItems i ms ps
  | [], i, t, H, t1, H1, l, h => by
    simp only [evD, Option.some.injEq, Prod.mk.injEq] at h
    obtain ⟨_, _, rfl⟩ := h
    rfl
  | p :: ps, i, t, H, t1, H1, l, h => by
    simp only [evD] at h
    split at h
    · split at h
      · rename_i he
        simp only [Option.some.injEq, Prod.mk.injEq] at h
        obtain ⟨_, _, rfl⟩ := h
        simp only [List.map_cons, synItems, Item.syn, evD_syn he]
      · cases h
    · cases h
def okDrawB (ops : Array Oper) (ks : List Nat) (bad : List (Nat × Nat)) : Bool := chkB ops ks bad (synOf 0 (masksFrom [] ops.toList) ops.toList) && backOnly 0 ops.toList
theorem Tr.turns {B : Bs} (X : Cx O P E) (hG : GlobOk E B.g) (ks : List Nat) (bad : List (Nat × Nat)) {id : Nat} {ops : Array Oper} {t : List AV} {H : AH} {Q : AEx → List AV → AH → Prop} (hd : okDrawB ops ks bad = true)
    (h : WTr O P E ops ks (bad.flatMap fun p => [p.1, p.2]) 0 (withIds E ops.toList H.length) t (grow H (idCount E ops.toList)) [] fun t1 H1 f => badOk f bad = true ∧ Q .normal t1 H1) : Tr P B (.region id ops true) t H Q := by
  simp only [okDrawB, Bool.and_eq_true] at hd
  obtain ⟨t1, H1, its, h1, h2, h3, h4⟩ := WTr.items (ms := masksFrom [] ops.toList) h
  obtain ⟨q1, q2, q3, q4⟩ := evD_items _ _ _ _ _ _ _ h1
  have hp : its.Pairwise fun a b => a.i ≠ b.i := by
    have : (its.map (·.i)).Pairwise (· ≠ ·) := by
      rw [q4]
      exact (List.pairwise_lt_range' ..).imp (fun h => Nat.ne_of_lt h)
    exact List.pairwise_map.1 this
  rw [List.nil_append] at h3
  have hsyn : its.map Item.syn = synItems 0 (masksFrom [] ops.toList) (withIds E ops.toList H.length) := evD_syn h1
  have hc : chk ops its = true := chk_of_B hp h2 h3 its (fun _ h => h) (by rw [hsyn, syn_withIds]; exact hd.1)
  refine Tr.of_W (n := 0) X.sound X.meth X.mix hG ?_
  rw [W_draw]
  unfold evDraw
  rw [h1]
  simp only
  rw [if_pos ⟨hc, hd.2⟩]
  exact h4
end
def soft : Code → Code
  | .region id ops true => .loop (.scope (.region id ops true))
  | .seq a b => .seq (soft a) (soft b)
  | .cond c a b => .cond c (soft a) (soft b)
  | .block id c => .block id (soft c)
  | c => c
theorem soft_draw (id : Nat) (ops : Array Oper) : soft (.region id ops true) = .loop (.scope (.region id ops true)) := nrfl rfl
theorem soft_region (id : Nat) (ops : Array Oper) : soft (.region id ops false) = .region id ops false := nrfl rfl
theorem soft_seq (a b : Code) : soft (.seq a b) = .seq (soft a) (soft b) := nrfl rfl
theorem soft_cond (c : Operand) (a b : Code) : soft (.cond c a b) = .cond c (soft a) (soft b) := nrfl rfl
theorem soft_block (id : Nat) (c : Code) : soft (.block id c) = .block id (soft c) := nrfl rfl
theorem soft_loop (c : Code) : soft (.loop c) = .loop c := nrfl rfl
theorem soft_skip : soft .skip = .skip := nrfl rfl
theorem soft_ret : soft .ret = .ret := nrfl rfl
theorem soft_exit (id : Nat) : soft (.exit id) = .exit id := nrfl rfl
attribute [simp] soft_draw soft_region soft_seq soft_cond soft_block soft_loop soft_skip soft_ret soft_exit
def okSoft : Code → Bool
  | .loop (.scope _) => false
  | .seq a b => okSoft a && okSoft b
  | .cond _ a b => okSoft a && okSoft b
  | .block _ c => okSoft c
  | .scope _ => false
  | _ => true
def LpD (P : Program) (B : Bs) : LoopP := fun c t H Q => match c with
  | .scope r => Tr P B r t H Q
  | c => Tr P B (.loop c) t H Q
section
variable {O : Orc} {P : Program} {E : Env} {B : Bs}
theorem Wt.soft (X : Cx O P E) (hG : GlobOk E B.g) : ∀ {c : Code} {t : List AV} {H : AH} {Q : AEx → List AV → AH → Prop}, okSoft c = true → Wt O P E (LpD P B) (soft c) t H Q → Tr P B c t H Q
  | .skip, t, H, Q, _, h => Tr.skip h
  | .region id ops false, t, H, Q, _, h => Tr.run X hG (by simp [okDraws]) h
  | .region id ops true, t, H, Q, _, h => h
  | .seq a b, t, H, Q, hd, h => by
    simp only [okSoft, Bool.and_eq_true] at hd
    simp only [Fw.soft, Wt] at h
    refine Tr.seq (Tr.mono (Wt.soft X hG hd.1 h) ?_)
    intro e t1 H1 h1
    cases e with
    | normal => exact Wt.soft X hG hd.2 h1
    | exit id => exact h1
    | ret => exact h1
  | .cond c a b, t, H, Q, hd, h => by
    simp only [okSoft, Bool.and_eq_true] at hd
    simp only [Fw.soft, Wt] at h
    unfold WB at h
    split at h
    · rename_i v hv
      exact Tr.cond hG v hv (fun e => Wt.soft X hG hd.1 (h.1 e)) (fun e => Wt.soft X hG hd.2 (h.2 e))
    · exact h.elim
  | .block id c, t, H, Q, hd, h => by
    simp only [okSoft] at hd
    simp only [Fw.soft, Wt] at h
    exact Tr.block (Wt.soft X hG hd h)
  | .exit id, t, H, Q, _, h => Tr.exit h
  | .ret, t, H, Q, _, h => Tr.ret h
  | .loop c, t, H, Q, hd, h => by
    simp only [Fw.soft, Wt] at h
    cases c <;> first | exact h | cases hd
  | .rangeFunc _ _ _ _, _, _, _, _, h => h.elim
  | .scope _, _, _, _, hd, _ => by cases hd
  | .label _, _, _, _, _, h => h.elim
  | .goto _, _, _, _, _, h => h.elim
  | .refuse _, _, _, _, _, h => h.elim
theorem Tr.goD (X : Cx O P E) (hG : GlobOk E B.g) {c : Code} {t : List AV} {H : AH} {Q : AEx → List AV → AH → Prop} (hd : okSoft c = true) (h : Go O P E (LpD P B) (soft c) [] t H Q) : Tr P B c t H Q := Wt.soft X hG hd h
theorem LpD.turns {Lp : LoopP} {ks0 : List Fr} (X : Cx O P E) (hG : GlobOk E B.g) (ks : List Nat) (bad : List (Nat × Nat)) {id : Nat} {ops : Array Oper} {t : List AV} {H : AH} {Q : AEx → List AV → AH → Prop} (hd : okDrawB ops ks bad = true)
    (h : WTr O P E ops ks (bad.flatMap fun p => [p.1, p.2]) 0 (withIds E ops.toList H.length) t (grow H (idCount E ops.toList)) [] fun t1 H1 f => badOk f bad = true ∧ Go O P E Lp .skip ks0 t1 H1 Q) : LpD P B (.scope (.region id ops true)) t H (unwind O P E Lp ks0 Q) :=
  Tr.turns X hG ks bad hd (by simpa only [unwind_normal] using h)
theorem LpD.loopN {L : Code} {t : List AV} {H : AH} {Q : AEx → List AV → AH → Prop} (X : Cx O P E) (hG : GlobOk E B.g) (hd : okSoft L = true) (I : Nat → List AV → AH → Prop) (k : Nat) {t' : List AV} {H' : AH} (hl : Less B t H t' H') (hI : I k t' H')
    (h : ∀ k t H, I k t H → Go O P E (LpD P B) (soft L) [] t H (Goes (Nxt B I k) Q)) : LpD P B L t H Q := by
  have key : Tr P B (.loop L) t H Q := Tr.less hl (Tr.loop I k hI fun k t H hI => Tr.goD X hG hd (h k t H hI))
  cases L <;> first | exact key | cases hd
end
theorem mask_mem {H : AH} {S : List Nat} {i : Nat} (h : i ∈ S) : (mask H S).at i = H.at i := by
  rw [mask_at]
  by_cases hl : i < H.length
  · rw [if_pos hl, if_pos (by simpa using h)]
  · rw [if_neg hl, at_ge (by omega)]
theorem idsOfL_mem {x : AV} {i : Nat} (h : i ∈ idsOf x) : ∀ {l : List AV}, x ∈ l → i ∈ idsOfL l
  | [], hx => by cases hx
  | y :: l, hx => by
    rw [idsOfL, List.mem_append]
    rcases List.mem_cons.1 hx with rfl | hx
    · exact .inl h
    · exact .inr (idsOfL_mem h hx)
theorem vis_mem (E : Env) (H : AH) (ρ : Operand → AV) (o : Oper) (fid : Nat) (hq : quietO o.op = false) {x : Operand} (hx : x ∈ seenO o.op) {i : Nat} (h : i ∈ idsOf (ρ x)) : i ∈ visIds E H ρ (o, fid) := by
  have h1 : i ∈ opIds ρ o := by
    unfold opIds
    rw [if_neg (by rw [hq]; decide)]
    exact idsOfL_mem h (List.mem_map_of_mem hx)
  have h2 := clos_sub H (depO o.op) _ i h1
  unfold visIds
  split
  · exact List.mem_cons_of_mem _ h2
  · exact h2
theorem aload_mask (P : Program) (u : TypeId) {H : AH} {S : List Nat} {a : AV} (h : ∀ i ∈ idsOf a, i ∈ S) : aload P (mask H S) u a = aload P H u a := by
  cases a with
  | ptr id off => simp only [aload, mask_mem (h id (by simp [idsOf]))]
  | _ => rfl
theorem astore_mask (P : Program) (u : TypeId) {H : AH} {S : List Nat} {a x : AV} (h : ∀ i ∈ idsOf a, i ∈ S) : astore P (mask H S) u a x = astore P H u a x := by
  cases a with
  | ptr id off => simp only [astore, mask_mem (h id (by simp [idsOf]))]
  | lptr k sz n => simp only [astore, mask_mem (h k (by simp [idsOf]))]
  | _ => rfl
theorem copied_mask (sz : Nat) {H : AH} {S : List Nat} {a : AV} (h : ∀ i ∈ idsOf a, i ∈ S) : copied (mask H S) sz a = copied H sz a := by
  cases a with
  | bsl id off s n c => simp only [copied, mask_mem (h id (by simp [idsOf]))]
  | _ => rfl
theorem aappend_mask (P : Program) (fid : Nat) (u w : TypeId) {H : AH} {S : List Nat} {a x : AV} (h : ∀ i ∈ idsOf a, i ∈ S) (h' : ∀ i ∈ idsOf x, i ∈ S) : aappend P (mask H S) fid u w a x = aappend P H fid u w a x := by
  unfold aappend
  cases a with
  | slice ow sz n cs =>
    cases ow with
    | tok k => simp only [copied_mask _ h', mask_mem (h k (by simp [idsOf]))]
    | _ => simp only [copied_mask _ h']
  | bsl id off s n c => simp only [copied_mask _ h', mask_mem (h id (by simp [idsOf]))]
  | _ => simp only [copied_mask _ h']
theorem aappendL_mask (P : Program) (fid : Nat) (u w : TypeId) {H : AH} {S : List Nat} {a x : AV} (h : ∀ i ∈ idsOf a, i ∈ S) (h' : ∀ i ∈ idsOf x, i ∈ S) : aappendL P (mask H S) fid u w a x = aappendL P H fid u w a x := by
  unfold aappendL
  cases a with
  | slice ow sz n cs =>
    cases ow with
    | tok k => simp only [copied_mask _ h', mask_mem (h k (by simp [idsOf]))]
    | _ => simp only [copied_mask _ h']
  | _ => simp only [copied_mask _ h']
theorem aapp_mask (P : Program) (E : Env) (fid : Nat) (u w : TypeId) {H : AH} {S : List Nat} {a x : AV} (h : ∀ i ∈ idsOf a, i ∈ S) (h' : ∀ i ∈ idsOf x, i ∈ S) : aapp P E (mask H S) fid u w a x = aapp P E H fid u w a x := by
  unfold aapp
  rw [aappendL_mask P fid u w h h', aappend_mask P fid u w h h']
def upsOf (S : List Nat) (n : Nat) (r : Option (AV × AH)) : Option (AV × Ups) := match r with
  | some (v, H1) => if H1.length = n then some (v, S.filterMap fun i => (H1.at i).map fun e => (i, e)) else none
  | none => none
theorem upsOf_some (S : List Nat) (n : Nat) (v : AV) (H1 : AH) (h : H1.length = n) : upsOf S n (some (v, H1)) = some (v, S.filterMap fun i => (H1.at i).map fun e => (i, e)) := by simp [upsOf, h]
section
variable (O : Orc) (P : Program) (E : Env)
abbrev TK := List AV → AH → List Foot → Prop
def WTq (ops : Array Oper) (ks bs : List Nat) (i : Nat) (o : Oper) (fid : Nat) (l : List (Oper × Nat)) (t : List AV) (H : AH) (fs : List Foot) (K : TK) : Prop :=
  WS (stepU O P E (aeval E t) (mask H (visIds E H (aeval E t) (o, fid))) fid (visIds E H (aeval E t) (o, fid)) o) fun r =>
        (ks.contains i = true ∨ r.2 = []) ∧ (r.2.all fun q => (visIds E H (aeval E t) (o, fid)).contains q.1) = true ∧
          WTr O P E ops ks bs (i + 1) l (putT t o.dst r.1) (applyUps H r.2) (if bs.contains i = true then fs ++ [(i, r.2.map (·.1), visIds E H (aeval E t) (o, fid))] else fs) K
def WTg (b : Option Bool) (ops : Array Oper) (ks bs : List Nat) (i : Nat) (o : Oper) (fid : Nat) (l : List (Oper × Nat)) (t : List AV) (H : AH) (fs : List Foot) (K : TK) : Prop :=
  WG b (WTr O P E ops ks bs (i + 1) l (putT t o.dst .nothing) H (if bs.contains i = true then fs ++ [(i, [], [])] else fs) K) (WTq O P E ops ks bs i o fid l t H fs K)
def WTv (r : Option AV) (ops : Array Oper) (ks bs : List Nat) (i : Nat) (o : Oper) (fid : Nat) (l : List (Oper × Nat)) (t : List AV) (H : AH) (fs : List Foot) (K : TK) : Prop :=
  WS r fun v => WTr O P E ops ks bs (i + 1) l (putT t o.dst v) H (if bs.contains i = true then fs ++ [(i, [], visIds E H (aeval E t) (o, fid))] else fs) K
def WTu (r : Option (AV × Ups)) (ops : Array Oper) (ks bs : List Nat) (i : Nat) (o : Oper) (fid : Nat) (l : List (Oper × Nat)) (t : List AV) (H : AH) (fs : List Foot) (K : TK) : Prop :=
  WS r fun r => (ks.contains i = true ∨ r.2 = []) ∧ (r.2.all fun q => (visIds E H (aeval E t) (o, fid)).contains q.1) = true ∧
          WTr O P E ops ks bs (i + 1) l (putT t o.dst r.1) (applyUps H r.2) (if bs.contains i = true then fs ++ [(i, r.2.map (·.1), visIds E H (aeval E t) (o, fid))] else fs) K
def WTc (f : Operand) (as : Array Operand) (ops : Array Oper) (ks bs : List Nat) (i : Nat) (o : Oper) (fid : Nat) (l : List (Oper × Nat)) (t : List AV) (H : AH) (fs : List Foot) (K : TK) : Prop :=
  WTu O P E (upsOf (visIds E H (aeval E t) (o, fid)) H.length (callV O P (aeval E t f) (as.toList.map (aeval E t)) (mask H (visIds E H (aeval E t) (o, fid))))) ops ks bs i o fid l t H fs K
end
section
variable {O : Orc} {P : Program} {E : Env} {ops : Array Oper} {ks bs : List Nat} {i : Nat} {l : List (Oper × Nat)} {t : List AV} {H : AH} {fs : List Foot} {K : TK}
theorem WTr_nil : WTr O P E ops ks bs i [] t H fs K = K t H fs := nrfl rfl
theorem WTr_cons (o : Oper) (fid : Nat) : WTr O P E ops ks bs i ((o, fid) :: l) t H fs K = WTg O P E (wantedA ops t o) ops ks bs i o fid l t H fs K := nrfl rfl
theorem WTg_true (o : Oper) (fid : Nat) : WTg O P E (some true) ops ks bs i o fid l t H fs K = WTq O P E ops ks bs i o fid l t H fs K := by simp [WTg, WG]
theorem WTg_false (o : Oper) (fid : Nat) : WTg O P E (some false) ops ks bs i o fid l t H fs K = WTr O P E ops ks bs (i + 1) l (putT t o.dst .nothing) H (if bs.contains i = true then fs ++ [(i, [], [])] else fs) K := by simp [WTg, WG]
theorem WTv_some (v : AV) (o : Oper) (fid : Nat) : WTv O P E (some v) ops ks bs i o fid l t H fs K = WTr O P E ops ks bs (i + 1) l (putT t o.dst v) H (if bs.contains i = true then fs ++ [(i, [], visIds E H (aeval E t) (o, fid))] else fs) K := nrfl rfl
theorem WTu_some (v : AV) (u : Ups) (o : Oper) (fid : Nat) : WTu O P E (some (v, u)) ops ks bs i o fid l t H fs K = ((ks.contains i = true ∨ u = []) ∧ (u.all fun q => (visIds E H (aeval E t) (o, fid)).contains q.1) = true ∧
          WTr O P E ops ks bs (i + 1) l (putT t o.dst v) (applyUps H u) (if bs.contains i = true then fs ++ [(i, u.map (·.1), visIds E H (aeval E t) (o, fid))] else fs) K) := nrfl rfl
theorem WTq_v {o : Oper} {fid : Nat} {r : Option AV} (h : stepU O P E (aeval E t) (mask H (visIds E H (aeval E t) (o, fid))) fid (visIds E H (aeval E t) (o, fid)) o = r.map fun a => (a, [])) :
    WTq O P E ops ks bs i o fid l t H fs K = WTv O P E r ops ks bs i o fid l t H fs K := by
  unfold WTq WTv
  rw [h]
  cases r <;> simp [WS, applyUps]
theorem WTq_u {o : Oper} {fid : Nat} {r : Option (AV × Ups)} (h : stepU O P E (aeval E t) (mask H (visIds E H (aeval E t) (o, fid))) fid (visIds E H (aeval E t) (o, fid)) o = r) :
    WTq O P E ops ks bs i o fid l t H fs K = WTu O P E r ops ks bs i o fid l t H fs K := by
  unfold WTq WTu
  rw [h]
section
variable (fid : Nat) (dst : Option Tmp) (ty : TypeId) (pos : String) (after : Array Edge) (guard : Option (Nat × Bool))
theorem WTq_move (x : Operand) : WTq O P E ops ks bs i ⟨dst, .move x, ty, pos, after, guard⟩ fid l t H fs K = WTv O P E (some ((aeval E t) x)) ops ks bs i ⟨dst, .move x, ty, pos, after, guard⟩ fid l t H fs K := WTq_v rfl
theorem WTq_assign (x : Operand) : WTq O P E ops ks bs i ⟨dst, .assign x, ty, pos, after, guard⟩ fid l t H fs K = WTv O P E (some ((aeval E t) x)) ops ks bs i ⟨dst, .assign x, ty, pos, after, guard⟩ fid l t H fs K := WTq_v rfl
theorem WTq_build (u : TypeId) (parts : Array (Nat × Operand)) : WTq O P E ops ks bs i ⟨dst, .build u parts, ty, pos, after, guard⟩ fid l t H fs K = WTv O P E (abuild P u (parts.toList.map fun p => (p.1, (aeval E t) p.2))) ops ks bs i ⟨dst, .build u parts, ty, pos, after, guard⟩ fid l t H fs K := WTq_v rfl
theorem WTq_buildSlice (u : TypeId) (len : Nat) (parts : Array (Nat × Operand)) : WTq O P E ops ks bs i ⟨dst, .buildSlice u len parts, ty, pos, after, guard⟩ fid l t H fs K = WTv O P E (abuildSlice P u len (parts.toList.map fun p => (p.1, (aeval E t) p.2))) ops ks bs i ⟨dst, .buildSlice u len parts, ty, pos, after, guard⟩ fid l t H fs K := WTq_v rfl
theorem WTq_load (u : TypeId) (a : Operand) : WTq O P E ops ks bs i ⟨dst, .load u a, ty, pos, after, guard⟩ fid l t H fs K = WTv O P E (aload P H u ((aeval E t) a)) ops ks bs i ⟨dst, .load u a, ty, pos, after, guard⟩ fid l t H fs K := WTq_v (by
    show (aload P (mask H _) u (aeval E t a)).map (fun a => (a, ([] : Ups))) = _
    rw [aload_mask P u fun i hi => vis_mem E H (aeval E t) _ fid rfl (by simp [Op.operands]) hi])
theorem WTq_nilCheck (x : Operand) : WTq O P E ops ks bs i ⟨dst, .nilCheck x, ty, pos, after, guard⟩ fid l t H fs K = WTv O P E (anilCheck ((aeval E t) x)) ops ks bs i ⟨dst, .nilCheck x, ty, pos, after, guard⟩ fid l t H fs K := WTq_v rfl
theorem WTq_binOp (op : BinOp) (u : TypeId) (x y : Operand) (w : TypeId) : WTq O P E ops ks bs i ⟨dst, .binOp op u x y w, ty, pos, after, guard⟩ fid l t H fs K = WTv O P E (abin P op u (isConstO x || isConstO y) ((aeval E t) x) ((aeval E t) y)) ops ks bs i ⟨dst, .binOp op u x y w, ty, pos, after, guard⟩ fid l t H fs K := WTq_v rfl
theorem WTq_unOp (op : UnOp) (u : TypeId) (x : Operand) : WTq O P E ops ks bs i ⟨dst, .unOp op u x, ty, pos, after, guard⟩ fid l t H fs K = WTv O P E (aun op ((aeval E t) x)) ops ks bs i ⟨dst, .unOp op u x, ty, pos, after, guard⟩ fid l t H fs K := WTq_v rfl
theorem WTq_makeFunc (fn : Fn) (first captured : Array Operand) : WTq O P E ops ks bs i ⟨dst, .makeFunc fn first captured, ty, pos, after, guard⟩ fid l t H fs K = WTv O P E (some (.func fn (first.toList.map (aeval E t)) (captured.toList.map (aeval E t)))) ops ks bs i ⟨dst, .makeFunc fn first captured, ty, pos, after, guard⟩ fid l t H fs K := WTq_v rfl
theorem WTq_slice (u : TypeId) (x : Operand) (lo hi mx : Option Operand) : WTq O P E ops ks bs i ⟨dst, .slice u x lo hi mx, ty, pos, after, guard⟩ fid l t H fs K = WTv O P E (aslice P u ((aeval E t) x) (lo.map (aeval E t)) (hi.map (aeval E t)) (mx.map (aeval E t))) ops ks bs i ⟨dst, .slice u x lo hi mx, ty, pos, after, guard⟩ fid l t H fs K := WTq_v rfl
theorem WTq_fieldAddr (u : TypeId) (x : Operand) (f : Nat) : WTq O P E ops ks bs i ⟨dst, .fieldAddr u x f, ty, pos, after, guard⟩ fid l t H fs K = WTv O P E (afieldAddr P u ((aeval E t) x) f) ops ks bs i ⟨dst, .fieldAddr u x f, ty, pos, after, guard⟩ fid l t H fs K := WTq_v rfl
theorem WTq_field (u : TypeId) (x : Operand) (f : Nat) : WTq O P E ops ks bs i ⟨dst, .field u x f, ty, pos, after, guard⟩ fid l t H fs K = WTv O P E (afield P u ((aeval E t) x) f) ops ks bs i ⟨dst, .field u x f, ty, pos, after, guard⟩ fid l t H fs K := WTq_v rfl
theorem WTq_indexAddr (u : TypeId) (x j : Operand) : WTq O P E ops ks bs i ⟨dst, .indexAddr u x j, ty, pos, after, guard⟩ fid l t H fs K = WTv O P E (aindexAddr P u ((aeval E t) x) ((aeval E t) j)) ops ks bs i ⟨dst, .indexAddr u x j, ty, pos, after, guard⟩ fid l t H fs K := WTq_v rfl
theorem WTq_index (u : TypeId) (x j : Operand) : WTq O P E ops ks bs i ⟨dst, .index u x j, ty, pos, after, guard⟩ fid l t H fs K = WTv O P E (aindex P u ((aeval E t) x) ((aeval E t) j)) ops ks bs i ⟨dst, .index u x j, ty, pos, after, guard⟩ fid l t H fs K := WTq_v rfl
theorem WTq_typeAssert (x : Operand) (u w : TypeId) (ok : Bool) : WTq O P E ops ks bs i ⟨dst, .typeAssert x u w ok, ty, pos, after, guard⟩ fid l t H fs K = WTv O P E (atypeAssert P ((aeval E t) x) w ok) ops ks bs i ⟨dst, .typeAssert x u w ok, ty, pos, after, guard⟩ fid l t H fs K := WTq_v rfl
theorem WTq_extract (x : Operand) (j : Nat) : WTq O P E ops ks bs i ⟨dst, .extract x j, ty, pos, after, guard⟩ fid l t H fs K = WTv O P E (aextract ((aeval E t) x) j) ops ks bs i ⟨dst, .extract x j, ty, pos, after, guard⟩ fid l t H fs K := WTq_v rfl
theorem WTq_len (x : Operand) (u : TypeId) : WTq O P E ops ks bs i ⟨dst, .call ⟨.builtin .len, #[x], #[u]⟩, ty, pos, after, guard⟩ fid l t H fs K = WTv O P E (alen P u ((aeval E t) x)) ops ks bs i ⟨dst, .call ⟨.builtin .len, #[x], #[u]⟩, ty, pos, after, guard⟩ fid l t H fs K := WTq_v rfl
theorem WTq_max (x y : Operand) (us : Array TypeId) : WTq O P E ops ks bs i ⟨dst, .call ⟨.builtin .max, #[x, y], us⟩, ty, pos, after, guard⟩ fid l t H fs K = WTv O P E (amax2 ((aeval E t) x) ((aeval E t) y)) ops ks bs i ⟨dst, .call ⟨.builtin .max, #[x, y], us⟩, ty, pos, after, guard⟩ fid l t H fs K := WTq_v rfl
theorem WTq_min (x y : Operand) (us : Array TypeId) : WTq O P E ops ks bs i ⟨dst, .call ⟨.builtin .min, #[x, y], us⟩, ty, pos, after, guard⟩ fid l t H fs K = WTv O P E (amin2 ((aeval E t) x) ((aeval E t) y)) ops ks bs i ⟨dst, .call ⟨.builtin .min, #[x, y], us⟩, ty, pos, after, guard⟩ fid l t H fs K := WTq_v rfl
theorem WTq_pick (c a b : Operand) : WTq O P E ops ks bs i ⟨dst, .pick c a b, ty, pos, after, guard⟩ fid l t H fs K = WTv O P E (apick ((aeval E t) c) ((aeval E t) a) ((aeval E t) b)) ops ks bs i ⟨dst, .pick c a b, ty, pos, after, guard⟩ fid l t H fs K := WTq_v (stepU_pick ..)
theorem WTq_makeInterface (u : TypeId) (x : Operand) : WTq O P E ops ks bs i ⟨dst, .makeInterface u x, ty, pos, after, guard⟩ fid l t H fs K = WTv O P E (aface P u ((aeval E t) x)) ops ks bs i ⟨dst, .makeInterface u x, ty, pos, after, guard⟩ fid l t H fs K := WTq_v (stepU_makeInterface ..)
theorem WTq_alloc (u : TypeId) : WTq O P E ops ks bs i ⟨dst, .alloc u, ty, pos, after, guard⟩ fid l t H fs K = WTu O P E (aalloc P fid u) ops ks bs i ⟨dst, .alloc u, ty, pos, after, guard⟩ fid l t H fs K := WTq_u (by
    simp only [stepU, aop, aalloc]
    cases zeroAV P u <;> rfl)
theorem WTq_box (u : TypeId) (x : Operand) : WTq O P E ops ks bs i ⟨dst, .box u x, ty, pos, after, guard⟩ fid l t H fs K = WTu O P E (abox E fid u ((aeval E t) x)) ops ks bs i ⟨dst, .box u x, ty, pos, after, guard⟩ fid l t H fs K := WTq_u (by simp only [stepU, aop, abox])
theorem WTq_store (u : TypeId) (a x : Operand) : WTq O P E ops ks bs i ⟨dst, .store u a x, ty, pos, after, guard⟩ fid l t H fs K = WTu O P E (astore P H u ((aeval E t) a) ((aeval E t) x)) ops ks bs i ⟨dst, .store u a x, ty, pos, after, guard⟩ fid l t H fs K := WTq_u (by
    show astore P (mask H _) u (aeval E t a) (aeval E t x) = _
    rw [astore_mask P u fun i hi => vis_mem E H (aeval E t) _ fid rfl (x := a) (by simp [Op.operands]) hi])
theorem WTq_append (s x : Operand) (u w : TypeId) : WTq O P E ops ks bs i ⟨dst, .call ⟨.builtin .append, #[s, x], #[u, w]⟩, ty, pos, after, guard⟩ fid l t H fs K = WTu O P E (aapp P E H fid u w ((aeval E t) s) ((aeval E t) x)) ops ks bs i ⟨dst, .call ⟨.builtin .append, #[s, x], #[u, w]⟩, ty, pos, after, guard⟩ fid l t H fs K := WTq_u (by
    show aapp P E (mask H _) fid u w (aeval E t s) (aeval E t x) = _
    rw [aapp_mask P E fid u w (fun i hi => vis_mem E H (aeval E t) _ fid rfl (x := s) (by simp [Op.operands, Call.operands]) hi) (fun i hi => vis_mem E H (aeval E t) _ fid rfl (x := x) (by simp [Op.operands, Call.operands]) hi)])
theorem WTq_call (f : Operand) (as : Array Operand) (us : Array TypeId) : WTq O P E ops ks bs i ⟨dst, .call ⟨.value f, as, us⟩, ty, pos, after, guard⟩ fid l t H fs K = WTc O P E f as ops ks bs i ⟨dst, .call ⟨.value f, as, us⟩, ty, pos, after, guard⟩ fid l t H fs K := WTq_u (by
  simp only [stepU, callee, callV]
  rw [← mask_length H (visIds E H (aeval E t) (⟨dst, .call ⟨.value f, as, us⟩, ty, pos, after, guard⟩, fid))]
  cases aeval E t f with
  | func fn a b =>
    cases fn with
    | func i =>
      simp only
      cases goFn P i with
      | true =>
        simp only [if_true]
        cases O i (a ++ as.toList.map (aeval E t) ++ b) (mask H (visIds E H (aeval E t) (⟨dst, .call ⟨.value f, as, us⟩, ty, pos, after, guard⟩, fid))) with
        | none => rfl
        | some r => rfl
      | false => rfl
    | _ => rfl
  | _ => rfl)
end
end
attribute [simp] WTr_nil WTr_cons WTg_true WTg_false WTv_some WTu_some upsOf_some badOk footsApart WTc clos boxIdsL boxIds mask
attribute [simp] maskFrom WTq_move WTq_assign WTq_build WTq_buildSlice WTq_load WTq_nilCheck WTq_binOp WTq_unOp WTq_makeFunc WTq_slice WTq_fieldAddr WTq_field WTq_indexAddr
attribute [simp] WTq_index WTq_typeAssert WTq_extract WTq_len WTq_max WTq_min WTq_pick WTq_makeInterface WTq_alloc WTq_box WTq_store WTq_append WTq_call
theorem CS.rd {P : Program} {E : Env} {f : FuncId} {fn : Func} {cs cs' rest : List AV} {v : AV} (hE : ∀ i, low 0 (E.glob i) = true) (hf : P.funcs[f]? = some fn) (hb : fn.body = some (bodyOf fn)) (k : Nat) (hn : (AV.ptr 0 0 :: rest).length ≤ fn.ntmps)
    (h : ∀ B : Bs, B.H = [some (.box cs)] → GlobOk E B.g → Tr P B (bodyOf fn) (mkT fn.ntmps (argL 0 (.ptr 0 0 :: rest))) [some (.box cs)] (Fin P fn 1 k v [some (.box cs')]))
    (hr : lowL 0 rest = true) (hv : low 0 v = true) (hc : lowL 0 cs = true) (hc' : lowL 0 cs' = true) {H : AH} {id : Nat} (hH : H.at id = some (.box cs)) : CS P E f (.ptr id 0 :: rest) H v (H.set id (some (.box cs'))) :=
  CS.box (CS.of_Tr (H0 := [some (.box cs)]) (H1 := [some (.box cs')]) hf hb k hn h (low_mono (Nat.zero_le 1) v hv) (by simp [lowH, lowE, lowL_mono (Nat.zero_le 1) cs' hc'])) hE hr hv hc hc' hH
theorem CS.rdR {P : Program} {E : Env} {f : FuncId} {fn : Func} {cs cs' rest : List AV} {v : AV} (hE : ∀ i, low 0 (E.glob i) = true) (hf : P.funcs[f]? = some fn) (hb : fn.body = some (bodyOf fn)) (k : Nat) (hn : (AV.ptr 0 0 :: rest).length ≤ fn.ntmps)
    (h : ∀ B : Bs, B.H = [some (.box cs)] → GlobOk E B.g → Tr P B (bodyOf fn) (mkT fn.ntmps (argL 0 (.ptr 0 0 :: rest))) [some (.box cs)] (Fin P fn 1 k v [some (.box cs')]))
    (hr : lowL 1 rest = true) (hv : low 0 v = true) (hc : lowL 0 cs = true) (hc' : lowL 0 cs' = true) {H : AH} {id : Nat} (hH : H.at id = some (.box cs)) : CS P E f (.ptr id 0 :: renL (fun _ => id) rest) H v (H.set id (some (.box cs'))) := by
  have h1 := CS.of_Tr (H0 := [some (.box cs)]) (H1 := [some (.box cs')]) hf hb k hn h (low_mono (Nat.zero_le 1) v hv) (by simp [lowH, lowE, lowL_mono (Nat.zero_le 1) cs' hc'])
  have := CS.embed (k := 1) (fun _ => id) (H := H) (H' := H.set id (some (.box cs'))) h1 rfl rfl (ren_one id) hE (by simp [lowL, low, hr]) (low_mono (Nat.zero_le 1) v hv)
    (by simp [lowH, lowE, lowL_mono (Nat.zero_le 1) cs hc]) (by simp [lowH, lowE, lowL_mono (Nat.zero_le 1) cs' hc'])
    (fun i hi => by
      obtain rfl : i = 0 := by omega
      simp [AH.at, renE, renL_low _ cs hc]
      exact hH)
    (fun i hi => by
      obtain rfl : i = 0 := by omega
      rw [at_set_self hH]
      simp [AH.at, renE, renL_low _ cs' hc'])
    (fun j hj => at_set_ne (hj 0 (by omega)))
  rw [ren_low _ v hv] at this
  simpa [renL, ren] using this
end Go.Proofs.Fw
namespace Go.Proofs.Fw
open Go.RowKit
section
variable (O : Orc) (P : Program) (E : Env) (ops : Array Oper)
end
section
variable {O : Orc} {P : Program} {E : Env} {ops : Array Oper}
end
def isMapOp : Op → Bool
  | .makeMap _ _ => true
  | _ => false

attribute [simp] isMapOp
section
variable {O : Orc} {P : Program} {E : Env} {B : Bs}
end
end Go.Proofs.Fw
