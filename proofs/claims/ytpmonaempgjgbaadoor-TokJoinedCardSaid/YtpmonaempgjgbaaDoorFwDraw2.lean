/- Regions that draw their order: whatever the order. -/
import Derived.Test.YtpmonaempgjgbaaDoorFwDraw
namespace Go.Proofs.Fw
open Go.RowKit
variable {P : Program} {E : Env} {O : Orc} {ops : Array Oper}

theorem maskOf_bit {acc : List Nat} {j : Nat} : ∀ {es : List Edge}, (maskOf acc es).testBit j = true → ∃ e ∈ es, Region.binds .any e = true ∧ (e.on = j ∨ (acc.getD e.on 0).testBit j = true)
  | [], h => by simp [maskOf] at h
  | e :: es, h => by
    simp only [maskOf] at h
    split at h
    · rename_i hb
      rw [Nat.testBit_or, Bool.or_eq_true, Nat.testBit_or, Bool.or_eq_true] at h
      rcases h with h | h | h
      · obtain ⟨e', he, h1⟩ := maskOf_bit h
        exact ⟨e', List.mem_cons_of_mem _ he, h1⟩
      · refine ⟨e, List.mem_cons_self, hb, .inl ?_⟩
        rw [Nat.testBit_two_pow] at h
        exact of_decide_eq_true h
      · exact ⟨e, List.mem_cons_self, hb, .inr h⟩
    · obtain ⟨e', he, h1⟩ := maskOf_bit h
      exact ⟨e', List.mem_cons_of_mem _ he, h1⟩

theorem masksFrom_take : ∀ (os : List Oper) (acc : List Nat), (masksFrom acc os).take acc.length = acc ∧ ∀ (k : Nat) (o : Oper), os[k]? = some o →
    (masksFrom acc os).getD (acc.length + k) 0 = maskOf ((masksFrom acc os).take (acc.length + k)) o.after.toList
  | [], acc => by simp [masksFrom]
  | o :: os, acc => by
    obtain ⟨h1, h2⟩ := masksFrom_take os (acc ++ [maskOf acc o.after.toList])
    simp only [masksFrom]
    have hl : (acc ++ [maskOf acc o.after.toList]).length = acc.length + 1 := by simp
    rw [hl] at h1 h2
    have hta : (masksFrom (acc ++ [maskOf acc o.after.toList]) os).take acc.length = acc := by
      have := congrArg (List.take acc.length) h1
      rw [List.take_take, Nat.min_eq_left (by omega)] at this
      rw [this]
      simp
    refine ⟨hta, fun k o' hk => ?_⟩
    cases k with
    | zero =>
      simp only [List.getElem?_cons_zero, Option.some.injEq] at hk
      subst hk
      rw [Nat.add_zero, hta]
      have hlen : acc.length < (masksFrom (acc ++ [maskOf acc o.after.toList]) os).length := by
        have := congrArg List.length h1
        rw [List.length_take, hl] at this
        omega
      have hg : ((masksFrom (acc ++ [maskOf acc o.after.toList]) os).take (acc.length + 1))[acc.length]? = some (maskOf acc o.after.toList) := by
        rw [h1]
        simp
      rw [List.getElem?_take, if_pos (by omega)] at hg
      rw [List.getD_eq_getElem?_getD, hg]
      rfl
    | succ k =>
      simp only [List.getElem?_cons_succ] at hk
      have := h2 k o' hk
      rw [show acc.length + (k + 1) = acc.length + 1 + k by omega]
      exact this

/-- What a mask bears: an operation that must stand ahead, or what must stand ahead of one. -/
theorem mask_bit {os : List Oper} {k j : Nat} {o : Oper} (ho : os[k]? = some o) (h : ((masksFrom [] os).getD k 0).testBit j = true) :
    ∃ e ∈ o.after.toList, Region.binds .any e = true ∧ (e.on = j ∨ ((masksFrom [] os).getD e.on 0).testBit j = true) := by
  have := (masksFrom_take os []).2 k o ho
  simp only [List.length_nil, Nat.zero_add] at this
  rw [this] at h
  obtain ⟨e, he, hb, h1⟩ := maskOf_bit h
  refine ⟨e, he, hb, ?_⟩
  rcases h1 with h1 | h1
  · exact .inl h1
  · refine .inr ?_
    rw [List.getD_eq_getElem?_getD, List.getElem?_take] at h1
    split at h1
    · rw [List.getD_eq_getElem?_getD]; exact h1
    · simp at h1

theorem backOnly_lt : ∀ (os : List Oper) (i k : Nat) (o : Oper), backOnly i os = true → os[k]? = some o → ∀ e ∈ o.after.toList, Region.binds .any e = true → e.on < i + k
  | [], _, _, _, _, h, _, _, _ => by simp at h
  | o :: os, i, k, o', hb, ho, e, he, hbi => by
    simp only [backOnly, Bool.and_eq_true] at hb
    cases k with
    | zero =>
      simp only [List.getElem?_cons_zero, Option.some.injEq] at ho
      subst ho
      have := List.all_eq_true.1 hb.1 e he
      rw [hbi] at this
      simpa using this
    | succ k =>
      simp only [List.getElem?_cons_succ] at ho
      have := backOnly_lt os (i + 1) k o' hb.2 ho e he hbi
      omega

theorem dstep_free (hS : Sound P E O) {tmps : List AV} {H : AH} {p : Oper × Nat} {v : AV} {u : Ups} {S : List Nat} (h : dstep O P E ops tmps H p = some (v, u, S)) :
    ∀ q ∈ u, (q.1 = p.2 ∧ needsId E p.1.op = true) ∨ ∃ e, H.at q.1 = some e := by
  have hin := (dstep_S h).1
  unfold dstep at h
  split at h
  · cases h
  · injection h with h; simp only [Prod.mk.injEq] at h; obtain ⟨_, rfl, _⟩ := h; simp
  · split at h
    · rename_i v1 u1 hst
      split at h
      · injection h with h; simp only [Prod.mk.injEq] at h; obtain ⟨rfl, rfl, rfl⟩ := h
        intro q hq
        have hqS := hin q hq
        have tr : (∃ e, (mask H (visIds E H (aeval E tmps) p)).at q.1 = some e) → ∃ e, H.at q.1 = some e := by
          rintro ⟨e, he⟩
          have hl := at_lt he
          rw [mask_length] at hl
          rw [mask_at_in hqS hl] at he
          exact ⟨e, he⟩
        have fin : aop P E (aeval E tmps) (mask H (visIds E H (aeval E tmps) p)) p.2 p.1 = some (v1, u1) → _ := fun ha => aop_ups ha q hq
        unfold stepU at hst
        split at hst
        · split at hst
          · split at hst
            · split at hst
              · rename_i v2 H1 hO
                split at hst
                · rename_i hlen
                  injection hst with hst; simp only [Prod.mk.injEq] at hst; obtain ⟨rfl, rfl⟩ := hst
                  obtain ⟨j, _, hj⟩ := List.mem_filterMap.1 hq
                  cases hat : H1.at j with
                  | none => rw [hat] at hj; cases hj
                  | some e =>
                    rw [hat] at hj
                    simp only [Option.map_some] at hj
                    injection hj with hj
                    subst hj
                    refine .inr (tr ?_)
                    cases hm : (mask H (visIds E H (aeval E tmps) p)).at j with
                    | some e' => exact ⟨e', rfl⟩
                    | none =>
                      have hl := at_lt hat
                      rw [hlen] at hl
                      rw [(hS _ _ _ _ _ hO).2.2 j hl hm] at hat
                      cases hat
                · cases hst
              · cases hst
            · cases hst
          · exact (fin hst).imp id tr
        · exact (fin hst).imp id tr
      · cases h
    · cases h

/-- The items of an evaluation. -/
theorem evD_items {ms : List Nat} : ∀ (ps : List (Oper × Nat)) (i : Nat) (tmps : List AV) (H : AH) (t : List AV) (K : AH) (l : List Item), evD O P E ops i ms ps tmps H = some (t, K, l) →
    RunsD O P E ops l (tmps, H) (t, K) ∧ l.map (·.p) = ps ∧ (∀ r ∈ l, r.m = ms.getD r.i 0) ∧ l.map (·.i) = List.range' i ps.length
  | [], i, tmps, H, t, K, l, h => by
    simp only [evD] at h
    injection h with h; simp only [Prod.mk.injEq] at h; obtain ⟨rfl, rfl, rfl⟩ := h
    exact ⟨rfl, rfl, by simp, rfl⟩
  | p :: ps, i, tmps, H, t, K, l, h => by
    simp only [evD] at h
    split at h
    · rename_i v u S hd
      split at h
      · rename_i t' K' l' he
        injection h with h; simp only [Prod.mk.injEq] at h; obtain ⟨rfl, rfl, rfl⟩ := h
        obtain ⟨h1, h2, h3, h4⟩ := evD_items ps _ _ _ _ _ _ he
        refine ⟨⟨hd, h1⟩, by simp [h2], fun r hr => ?_, by simp [h4, List.range'_succ]⟩
        rcases List.mem_cons.1 hr with rfl | hr
        · rfl
        · exact h3 r hr
      · cases h
    · cases h

theorem chk_pairs : ∀ {l : List Item}, chk ops l = true → l.Pairwise fun r s => okPair ops r s = true
  | [], _ => .nil
  | r :: rs, h => by
    simp only [chk, Bool.and_eq_true] at h
    exact .cons (fun s hs => List.all_eq_true.1 h.1 s hs) (chk_pairs h.2)

theorem draw_ok (hS : Sound P E O) (hM : MethOk P E) {Q : Exit → Act → World → Prop} {s' : St} (hback : backOnly 0 ops.toList = true) : ∀ (n : Nat) (L : List Item) (listed : Array Bool) (s : St) {g : Gh} {w : World} {a : Act},
    L.length = n → (∀ r ∈ L, ops[r.i]? = some r.p.1 ∧ r.m = (masksFrom [] ops.toList).getD r.i 0) → (L.Pairwise fun r q => r.i < q.i) → (∀ j, j < ops.size → (listed.getD j true = false ↔ ∃ r ∈ L, r.i = j)) →
    (listed.size = ops.size) → (∀ j, listed.getD j false = true → ∀ k, ((masksFrom [] ops.toList).getD j 0).testBit k = true → listed.getD k false = true) → (L.Pairwise fun r q => okPair ops r q = true) →
    (∀ r ∈ L, needsId E r.p.1.op = true → r.p.2 < s.2.length ∧ s.2.at r.p.2 = none) → (∀ r ∈ L, ∀ q ∈ L, r.i ≠ q.i → needsId E r.p.1.op = true → needsId E q.p.1.op = true → r.p.2 ≠ q.p.2) →
    RunsD O P E ops L s s' → Rel g s.2 w → GlobOk E g → RepL g s.1 a.tmps.toList → a.defers = [] →
    (∀ g' a' w', Rel g' s'.2 w' → Post g s.2 w g' s'.2 w' → RepL g' s'.1 a'.tmps.toList → a'.defers = [] → Q .normal a' w') → wpAny P .any ops Q n listed a w := by
  intro n
  induction n with
  | zero =>
    intro L listed s g w a hn hL hso hlist hsz hcl hpr hf1 hf2 hrun R hG hT hd hQ
    have hL0 : L = [] := List.eq_nil_of_length_eq_zero hn
    subst hL0
    simp only [RunsD] at hrun
    subst hrun
    refine ⟨?_, hQ g a w R (Post.refl g s.2 w) hT hd⟩
    apply List.eq_nil_iff_forall_not_mem.2
    intro j hj
    obtain ⟨h1, o, ho, _⟩ := mem_ready.1 hj
    obtain ⟨r, hr, _⟩ := (hlist j (Array.getElem?_eq_some_iff.1 ho).1).1 h1
    cases hr
  | succ n ih =>
    intro L listed s g w a hn hL hso hlist hsz hcl hpr hf1 hf2 hrun R hG hT hd hQ
    have hlt : ∀ r ∈ L, r.i < ops.size := fun r hr => (Array.getElem?_eq_some_iff.1 (hL r hr).1).1
    have lst : ∀ j, j < ops.size → (¬ ∃ r ∈ L, r.i = j) → listed.getD j false = true := by
      intro j hj hno
      have : ¬ listed.getD j true = false := fun h => hno ((hlist j hj).1 h)
      have hjl : j < listed.size := by omega
      simp only [Array.getD_eq_getD_getElem?, Array.getElem?_eq_getElem hjl, Option.getD_some] at this ⊢
      simpa using this
    refine ⟨fun hr => ?_, fun i hi => ?_⟩
    · exfalso
      cases L with
      | nil => simp at hn
      | cons r L =>
        have hmem : r.i ∈ Region.ready .any ops listed := by
          refine mem_ready.2 ⟨(hlist r.i (hlt r List.mem_cons_self)).2 ⟨r, List.mem_cons_self, rfl⟩, r.p.1, (hL r List.mem_cons_self).1, fun e he hb => ?_⟩
          have hlt' := backOnly_lt ops.toList 0 r.i r.p.1 hback (by simpa using (hL r List.mem_cons_self).1) e (by simpa using he) hb
          rw [Nat.zero_add] at hlt'
          refine lst e.on (Nat.lt_trans hlt' (hlt r List.mem_cons_self)) ?_
          rintro ⟨q, hq, hqe⟩
          rcases List.mem_cons.1 hq with rfl | hq
          · omega
          · have := (List.pairwise_cons.1 hso).1 q hq
            omega
        rw [hr] at hmem
        cases hmem
    · obtain ⟨hun, o, ho, hdeps⟩ := mem_ready.1 hi
      obtain ⟨r, hr, rfl⟩ := (hlist i (Array.getElem?_eq_some_iff.1 ho).1).1 hun
      obtain ⟨L1, L2, rfl⟩ := List.append_of_mem hr
      have hro := (hL r hr).1
      rw [ho] at hro
      injection hro with hro
      have hind : ∀ q ∈ L1, Ind ops q r := by
        intro q hq
        refine okPair_ind ((List.pairwise_append.1 hpr).2.2 q hq r List.mem_cons_self) ?_
        cases hb : r.m.testBit q.i with
        | false => rfl
        | true =>
          exfalso
          have hqL : q ∈ L1 ++ r :: L2 := List.mem_append_left _ hq
          have hqu : listed.getD q.i true = false := (hlist q.i (hlt q hqL)).2 ⟨q, hqL, rfl⟩
          have hqf : listed.getD q.i false ≠ true := by
            have hjl : q.i < listed.size := by have := hlt q hqL; omega
            simp only [Array.getD_eq_getD_getElem?, Array.getElem?_eq_getElem hjl, Option.getD_some] at hqu ⊢
            simp [hqu]
          rw [(hL r hr).2] at hb
          obtain ⟨e, he, heb, h1⟩ := mask_bit (by simpa using (hL r hr).1) hb
          have hle := hdeps e (by rw [hro]; simpa using he) heb
          rcases h1 with h1 | h1
          · rw [h1] at hle; exact hqf hle
          · exact hqf (hcl e.on hle q.i h1)
      have hrun' := front hrun hind
      simp only [RunsD] at hrun'
      obtain ⟨hstep, hrest⟩ := hrun'
      have hmemL : ∀ q ∈ L1 ++ L2, q ∈ L1 ++ r :: L2 := fun q hq => by
        rcases List.mem_append.1 hq with h | h
        · exact List.mem_append_left _ h
        · exact List.mem_append_right _ (List.mem_cons_of_mem _ h)
      have hne : ∀ q ∈ L1 ++ L2, q.i ≠ r.i := fun q hq => by
        have hp := List.pairwise_append.1 hso
        rcases List.mem_append.1 hq with h | h
        · have := hp.2.2 q h r List.mem_cons_self; omega
        · have := (List.pairwise_cons.1 hp.2.1).1 q h; omega
      have hsub : (L1 ++ L2).Sublist (L1 ++ r :: L2) := List.Sublist.append (List.Sublist.refl _) (List.sublist_cons_self _ _)
      have hril : r.i < listed.size := by have := hlt r hr; omega
      have next : ∀ {g' : Gh} {u : Value} {w' : World}, Rel g' (app r s).2 w' → Post g s.2 w g' (app r s).2 w' → RepV g' r.v u → wpAny P .any ops Q n (listed.setIfInBounds r.i true) (a.put r.p.1.dst u) w' := by
        intro g' u w' R' p' hv
        refine ih (L1 ++ L2) _ (app r s) (by simp at hn ⊢; omega) (fun q hq => hL q (hmemL q hq)) (hso.sublist hsub) (fun j hj => ?_) (by simpa using hsz) (fun j hj k hk => ?_) (hpr.sublist hsub)
          (fun q hq hnq => ?_) (fun q hq q' hq' => hf2 q (hmemL q hq) q' (hmemL q' hq')) hrest R' (hG.mono p'.le) (putT_ok (RepL.mono p'.le _ _ hT) hv) (by rw [put_defers]; exact hd)
          (fun g2 a2 w2 R2 p2 => hQ g2 a2 w2 R2 (Post.trans R p' p2))
        · by_cases hji : r.i = j
          · subst hji
            constructor
            · intro h
              simp [hril] at h
            · rintro ⟨q, hq, hqe⟩
              exact absurd hqe (hne q hq)
          · rw [getD_set_ne true hji, hlist j hj]
            constructor
            · rintro ⟨q, hq, rfl⟩
              refine ⟨q, ?_, rfl⟩
              rcases List.mem_append.1 hq with h | h
              · exact List.mem_append_left _ h
              · rcases List.mem_cons.1 h with rfl | h
                · exact absurd rfl hji
                · exact List.mem_append_right _ h
            · rintro ⟨q, hq, rfl⟩
              exact ⟨q, hmemL q hq, rfl⟩
        · by_cases hji : r.i = j
          · subst hji
            obtain ⟨e, he, heb, h1⟩ := mask_bit (by simpa using (hL r hr).1) hk
            have hle := hdeps e (by rw [hro]; simpa using he) heb
            rcases h1 with h1 | h1
            · rw [← h1]; exact getD_set_true hle
            · exact getD_set_true (hcl e.on hle k h1)
          · rw [getD_set_ne false hji] at hj
            exact getD_set_true (hcl j hj k hk)
        · obtain ⟨h1, h2⟩ := hf1 q (hmemL q hq) hnq
          refine ⟨by show _ < (applyUps s.2 r.u).length; rw [length_applyUps]; exact h1, ?_⟩
          show (applyUps s.2 r.u).at q.p.2 = none
          rw [at_applyUps_free, h2]
          intro x hx he
          rcases dstep_free hS hstep x hx with ⟨h3, h4⟩ | ⟨e, h3⟩
          · exact hf2 q (hmemL q hq) r hr (hne q hq) hnq h4 (he.symm.trans h3)
          · rw [he, h2] at h3; cases h3
      unfold wpOp
      simp only [ho]
      rw [hro]
      -- what the step did
      have hst := hstep
      have hSS := dstep_S hstep
      unfold dstep at hst
      split at hst
      · cases hst
      · rename_i hw
        rw [wantedA_ok hT hw]
        simp only [Bool.false_eq_true, if_false]
        injection hst with hst; simp only [Prod.mk.injEq] at hst
        obtain ⟨hv, hu, _⟩ := hst
        refine next (g' := g) (by unfold app; rw [← hu]; exact R) (by unfold app; rw [← hu]; exact Post.refl _ _ _) (by rw [← hv]; simp [AV.nothing, RepV, RepL, undef])
      · rename_i hw
        rw [wantedA_ok hT hw]
        simp only [if_true]
        split at hst
        · rename_i v1 u1 hsu
          split at hst
          · injection hst with hst; simp only [Prod.mk.injEq] at hst
            obtain ⟨hv, hu, _⟩ := hst
            refine .inl (stepU_ok hS hM R hG hT (fun hn => ⟨(hf1 r hr hn).1, (hf1 r hr hn).2, by unfold visIds; rw [if_pos hn]; exact List.mem_cons_self⟩) hsu fun g' cv w' h1 h2 h3 => ?_)
            exact next (by unfold app; rw [← hu]; exact h1) (by unfold app; rw [← hu]; exact h2) (by rw [← hv]; exact h3)
          · cases hst
        · cases hst

theorem withIds_fst : ∀ (os : List Oper) (n : Nat), (withIds E os n).map (·.1) = os
  | [], _ => rfl
  | o :: os, n => by simp [withIds, withIds_fst os]

/-- A region, whatever order is drawn. -/
theorem evDraw_ok (hS : Sound P E O) (hM : MethOk P E) (hmix : P.follows .mixedOrders = true) {Q : Exit → Act → World → Prop} {id : Nat} {g : Gh} {H : AH} {w : World} {tmps tmps' : List AV} {a : Act} {H' : AH}
    (h : evDraw O P E ops tmps H = some (tmps', H')) (R : Rel g H w) (hG : GlobOk E g) (hT : RepL g tmps a.tmps.toList) (hd : a.defers = [])
    (hQ : ∀ g' a' w', Rel g' H' w' → Post g H w g' H' w' → RepL g' tmps' a'.tmps.toList → a'.defers = [] → Q .normal a' w') : (Code.region id ops true).wp P Q a w := by
  unfold evDraw at h
  split at h
  · rename_i t K l he
    split at h
    · rename_i hc
      injection h with h; simp only [Prod.mk.injEq] at h; obtain ⟨rfl, rfl⟩ := h
      obtain ⟨h1, h2, h3, h4⟩ := evD_items _ _ _ _ _ _ _ he
      have hlen : l.length = ops.size := by
        have := congrArg List.length h2
        rw [List.length_map] at this
        rw [this]
        have := congrArg List.length (withIds_fst (E := E) ops.toList H.length)
        rw [List.length_map] at this
        simpa using this
      have hps : (withIds E ops.toList H.length).length = ops.size := by rw [← h2, List.length_map, hlen]
      rw [hps] at h4
      have hi : ∀ (k : Nat) (r : Item), l[k]? = some r → r.i = k := by
        intro k r hk
        have hk' : k < ops.size := by rw [← hlen]; exact (List.getElem?_eq_some_iff.1 hk).1
        have := congrArg (fun x => x[k]?) h4
        simp only [List.getElem?_map, hk, Option.map_some] at this
        rw [List.getElem?_range' hk'] at this
        injection this with this
        omega
      have hready := ready_withIds (E := E) H 0 (fun _ _ _ => trivial) ops.toList H.length (grow H (idCount E ops.toList)) (fun id hid => by rw [at_grow]; exact at_ge hid) (by simp [grow])
      rw [← h2] at hready
      refine wp_region_any hmix (draw_ok hS hM hc.2 ops.size l _ (tmps, grow H (idCount E ops.toList)) hlen (fun r hr => ?_) ?_ (fun j hj => ?_) (by simp) (fun j hj => ?_) (chk_pairs hc.1) ?_ ?_ h1
        ((R.grow _).same rfl) hG hT hd (fun g' a' w' R' p' => hQ g' a' w' R' ?_))
      · obtain ⟨k, hk⟩ := List.mem_iff_getElem?.1 hr
        have hik := hi k r hk
        refine ⟨?_, h3 r hr⟩
        have := congrArg (fun x => (x.map (·.1))[k]?) h2
        simp only [List.getElem?_map, hk, Option.map_some] at this
        have h5 := congrArg (fun x => x[k]?) (withIds_fst (E := E) ops.toList H.length)
        simp only [List.getElem?_map] at h5
        rw [h5] at this
        rw [hik, ← Array.getElem?_toList]
        exact this.symm
      · rw [List.pairwise_iff_getElem]
        intro x y hx hy hxy
        have e1 := hi x l[x] (List.getElem?_eq_getElem hx)
        have e2 := hi y l[y] (List.getElem?_eq_getElem hy)
        omega
      · constructor
        · intro _
          have hjl : j < l.length := by rw [hlen]; exact hj
          exact ⟨l[j], List.getElem_mem hjl, hi j _ (List.getElem?_eq_getElem hjl)⟩
        · intro _
          simp [hj]
      · simp only [Array.getD_eq_getD_getElem?] at hj
        rw [Array.getElem?_replicate] at hj
        split at hj <;> simp at hj
      · -- each has its number
        have : ∀ {ps : List (Oper × Nat)}, Ready E (grow H (idCount E ops.toList)) ps → ∀ p ∈ ps, needsId E p.1.op = true → p.2 < (grow H (idCount E ops.toList)).length ∧ (grow H (idCount E ops.toList)).at p.2 = none := by
          intro ps hr
          induction hr with
          | nil => simp
          | cons p ps r1 r2 r3 ih =>
            intro q hq
            rcases List.mem_cons.1 hq with rfl | hq
            · exact r1
            · exact ih q hq
        exact fun r hr hn => this hready r.p (List.mem_map_of_mem hr) hn
      · have : ∀ {l : List Item}, Ready E (grow H (idCount E ops.toList)) (l.map (·.p)) → (l.Pairwise fun r q => needsId E r.p.1.op = true → needsId E q.p.1.op = true → q.p.2 ≠ r.p.2) := by
          intro l
          induction l with
          | nil => intro _; exact .nil
          | cons r l ih =>
            intro hr
            simp only [List.map_cons] at hr
            cases hr with
            | cons _ _ r1 r2 r3 => exact .cons (fun q hq hn hn' => r2 hn q.p (List.mem_map_of_mem hq) hn') (ih r3)
        have hpw := this hready
        intro r hr q hq hne hn1 hn2
        obtain ⟨x, hx⟩ := List.mem_iff_getElem.1 hr
        obtain ⟨y, hy⟩ := List.mem_iff_getElem.1 hq
        obtain ⟨hxl, rfl⟩ := hx
        obtain ⟨hyl, rfl⟩ := hy
        rw [List.pairwise_iff_getElem] at hpw
        rcases Nat.lt_trichotomy x y with hxy | hxy | hxy
        · exact fun e => hpw x y hxl hyl hxy hn1 hn2 e.symm
        · subst hxy; exact absurd rfl hne
        · exact hpw y x hyl hxl hxy hn2 hn1
      · have := Post.trans (R.grow (idCount E ops.toList)) (Post.drew g (grow H (idCount E ops.toList)) w) p'
        exact this.ungrow
    · cases h
  · cases h
end Go.Proofs.Fw
