/- What an operation is told to do, it does: append; all operations that call nothing. -/
import Derived.Test.YtpmonaempgjgbaaDoorFwOps5
namespace Go.Proofs.Fw
open Go.RowKit
variable {P : Program} {g : Gh} {H : AH} {w : World}

theorem run_append_grow' (t u ty e : TypeId) (i : TypeInfo) (z : Value) (d : TypeDesc) (ht : P.underlying t = some (.slice e)) (hu : P.underlying u = some d) (hd : ∀ k, d ≠ .int k) (hi : P.info? e = some i) (hz : i.zero = some z)
    (base : Option Addr) (sLen sCap m : Nat) (olds news : List Value) (xv : Value)
    (hlen : ∀ w' : World, (Builtin.lenOf xv).run P w' = .ok m w') (hnew : ∀ w' : World, w'.heap = w.heap → (Builtin.firstCells i.size m xv).run P w' = .ok (List.toArray news) w')
    (hold : ∀ w' : World, w'.heap = w.heap → (Builtin.firstCells i.size sLen (.slice base sLen sCap)).run P w' = .ok (List.toArray olds) w')
    (hg : sCap < sLen + m) (h63 : ((sLen + m : Nat) : Int) ≤ 9223372036854775807) (hfit : Builtin.nextslicecap (sLen + m) sCap * i.bytes ≤ 281474976710656) :
    (Builtin.append_ #[t, u] ty #[.slice base sLen sCap, xv]).run P w =
      .ok (.slice (some ⟨w.heap.size, 0, none⟩) (sLen + m) (grownCap w (sLen + m) sCap e))
        (w.drew.alloc (.cells (List.toArray (olds ++ news) ++ Builtin.zeroCells z.cells (grownCap w (sLen + m) sCap e - (sLen + m))) e)) := by
  have hn : ¬ (sLen + m ≤ sCap) := by omega
  have h63' : ¬ (9223372036854775807 < ((sLen : Int) + (m : Int))) := by omega
  have h48' : ¬ (281474976710656 < Builtin.nextslicecap (sLen + m) sCap * i.bytes) := by omega
  have hf := hnew w.drew rfl
  have hfo := hold w.drew rfl
  simp [Builtin.append_, run_underlying ht, run_underlying hu, sizeOf, typeInfo, zeroValue, hi, hz, hlen, hn, h63', h48', Question.forced, hf, hfo, newRow, grownCap]
  congr 2
  apply Array.ext'
  simp [List.append_assoc]

theorem run_append_room' (t u ty e : TypeId) (i : TypeInfo) (d : TypeDesc) (ht : P.underlying t = some (.slice e)) (hu : P.underlying u = some d) (hd : ∀ k, d ≠ .int k) (hi : P.info? e = some i)
    (b sLen sCap m : Nat) (news : List Value) (xv : Value) (cur : Array Value) (el : TypeId) (hcur : w.heap[b]? = some (.cells cur el (0, 0)))
    (hlen : ∀ w' : World, (Builtin.lenOf xv).run P w' = .ok m w') (hnew : ∀ w' : World, w'.heap = w.heap → (Builtin.firstCells i.size m xv).run P w' = .ok (List.toArray news) w')
    (h1 : ∀ u ∈ news, u.oneCell' = true) (hroom : sLen + m ≤ sCap) (hfit : sLen * i.size + news.length ≤ cur.size) :
    (Builtin.append_ #[t, u] ty #[.slice (some ⟨b, 0, none⟩) sLen sCap, xv]).run P w =
      .ok (.slice (some ⟨b, 0, none⟩) (sLen + m) sCap) (w.setRow b (cur.toList.take (sLen * i.size) ++ news ++ cur.toList.drop (sLen * i.size + news.length)).toArray) := by
  have hf := hnew w rfl
  have hst := run_storeCells_at P b (sLen * i.size) el news 0 cur w hcur (by simpa using hfit) h1
  simp only [Nat.add_zero] at hst
  simp [Builtin.append_, run_underlying ht, run_underlying hu, sizeOf, typeInfo, hi, hlen, hroom, hf, Addr.add_lit, hst]

theorem run_append_zero' (t u ty e : TypeId) (i : TypeInfo) (d : TypeDesc) (ht : P.underlying t = some (.slice e)) (hu : P.underlying u = some d) (hd : ∀ k, d ≠ .int k) (hi : P.info? e = some i)
    (base : Option Addr) (sLen sCap : Nat) (xv : Value) (hlen : ∀ w' : World, (Builtin.lenOf xv).run P w' = .ok 0 w') (hnew : ∀ w' : World, w'.heap = w.heap → (Builtin.firstCells i.size 0 xv).run P w' = .ok #[] w') (hc : sLen ≤ sCap) :
    (Builtin.append_ #[t, u] ty #[.slice base sLen sCap, xv]).run P w = .ok (.slice base sLen sCap) w := by
  have hf := hnew w rfl
  cases base <;> simp [Builtin.append_, run_underlying ht, run_underlying hu, sizeOf, typeInfo, hi, hlen, hc, hf, storeCells]

/-- What is copied, as the machine reads it. -/
theorem copied_ok' (R : Rel g H w) {sz : Nat} {x : AV} {m : Nat} {ys : List AV} (h : copied H sz x = some (m, ys)) {xv : Value} (hx : RepV g x xv) :
    ∃ news : List Value, RepL g ys news ∧ news.length = m * sz ∧ (∀ w' : World, (Builtin.lenOf xv).run P w' = .ok m w') ∧
      (∀ k, k ≤ m → ∀ w' : World, w'.heap = w.heap → (Builtin.firstCells sz k xv).run P w' = .ok (List.toArray (news.take (k * sz))) w') := by
  unfold copied at h
  split at h
  · injection h with h
    simp only [Prod.mk.injEq] at h
    obtain ⟨rfl, rfl⟩ := h
    simp only [RepV] at hx; subst hx
    exact ⟨[], by simp [RepL], by simp, fun _ => rfl, fun _ _ _ _ => by simp [Builtin.firstCells]⟩
  · rename_i ow sz' n cs
    split at h
    · rename_i hsz
      subst hsz
      injection h with h
      simp only [Prod.mk.injEq] at h
      obtain ⟨rfl, rfl⟩ := h
      simp only [RepV] at hx
      obtain ⟨b, o, cap, vs, rfl, hr, hh, hl, _⟩ := hx
      have hvl : vs.length = n * sz' := by rw [hr.length, hl]
      refine ⟨vs, hr, hvl, fun _ => rfl, fun k hk w' hw => ?_⟩
      have hkm : k * sz' ≤ n * sz' := Nat.mul_le_mul_right _ hk
      refine run_firstCells_some w' sz' k ⟨b, o, none⟩ n cap _ (by simp; omega) (fun j v hj => ?_)
      rw [Addr.add_lit, cell?_of_heap (w := w) (by rw [hw])]
      rw [List.getElem?_take] at hj
      split at hj
      · exact R.imm _ _ _ (hh j v hj)
      · cases hj
    · cases h
  · rename_i id off sz' n c
    split at h
    · rename_i cs hH
      split at h
      · rename_i hc
        obtain ⟨rfl, hfit⟩ := hc
        injection h with h
        simp only [Prod.mk.injEq] at h
        obtain ⟨rfl, rfl⟩ := h
        simp only [RepV] at hx
        obtain ⟨b, hM, rfl, _⟩ := hx
        obtain ⟨vs, el, h1, h2, h3⟩ := box_cells R hH hM
        have hvl := h2.length
        have hl : ((vs.drop off).take (n * sz')).length = n * sz' := by simp; omega
        refine ⟨(vs.drop off).take (n * sz'), (h2.drop off).take _, hl, fun _ => rfl, fun k hk w' hw => ?_⟩
        have hkm : k * sz' ≤ n * sz' := Nat.mul_le_mul_right _ hk
        refine run_firstCells_some w' sz' k ⟨b, off, none⟩ n c _ (by rw [List.length_take, hl]; omega) (fun j v hj => ?_)
        rw [Addr.add_lit, cell?_of_heap (w := w) (by rw [hw])]
        rw [List.getElem?_take] at hj
        split at hj
        · rw [List.getElem?_take] at hj
          split at hj
          · rw [List.getElem?_drop] at hj
            have := h3 _ _ hj
            rwa [Nat.zero_add] at this
          · cases hj
        · cases hj
      · cases h
    · cases h
  · rename_i s
    split at h
    · rename_i hsz
      subst hsz
      injection h with h
      simp only [Prod.mk.injEq] at h
      obtain ⟨rfl, rfl⟩ := h
      simp only [RepV] at hx; subst hx
      refine ⟨_, strCells_ok s, by simp, fun _ => rfl, fun k hk w' hw => ?_⟩
      simp only [Builtin.firstCells, Sem.run_pure]
      rw [extract_mk]
      simp
    · cases h
  · cases h

theorem copied_ok (R : Rel g H w) {sz : Nat} {x : AV} {m : Nat} {ys : List AV} (h : copied H sz x = some (m, ys)) {xv : Value} (hx : RepV g x xv) :
    ∃ news : List Value, RepL g ys news ∧ news.length = m * sz ∧ (∀ w' : World, (Builtin.lenOf xv).run P w' = .ok m w') ∧
      (∀ w' : World, w'.heap = w.heap → (Builtin.firstCells sz m xv).run P w' = .ok (List.toArray news) w') := by
  obtain ⟨news, h1, h2, h3, h4⟩ := copied_ok' (P := P) R h hx
  refine ⟨news, h1, h2, h3, fun w' hw => ?_⟩
  rw [h4 m (Nat.le_refl _) w' hw, List.take_of_length_le (by omega)]

theorem aappend_ok (R : Rel g H w) {fid : Nat} {t u ty : TypeId} {s x r : AV} {up : Ups} (h : aappend P H fid t u s x = some (r, up)) {sv xv : Value} (hs : RepV g s sv) (hx : RepV g x xv)
    (hid : fid < H.length ∧ H.at fid = none) :
    ∃ g' rv w', (Builtin.append_ #[t, u] ty #[sv, xv]).run P w = .ok rv w' ∧ Rel g' (applyUps H up) w' ∧ Post g H w g' (applyUps H up) w' ∧ RepV g' r rv := by
  obtain ⟨hl, hf⟩ := hid
  unfold aappend at h
  split at h
  · rename_i e ht
    split at h
    · rename_i i hi
      split at h
      · rename_i z hz
        split at h
        · rename_i hc
          obtain ⟨hzs, hsz, hbs⟩ := hc
          have hud : ∃ d, P.underlying u = some d ∧ ∀ k, d ≠ .int k := by
            unfold isByteStr at hbs
            by_cases htu : t = u
            · subst htu; exact ⟨_, ht, by simp⟩
            · have : (t == u) = false := by simpa using htu
              rw [this, Bool.false_or] at hbs
              split at hbs
              · rename_i h1 h2; exact ⟨_, h1, by simp⟩
              · cases hbs
          obtain ⟨d, hu, hd⟩ := hud
          split at h
          · rename_i m ys ha
            obtain ⟨news, hn1, hn2, hn3, hn4⟩ := copied_ok (P := P) R ha hx
            split at h
            · rename_i hone
              have hones := ones_ok hn1 hone
              have grow : ∀ (base : Option Addr) (n cap : Nat) (xs : List AV) (olds : List Value) (id : Nat), RepL g xs olds → olds.length = n * i.size → id < H.length →
                  (H.at id = none ∨ ∃ n0 b0 cap0, H.at id = some (.tok n0) ∧ g.M id = some (.tok b0 n0 i.size cap0) ∧ n0 < n + m) →
                  (∀ w' : World, w'.heap = w.heap → (Builtin.firstCells i.size n (.slice base n cap)).run P w' = .ok (List.toArray olds) w') → cap < n + m → (n + m) * i.bytes ≤ 140737488355328 → n + m ≤ 4611686018427387904 →
                  ∃ g' rv w', (Builtin.append_ #[t, u] ty #[.slice base n cap, xv]).run P w = .ok rv w' ∧ Rel g' (H.set id (some (.tok (n + m)))) w' ∧ Post g H w g' (H.set id (some (.tok (n + m)))) w' ∧
                    RepV g' (.slice (.tok id) i.size (n + m) (xs ++ ys)) rv := by
                intro base n cap xs olds id hxs holl hidl hidf hold hgr hby h62
                have hrun := run_append_grow' (P := P) (w := w) t u ty e i z d ht hu hd hi hz base n cap m olds news xv hn3 hn4 hold hgr (by omega) (growslice_fits hgr hby)
                have hcg := grownCap_ge w (n + m) cap e
                obtain ⟨g', h1, h2, h3, h4⟩ := (R.drew).tok_grow (List.toArray (olds ++ news) ++ Builtin.zeroCells z.cells (grownCap w (n + m) cap e - (n + m))) e (olds ++ news)
                  (fun j v hj => by
                    rw [Array.getElem?_append_left (by have := (List.getElem?_eq_some_iff.1 hj).1; simpa using this)]
                    simpa using hj)
                  id (n + m) i.size (grownCap w (n + m) cap e) hidl (by rw [List.length_append, holl, hn2, Nat.add_mul])
                  (by simp only [Array.size_append, List.size_toArray, List.length_append, size_zeroCells, hzs, holl, hn2, ← Nat.add_mul]; exact Nat.le_of_eq (by congr 1; omega)) hcg hidf
                refine ⟨g', _, _, hrun, h1, Post.trans R (Post.drew g H w) h2, ?_⟩
                simp only [RepV]
                refine ⟨w.heap.size, 0, _, olds ++ news, rfl, RepL.mono h2.le _ _ (hxs.append hn1), h4, ?_, hcg, ?_⟩
                · have e1 := hxs.length
                  have e2 := hn1.length
                  rw [List.length_append, ← e1, ← e2, holl, hn2, Nat.add_mul]
                · exact ⟨w.heap.size, n + m, _, h3, Nat.le_refl _, fun _ => ⟨rfl, rfl, rfl⟩⟩
              split at h
              · -- onto nil
                simp only [RepV] at hs; subst hs
                split at h
                · rename_i hm
                  subst hm
                  injection h with h
                  simp only [Prod.mk.injEq] at h
                  obtain ⟨rfl, rfl⟩ := h
                  have hnn : news = [] := List.eq_nil_of_length_eq_zero (by simpa using hn2)
                  subst hnn
                  exact ⟨g, _, w, run_append_zero' (P := P) t u ty e i d ht hu hd hi none 0 0 xv hn3 hn4 (Nat.le_refl _), R, Post.refl g H w, by simp only [RepV]⟩
                · rename_i hm
                  split at h
                  · rename_i hb
                    injection h with h
                    simp only [Prod.mk.injEq] at h
                    obtain ⟨rfl, rfl⟩ := h
                    have := grow none 0 0 [] [] fid (by simp [RepL]) (by simp) hl (.inl hf) (fun w' _ => by simp [Builtin.firstCells]) (by omega) (by simpa using hb.1) (by simpa using hb.2)
                    simpa [applyUps] using this
                  · cases h
              · rename_i ow sz n xs
                split at h
                · rename_i hszz
                  subst hszz
                  have hs0 := hs
                  simp only [RepV] at hs
                  obtain ⟨b, o, cap, vs, rfl, hr, hh, hll, hnc, how⟩ := hs
                  have hvl : vs.length = n * i.size := by rw [hr.length, hll]
                  have hold : ∀ w' : World, w'.heap = w.heap → (Builtin.firstCells i.size n (.slice (some ⟨b, o, none⟩) n cap)).run P w' = .ok (List.toArray vs) w' := fun w' hw => by
                    refine run_firstCells_some w' i.size n ⟨b, o, none⟩ n cap vs hvl (fun j v hj => ?_)
                    rw [Addr.add_lit, cell?_of_heap (w := w) (by rw [hw])]
                    exact R.imm _ _ _ (hh j v hj)
                  split at h
                  · rename_i hm
                    subst hm
                    injection h with h
                    simp only [Prod.mk.injEq] at h
                    obtain ⟨rfl, rfl⟩ := h
                    have hnn : news = [] := List.eq_nil_of_length_eq_zero (by simpa using hn2)
                    subst hnn
                    exact ⟨g, _, w, run_append_zero' (P := P) t u ty e i d ht hu hd hi _ n cap xv hn3 hn4 hnc, R, Post.refl g H w, hs0⟩
                  · rename_i hm
                    split at h
                    · rename_i hb
                      split at h
                      · injection h with h
                        simp only [Prod.mk.injEq] at h
                        obtain ⟨rfl, rfl⟩ := h
                        simp only [OwnOk] at how
                        exact grow _ n cap xs vs fid hr hvl hl (.inl hf) hold (by omega) hb.1 hb.2
                      · rename_i k
                        split at h
                        · rename_i n' hk
                          split at h
                          · rename_i hnn
                            subst hnn
                            injection h with h
                            simp only [Prod.mk.injEq] at h
                            obtain ⟨rfl, rfl⟩ := h
                            obtain ⟨b', n2, cap', hM, hle, heq⟩ := how
                            obtain ⟨ge, hM', hrep⟩ := R.ent k _ hk (by simp)
                            rw [hM] at hM'
                            injection hM' with hM'
                            subst hM'
                            simp only [EntRep] at hrep
                            obtain ⟨rfl, hncap, ⟨cs0, el0, hheap, hfit0⟩, hGn⟩ := hrep
                            obtain ⟨rfl, rfl, rfl⟩ := heq rfl
                            have hkl : k < H.length := by
                              unfold AH.at at hk
                              rcases Nat.lt_or_ge k H.length with h | h
                              · exact h
                              · simp [List.getElem?_eq_none h] at hk
                            by_cases hroom : n' + m ≤ cap'
                            · have hfit : n' * i.size + news.length ≤ (List.toArray cs0).size := by
                                have : (n' + m) * i.size ≤ cap' * i.size := Nat.mul_le_mul_right _ hroom
                                rw [Nat.add_mul] at this
                                simp only [List.size_toArray]
                                omega
                              have hrun := run_append_room' (P := P) (w := w) t u ty e i d ht hu hd hi b' n' cap' m news xv (List.toArray cs0) el0 hheap hn3 hn4 hones hroom hfit
                              obtain ⟨g', q1, q2, q3, q4⟩ := R.tok_room k b' n' m i.size cap' news hk hM hn2 (by omega) hroom (List.toArray cs0) el0 hheap hfit
                              refine ⟨g', _, _, hrun, q1, q2, ?_⟩
                              simp only [RepV]
                              refine ⟨b', 0, cap', vs ++ news, rfl, RepL.mono q2.le _ _ (hr.append hn1), ?_, ?_, hroom, ?_⟩
                              · refine Gh.has_append (Gh.has_mono q2.le hh) ?_
                                rw [Nat.zero_add, hvl]
                                exact q4
                              · have e1 := hr.length
                                have e2 := hn1.length
                                rw [List.length_append, ← e1, ← e2, hvl, hn2, Nat.add_mul]
                              · exact ⟨b', n' + m, cap', q3, Nat.le_refl _, fun _ => ⟨rfl, rfl, rfl⟩⟩
                            · exact grow _ n' cap' xs vs k hr hvl hkl (.inr ⟨n', b', cap', hk, hM, by omega⟩) hold (by omega) hb.1 hb.2
                          · cases h
                        · cases h
                      · cases h
                    · cases h
                · cases h
              · rename_i id off sz n c
                split at h
                · rename_i cs hH
                  split at h
                  · rename_i hc
                    obtain ⟨rfl, hfit⟩ := hc
                    have hs0 := hs
                    simp only [RepV] at hs
                    obtain ⟨b, hM, rfl, hnc⟩ := hs
                    obtain ⟨vs, el, k1, k2, k3⟩ := box_cells R hH hM
                    have hvl := k2.length
                    have hlv : ((vs.drop off).take (n * i.size)).length = n * i.size := by simp; omega
                    have hold : ∀ w' : World, w'.heap = w.heap → (Builtin.firstCells i.size n (.slice (some ⟨b, off, none⟩) n c)).run P w' = .ok (List.toArray ((vs.drop off).take (n * i.size))) w' := fun w' hw => by
                      refine run_firstCells_some w' i.size n ⟨b, off, none⟩ n c _ hlv (fun j v hj => ?_)
                      rw [Addr.add_lit, cell?_of_heap (w := w) (by rw [hw])]
                      rw [List.getElem?_take] at hj
                      split at hj
                      · rw [List.getElem?_drop] at hj
                        have := k3 _ _ hj
                        rwa [Nat.zero_add] at this
                      · cases hj
                    split at h
                    · rename_i hm
                      subst hm
                      injection h with h
                      simp only [Prod.mk.injEq] at h
                      obtain ⟨rfl, rfl⟩ := h
                      have hnn : news = [] := List.eq_nil_of_length_eq_zero (by simpa using hn2)
                      subst hnn
                      exact ⟨g, _, w, run_append_zero' (P := P) t u ty e i d ht hu hd hi _ n c xv hn3 hn4 hnc, R, Post.refl g H w, hs0⟩
                    · rename_i hm
                      split at h
                      · rename_i hb
                        injection h with h
                        simp only [Prod.mk.injEq] at h
                        obtain ⟨rfl, rfl⟩ := h
                        exact grow _ n c _ _ fid ((k2.drop off).take _) hlv hl (.inl hf) hold hb.1 hb.2.1 hb.2.2
                      · cases h
                  · cases h
                · cases h
              · cases h
            · cases h
          · cases h
        · cases h
      · cases h
    · cases h
  · cases h

theorem wrap_i64 {n : Int} (h0 : 0 ≤ n) (h : n ≤ 9223372036854775807) : IntKind.i64.wrap n = n := by
  simp [IntKind.wrap, IntKind.bits, IntKind.signed]
  omega

theorem amakeSlice_ok (R : Rel g H w) {fid : Nat} {t : TypeId} {x y r : AV} {up : Ups} (h : amakeSlice P fid t x y = some (r, up)) {xv yv : Value} (hx : RepV g x xv) (hy : RepV g y yv)
    (hid : fid < H.length ∧ H.at fid = none) (hz0 : ∀ t z, zeroAV P t = some z → z.known = true) :
    ∃ g' rv w', (Instr.makeSlice t xv yv).run P w = .ok rv w' ∧ Rel g' (applyUps H up) w' ∧ Post g H w g' (applyUps H up) w' ∧ RepV g' r rv := by
  obtain ⟨hl, hf⟩ := hid
  unfold amakeSlice at h
  split at h
  · rename_i e k l k' c hu
    simp only [RepV] at hx hy
    subst hx hy
    split at h
    · rename_i n z i hn hz hi
      split at h
      · rename_i hc
        obtain ⟨hzn, hnp, hl0, hlc, hcb, hc63, hib⟩ := hc
        injection h with h
        simp only [Prod.mk.injEq] at h
        obtain ⟨rfl, rfl⟩ := h
        obtain ⟨i', zv, hi', hzz, hr⟩ := zeroAV_ok hz
        rw [hi] at hi'
        injection hi' with hi'
        subst hi'
        have hcz := cellsAV_ok (hr g) (hz0 _ z hz)
        have hczl : zv.cells.toList.length = n := hcz.length.trans hzn
        have hreps := reps_ok hcz c.toNat
        rw [hczl] at hreps
        obtain ⟨g', h1, h2, h3⟩ := R.alloc_box _ _ e fid hl hf hreps
        refine ⟨g', .slice (some ⟨w.heap.size, 0, none⟩) l.toNat c.toNat, _, ?_, h1, h2, ?_⟩
        · have hsz : zv.cells.size = n := by simpa using hczl
          have hloop : (Array.range (c.toNat * n)).map (fun x => zv.cells[x % zv.cells.size]!) = List.toArray ((List.range (c.toNat * n)).map fun x => zv.cells.toList[x % n]!) := by
            apply Array.ext'
            simp [hsz]
            intro a _
            rw [getElem!_def]
            cases zv.cells[a % n]? <;> rfl
          have w1 := wrap_i64 hl0 (by omega)
          have w2 := wrap_i64 (show 0 ≤ c by omega) hc63
          have t1 : ¬ (281474976710656 < (i.bytes : Int) * c) := by
            have : (i.bytes : Int) * c = c * i.bytes := Int.mul_comm _ _
            omega
          have t2 : ¬ (140737488355328 < c.toNat * i.bytes) := by
            have : ((c.toNat * i.bytes : Nat) : Int) = c * i.bytes := by rw [Int.natCast_mul, Int.toNat_of_nonneg (by omega)]
            omega
          have t3 : ¬ c < 0 := by omega
          have t4 : ¬ l < 0 := by omega
          have t5 : ¬ c < l := by omega
          simp only [Instr.makeSlice, Sem.run_bind, run_underlying hu, Result.andThen_ok, asInt, asIntOf, Sem.run_pure, run_info hi, w1, w2]
          rw [if_neg (by simp; omega)]
          have hroom : (askRoom (c.toNat * i.bytes)).run P w = .ok () w := by
            unfold askRoom
            split
            · rename_i hgt
              exact absurd hgt (by show ¬ (140737488355328 < c.toNat * i.bytes); exact t2)
            · rfl
          simp only [Sem.run_bind, hroom, Result.andThen_ok, run_size hn]
          by_cases hc0 : c.toNat * n = 0
          · rw [if_pos hc0]
            simp only [Sem.run_pure, Result.andThen_ok, Sem.run_bind]
            rw [hc0] at hloop ⊢
            have hz0' : ∀ f : Nat → Value, (Array.range 0).map f = List.toArray [] := fun f => by apply Array.ext'; simp
            rw [hz0']
            simp [newRow]
          · rw [if_neg hc0]
            simp only [Sem.run_pure, Result.andThen_ok, Sem.run_bind, zeroValue, run_info hi, hzz, hloop]
            simp [newRow]
        · simp only [RepV]
          exact ⟨_, h3, rfl, by omega⟩
      · cases h
    · cases h
  · cases h

theorem acopy_ok (R : Rel g H w) {t ty : TypeId} {d x r : AV} {up : Ups} (h : acopy P H t d x = some (r, up)) {dv xv : Value} (hd : RepV g d dv) (hx : RepV g x xv)
    {ts : Array TypeId} {xs : Array Value} (ht : ts[0]? = some t) (h0 : xs[0]? = some dv) (h1 : xs[1]? = some xv) :
    ∃ g' rv w', (Builtin.copy_ ts ty xs).run P w = .ok rv w' ∧ Rel g' (applyUps H up) w' ∧ Post g H w g' (applyUps H up) w' ∧ RepV g' r rv := by
  unfold acopy at h
  split at h
  · rename_i e id off sz n c hu
    split at h
    · rename_i sz' m ys cs hsz hc hH
      simp only at h
      split at h
      · rename_i hcond
        obtain ⟨rfl, hone, hfit⟩ := hcond
        injection h with h
        simp only [Prod.mk.injEq] at h
        obtain ⟨rfl, rfl⟩ := h
        obtain ⟨news, hn1, hn2, hn3, hn4⟩ := copied_ok' (P := P) R hc hx
        simp only [RepV] at hd
        obtain ⟨b, hM, rfl, hnc⟩ := hd
        obtain ⟨vs, el, k1, k2, k3⟩ := box_cells R hH hM
        have hvl := k2.length
        have hfirst := hn4 (min m n) (Nat.min_le_left _ _) w rfl
        have hst := run_storeCells_at P b off el (news.take (min m n * sz')) 0 (List.toArray vs) w k1 (by
          simp [hn2]
          have : min (min m n * sz') (m * sz') ≤ min m n * sz' := Nat.min_le_left _ _
          have := k2.length
          omega) (fun u hu => ones_ok hn1 hone u (List.mem_of_mem_take hu))
        simp only [Nat.add_zero] at hst
        have hw := R.write_box (w' := w.setRow b (List.take off vs ++ news.take (min m n * sz') ++ List.drop (off + (news.take (min m n * sz')).length) vs).toArray)
          (cs := putAt cs off (ys.take (min m n * sz'))) hH hM (setRow_heap w b _ _ el _ k1)
            (by simpa using putAt_ok k2 (hn1.take (min m n * sz')) off) (fun k hk => setRow_other w b k _ hk) (by simp [World.setRow]) rfl rfl rfl
        refine ⟨g, .int .i64 (min m n : Nat), _, ?_, hw.1, hw.2, by simp only [RepV]⟩
        simp only [Builtin.copy_, ht, h0, h1, Sem.run_bind, run_underlying hu, Result.andThen_ok, hn3 w, run_size hsz]
        have hmin : Nat.min m n = min m n := rfl
        simp only [hmin, hfirst, Result.andThen_ok, hst]
        rfl
      · cases h
    · cases h
  · cases h
end Go.Proofs.Fw
