/- Rows of appends: a new one, one that moves into a greater block, one that has room. -/
import Derived.Test.YtpmonaempgjgbaaDoorFwRel
namespace Go.Proofs.Fw
open Go.RowKit

theorem heap_alloc_self (w : World) (o : Obj) : (w.alloc o).heap[w.heap.size]? = some o := by
  show (w.heap.push o)[w.heap.size]? = _
  simp

theorem Rel.drew {g : Gh} {H : AH} {w : World} (R : Rel g H w) : Rel g H w.drew := R.same rfl
theorem Post.drew (g : Gh) (H : AH) (w : World) : Post g H w g H w.drew := Post.same rfl rfl rfl rfl

/-- A row of appends in a new block: a new one ('id' was free), or one that has moved. -/
theorem Rel.tok_grow {g : Gh} {H : AH} {w : World} (R : Rel g H w) (c : Array Value) (el : TypeId) (vs : List Value) (hv : ∀ (i : Nat) (v : Value), vs[i]? = some v → c[i]? = some v)
    (id N sz cap : Nat) (hid : id < H.length) (hl : vs.length = N * sz) (hc : cap * sz ≤ c.size) (hN : N ≤ cap)
    (hf : H.at id = none ∨ ∃ n0 b0 cap0, H.at id = some (.tok n0) ∧ g.M id = some (.tok b0 n0 sz cap0) ∧ n0 < N) :
    ∃ g', Rel g' (H.set id (some (.tok N))) (w.alloc (.cells c el)) ∧ Post g H w g' (H.set id (some (.tok N))) (w.alloc (.cells c el)) ∧
      g'.M id = some (.tok w.heap.size N sz cap) ∧ g'.has w.heap.size 0 vs := by
  have hold : ∀ b, b < w.heap.size → (w.alloc (.cells c el)).heap[b]? = w.heap[b]? := fun b hb => Below.heap_alloc w _ b hb
  let g' : Gh := { G := (g.row w.heap.size vs).G, M := fun j => if j = id then some (.tok w.heap.size N sz cap) else g.M j }
  have hM : ∀ j, j ≠ id → g'.M j = g.M j := fun j hj => by simp [g', hj]
  have hMi : g'.M id = some (.tok w.heap.size N sz cap) := by simp [g']
  have hGo : ∀ b i, b < w.heap.size → g'.G b i = g.G b i := fun b i hb => by
    show (if b = w.heap.size then vs[i]? else g.G b i) = _
    rw [if_neg (by omega)]
  have hGn : ∀ i, g'.G w.heap.size i = vs[i]? := fun i => by
    show (if w.heap.size = w.heap.size then vs[i]? else _) = _
    rw [if_pos rfl]
  have hle : g.le g' := ⟨fun b i v h => by rw [hGo b i (R.lt h)]; exact h, fun j e h => by
    by_cases hji : j = id
    · subst hji
      rcases hf with hf | ⟨n0, b0, cap0, _, h1, h2⟩
      · rw [R.free j hf] at h; cases h
      · rw [h1] at h
        injection h with h
        subst h
        exact ⟨_, hMi, rfl, .inl h2⟩
    · exact ⟨e, by rw [hM j hji]; exact h, e.le_refl⟩⟩
  refine ⟨g', ⟨?_, ?_, ?_, ?_, ?_⟩, ⟨hle, ?_, ?_, ?_, by simp, rfl, rfl, rfl⟩, hMi, ?_⟩
  · intro b i v h
    by_cases hb : b = w.heap.size
    · subst hb
      rw [hGn] at h
      have := hv i v h
      simp only [World.cell?, heap_alloc_self]
      exact this
    · have h' : g.G b i = some v := by
        have : g'.G b i = g.G b i := by show (if b = w.heap.size then vs[i]? else g.G b i) = _; rw [if_neg hb]
        rw [← this]; exact h
      exact (cell?_of_heap (hold b (R.lt h'))).trans (R.imm b i v h')
  · intro j hj
    rw [AH.at_set] at hj
    by_cases hji : j = id
    · subst hji; simp [hid] at hj
    · rw [if_neg (fun h => hji h.1.symm)] at hj
      rw [hM j hji]
      exact R.free j hj
  · intro j e he hne'
    rw [AH.at_set] at he
    by_cases hji : j = id
    · subst hji
      simp [hid] at he
      subst he
      refine ⟨_, hMi, rfl, hN, ⟨c.toList, el, by rw [heap_alloc_self], by simpa using hc⟩, fun i hi => ?_⟩
      rw [hGn, List.getElem?_eq_none (by omega)]
    · rw [if_neg (fun h => hji h.1.symm)] at he
      obtain ⟨ge, hMj, hr⟩ := R.ent j e he hne'
      have hb := R.blk j ge hMj
      exact ⟨ge, by rw [hM j hji]; exact hMj, hr.keep hle (hold _ hb) (fun i => hGo _ i hb)⟩
  · intro j k e e' hj hk hb
    by_cases hji : j = id
    · by_cases hki : k = id
      · rw [hji, hki]
      · rw [hji, hMi] at hj
        rw [hM k hki] at hk
        injection hj with hj
        subst hj
        have := R.blk k e' hk
        have hb' : w.heap.size = e'.block := hb
        omega
    · rw [hM j hji] at hj
      by_cases hki : k = id
      · rw [hki, hMi] at hk
        injection hk with hk
        subst hk
        have := R.blk j e hj
        have hb' : e.block = w.heap.size := hb
        omega
      · rw [hM k hki] at hk
        exact R.inj j k e e' hj hk hb
  · intro j e hj
    simp only [World.size_alloc]
    by_cases hji : j = id
    · rw [hji, hMi] at hj
      injection hj with hj
      subst hj
      simp [GEnt.block]
    · rw [hM j hji] at hj
      have := R.blk j e hj
      omega
  · intro j hj
    have hji : j ≠ id := fun h => by
      subst h
      rcases hf with hf | ⟨n0, b0, cap0, hf, _, _⟩ <;> rw [hf] at hj <;> cases hj
    refine ⟨hM j hji, ?_⟩
    rw [AH.at_set, if_neg (fun h => hji h.1.symm)]
    exact hj
  · intro j e hj
    by_cases hji : j = id
    · rw [hji, hMi] at hj
      injection hj with hj
      subst hj
      exact .inr (Nat.le_refl _)
    · rw [hM j hji] at hj
      exact .inl ⟨e, hj, rfl⟩
  · exact fun b hb _ => ⟨hold b hb, fun i => hGo b i hb⟩
  · intro i v h
    rw [Nat.zero_add, hGn]
    exact h

/-- A row of appends that has room. -/
theorem Rel.tok_room {g : Gh} {H : AH} {w : World} (R : Rel g H w) (id b n m sz cap : Nat) (news : List Value) (hid : H.at id = some (.tok n)) (hM : g.M id = some (.tok b n sz cap))
    (hl : news.length = m * sz) (hm : 0 < m) (hroom : n + m ≤ cap) (cur : Array Value) (el : TypeId) (hcur : w.heap[b]? = some (.cells cur el (0, 0))) (hfit : n * sz + news.length ≤ cur.size) :
    ∃ g', Rel g' (H.set id (some (.tok (n + m)))) (w.setRow b (cur.toList.take (n * sz) ++ news ++ cur.toList.drop (n * sz + news.length)).toArray) ∧
      Post g H w g' (H.set id (some (.tok (n + m)))) (w.setRow b (cur.toList.take (n * sz) ++ news ++ cur.toList.drop (n * sz + news.length)).toArray) ∧
      g'.M id = some (.tok b (n + m) sz cap) ∧ g'.has b (n * sz) news := by
  have hblt : b < w.heap.size := R.blk id _ hM
  have hent := R.ent id _ hid (by simp)
  obtain ⟨ge, hM', hrep⟩ := hent
  rw [hM] at hM'
  injection hM' with hM'
  subst hM'
  obtain ⟨_, hnc, ⟨vs0, el0, hheap, hcs⟩, hGnone⟩ := hrep
  have hidl : id < H.length := by
    unfold AH.at at hid
    rcases Nat.lt_or_ge id H.length with h | h
    · exact h
    · simp [List.getElem?_eq_none h] at hid
  let W := w.setRow b (cur.toList.take (n * sz) ++ news ++ cur.toList.drop (n * sz + news.length)).toArray
  have hold : ∀ k, k ≠ b → W.heap[k]? = w.heap[k]? := fun k hk => setRow_other w b k _ hk
  have hnew : W.heap[b]? = some (.cells (cur.toList.take (n * sz) ++ news ++ cur.toList.drop (n * sz + news.length)).toArray el (0, 0)) := setRow_heap w b cur _ el _ hcur
  have hsize : W.heap.size = w.heap.size := by simp [W, World.setRow]
  let g' : Gh := { G := fun k i => if k = b ∧ n * sz ≤ i then news[i - n * sz]? else g.G k i, M := fun j => if j = id then some (.tok b (n + m) sz cap) else g.M j }
  have hMo : ∀ j, j ≠ id → g'.M j = g.M j := fun j hj => by simp [g', hj]
  have hMi : g'.M id = some (.tok b (n + m) sz cap) := by simp [g']
  have hGo : ∀ k i, (k ≠ b ∨ i < n * sz) → g'.G k i = g.G k i := fun k i h => by
    show (if k = b ∧ n * sz ≤ i then _ else _) = _
    rw [if_neg (by omega)]
  have hGn : ∀ i, n * sz ≤ i → g'.G b i = news[i - n * sz]? := fun i h => by
    show (if b = b ∧ n * sz ≤ i then _ else _) = _
    rw [if_pos ⟨rfl, h⟩]
  have hle : g.le g' := ⟨fun k i v h => by
      by_cases hk : k = b
      · subst hk
        rcases Nat.lt_or_ge i (n * sz) with hi | hi
        · rw [hGo _ _ (.inr hi)]; exact h
        · rw [hGnone i hi] at h; cases h
      · rw [hGo _ _ (.inl hk)]; exact h, fun j e h => by
      by_cases hji : j = id
      · subst hji
        rw [hM] at h
        injection h with h
        subst h
        exact ⟨_, hMi, rfl, .inl (by omega)⟩
      · exact ⟨e, by rw [hMo j hji]; exact h, e.le_refl⟩⟩
  refine ⟨g', ⟨?_, ?_, ?_, ?_, ?_⟩, ⟨hle, ?_, ?_, ?_, by rw [hsize]; exact Nat.le_refl _, rfl, rfl, rfl⟩, hMi, ?_⟩
  · intro k i v h
    by_cases hk : k = b
    · subst hk
      show W.cell? _ = _
      simp only [World.cell?, hnew]
      rcases Nat.lt_or_ge i (n * sz) with hi | hi
      · rw [hGo _ _ (.inr hi)] at h
        have hc := R.imm k i v h
        simp only [World.cell?, hcur] at hc
        have hlt : i < (cur.toList.take (n * sz)).length := by simp; omega
        simp only [List.getElem?_toArray, List.append_assoc]
        rw [List.getElem?_append_left hlt, List.getElem?_take, if_pos hi]
        simpa using hc
      · rw [hGn i hi] at h
        have hlen : (cur.toList.take (n * sz)).length = n * sz := by simp; omega
        have hlt : i - n * sz < news.length := (List.getElem?_eq_some_iff.1 h).1
        simp only [List.getElem?_toArray, List.append_assoc]
        rw [List.getElem?_append_right (by omega), hlen, List.getElem?_append_left hlt]
        simpa using h
    · rw [hGo _ _ (.inl hk)] at h
      exact (cell?_of_heap (hold k hk)).trans (R.imm k i v h)
  · intro j hj
    rw [AH.at_set] at hj
    by_cases hji : j = id
    · subst hji; simp [hidl] at hj
    · rw [if_neg (fun h => hji h.1.symm)] at hj
      rw [hMo j hji]
      exact R.free j hj
  · intro j e he hne'
    rw [AH.at_set] at he
    by_cases hji : j = id
    · subst hji
      simp [hidl] at he
      subst he
      refine ⟨_, hMi, rfl, hroom, ⟨_, el, hnew, ?_⟩, fun i hi => ?_⟩
      · rw [hheap] at hcur
        injection hcur with hcur
        injection hcur with hcur
        subst hcur
        simp at hfit ⊢
        omega
      · rw [hGn i (by rw [Nat.add_mul] at hi; omega), List.getElem?_eq_none (by rw [Nat.add_mul] at hi; omega)]
    · rw [if_neg (fun h => hji h.1.symm)] at he
      obtain ⟨ge, hMj, hr⟩ := R.ent j e he hne'
      have hne : ge.block ≠ b := fun hh => hji (R.inj j id ge _ hMj hM hh)
      exact ⟨ge, by rw [hMo j hji]; exact hMj, hr.keep hle (hold _ hne) (fun i => hGo _ i (.inl hne))⟩
  · intro j k e e' hj hk hb
    by_cases hji : j = id
    · by_cases hki : k = id
      · rw [hji, hki]
      · rw [hji, hMi] at hj
        rw [hMo k hki] at hk
        injection hj with hj
        subst hj
        exact absurd (R.inj k id e' _ hk hM hb.symm) hki
    · rw [hMo j hji] at hj
      by_cases hki : k = id
      · rw [hki, hMi] at hk
        injection hk with hk
        subst hk
        exact absurd (R.inj j id e _ hj hM hb) hji
      · rw [hMo k hki] at hk
        exact R.inj j k e e' hj hk hb
  · intro j e hj
    show _ < W.heap.size
    rw [hsize]
    by_cases hji : j = id
    · rw [hji, hMi] at hj
      injection hj with hj
      subst hj
      exact hblt
    · rw [hMo j hji] at hj
      exact R.blk j e hj
  · intro j hj
    have hji : j ≠ id := fun h => by subst h; rw [hid] at hj; cases hj
    refine ⟨hMo j hji, ?_⟩
    rw [AH.at_set, if_neg (fun h => hji h.1.symm)]
    exact hj
  · intro j e hj
    by_cases hji : j = id
    · rw [hji, hMi] at hj
      injection hj with hj
      subst hj
      exact .inl ⟨.tok b n sz cap, by rw [hji]; exact hM, rfl⟩
    · rw [hMo j hji] at hj
      exact .inl ⟨e, hj, rfl⟩
  · intro k hk hn
    have hne : k ≠ b := fun hh => hn id _ _ hid (by simp) hM (by simp [GEnt.block, hh])
    exact ⟨hold k hne, fun i => hGo k i (.inl hne)⟩
  · intro i v h
    rw [hGn _ (by omega), Nat.add_sub_cancel_left]
    exact h
end Go.Proofs.Fw
