/- The abstract heap, and what it means that a world is told by one. -/
import Derived.Test.YtpmonaempgjgbaaDoorFwBase
namespace Go.Proofs.Fw
open Go.RowKit

/-- What stands under a number: a box's cells; how many there are in a row of appends; something that is not to be touched. -/
inductive Ent where
  | box (cs : List AV)
  | tok (n : Nat)
  | hid
  deriving Inhabited

abbrev AH := List (Option Ent)

def AH.at (H : AH) (id : Nat) : Option Ent := (H[id]?).join

def EntRep (g : Gh) (w : World) : Ent → GEnt → Prop
  | .hid, _ => True
  | .box cs, .box b => ∃ vs el, w.heap[b]? = some (.cells (List.toArray vs) el (0, 0)) ∧ RepL g cs vs ∧ ∀ i, g.G b i = none
  | .tok n, .tok b n' sz cap => n = n' ∧ n ≤ cap ∧ (∃ vs el, w.heap[b]? = some (.cells (List.toArray vs) el (0, 0)) ∧ cap * sz ≤ vs.length) ∧ ∀ i, n * sz ≤ i → g.G b i = none
  | _, _ => False

structure Rel (g : Gh) (H : AH) (w : World) : Prop where
  imm : ∀ b i v, g.G b i = some v → w.cell? ⟨b, i, none⟩ = some v
  free : ∀ id, H.at id = none → g.M id = none
  ent : ∀ id e, H.at id = some e → e ≠ .hid → ∃ ge, g.M id = some ge ∧ EntRep g w e ge
  inj : ∀ id id' e e', g.M id = some e → g.M id' = some e' → e.block = e'.block → id = id'
  blk : ∀ id e, g.M id = some e → e.block < w.heap.size

structure Post (g : Gh) (H : AH) (w : World) (g' : Gh) (H' : AH) (w' : World) : Prop where
  le : g.le g'
  hid : ∀ id, H.at id = some .hid → g'.M id = g.M id ∧ H'.at id = some .hid
  new : ∀ id e', g'.M id = some e' → (∃ e, g.M id = some e ∧ e.block = e'.block) ∨ w.heap.size ≤ e'.block
  old : ∀ b, b < w.heap.size → (∀ id e ge, H.at id = some e → e ≠ .hid → g.M id = some ge → ge.block ≠ b) → w'.heap[b]? = w.heap[b]? ∧ ∀ i, g'.G b i = g.G b i
  size : w.heap.size ≤ w'.heap.size
  os : w'.os = w.os
  tape : w'.tape = w.tape
  output : w'.output = w.output

theorem Post.refl (g : Gh) (H : AH) (w : World) : Post g H w g H w :=
  ⟨g.le_refl, fun _ h => ⟨rfl, h⟩, fun _ e h => .inl ⟨e, h, rfl⟩, fun _ _ _ => ⟨rfl, fun _ => rfl⟩, Nat.le_refl _, rfl, rfl, rfl⟩

theorem Post.trans {g g1 g2 : Gh} {H H1 H2 : AH} {w w1 w2 : World} (R : Rel g H w) (p : Post g H w g1 H1 w1) (q : Post g1 H1 w1 g2 H2 w2) : Post g H w g2 H2 w2 where
  le := Gh.le_trans p.le q.le
  hid := fun id h => by
    obtain ⟨h1, h2⟩ := p.hid id h
    obtain ⟨h3, h4⟩ := q.hid id h2
    exact ⟨h3.trans h1, h4⟩
  new := fun id e h => by
    rcases q.new id e h with ⟨e1, h1, hb⟩ | h1
    · rcases p.new id e1 h1 with ⟨e0, h0, hb0⟩ | h0
      · exact .inl ⟨e0, h0, hb0.trans hb⟩
      · exact .inr (hb ▸ h0)
    · exact .inr (Nat.le_trans p.size h1)
  old := fun b hb hn => by
    obtain ⟨h1, h2⟩ := p.old b hb hn
    have := q.old b (Nat.lt_of_lt_of_le hb p.size) (fun id e ge he hne hM hbk => by
      rcases p.new id ge hM with ⟨e0, h0, hb0⟩ | h0
      · cases hH : H.at id with
        | none => rw [R.free id hH] at h0; cases h0
        | some e' =>
          by_cases hh : e' = .hid
          · subst hh
            have := (p.hid id hH).2
            rw [he] at this
            injection this with this
            exact hne this
          · exact hn id e' e0 hH hh h0 (hb0.trans hbk)
      · omega)
    exact ⟨this.1.trans h1, fun i => (this.2 i).trans (h2 i)⟩
  size := Nat.le_trans p.size q.size
  os := q.os.trans p.os
  tape := q.tape.trans p.tape
  output := q.output.trans p.output

theorem EntRep.keep {g g' : Gh} {w w' : World} {e : Ent} {ge : GEnt} (hle : g.le g') (hb : w'.heap[ge.block]? = w.heap[ge.block]?) (hG : ∀ i, g'.G ge.block i = g.G ge.block i)
    (h : EntRep g w e ge) : EntRep g' w' e ge := by
  cases e with
  | hid => trivial
  | box cs =>
    cases ge with
    | box b =>
      obtain ⟨vs, el, h1, h2, h3⟩ := h
      simp only [GEnt.block] at hb hG
      exact ⟨vs, el, hb.trans h1, RepL.mono hle _ _ h2, fun i => (hG i).trans (h3 i)⟩
    | tok => exact h
  | tok n =>
    cases ge with
    | box => exact h
    | tok b n' sz cap =>
      simp only [EntRep, GEnt.block] at h hb hG ⊢
      obtain ⟨h1, h2, ⟨vs, el, h3, h4⟩, h5⟩ := h
      exact ⟨h1, h2, ⟨vs, el, hb.trans h3, h4⟩, fun i hi => (hG i).trans (h5 i hi)⟩

/-- The block of what is known lies in the world. -/
theorem Rel.lt {g : Gh} {H : AH} {w : World} (R : Rel g H w) {b i : Nat} {v : Value} (h : g.G b i = some v) : b < w.heap.size :=
  World.block_lt_of_cell? w ⟨b, i, none⟩ (R.imm b i v h)

theorem cell?_of_heap {w w' : World} {b i : Nat} (h : w'.heap[b]? = w.heap[b]?) : w'.cell? ⟨b, i, none⟩ = w.cell? ⟨b, i, none⟩ := by
  simp only [World.cell?, h]

/-- A world that has the same heap. -/
theorem Rel.same {g : Gh} {H : AH} {w w' : World} (R : Rel g H w) (h : w'.heap = w.heap) : Rel g H w' where
  imm := fun b i v hh => (cell?_of_heap (by rw [h])).trans (R.imm b i v hh)
  free := R.free
  ent := fun id e he hne => by
    obtain ⟨ge, hM, hr⟩ := R.ent id e he hne
    exact ⟨ge, hM, hr.keep (Gh.le_refl g) (by rw [h]) (fun _ => rfl)⟩
  inj := R.inj
  blk := fun id e he => by rw [h]; exact R.blk id e he

theorem Post.same {g : Gh} {H : AH} {w w' : World} (h : w'.heap = w.heap) (ho : w'.os = w.os) (ht : w'.tape = w.tape) (hu : w'.output = w.output) : Post g H w g H w' :=
  ⟨g.le_refl, fun _ h => ⟨rfl, h⟩, fun _ e h => .inl ⟨e, h, rfl⟩, fun _ _ _ => ⟨by rw [h], fun _ => rfl⟩, by rw [h]; exact Nat.le_refl _, ho, ht, hu⟩

/-- A new row whose first cells never turn. -/
def Gh.row (g : Gh) (b : Nat) (vs : List Value) : Gh := { g with G := fun b' i => if b' = b then vs[i]? else g.G b' i }

theorem Rel.alloc_row {g : Gh} {H : AH} {w : World} (R : Rel g H w) (c : Array Value) (el : TypeId) (fr : Nat × Nat) (vs : List Value) (hv : ∀ (i : Nat) (v : Value), vs[i]? = some v → c[i]? = some v) :
    Rel (g.row w.heap.size vs) H (w.alloc (.cells c el fr)) ∧ Post g H w (g.row w.heap.size vs) H (w.alloc (.cells c el fr)) ∧ (g.row w.heap.size vs).has w.heap.size 0 vs := by
  have hold : ∀ b, b < w.heap.size → (w.alloc (.cells c el fr)).heap[b]? = w.heap[b]? := fun b hb => Below.heap_alloc w _ b hb
  have hle : g.le (g.row w.heap.size vs) := ⟨fun b i v h => by
      have := R.lt h
      simp only [Gh.row]
      rw [if_neg (by omega)]
      exact h, fun id e h => ⟨e, h, e.le_refl⟩⟩
  refine ⟨⟨?_, R.free, ?_, R.inj, ?_⟩, ⟨hle, fun _ h => ⟨rfl, h⟩, fun _ e h => .inl ⟨e, h, rfl⟩, ?_, by simp, rfl, rfl, rfl⟩, ?_⟩
  · intro b i v h
    simp only [Gh.row] at h
    split at h
    · subst b
      have := hv i v h
      have hh : (w.alloc (.cells c el fr)).heap[w.heap.size]? = some (.cells c el fr) := by show (w.heap.push _)[w.heap.size]? = _; simp
      simp only [World.cell?, hh]
      exact this
    · exact (cell?_of_heap (hold b (R.lt h))).trans (R.imm b i v h)
  · intro id e he hne
    obtain ⟨ge, hM, hr⟩ := R.ent id e he hne
    have hb := R.blk id ge hM
    exact ⟨ge, hM, hr.keep hle (hold _ hb) (fun i => by simp only [Gh.row]; rw [if_neg (by omega)])⟩
  · intro id e he
    have := R.blk id e he
    simp
    omega
  · intro b hb _
    exact ⟨hold b hb, fun i => by simp only [Gh.row]; rw [if_neg (by omega)]⟩
  · intro i v h
    simp [Gh.row, h]

theorem AH.at_set {H : AH} {id j : Nat} {e : Option Ent} : AH.at (H.set id e) j = if id = j ∧ j < H.length then e else H.at j := by
  unfold AH.at
  rw [List.getElem?_set]
  by_cases h : id = j
  · subst h
    by_cases hl : id < H.length
    · simp [hl]
    · simp [hl]
  · simp [h]

/-- A box that is made. -/
theorem Rel.alloc_box {g : Gh} {H : AH} {w : World} (R : Rel g H w) (vs : List Value) (cs : List AV) (el : TypeId) (id : Nat) (hid : id < H.length) (hf : H.at id = none) (hr : RepL g cs vs) :
    ∃ g', Rel g' (H.set id (some (.box cs))) (w.alloc (.cells (List.toArray vs) el)) ∧ Post g H w g' (H.set id (some (.box cs))) (w.alloc (.cells (List.toArray vs) el)) ∧ g'.M id = some (.box w.heap.size) := by
  have hold : ∀ b, b < w.heap.size → (w.alloc (.cells (List.toArray vs) el)).heap[b]? = w.heap[b]? := fun b hb => Below.heap_alloc w _ b hb
  have hMf := R.free id hf
  let g' : Gh := { g with M := fun j => if j = id then some (.box w.heap.size) else g.M j }
  have hM : ∀ j, j ≠ id → g'.M j = g.M j := fun j hj => by simp [g', hj]
  have hMi : g'.M id = some (.box w.heap.size) := by simp [g']
  have hle : g.le g' := ⟨fun _ _ _ h => h, fun j e h => ⟨e, by
      rw [hM j (fun hh => by subst hh; rw [hMf] at h; cases h)]
      exact h, e.le_refl⟩⟩
  refine ⟨g', ⟨?_, ?_, ?_, ?_, ?_⟩, ⟨hle, ?_, ?_, ?_, by simp, rfl, rfl, rfl⟩, hMi⟩
  · exact fun b i v h => (cell?_of_heap (hold b (R.lt h))).trans (R.imm b i v h)
  · intro j hj
    rw [AH.at_set] at hj
    by_cases hji : j = id
    · subst hji; simp [hid] at hj
    · rw [if_neg (fun h => hji h.1.symm)] at hj
      rw [hM j hji]
      exact R.free j hj
  · intro j e he hne
    rw [AH.at_set] at he
    by_cases hji : j = id
    · subst hji
      simp [hid] at he
      subst he
      refine ⟨_, hMi, vs, el, by show (w.heap.push _)[w.heap.size]? = _; simp, RepL.mono hle _ _ hr, fun i => ?_⟩
      cases hG : g'.G w.heap.size i with
      | none => rfl
      | some v => have := R.lt (show g.G w.heap.size i = some v from hG); omega
    · rw [if_neg (fun h => hji h.1.symm)] at he
      obtain ⟨ge, hMj, hr⟩ := R.ent j e he hne
      exact ⟨ge, by rw [hM j hji]; exact hMj, hr.keep hle (hold _ (R.blk j ge hMj)) (fun _ => rfl)⟩
  · intro j k e e' hj hk hb
    by_cases hji : j = id
    · by_cases hki : k = id
      · rw [hji, hki]
      · rw [hji, hMi] at hj
        rw [hM k hki] at hk
        injection hj with hj
        subst hj
        have := R.blk k e' hk
        have hb' : w.heap.size = e'.block := hb
        omega
    · rw [hM j hji] at hj
      by_cases hki : k = id
      · rw [hki, hMi] at hk
        injection hk with hk
        subst hk
        have := R.blk j e hj
        have hb' : e.block = w.heap.size := hb
        omega
      · rw [hM k hki] at hk
        exact R.inj j k e e' hj hk hb
  · intro j e hj
    simp only [World.size_alloc]
    by_cases hji : j = id
    · rw [hji, hMi] at hj
      injection hj with hj
      subst hj
      simp [GEnt.block]
    · rw [hM j hji] at hj
      have := R.blk j e hj
      omega
  · intro j hj
    have hji : j ≠ id := fun h => by subst h; rw [hf] at hj; cases hj
    refine ⟨hM j hji, ?_⟩
    rw [AH.at_set, if_neg (fun h => hji h.1.symm)]
    exact hj
  · intro j e hj
    by_cases hji : j = id
    · rw [hji, hMi] at hj
      injection hj with hj
      subst hj
      exact .inr (Nat.le_refl _)
    · rw [hM j hji] at hj
      exact .inl ⟨e, hj, rfl⟩
  · exact fun b hb _ => ⟨hold b hb, fun _ => rfl⟩

/-- A box that is written: whatever the world behind it, if it is as it was but for the box's block. -/
theorem Rel.write_box {g : Gh} {H : AH} {w w' : World} (R : Rel g H w) {id b : Nat} {cs0 cs : List AV} {vs : List Value} {el : TypeId} (hid : H.at id = some (.box cs0)) (hM : g.M id = some (.box b))
    (hb : w'.heap[b]? = some (.cells (List.toArray vs) el (0, 0))) (hr : RepL g cs vs) (hold : ∀ k, k ≠ b → w'.heap[k]? = w.heap[k]?) (hs : w'.heap.size = w.heap.size)
    (ho : w'.os = w.os) (ht : w'.tape = w.tape) (hu : w'.output = w.output) :
    Rel g (H.set id (some (.box cs))) w' ∧ Post g H w g (H.set id (some (.box cs))) w' := by
  have hG : ∀ i, g.G b i = none := by
    obtain ⟨ge, hM', h⟩ := R.ent id _ hid (by simp)
    rw [hM] at hM'
    injection hM' with hM'
    subst hM'
    obtain ⟨_, _, _, _, h3⟩ := h
    exact h3
  have hl : id < H.length := by
    unfold AH.at at hid
    rcases Nat.lt_or_ge id H.length with h | h
    · exact h
    · simp [List.getElem?_eq_none h] at hid
  refine ⟨⟨?_, ?_, ?_, R.inj, ?_⟩, ⟨g.le_refl, ?_, fun _ e h => .inl ⟨e, h, rfl⟩, ?_, by rw [hs]; exact Nat.le_refl _, ho, ht, hu⟩⟩
  · intro k i v h
    have : k ≠ b := fun hk => by subst hk; rw [hG] at h; cases h
    exact (cell?_of_heap (hold k this)).trans (R.imm k i v h)
  · intro j hj
    rw [AH.at_set] at hj
    by_cases hji : id = j
    · subst hji; simp [hl] at hj
    · rw [if_neg (fun h => hji h.1)] at hj
      exact R.free j hj
  · intro j e he hne
    rw [AH.at_set] at he
    by_cases hji : id = j
    · subst hji
      simp [hl] at he
      subst he
      exact ⟨_, hM, vs, el, hb, hr, hG⟩
    · rw [if_neg (fun h => hji h.1)] at he
      obtain ⟨ge, hMj, hr⟩ := R.ent j e he hne
      refine ⟨ge, hMj, hr.keep g.le_refl (hold _ fun hk => hji ?_) (fun _ => rfl)⟩
      exact R.inj id j (.box b) ge hM hMj hk.symm
  · intro j e he
    rw [hs]
    exact R.blk j e he
  · intro j hj
    have hji : id ≠ j := fun h => by subst h; rw [hid] at hj; cases hj
    refine ⟨rfl, ?_⟩
    rw [AH.at_set, if_neg (fun h => hji h.1)]
    exact hj
  · intro k hk hn
    refine ⟨hold k fun hkb => ?_, fun _ => rfl⟩
    exact hn id _ _ hid (by simp) hM (by simp [GEnt.block, hkb])
end Go.Proofs.Fw
