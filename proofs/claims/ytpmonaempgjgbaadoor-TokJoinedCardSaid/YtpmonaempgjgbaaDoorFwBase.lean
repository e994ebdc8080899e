/- Abstract values, and what it means that a value in a world is told by one. -/
import Derived.WalkKit
namespace Go.Proofs.Fw
open Go.RowKit

/-- Who may append to a slice: nobody knows; its array is full; it is the last one of a row of appends. -/
inductive Own where
  | unk | full | tok (t : Nat)
  deriving DecidableEq, Repr, Inhabited

/-- An abstract value: what is never written is told by its content; what is written is a box with a number. -/
inductive AV where
  | undef
  | bool (b : Bool)
  | int (k : IntKind) (n : Int)
  | str (s : List UInt8)
  | nilPtr | nilSlice | nilMap | nilFunc | nilIface
  | ptr (id off : Nat)
  | bsl (id off sz n cap : Nat)
  | vptr (cs : List AV) (off : Nat)
  | slice (ow : Own) (sz n : Nat) (cs : List AV)
  | func (fn : Fn) (first captured : List AV)
  | iface (t : TypeId) (v : AV)
  | agg (cs : List AV)
  | tup (vs : List AV)
  deriving Inhabited

/-- What a number of an abstract heap stands for: a block; of a row of appends: the block, how many there are, cells an element, room. -/
inductive GEnt where
  | box (b : Nat)
  | tok (b n sz cap : Nat)
  deriving DecidableEq

def GEnt.block : GEnt → Nat
  | .box b => b
  | .tok b _ _ _ => b

/-- The ghost: cells that never turn any more; what the numbers stand for. -/
structure Gh where
  G : Nat → Nat → Option Value
  M : Nat → Option GEnt

def Gh.has (g : Gh) (b o : Nat) (vs : List Value) : Prop := ∀ i v, vs[i]? = some v → g.G b (o + i) = some v

def OwnOk (g : Gh) (ow : Own) (sz n b o cap : Nat) : Prop :=
  match ow with
  | .unk => True
  | .full => cap = n
  | .tok t => ∃ b' n' cap', g.M t = some (.tok b' n' sz cap') ∧ n ≤ n' ∧ (n = n' → b' = b ∧ cap' = cap ∧ o = 0)

mutual
def RepV (g : Gh) : AV → Value → Prop
  | .undef, _ => True
  | .bool b, v => v = .bool b
  | .int k n, v => v = .int k n
  | .str s, v => v = .string ⟨s.toArray⟩
  | .nilPtr, v => v = .pointer none
  | .nilSlice, v => v = .slice none 0 0
  | .nilMap, v => v = .map none
  | .nilFunc, v => v = .nilFunc
  | .nilIface, v => v = .nilIface
  | .ptr id off, v => ∃ b, g.M id = some (.box b) ∧ v = .pointer (some ⟨b, off, none⟩)
  | .bsl id off _ n cap, v => ∃ b, g.M id = some (.box b) ∧ v = .slice (some ⟨b, off, none⟩) n cap ∧ n ≤ cap
  | .vptr cs off, v => ∃ b o vs, v = .pointer (some ⟨b, o + off, none⟩) ∧ RepL g cs vs ∧ g.has b o vs
  | .slice ow sz n cs, v => ∃ b o cap vs, v = .slice (some ⟨b, o, none⟩) n cap ∧ RepL g cs vs ∧ g.has b o vs ∧ cs.length = n * sz ∧ n ≤ cap ∧ OwnOk g ow sz n b o cap
  | .func fn fi ca, v => ∃ fs cs, v = .func fn (List.toArray fs) (List.toArray cs) ∧ RepL g fi fs ∧ RepL g ca cs
  | .iface t x, v => ∃ y, v = .iface t y ∧ RepV g x y
  | .agg cs, v => ∃ vs, v = .agg (List.toArray vs) ∧ RepL g cs vs
  | .tup cs, v => ∃ vs, v = .tuple (List.toArray vs) ∧ RepL g cs vs
def RepL (g : Gh) : List AV → List Value → Prop
  | [], vs => vs = []
  | a :: as, vs => ∃ v ws, vs = v :: ws ∧ RepV g a v ∧ RepL g as ws
end

def GEnt.le (e e' : GEnt) : Prop :=
  match e, e' with
  | .box b, .box b' => b = b'
  | .tok b n sz cap, .tok b' n' sz' cap' => sz = sz' ∧ (n < n' ∨ (b = b' ∧ n = n' ∧ cap = cap'))
  | _, _ => False

theorem GEnt.le_refl (e : GEnt) : e.le e := by cases e <;> simp [GEnt.le]
theorem GEnt.le_trans {a b c : GEnt} (h : a.le b) (k : b.le c) : a.le c := by
  cases a <;> cases b <;> cases c <;> simp only [GEnt.le] at h k ⊢
  · exact h.trans k
  · obtain ⟨rfl, h⟩ := h
    obtain ⟨rfl, k⟩ := k
    refine ⟨rfl, ?_⟩
    rcases h with h | ⟨rfl, rfl, rfl⟩
    · rcases k with k | ⟨rfl, rfl, rfl⟩
      · exact .inl (by omega)
      · exact .inl h
    · exact k

structure Gh.le (g g' : Gh) : Prop where
  G : ∀ b i v, g.G b i = some v → g'.G b i = some v
  M : ∀ id e, g.M id = some e → ∃ e', g'.M id = some e' ∧ e.le e'

theorem Gh.le_refl (g : Gh) : g.le g := ⟨fun _ _ _ h => h, fun _ e h => ⟨e, h, e.le_refl⟩⟩
theorem Gh.le_trans {a b c : Gh} (h : a.le b) (k : b.le c) : a.le c :=
  ⟨fun _ _ _ x => k.G _ _ _ (h.G _ _ _ x), fun _ _ x => by
    obtain ⟨e1, h1, l1⟩ := h.M _ _ x
    obtain ⟨e2, h2, l2⟩ := k.M _ _ h1
    exact ⟨e2, h2, GEnt.le_trans l1 l2⟩⟩

theorem Gh.has_mono {g g' : Gh} (h : g.le g') {b o : Nat} {vs : List Value} (k : g.has b o vs) : g'.has b o vs := fun i v x => h.G _ _ _ (k i v x)

theorem OwnOk.mono {g g' : Gh} (h : g.le g') {ow : Own} {sz n b o cap : Nat} (k : OwnOk g ow sz n b o cap) : OwnOk g' ow sz n b o cap := by
  cases ow with
  | unk => trivial
  | full => exact k
  | tok t =>
    obtain ⟨b', n', cap', hM, hn, he⟩ := k
    obtain ⟨e', hM', hl⟩ := h.M _ _ hM
    cases e' with
    | box b => simp [GEnt.le] at hl
    | tok b2 n2 sz2 cap2 =>
      simp only [GEnt.le] at hl
      obtain ⟨rfl, hl⟩ := hl
      refine ⟨b2, n2, cap2, hM', by omega, fun hh => ?_⟩
      rcases hl with hl | ⟨rfl, rfl, rfl⟩
      · omega
      · exact he hh

mutual
theorem RepV.mono {g g' : Gh} (h : g.le g') : ∀ (a : AV) (v : Value), RepV g a v → RepV g' a v
  | .undef, _, _ => by simp [RepV]
  | .bool _, _, k => by simpa [RepV] using k
  | .int _ _, _, k => by simpa [RepV] using k
  | .str _, _, k => by simpa [RepV] using k
  | .nilPtr, _, k => by simpa [RepV] using k
  | .nilSlice, _, k => by simpa [RepV] using k
  | .nilMap, _, k => by simpa [RepV] using k
  | .nilFunc, _, k => by simpa [RepV] using k
  | .nilIface, _, k => by simpa [RepV] using k
  | .ptr id off, v, k => by
    simp only [RepV] at k ⊢
    obtain ⟨b, hM, hv⟩ := k
    obtain ⟨e', hM', hl⟩ := h.M _ _ hM
    cases e' <;> simp only [GEnt.le] at hl
    subst hl
    exact ⟨_, hM', hv⟩
  | .bsl id off sz n cap, v, k => by
    simp only [RepV] at k ⊢
    obtain ⟨b, hM, hv⟩ := k
    obtain ⟨e', hM', hl⟩ := h.M _ _ hM
    cases e' <;> simp only [GEnt.le] at hl
    subst hl
    exact ⟨_, hM', hv⟩
  | .vptr cs off, v, k => by
    simp only [RepV] at k ⊢
    obtain ⟨b, o, vs, hv, hl, hh⟩ := k
    exact ⟨b, o, vs, hv, RepL.mono h _ _ hl, Gh.has_mono h hh⟩
  | .slice ow sz n cs, v, k => by
    simp only [RepV] at k ⊢
    obtain ⟨b, o, cap, vs, hv, hl, hh, h1, h2, h3⟩ := k
    exact ⟨b, o, cap, vs, hv, RepL.mono h _ _ hl, Gh.has_mono h hh, h1, h2, h3.mono h⟩
  | .func fn fi ca, v, k => by
    simp only [RepV] at k ⊢
    obtain ⟨fs, cs, hv, h1, h2⟩ := k
    exact ⟨fs, cs, hv, RepL.mono h _ _ h1, RepL.mono h _ _ h2⟩
  | .iface t x, v, k => by
    simp only [RepV] at k ⊢
    obtain ⟨y, hv, h1⟩ := k
    exact ⟨y, hv, RepV.mono h _ _ h1⟩
  | .agg cs, v, k => by
    simp only [RepV] at k ⊢
    obtain ⟨vs, hv, h1⟩ := k
    exact ⟨vs, hv, RepL.mono h _ _ h1⟩
  | .tup cs, v, k => by
    simp only [RepV] at k ⊢
    obtain ⟨vs, hv, h1⟩ := k
    exact ⟨vs, hv, RepL.mono h _ _ h1⟩
theorem RepL.mono {g g' : Gh} (h : g.le g') : ∀ (as : List AV) (vs : List Value), RepL g as vs → RepL g' as vs
  | [], _, k => by simpa [RepL] using k
  | a :: as, vs, k => by
    simp only [RepL] at k ⊢
    obtain ⟨v, ws, hv, h1, h2⟩ := k
    exact ⟨v, ws, hv, RepV.mono h _ _ h1, RepL.mono h _ _ h2⟩
end

theorem RepL.length {g : Gh} : ∀ {as : List AV} {vs : List Value}, RepL g as vs → vs.length = as.length
  | [], _, h => by simp only [RepL] at h; subst h; rfl
  | _ :: _, _, h => by
    simp only [RepL] at h
    obtain ⟨v, ws, rfl, _, h2⟩ := h
    simp [h2.length]

theorem RepL.get {g : Gh} : ∀ {as : List AV} {vs : List Value}, RepL g as vs → ∀ {i : Nat} {a : AV}, as[i]? = some a → ∃ v, vs[i]? = some v ∧ RepV g a v
  | [], _, _, i, a, h => by simp at h
  | a0 :: as, vs, h, i, a, hi => by
    simp only [RepL] at h
    obtain ⟨v, ws, rfl, h1, h2⟩ := h
    cases i with
    | zero => simp at hi; subst hi; exact ⟨v, rfl, h1⟩
    | succ i => simp at hi ⊢; exact h2.get hi

theorem RepL.append {g : Gh} : ∀ {as bs : List AV} {vs ws : List Value}, RepL g as vs → RepL g bs ws → RepL g (as ++ bs) (vs ++ ws)
  | [], _, _, _, h, k => by simp only [RepL] at h; subst h; simpa using k
  | a :: as, bs, vs, ws, h, k => by
    simp only [RepL, List.cons_append] at h ⊢
    obtain ⟨v, us, rfl, h1, h2⟩ := h
    exact ⟨v, us ++ ws, rfl, h1, h2.append k⟩

theorem RepL.drop {g : Gh} : ∀ {as : List AV} {vs : List Value}, RepL g as vs → ∀ n, RepL g (as.drop n) (vs.drop n)
  | [], _, h, n => by simp only [RepL] at h; subst h; simp [RepL]
  | a :: as, vs, h, n => by
    cases n with
    | zero => simpa using h
    | succ n =>
      simp only [RepL] at h
      obtain ⟨v, us, rfl, h1, h2⟩ := h
      simpa using h2.drop n

theorem RepL.take {g : Gh} : ∀ {as : List AV} {vs : List Value}, RepL g as vs → ∀ n, RepL g (as.take n) (vs.take n)
  | [], _, h, n => by simp only [RepL] at h; subst h; simp [RepL]
  | a :: as, vs, h, n => by
    cases n with
    | zero => simp [RepL]
    | succ n =>
      simp only [RepL] at h
      obtain ⟨v, us, rfl, h1, h2⟩ := h
      simp only [List.take_succ_cons, RepL]
      exact ⟨v, _, rfl, h1, h2.take n⟩

theorem RepL.set {g : Gh} : ∀ {as : List AV} {vs : List Value}, RepL g as vs → ∀ (n : Nat) {a : AV} {v : Value}, RepV g a v → RepL g (as.set n a) (vs.set n v)
  | [], _, h, n, a, v, k => by simp only [RepL] at h; subst h; simp [RepL]
  | a0 :: as, vs, h, n, a, v, k => by
    simp only [RepL] at h
    obtain ⟨v0, us, rfl, h1, h2⟩ := h
    cases n with
    | zero => simp only [List.set_cons_zero, RepL]; exact ⟨v, us, rfl, k, h2⟩
    | succ n => simp only [List.set_cons_succ, RepL]; exact ⟨v0, _, rfl, h1, h2.set n k⟩

theorem RepL.replicate {g : Gh} (n : Nat) {a : AV} {v : Value} (h : RepV g a v) : RepL g (List.replicate n a) (List.replicate n v) := by
  induction n with
  | zero => simp [RepL]
  | succ n ih => simp only [List.replicate_succ, RepL]; exact ⟨v, _, rfl, h, ih⟩

theorem RepL.getD {g : Gh} {as : List AV} {vs : List Value} (h : RepL g as vs) (i : Nat) (v0 : Value) : RepV g (as.getD i .undef) (vs.getD i v0) := by
  rw [List.getD_eq_getElem?_getD, List.getD_eq_getElem?_getD]
  cases hi : as[i]? with
  | none => simp [RepV]
  | some a =>
    obtain ⟨v, hv, hr⟩ := h.get hi
    rw [hv]
    exact hr

theorem Gh.has_drop {g : Gh} {b o : Nat} {vs : List Value} (h : g.has b o vs) (n : Nat) : g.has b (o + n) (vs.drop n) := by
  intro i v hi
  rw [List.getElem?_drop] at hi
  have := h _ _ hi
  rwa [← Nat.add_assoc] at this

theorem Gh.has_take {g : Gh} {b o : Nat} {vs : List Value} (h : g.has b o vs) (n : Nat) : g.has b o (vs.take n) := by
  intro i v hi
  rw [List.getElem?_take] at hi
  split at hi
  · exact h _ _ hi
  · simp at hi

theorem Gh.has_append {g : Gh} {b o : Nat} {vs ws : List Value} (h : g.has b o vs) (k : g.has b (o + vs.length) ws) : g.has b o (vs ++ ws) := by
  intro i v hi
  rw [List.getElem?_append] at hi
  split at hi
  · exact h _ _ hi
  · have := k _ _ hi
    rwa [show o + vs.length + (i - vs.length) = o + i by omega] at this

end Go.Proofs.Fw
