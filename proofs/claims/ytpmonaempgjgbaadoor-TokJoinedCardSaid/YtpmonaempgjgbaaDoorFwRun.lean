/- Calls that clear up behind themselves; running. -/
import Derived.Test.YtpmonaempgjgbaaDoorFwEval
namespace Go.Proofs.Fw
open Go.RowKit

mutual
/-- Rows of appends from a number on are nobody's any more. -/
def strip (n : Nat) : AV → AV
  | .slice (.tok t) sz k cs => .slice (if t < n then .tok t else .unk) sz k (stripL n cs)
  | .slice .unk sz k cs => .slice .unk sz k (stripL n cs)
  | .slice .full sz k cs => .slice .full sz k (stripL n cs)
  | .vptr cs off => .vptr (stripL n cs) off
  | .func fn a b => .func fn (stripL n a) (stripL n b)
  | .iface t v => .iface t (strip n v)
  | .agg cs => .agg (stripL n cs)
  | .tup vs => .tup (stripL n vs)
  | .undef => .undef
  | .bool b => .bool b
  | .int k i => .int k i
  | .str s => .str s
  | .nilPtr => .nilPtr
  | .nilSlice => .nilSlice
  | .nilMap => .nilMap
  | .nilFunc => .nilFunc
  | .nilIface => .nilIface
  | .ptr id off => .ptr id off
  | .bsl id off sz k cap => .bsl id off sz k cap
def stripL (n : Nat) : List AV → List AV
  | [] => []
  | a :: as => strip n a :: stripL n as
end

mutual
/-- Only numbers below a bound. -/
def low (n : Nat) : AV → Bool
  | .ptr id _ => decide (id < n)
  | .bsl id _ _ _ _ => decide (id < n)
  | .slice (.tok t) _ _ cs => decide (t < n) && lowL n cs
  | .slice .unk _ _ cs => lowL n cs
  | .slice .full _ _ cs => lowL n cs
  | .vptr cs _ => lowL n cs
  | .func _ a b => lowL n a && lowL n b
  | .iface _ v => low n v
  | .agg cs => lowL n cs
  | .tup vs => lowL n vs
  | _ => true
def lowL (n : Nat) : List AV → Bool
  | [] => true
  | a :: as => low n a && lowL n as
end

theorem stripL_length (n : Nat) : ∀ l : List AV, (stripL n l).length = l.length
  | [] => rfl
  | a :: as => by simp [stripL, stripL_length n as]

mutual
theorem RepV.strip {g : Gh} (n : Nat) : ∀ (a : AV) (v : Value), RepV g a v → RepV g (Fw.strip n a) v
  | .undef, _, h => by simpa [Fw.strip] using h
  | .bool _, _, h => by simpa [Fw.strip] using h
  | .int _ _, _, h => by simpa [Fw.strip] using h
  | .str _, _, h => by simpa [Fw.strip] using h
  | .nilPtr, _, h => by simpa [Fw.strip] using h
  | .nilSlice, _, h => by simpa [Fw.strip] using h
  | .nilMap, _, h => by simpa [Fw.strip] using h
  | .nilFunc, _, h => by simpa [Fw.strip] using h
  | .nilIface, _, h => by simpa [Fw.strip] using h
  | .ptr _ _, _, h => by simpa [Fw.strip] using h
  | .bsl _ _ _ _ _, _, h => by simpa [Fw.strip] using h
  | .vptr cs off, v, h => by
    simp only [RepV, Fw.strip] at h ⊢
    obtain ⟨b, o, vs, hv, h1, h2⟩ := h
    exact ⟨b, o, vs, hv, RepL.strip n _ _ h1, h2⟩
  | .slice .unk sz k cs, v, h => by
    simp only [RepV, Fw.strip] at h ⊢
    obtain ⟨b, o, cap, vs, hv, h1, h2, h3, h4, h5⟩ := h
    exact ⟨b, o, cap, vs, hv, RepL.strip n _ _ h1, h2, by rw [stripL_length]; exact h3, h4, h5⟩
  | .slice .full sz k cs, v, h => by
    simp only [RepV, Fw.strip] at h ⊢
    obtain ⟨b, o, cap, vs, hv, h1, h2, h3, h4, h5⟩ := h
    exact ⟨b, o, cap, vs, hv, RepL.strip n _ _ h1, h2, by rw [stripL_length]; exact h3, h4, h5⟩
  | .slice (.tok t) sz k cs, v, h => by
    simp only [RepV, Fw.strip] at h ⊢
    obtain ⟨b, o, cap, vs, hv, h1, h2, h3, h4, h5⟩ := h
    refine ⟨b, o, cap, vs, hv, RepL.strip n _ _ h1, h2, by rw [stripL_length]; exact h3, h4, ?_⟩
    split
    · exact h5
    · trivial
  | .func fn fi ca, v, h => by
    simp only [RepV, Fw.strip] at h ⊢
    obtain ⟨fs, cs, hv, h1, h2⟩ := h
    exact ⟨fs, cs, hv, RepL.strip n _ _ h1, RepL.strip n _ _ h2⟩
  | .iface t x, v, h => by
    simp only [RepV, Fw.strip] at h ⊢
    obtain ⟨y, hv, h1⟩ := h
    exact ⟨y, hv, RepV.strip n _ _ h1⟩
  | .agg cs, v, h => by
    simp only [RepV, Fw.strip] at h ⊢
    obtain ⟨vs, hv, h1⟩ := h
    exact ⟨vs, hv, RepL.strip n _ _ h1⟩
  | .tup cs, v, h => by
    simp only [RepV, Fw.strip] at h ⊢
    obtain ⟨vs, hv, h1⟩ := h
    exact ⟨vs, hv, RepL.strip n _ _ h1⟩
theorem RepL.strip {g : Gh} (n : Nat) : ∀ (as : List AV) (vs : List Value), RepL g as vs → RepL g (stripL n as) vs
  | [], _, h => by simpa [stripL] using h
  | a :: as, vs, h => by
    simp only [RepL, stripL] at h ⊢
    obtain ⟨v, ws, hv, h1, h2⟩ := h
    exact ⟨v, ws, hv, RepV.strip n _ _ h1, RepL.strip n _ _ h2⟩
end

/-- The ghost without the numbers from a bound on. -/
def Gh.cut (g : Gh) (n : Nat) : Gh := { G := g.G, M := fun id => if id < n then g.M id else none }

mutual
theorem RepV.cut {g : Gh} {n : Nat} : ∀ (a : AV) (v : Value), low n a = true → RepV g a v → RepV (g.cut n) a v
  | .undef, _, _, h => by simp [RepV]
  | .bool _, _, _, h => by simpa [RepV] using h
  | .int _ _, _, _, h => by simpa [RepV] using h
  | .str _, _, _, h => by simpa [RepV] using h
  | .nilPtr, _, _, h => by simpa [RepV] using h
  | .nilSlice, _, _, h => by simpa [RepV] using h
  | .nilMap, _, _, h => by simpa [RepV] using h
  | .nilFunc, _, _, h => by simpa [RepV] using h
  | .nilIface, _, _, h => by simpa [RepV] using h
  | .ptr id off, v, hl, h => by
    simp only [low, decide_eq_true_eq] at hl
    simp only [RepV] at h ⊢
    obtain ⟨b, hM, hv⟩ := h
    exact ⟨b, by simp only [Gh.cut]; rw [if_pos hl]; exact hM, hv⟩
  | .bsl id off sz k cap, v, hl, h => by
    simp only [low, decide_eq_true_eq] at hl
    simp only [RepV] at h ⊢
    obtain ⟨b, hM, hv⟩ := h
    exact ⟨b, by simp only [Gh.cut]; rw [if_pos hl]; exact hM, hv⟩
  | .vptr cs off, v, hl, h => by
    simp only [low] at hl
    simp only [RepV] at h ⊢
    obtain ⟨b, o, vs, hv, h1, h2⟩ := h
    exact ⟨b, o, vs, hv, RepL.cut _ _ hl h1, h2⟩
  | .slice .unk sz k cs, v, hl, h => by
    simp only [low] at hl
    simp only [RepV] at h ⊢
    obtain ⟨b, o, cap, vs, hv, h1, h2, h3, h4, h5⟩ := h
    exact ⟨b, o, cap, vs, hv, RepL.cut _ _ hl h1, h2, h3, h4, h5⟩
  | .slice .full sz k cs, v, hl, h => by
    simp only [low] at hl
    simp only [RepV] at h ⊢
    obtain ⟨b, o, cap, vs, hv, h1, h2, h3, h4, h5⟩ := h
    exact ⟨b, o, cap, vs, hv, RepL.cut _ _ hl h1, h2, h3, h4, h5⟩
  | .slice (.tok t) sz k cs, v, hl, h => by
    simp only [low, Bool.and_eq_true, decide_eq_true_eq] at hl
    simp only [RepV] at h ⊢
    obtain ⟨b, o, cap, vs, hv, h1, h2, h3, h4, h5⟩ := h
    refine ⟨b, o, cap, vs, hv, RepL.cut _ _ hl.2 h1, h2, h3, h4, ?_⟩
    obtain ⟨b', n', cap', hM, hr⟩ := h5
    exact ⟨b', n', cap', by simp only [Gh.cut]; rw [if_pos hl.1]; exact hM, hr⟩
  | .func fn fi ca, v, hl, h => by
    simp only [low, Bool.and_eq_true] at hl
    simp only [RepV] at h ⊢
    obtain ⟨fs, cs, hv, h1, h2⟩ := h
    exact ⟨fs, cs, hv, RepL.cut _ _ hl.1 h1, RepL.cut _ _ hl.2 h2⟩
  | .iface t x, v, hl, h => by
    simp only [low] at hl
    simp only [RepV] at h ⊢
    obtain ⟨y, hv, h1⟩ := h
    exact ⟨y, hv, RepV.cut _ _ hl h1⟩
  | .agg cs, v, hl, h => by
    simp only [low] at hl
    simp only [RepV] at h ⊢
    obtain ⟨vs, hv, h1⟩ := h
    exact ⟨vs, hv, RepL.cut _ _ hl h1⟩
  | .tup cs, v, hl, h => by
    simp only [low] at hl
    simp only [RepV] at h ⊢
    obtain ⟨vs, hv, h1⟩ := h
    exact ⟨vs, hv, RepL.cut _ _ hl h1⟩
theorem RepL.cut {g : Gh} {n : Nat} : ∀ (as : List AV) (vs : List Value), lowL n as = true → RepL g as vs → RepL (g.cut n) as vs
  | [], _, _, h => by simpa [RepL] using h
  | a :: as, vs, hl, h => by
    simp only [lowL, Bool.and_eq_true] at hl
    simp only [RepL] at h ⊢
    obtain ⟨v, ws, hv, h1, h2⟩ := h
    exact ⟨v, ws, hv, RepV.cut _ _ hl.1 h1, RepL.cut _ _ hl.2 h2⟩
end

def lowE (n : Nat) : Option Ent → Bool
  | some (.box cs) => lowL n cs
  | _ => true

def lowH (n : Nat) : AH → Bool
  | [] => true
  | e :: r => lowE n e && lowH n r

theorem lowH_at {n : Nat} : ∀ {H : AH} {i : Nat} {cs : List AV}, lowH n H = true → H.at i = some (.box cs) → lowL n cs = true
  | [], i, cs, _, h => by simp [AH.at] at h
  | e :: r, i, cs, hl, h => by
    simp only [lowH, Bool.and_eq_true] at hl
    cases i with
    | zero =>
      simp only [AH.at, List.getElem?_cons_zero, Option.join_some] at h
      subst h
      exact hl.1
    | succ i => exact lowH_at (H := r) (i := i) hl.2 (by simpa [AH.at] using h)

theorem at_take {H : AH} {n i : Nat} : AH.at (List.take n H) i = if i < n then H.at i else none := by
  unfold AH.at
  rw [List.getElem?_take]
  split <;> simp_all

/-- Slices over boxes from a number on, as slices that are never written again. -/
def frz (N : Nat) (H : AH) : Nat → AV → AV
  | 0, a => a
  | k + 1, .bsl id off sz n cap => if id < N then .bsl id off sz n cap else (match H.at id with
    | some (.box cs) => if off + n * sz ≤ cs.length then .slice .unk sz n (((cs.drop off).take (n * sz)).map (frz N H k)) else .bsl id off sz n cap
    | _ => .bsl id off sz n cap)
  | k + 1, .ptr id off => if id < N then .ptr id off else (match H.at id with
    | some (.box cs) => .vptr (cs.map (frz N H k)) off
    | _ => .ptr id off)
  | k + 1, .vptr cs off => .vptr (cs.map (frz N H k)) off
  | k + 1, .slice ow sz n cs => .slice ow sz n (cs.map (frz N H k))
  | k + 1, .func fn a b => .func fn (a.map (frz N H k)) (b.map (frz N H k))
  | k + 1, .iface t v => .iface t (frz N H k v)
  | k + 1, .agg cs => .agg (cs.map (frz N H k))
  | k + 1, .tup vs => .tup (vs.map (frz N H k))
  | _ + 1, a => a

/-- Blocks that are given up. -/
def Gh.gone (g : Gh) (N b : Nat) : Prop := ∃ id, N ≤ id ∧ g.M id = some (.box b)

open Classical in
/-- The ghost in which the boxes from a number on are never written again. -/
noncomputable def Gh.ice (g : Gh) (w : World) (N : Nat) : Gh := { G := fun b i => if g.gone N b then w.cell? ⟨b, i, none⟩ else g.G b i, M := g.M }

theorem Gh.ice_yes {g : Gh} {w : World} {N b : Nat} (h : g.gone N b) (i : Nat) : (g.ice w N).G b i = w.cell? ⟨b, i, none⟩ := if_pos h
theorem Gh.ice_no {g : Gh} {w : World} {N b : Nat} (h : ¬ g.gone N b) (i : Nat) : (g.ice w N).G b i = g.G b i := if_neg h

theorem ice_le {g : Gh} {H : AH} {w : World} (R : Rel g H w) (N : Nat) : g.le (g.ice w N) := by
  refine ⟨fun b i v h => ?_, fun id e h => ⟨e, h, e.le_refl⟩⟩
  by_cases hg : g.gone N b
  · rw [Gh.ice_yes hg]
    exact R.imm b i v h
  · rw [Gh.ice_no hg]
    exact h

theorem RepL.map {g g' : Gh} {φ : AV → AV} (h : ∀ a v, RepV g a v → RepV g' (φ a) v) : ∀ (as : List AV) (vs : List Value), RepL g as vs → RepL g' (as.map φ) vs
  | [], _, k => by simpa [RepL] using k
  | a :: as, vs, k => by
    simp only [RepL, List.map_cons] at k ⊢
    obtain ⟨v, ws, hv, h1, h2⟩ := k
    exact ⟨v, ws, hv, h a v h1, RepL.map h as ws h2⟩

theorem frz_ok {g : Gh} {H : AH} {w : World} (R : Rel g H w) (N : Nat) : ∀ (k : Nat) (a : AV) (v : Value), RepV g a v → RepV (g.ice w N) (frz N H k a) v := by
  intro k
  induction k with
  | zero => intro a v h; exact RepV.mono (ice_le R N) _ _ h
  | succ k ih =>
    intro a v h
    have hl := ice_le R N
    have hold := RepV.mono hl _ _ h
    have box : ∀ {id b : Nat} {cs : List AV}, N ≤ id → H.at id = some (.box cs) → g.M id = some (.box b) →
        ∃ vs, RepL (g.ice w N) (cs.map (frz N H k)) vs ∧ (g.ice w N).has b 0 vs := by
      intro id b cs hid hH hM
      obtain ⟨vs, el, h1, h2, h3⟩ := box_cells R hH hM
      refine ⟨vs, RepL.map ih _ _ h2, fun i v hi => ?_⟩
      rw [Gh.ice_yes ⟨id, hid, hM⟩]
      exact h3 i v hi
    cases a with
    | bsl id off sz n cap =>
      simp only [frz]
      split
      · exact hold
      · rename_i hid
        split
        · rename_i cs hH
          split
          · rename_i hfit
            simp only [RepV] at h ⊢
            obtain ⟨b, hM, rfl, hnc⟩ := h
            obtain ⟨vs, h1, h2⟩ := box (by omega) hH hM
            have h3 := (h1.drop off).take (n * sz)
            rw [← List.map_drop, ← List.map_take] at h3
            refine ⟨b, off, cap, _, rfl, h3, ?_, by simp; omega, hnc, trivial⟩
            have := Gh.has_take (Gh.has_drop h2 off) (n * sz)
            rwa [Nat.zero_add] at this
          · exact hold
        · exact hold
    | ptr id off =>
      simp only [frz]
      split
      · exact hold
      · rename_i hid
        split
        · rename_i cs hH
          simp only [RepV] at h ⊢
          obtain ⟨b, hM, rfl⟩ := h
          obtain ⟨vs, h1, h2⟩ := box (by omega) hH hM
          exact ⟨b, 0, vs, by rw [Nat.zero_add], h1, h2⟩
        · exact hold
    | vptr cs off =>
      simp only [frz, RepV] at h ⊢
      obtain ⟨b, o, vs, hv, h1, h2⟩ := h
      exact ⟨b, o, vs, hv, RepL.map ih _ _ h1, Gh.has_mono hl h2⟩
    | slice ow sz n cs =>
      simp only [frz, RepV] at h ⊢
      obtain ⟨b, o, cap, vs, hv, h1, h2, h3, h4, h5⟩ := h
      exact ⟨b, o, cap, vs, hv, RepL.map ih _ _ h1, Gh.has_mono hl h2, by rw [List.length_map]; exact h3, h4, h5.mono hl⟩
    | func fn fi ca =>
      simp only [frz, RepV] at h ⊢
      obtain ⟨fs, cs, hv, h1, h2⟩ := h
      exact ⟨fs, cs, hv, RepL.map ih _ _ h1, RepL.map ih _ _ h2⟩
    | iface t x =>
      simp only [frz, RepV] at h ⊢
      obtain ⟨y, hv, h1⟩ := h
      exact ⟨y, hv, ih _ _ h1⟩
    | agg cs =>
      simp only [frz, RepV] at h ⊢
      obtain ⟨vs, hv, h1⟩ := h
      exact ⟨vs, hv, RepL.map ih _ _ h1⟩
    | tup cs =>
      simp only [frz, RepV] at h ⊢
      obtain ⟨vs, hv, h1⟩ := h
      exact ⟨vs, hv, RepL.map ih _ _ h1⟩
    | _ => simpa only [frz] using hold

/-- A call whose leavings nobody knows of. -/
theorem CS.gc {P : Program} {E : Env} {f : FuncId} {args : List AV} {H H1 : AH} {v : AV} (k : Nat) (h : CS P E f args H v H1) (hv : low H.length (strip H.length (frz H.length H1 k v)) = true)
    (hH : lowH H.length (H1.take H.length) = true) : CS P E f args H (strip H.length (frz H.length H1 k v)) (H1.take H.length) := by
  intro g w cargs R hG hA
  refine Calls.mono (h g w cargs R hG hA) ?_
  rintro e w1 ⟨g1, cv, rfl, R1, p1, hr⟩
  have hle := ice_le R1 H.length
  have hM : ∀ id, id < H.length → ((g1.ice w1 H.length).cut H.length).M id = g1.M id := fun id hi => by simp only [Gh.cut]; rw [if_pos hi]; rfl
  have hMo : ∀ id, H.length ≤ id → ((g1.ice w1 H.length).cut H.length).M id = none := fun id hi => by simp only [Gh.cut]; rw [if_neg (by omega)]
  have hlt : ∀ {id e}, ((g1.ice w1 H.length).cut H.length).M id = some e → id < H.length ∧ g1.M id = some e := fun {id e} h => by
    rcases Nat.lt_or_ge id H.length with hi | hi
    · exact ⟨hi, by rw [← hM id hi]; exact h⟩
    · rw [hMo id hi] at h; cases h
  have hno : ∀ {id ge}, id < H.length → g1.M id = some ge → ¬ g1.gone H.length ge.block := by
    rintro id ge hi hg ⟨id', hi', hg'⟩
    have := R1.inj id id' ge (.box ge.block) hg hg' rfl
    omega
  refine ⟨(g1.ice w1 H.length).cut H.length, cv, rfl, ⟨?_, ?_, ?_, ?_, ?_⟩, ⟨⟨?_, ?_⟩, ?_, ?_, ?_, p1.size, p1.os, p1.tape, p1.output⟩, RepV.cut _ _ hv (RepV.strip _ _ _ (frz_ok R1 _ k _ _ hr))⟩
  · intro b i v' hb
    by_cases hg : g1.gone H.length b
    · have := Gh.ice_yes (w := w1) hg i
      exact this.symm.trans hb
    · have := Gh.ice_no (w := w1) hg i
      exact R1.imm b i v' (this.symm.trans hb)
  · intro id hn
    rw [at_take] at hn
    split at hn
    · rename_i hi
      rw [hM id hi]
      exact R1.free id hn
    · rename_i hi
      exact hMo id (by omega)
  · intro id e he hne
    rw [at_take] at he
    split at he
    · rename_i hi
      obtain ⟨ge, h1, h2⟩ := R1.ent id e he hne
      refine ⟨ge, by rw [hM id hi]; exact h1, ?_⟩
      have hGe : ∀ i, ((g1.ice w1 H.length).cut H.length).G ge.block i = g1.G ge.block i := fun i => Gh.ice_no (hno hi h1) i
      cases e with
      | hid => trivial
      | box cs =>
        cases ge with
        | box b =>
          obtain ⟨vs, el, h3, h4, h5⟩ := h2
          exact ⟨vs, el, h3, RepL.cut _ _ (lowH_at (i := id) hH (by rw [at_take, if_pos hi]; exact he)) (RepL.mono hle _ _ h4), fun i => (hGe i).trans (h5 i)⟩
        | tok => exact h2
      | tok k =>
        cases ge with
        | box => exact h2
        | tok b n sz cap =>
          obtain ⟨h3, h4, h5, h6⟩ := h2
          exact ⟨h3, h4, h5, fun i hi => (hGe i).trans (h6 i hi)⟩
    · cases he
  · intro id id' e e' he he' hb
    exact R1.inj id id' e e' (hlt he).2 (hlt he').2 hb
  · intro id e he
    exact R1.blk id e (hlt he).2
  · intro b i v' hb
    exact hle.G _ _ _ (p1.le.G _ _ _ hb)
  · intro id e he
    have hi : id < H.length := by
      rcases Nat.lt_or_ge id H.length with hi | hi
      · exact hi
      · rw [R.free id (at_ge hi)] at he; cases he
    obtain ⟨e', h1, h2⟩ := p1.le.M id e he
    exact ⟨e', by rw [hM id hi]; exact h1, h2⟩
  · intro id he
    have hi := at_lt he
    obtain ⟨h1, h2⟩ := p1.hid id he
    exact ⟨by rw [hM id hi]; exact h1, by rw [at_take, if_pos hi]; exact h2⟩
  · intro id e he
    exact p1.new id e (hlt he).2
  · intro b hb hn
    obtain ⟨h1, h2⟩ := p1.old b hb hn
    refine ⟨h1, fun i => ?_⟩
    have hg : ¬ g1.gone H.length b := by
      rintro ⟨id, hi, hM'⟩
      rcases p1.new id _ hM' with ⟨e0, h0, _⟩ | h0
      · rw [R.free id (at_ge hi)] at h0; cases h0
      · have : w.heap.size ≤ b := h0
        omega
    exact (Gh.ice_no hg i).trans (h2 i)

/-- A call, cleared up where that can be. -/
def tidy (k : Nat) (H : AH) (r : AV × AH) : AV × AH :=
  if low H.length (strip H.length (frz H.length r.2 k r.1)) = true ∧ lowH H.length (r.2.take H.length) = true then (strip H.length (frz H.length r.2 k r.1), r.2.take H.length) else r

/-- Functions run; 'fz': how deep a function's result is taken for never written again (0: not at all). -/
def run (fz : FuncId → Nat) (base : Orc) (P : Program) (E : Env) (loops : Nat) : Nat → Orc
  | 0, f, args, H => base f args H
  | n + 1, f, args, H =>
    (match base f args H with
    | some r => some r
    | none => (match evFunc (run fz base P E loops n) P E loops f args H with
      | some r => some (tidy (fz f) H r)
      | none => none))

/-- What was there stays; what was free stays free. -/
def Keeps (H H' : AH) : Prop := H.length ≤ H'.length ∧ ∀ id, id < H.length → H.at id = none → H'.at id = none

theorem Keeps.refl (H : AH) : Keeps H H := ⟨Nat.le_refl _, fun _ _ h => h⟩
theorem Keeps.trans {H H1 H2 : AH} (h : Keeps H H1) (k : Keeps H1 H2) : Keeps H H2 :=
  ⟨Nat.le_trans h.1 k.1, fun id hi hn => k.2 id (Nat.lt_of_lt_of_le hi h.1) (h.2 id hi hn)⟩

theorem Keeps.grow (H : AH) (n : Nat) : Keeps H (Fw.grow H n) := ⟨by simp [Fw.grow], fun id _ h => by rw [at_grow]; exact h⟩

section
variable {P : Program} {E : Env} {O : Orc}

theorem evOps_keeps (hS : Sound P E O) {ops : Array Oper} (N : Nat) : ∀ (ps : List (Oper × Nat)) {tmps tmps' : List AV} {H H' : AH}, evOps O P E ops ps tmps H = some (tmps', H') → (∀ p ∈ ps, N ≤ p.2) →
    H.length ≤ H'.length ∧ ∀ id, id < N → id < H.length → H.at id = none → H'.at id = none
  | [], _, _, _, _, h, _ => by
    simp only [evOps] at h; injection h with h; simp only [Prod.mk.injEq] at h; obtain ⟨_, rfl⟩ := h
    exact ⟨Nat.le_refl _, fun _ _ _ h => h⟩
  | (o, fid) :: ps, tmps, tmps', H, H', h, hN => by
    simp only [evOps] at h
    split at h
    · cases h
    · exact evOps_keeps hS N ps h fun p hp => hN p (List.mem_cons_of_mem _ hp)
    · split at h
      · rename_i v H1 hst
        obtain ⟨h1, h2⟩ := stepO_free hS hst
        obtain ⟨h3, h4⟩ := evOps_keeps hS N ps h fun p hp => hN p (List.mem_cons_of_mem _ hp)
        have := hN (o, fid) List.mem_cons_self
        refine ⟨Nat.le_trans h1 h3, fun id hi hl hn => h4 id hi (Nat.lt_of_lt_of_le hl h1) (h2 id hl hn (.inl ?_))⟩
        show id ≠ fid
        have : N ≤ fid := this
        omega
      · cases h

theorem evRegion_keeps (hS : Sound P E O) {ops : Array Oper} {tmps tmps' : List AV} {H H' : AH} (h : evRegion O P E ops tmps H = some (tmps', H')) : Keeps H H' := by
  obtain ⟨h1, h2⟩ := evOps_keeps hS H.length _ h (withIds_ge _ _)
  refine ⟨Nat.le_trans (Keeps.grow H _).1 h1, fun id hi hn => h2 id hi (by simp [grow]; omega) (by rw [at_grow]; exact hn)⟩

theorem RunsD_keeps (hS : Sound P E O) {ops : Array Oper} (N : Nat) : ∀ (L : List Item) {s s' : St}, RunsD O P E ops L s s' → (∀ r ∈ L, N ≤ r.p.2) →
    s.2.length = s'.2.length ∧ ∀ id, id < N → s.2.at id = none → s'.2.at id = none
  | [], s, s', h, _ => by simp only [RunsD] at h; subst h; exact ⟨rfl, fun _ _ h => h⟩
  | r :: L, s, s', h, hN => by
    simp only [RunsD] at h
    obtain ⟨h1, h2⟩ := h
    obtain ⟨h3, h4⟩ := RunsD_keeps hS N L h2 fun q hq => hN q (List.mem_cons_of_mem _ hq)
    refine ⟨?_, fun id hi hn => h4 id hi ?_⟩
    · rw [← h3]; exact (length_applyUps _ _).symm
    · show (applyUps s.2 r.u).at id = none
      rw [at_applyUps_free, hn]
      intro q hq he
      rcases dstep_free hS h1 q hq with ⟨h5, _⟩ | ⟨e, h5⟩
      · have := hN r List.mem_cons_self
        omega
      · rw [he, hn] at h5; cases h5

theorem evDraw_keeps (hS : Sound P E O) {ops : Array Oper} {tmps tmps' : List AV} {H H' : AH} (h : evDraw O P E ops tmps H = some (tmps', H')) : Keeps H H' := by
  unfold evDraw at h
  split at h
  · rename_i t K l he
    split at h
    · injection h with h; simp only [Prod.mk.injEq] at h; obtain ⟨rfl, rfl⟩ := h
      obtain ⟨h1, h2, _, _⟩ := evD_items _ _ _ _ _ _ _ he
      obtain ⟨h3, h4⟩ := RunsD_keeps hS H.length _ h1 (fun r hr => withIds_ge _ _ r.p (by rw [← h2]; exact List.mem_map_of_mem hr))
      refine ⟨?_, fun id hi hn => h4 id hi (by show (grow H _).at id = none; rw [at_grow]; exact hn)⟩
      have := (Keeps.grow H (idCount E ops.toList)).1
      simp only at h3
      omega
    · cases h
  · cases h

theorem evCode_keeps (hS : Sound P E O) (n : Nat) : ∀ (c : Code) {t t' : List AV} {H H' : AH} {ex : AEx}, evCode O P E n c t H = some (ex, t', H') → Keeps H H'
  | .skip, _, _, _, _, _, h => by simp only [evCode] at h; injection h with h; simp only [Prod.mk.injEq] at h; obtain ⟨_, _, rfl⟩ := h; exact Keeps.refl _
  | .region id ops draw, t, t', H, H', ex, h => by
    simp only [evCode] at h
    split at h
    · rename_i t1 H1 he
      injection h with h; simp only [Prod.mk.injEq] at h; obtain ⟨_, _, rfl⟩ := h
      cases draw with
      | true => exact evDraw_keeps hS (by simpa using he)
      | false => exact evRegion_keeps hS (by simpa using he)
    · cases h
  | .seq x y, t, t', H, H', ex, h => by
    simp only [evCode] at h
    split at h
    · rename_i t1 H1 he
      exact (evCode_keeps hS n x he).trans (evCode_keeps hS n y h)
    · exact evCode_keeps hS n x h
  | .cond c x y, t, t', H, H', ex, h => by
    simp only [evCode] at h
    split at h
    · exact evCode_keeps hS n x h
    · exact evCode_keeps hS n y h
    · cases h
  | .block id c, t, t', H, H', ex, h => by
    simp only [evCode] at h
    split at h
    · rename_i id' t1 H1 he
      have := evCode_keeps hS n c he
      split at h <;> (injection h with h; simp only [Prod.mk.injEq] at h; obtain ⟨_, _, rfl⟩ := h; exact this)
    · exact evCode_keeps hS n c h
  | .loop c, t, t', H, H', ex, h => by
    simp only [evCode] at h
    have key : ∀ (k : Nat) {H : AH} {t : List AV}, iter (evCode O P E n c) k t H = some (ex, t', H') → Keeps H H' := by
      intro k
      induction k with
      | zero => intro H t h; simp only [iter] at h; cases h
      | succ k ih =>
        intro H t h
        simp only [iter] at h
        split at h
        · rename_i t1 H1 he
          exact (evCode_keeps hS n c he).trans (ih h)
        · exact evCode_keeps hS n c h
    exact key n h
  | .exit id, _, _, _, _, _, h => by simp only [evCode] at h; injection h with h; simp only [Prod.mk.injEq] at h; obtain ⟨_, _, rfl⟩ := h; exact Keeps.refl _
  | .ret, _, _, _, _, _, h => by simp only [evCode] at h; injection h with h; simp only [Prod.mk.injEq] at h; obtain ⟨_, _, rfl⟩ := h; exact Keeps.refl _
  | .rangeFunc _ _ _ _, _, _, _, _, _, h => by simp only [evCode] at h; cases h
  | .scope _, _, _, _, _, _, h => by simp only [evCode] at h; cases h
  | .label _, _, _, _, _, _, h => by simp only [evCode] at h; cases h
  | .goto _, _, _, _, _, _, h => by simp only [evCode] at h; cases h
  | .refuse _, _, _, _, _, _, h => by simp only [evCode] at h; cases h

theorem evFunc_keeps (hS : Sound P E O) {n : Nat} {f : FuncId} {args : List AV} {H H' : AH} {v : AV} (h : evFunc O P E n f args H = some (v, H')) : Keeps H H' := by
  unfold evFunc at h
  split at h
  · split at h
    · split at h
      · cases h
      · rename_i ex t H1 hne he
        split at h
        · injection h with h; simp only [Prod.mk.injEq] at h; obtain ⟨_, rfl⟩ := h
          exact evCode_keeps hS n _ he
        · cases h
      · cases h
    · cases h
  · cases h

theorem run_sound {fz : FuncId → Nat} {base : Orc} (hB : Sound P E base) (hM : MethOk P E) (hmix : P.follows .mixedOrders = true) (loops : Nat) : ∀ n, Sound P E (run fz base P E loops n)
  | 0 => hB
  | n + 1 => by
    have ih := run_sound (fz := fz) hB hM hmix loops n
    intro f args H v H' h
    simp only [run] at h
    split at h
    · rename_i r hr
      injection h with h; subst h
      exact hB _ _ _ _ _ hr
    · split at h
      · rename_i r hr
        obtain ⟨v1, H1⟩ := r
        have h1 := evFunc_ok ih hM hmix hr
        obtain ⟨h2, h3⟩ := evFunc_keeps ih hr
        injection h with h
        unfold tidy at h
        split at h
        · rename_i hc
          simp only [Prod.mk.injEq] at h
          obtain ⟨rfl, rfl⟩ := h
          refine ⟨h1.gc _ hc.1 hc.2, by simp; omega, fun id hi hn => ?_⟩
          rw [at_take, if_pos hi]
          exact h3 id hi hn
        · simp only [Prod.mk.injEq] at h
          obtain ⟨rfl, rfl⟩ := h
          exact ⟨h1, h2, h3⟩
      · cases h
end
end Go.Proofs.Fw
