/- A contract at the empty heap is one at any heap; oracles out of contracts. -/
import Derived.Test.YtpmonaempgjgbaaDoorFwRow
namespace Go.Proofs.Fw
open Go.RowKit

def Gh.bare (g : Gh) : Gh := { G := g.G, M := fun _ => none }

theorem Gh.bare_le (g : Gh) : g.bare.le g := ⟨fun _ _ _ h => h, fun _ _ h => by cases h⟩

theorem bare_cut (g : Gh) : g.bare = g.cut 0 := by
  unfold Gh.bare Gh.cut
  congr

/-- What is told at the empty heap is so at every one. -/
theorem CS.frame {P : Program} {E : Env} {f : FuncId} {args : List AV} {v : AV} (h : CS P E f args [] v []) (hE : ∀ i, low 0 (E.glob i) = true) (ha : lowL 0 args = true) (H : AH) : CS P E f args H v H := by
  intro g w cargs R hG hA
  have R0 : Rel g.bare [] w := ⟨R.imm, fun _ _ => rfl, fun id e he => by simp [AH.at] at he, fun _ _ _ _ h => (by cases h), fun _ _ h => (by cases h)⟩
  have hG0 : GlobOk E g.bare := fun i => by rw [bare_cut]; exact RepV.cut _ _ (hE i) (hG i)
  have hA0 : RepL g.bare args cargs := by rw [bare_cut]; exact RepL.cut _ _ ha hA
  refine (h g.bare w cargs R0 hG0 hA0).mono ?_
  rintro e w1 ⟨g1, cv, rfl, R1, p1, hr⟩
  have hold : ∀ b, b < w.heap.size → w1.heap[b]? = w.heap[b]? ∧ ∀ i, g1.G b i = g.G b i := fun b hb => p1.old b hb fun id e ge he => by simp [AH.at] at he
  have hM1 : ∀ id, g1.M id = none := fun id => R1.free id (by simp [AH.at])
  let g' : Gh := { G := g1.G, M := g.M }
  have hle1 : g1.le g' := ⟨fun _ _ _ h => h, fun id e h => by rw [hM1 id] at h; cases h⟩
  have hle : g.le g' := ⟨fun b i v h => p1.le.G b i v h, fun id e h => ⟨e, h, e.le_refl⟩⟩
  refine ⟨g', cv, rfl, ⟨R1.imm, R.free, ?_, R.inj, fun id e he => Nat.lt_of_lt_of_le (R.blk id e he) p1.size⟩, ⟨hle, fun id hid => ⟨rfl, hid⟩, fun id e he => .inl ⟨e, he, rfl⟩, fun b hb _ => hold b hb, p1.size, p1.os, p1.tape, p1.output⟩, RepV.mono hle1 _ _ hr⟩
  intro id e he hne
  obtain ⟨ge, h1, h2⟩ := R.ent id e he hne
  have hb := hold _ (R.blk id ge h1)
  exact ⟨ge, h1, h2.keep hle hb.1 hb.2⟩

/-- An oracle that tells what is proved of calls that leave the heap as it was. -/
theorem Sound.pure {P : Program} {E : Env} {O : Orc} (h : ∀ f args H v H', O f args H = some (v, H') → H' = H ∧ CS P E f args H v H) : Sound P E O := by
  intro f args H v H' ho
  obtain ⟨rfl, hc⟩ := h f args H v H' ho
  exact ⟨hc, Nat.le_refl _, fun _ _ h => h⟩

def orElse (a b : Orc) : Orc := fun f args H => match a f args H with
  | some r => some r
  | none => b f args H

theorem Sound.orElse {P : Program} {E : Env} {a b : Orc} (ha : Sound P E a) (hb : Sound P E b) : Sound P E (orElse a b) := by
  intro f args H v H' h
  unfold Fw.orElse at h
  split at h
  · rename_i r hr
    injection h with h
    subst h
    exact ha f args H v H' hr
  · exact hb f args H v H' h

/-- One call without arguments. -/
def call0 (f0 : FuncId) (v : AV) : Orc := fun f args H => if f = f0 then (match args with
  | [] => some (v, H)
  | _ => none) else none

theorem Sound.call0 {P : Program} {E : Env} {f0 : FuncId} {v : AV} (hE : ∀ i, low 0 (E.glob i) = true) (h : CS P E f0 [] [] v []) : Sound P E (call0 f0 v) := by
  refine Sound.pure fun f args H v' H' ho => ?_
  unfold Fw.call0 at ho
  split at ho
  · rename_i hf
    split at ho
    · injection ho with ho
      simp only [Prod.mk.injEq] at ho
      obtain ⟨rfl, rfl⟩ := ho
      subst hf
      exact ⟨rfl, h.frame hE rfl H⟩
    · cases ho
  · cases ho

/-- Calls with one string, by a table. -/
def callS (f0 : FuncId) (F : List UInt8 → Option AV) : Orc := fun f args H => if f = f0 then (match args with
  | [.str s] => (match F s with
    | some v => some (v, H)
    | none => none)
  | _ => none) else none

theorem Sound.callS {P : Program} {E : Env} {f0 : FuncId} {F : List UInt8 → Option AV} (hE : ∀ i, low 0 (E.glob i) = true) (h : ∀ s v, F s = some v → CS P E f0 [.str s] [] v []) : Sound P E (callS f0 F) := by
  refine Sound.pure fun f args H v' H' ho => ?_
  unfold Fw.callS at ho
  split at ho
  · rename_i hf
    split at ho
    · rename_i s
      split at ho
      · rename_i v hv
        injection ho with ho
        simp only [Prod.mk.injEq] at ho
        obtain ⟨rfl, rfl⟩ := ho
        subst hf
        exact ⟨rfl, (h s v hv).frame hE rfl H⟩
      · cases ho
    · cases ho
  · cases ho

/-- A contract of the kit's about a call that leaves the world. -/
theorem CS.of_calls {P : Program} {E : Env} {f : FuncId} {args : List AV} {v : AV} {H : AH} (h : ∀ g w cargs, RepL g args cargs → Calls P f (List.toArray cargs) w fun e w' => ∃ cv, e = .returned cv ∧ (∀ g, RepV g v cv) ∧ w' = w) : CS P E f args H v H := by
  intro g w cargs R hG hA
  refine (h g w cargs hA).mono ?_
  rintro e w' ⟨cv, rfl, hr, rfl⟩
  exact ⟨g, cv, rfl, R, Post.refl g H _, hr g⟩

theorem low_globOf {tab : List (Nat × AV)} (h : ∀ x ∈ tab, low 0 x.2 = true) : ∀ i, low 0 (globOf tab i) = true := by
  intro i
  unfold globOf
  split
  · rename_i x hx
    exact h x (List.mem_of_find?_eq_some hx)
  · rfl
end Go.Proofs.Fw
