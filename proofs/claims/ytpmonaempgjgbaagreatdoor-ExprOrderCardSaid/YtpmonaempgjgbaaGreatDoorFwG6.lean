/- Contracts as values, oracles out of rows of them; rows of things that have cells. -/
import Derived.Test.YtpmonaempgjgbaaGreatDoorFwG5
import Derived.ChangeSlices
import Derived.WideShapes
import Derived.Carry
set_option linter.unusedSimpArgs false
set_option linter.unusedVariables false
namespace Go.Proofs.Fw
open Go.RowKit

/-- A function's contract: what it is handed (told by some data), what it answers, what it makes of the heap. -/
structure Fact (P : Program) (E : Env) where
  f : FuncId
  α : Type
  ok : α → AH → Prop
  args : α → List AV
  out : α → AV
  up : α → AH → AH
  cs : ∀ x H, ok x H → CS P E f (args x) H (out x) (up x H) ∧ Keeps H (up x H)
  same : ∀ x y H, ok x H → ok y H → args x = args y → out x = out y ∧ up x H = up y H

section
variable {P : Program} {E : Env}

open Classical in
noncomputable def Fact.orc (F : Fact P E) : Orc := fun f args H =>
  if h : f = F.f ∧ ∃ x, F.ok x H ∧ args = F.args x then some (F.out h.2.choose, F.up h.2.choose H) else none

theorem Fact.orc_at (F : Fact P E) {x : F.α} {H : AH} (h : F.ok x H) : F.orc F.f (F.args x) H = some (F.out x, F.up x H) := by
  have hh : F.f = F.f ∧ ∃ y, F.ok y H ∧ F.args x = F.args y := ⟨rfl, x, h, rfl⟩
  unfold Fact.orc
  rw [dif_pos hh]
  have hc := hh.2.choose_spec
  obtain ⟨h1, h2⟩ := F.same _ _ H hc.1 h hc.2.symm
  rw [h1, h2]
theorem Fact.orc_ne (F : Fact P E) {f : FuncId} {args : List AV} {H : AH} (h : f ≠ F.f) : F.orc f args H = none := by
  unfold Fact.orc
  rw [dif_neg fun k => h k.1]
theorem Fact.orc_sound (F : Fact P E) : Sound P E F.orc := by
  intro f args H v H' ho
  unfold Fact.orc at ho
  split at ho
  · rename_i hx
    injection ho with ho
    simp only [Prod.mk.injEq] at ho
    obtain ⟨rfl, rfl⟩ := ho
    have hs := hx.2.choose_spec
    generalize hx.2.choose = y at *
    obtain ⟨rfl, _⟩ := hx
    rw [hs.2]
    obtain ⟨h1, h2⟩ := F.cs y H hs.1
    exact ⟨h1, h2.1, h2.2⟩
  · cases ho

/-- The answers of a row of facts: the first one of the function decides. -/
noncomputable def oOf : List (Fact P E) → Orc
  | [] => fun _ _ _ => none
  | F :: L => fun f args H => if f = F.f then F.orc f args H else oOf L f args H
theorem oOf_sound : ∀ L : List (Fact P E), Sound P E (oOf L)
  | [] => fun _ _ _ _ _ h => by cases h
  | F :: L => fun f args H v H' ho => by
    unfold oOf at ho
    split at ho
    · exact F.orc_sound f args H v H' ho
    · exact oOf_sound L f args H v H' ho
theorem oOf_hd (F : Fact P E) (L : List (Fact P E)) {x : F.α} {H : AH} (h : F.ok x H) : oOf (F :: L) F.f (F.args x) H = some (F.out x, F.up x H) := by
  unfold oOf
  rw [if_pos rfl, F.orc_at h]
theorem oOf_tl (F : Fact P E) (L : List (Fact P E)) {f : FuncId} {args : List AV} {H : AH} (h : f ≠ F.f) : oOf (F :: L) f args H = oOf L f args H := by
  conv => lhs; unfold oOf
  rw [if_neg h]
/-- Which fact of a row answers for a function: its place. -/
theorem oOf_at (L : List (Fact P E)) (i : Nat) (F : Fact P E) (hi : L[i]? = some F) (hf : ∀ j, j < i → ∀ G, L[j]? = some G → F.f ≠ G.f) {x : F.α} {H : AH} (h : F.ok x H) : oOf L F.f (F.args x) H = some (F.out x, F.up x H) := by
  induction L generalizing i with
  | nil => simp at hi
  | cons G L ih =>
    cases i with
    | zero =>
      simp only [List.getElem?_cons_zero, Option.some.injEq] at hi
      subst hi
      exact oOf_hd G L h
    | succ i =>
      rw [oOf_tl G L (hf 0 (by omega) G (by simp))]
      exact ih i (by simpa using hi) fun j hj G' hG' => hf (j + 1) (by omega) G' (by simpa using hG')

/-- Those facts alone: a row's functions are other ones, one by one. -/
def apartF (L : List (Fact P E)) : Bool := (L.map (·.f)).Nodup
theorem oOf_mem {L : List (Fact P E)} (hL : (L.map (·.f)).Nodup) (F : Fact P E) (hF : F ∈ L) {x : F.α} {H : AH} (h : F.ok x H) : oOf L F.f (F.args x) H = some (F.out x, F.up x H) := by
  induction L with
  | nil => cases hF
  | cons G L ih =>
    rw [List.map_cons, List.nodup_cons] at hL
    rcases List.mem_cons.1 hF with rfl | hF
    · exact oOf_hd F L h
    · have hne : F.f ≠ G.f := fun he => hL.1 (he ▸ List.mem_map_of_mem hF)
      rw [oOf_tl G L hne]
      exact ih hL.2 hF
theorem oOf_cx (L : List (Fact P E)) (hM : MethOk P E) (hmix : P.follows .mixedOrders = true) : Cx (oOf L) P E := ⟨oOf_sound L, hM, hmix⟩

/-- A fact of a function that leaves the heap. -/
def Fact.pure (f : FuncId) {α : Type} (ok : α → Prop) (mk : α → List AV) (out : α → AV) (cs : ∀ x, ok x → ∀ H, CS P E f (mk x) H (out x) H) (same : ∀ x y, ok x → ok y → mk x = mk y → out x = out y) : Fact P E where
  f := f
  α := α
  ok := fun x _ => ok x
  args := mk
  out := out
  up := fun _ H => H
  cs := fun x H h => ⟨cs x h H, Keeps.refl H⟩
  same := fun x y _ hx hy h => ⟨same x y hx hy h, rfl⟩

theorem keeps_set {H : AH} {id : Nat} {e e' : Ent} (h : H.at id = some e) : Keeps H (H.set id (some e')) := Keeps.set h

/-- A fact of a method whose receiver is one box. -/
def Fact.meth (f : FuncId) {S α : Type} (cell : S → List AV) (hc : ∀ s s', cell s = cell s' → s = s') (ok : α → S → Prop) (mk : Nat → α → List AV) (out : α → S → AV) (next : α → S → S)
    (cs : ∀ x s, ok x s → ∀ H id, H.at id = some (.box (cell s)) → CS P E f (.ptr id 0 :: mk id x) H (out x s) (H.set id (some (.box (cell (next x s))))))
    (same : ∀ id x y s, ok x s → ok y s → mk id x = mk id y → out x s = out y s ∧ next x s = next y s) : Fact P E where
  f := f
  α := Nat × α × S
  ok := fun x H => H.at x.1 = some (.box (cell x.2.2)) ∧ ok x.2.1 x.2.2
  args := fun x => .ptr x.1 0 :: mk x.1 x.2.1
  out := fun x => out x.2.1 x.2.2
  up := fun x H => H.set x.1 (some (.box (cell (next x.2.1 x.2.2))))
  cs := fun x H h => ⟨cs x.2.1 x.2.2 h.2 H x.1 h.1, Keeps.set h.1⟩
  same := fun x y H hx hy h => by
    obtain ⟨i, a, s⟩ := x
    obtain ⟨j, b, s'⟩ := y
    simp only [List.cons.injEq, AV.ptr.injEq, and_true] at h hx hy ⊢
    obtain ⟨rfl, h⟩ := h
    have he := hx.1.symm.trans hy.1
    simp only [Option.some.injEq, Ent.box.injEq] at he
    have := hc _ _ he
    subst this
    obtain ⟨h1, h2⟩ := same i a b s hx.2 hy.2 h
    rw [h1, h2]
    exact ⟨rfl, rfl⟩
end

/-! Rows of things that have cells. -/
/-- How a thing lies in cells. -/
structure Enc (α : Type) where
  sz : Nat
  c : α → List AV
  pos : 0 < sz
  len : ∀ x, (c x).length = sz
  low : ∀ x, lowL 0 (c x) = true
  one : ∀ x, (c x).all AV.one = true
  inj : ∀ x y, c x = c y → x = y

mutual
theorem ids_low0 : ∀ a : AV, low 0 a = true → idsOf a = []
  | .undef, _ => rfl
  | .bool _, _ => rfl
  | .int _ _, _ => rfl
  | .str _, _ => rfl
  | .nilPtr, _ => rfl
  | .nilSlice, _ => rfl
  | .nilMap, _ => rfl
  | .nilFunc, _ => rfl
  | .adr _ _, _ => rfl
  | .nilIface, _ => rfl
  | .ptr _ _, h => by simp [Fw.low] at h
  | .bsl _ _ _ _ _, h => by simp [Fw.low] at h
  | .vptr _ _, _ => rfl
  | .slice .unk _ _ _, _ => rfl
  | .slice .full _ _ _, _ => rfl
  | .slice (.tok _) _ _ _, h => by simp [Fw.low] at h
  | .func _ a b, h => by simp only [Fw.low, Bool.and_eq_true] at h; simp only [idsOf, ids_low0L a h.1, ids_low0L b h.2, List.append_nil]
  | .iface _ v, h => by simp only [Fw.low] at h; simp only [idsOf, ids_low0 v h]
  | .agg cs, h => by simp only [Fw.low] at h; simp only [idsOf, ids_low0L cs h]
  | .tup cs, h => by simp only [Fw.low] at h; simp only [idsOf, ids_low0L cs h]
theorem ids_low0L : ∀ as : List AV, lowL 0 as = true → idsOfL as = []
  | [], _ => rfl
  | a :: as, h => by simp only [Fw.lowL, Bool.and_eq_true] at h; simp only [idsOfL, ids_low0 a h.1, ids_low0L as h.2, List.append_nil]
end

section
variable {α : Type} (E : Enc α)
def Enc.row : List α → List AV
  | [] => []
  | x :: l => E.c x ++ Enc.row l
theorem Enc.row_nil : E.row [] = [] := rfl
theorem Enc.row_cons (x : α) (l : List α) : E.row (x :: l) = E.c x ++ E.row l := rfl
theorem Enc.row_append : ∀ a b : List α, E.row (a ++ b) = E.row a ++ E.row b
  | [], b => rfl
  | x :: a, b => by rw [List.cons_append, Enc.row, Enc.row, Enc.row_append a b, List.append_assoc]
theorem Enc.row_one1 (x : α) : E.row [x] = E.c x := by rw [Enc.row, Enc.row, List.append_nil]
theorem Enc.row_length : ∀ l : List α, (E.row l).length = l.length * E.sz
  | [] => by simp [Enc.row]
  | x :: l => by rw [Enc.row, List.length_append, E.len, Enc.row_length l, List.length_cons, Nat.add_mul, Nat.one_mul, Nat.add_comm]
theorem Enc.row_low : ∀ l : List α, lowL 0 (E.row l) = true
  | [] => rfl
  | x :: l => by rw [Enc.row, lowL_append, E.low x, Enc.row_low l]; rfl
theorem Enc.row_lowm (m : Nat) (l : List α) : lowL m (E.row l) = true := lowL_mono (Nat.zero_le m) _ (E.row_low l)
theorem Enc.row_one : ∀ l : List α, (E.row l).all AV.one = true
  | [] => rfl
  | x :: l => by rw [Enc.row, List.all_append, E.one x, Enc.row_one l]; rfl
theorem Enc.row_inj : ∀ {a b : List α}, E.row a = E.row b → a = b
  | [], [], _ => rfl
  | [], x :: b, h => by
    have h1 := congrArg List.length h
    have h2 := E.pos
    rw [E.row_length, E.row_length, List.length_cons, Nat.add_mul] at h1
    simp at h1; omega
  | x :: a, [], h => by
    have h1 := congrArg List.length h
    have h2 := E.pos
    rw [E.row_length, E.row_length, List.length_cons, Nat.add_mul] at h1
    simp at h1; omega
  | x :: a, y :: b, h => by
    rw [Enc.row, Enc.row] at h
    obtain ⟨h1, h2⟩ := List.append_inj h (by rw [E.len, E.len])
    rw [E.inj x y h1, Enc.row_inj h2]
theorem Enc.row_at : ∀ (l : List α) (i : Nat) {x : α}, l[i]? = some x → ((E.row l).drop (i * E.sz)).take E.sz = E.c x ∧ i * E.sz + E.sz ≤ (E.row l).length
  | [], i, x, h => by simp at h
  | y :: l, 0, x, h => by
    simp only [List.getElem?_cons_zero, Option.some.injEq] at h
    subst h
    have hx := E.len y
    rw [Enc.row, Nat.zero_mul, List.drop_zero, List.take_append_of_le_length (by omega), List.take_of_length_le (by omega), List.length_append]
    exact ⟨rfl, by omega⟩
  | y :: l, i + 1, x, h => by
    simp only [List.getElem?_cons_succ] at h
    obtain ⟨h1, h2⟩ := Enc.row_at l i h
    have hx := E.len y
    rw [Enc.row, List.length_append, Nat.add_mul, Nat.one_mul]
    refine ⟨?_, by omega⟩
    rw [List.drop_append, List.drop_of_length_le (by omega), hx, List.nil_append, show i * E.sz + E.sz - E.sz = i * E.sz by omega]
    exact h1
theorem Enc.row_cell {l : List α} {i : Nat} {x : α} (h : l[i]? = some x) (k : Nat) (hk : k < E.sz) : (E.row l)[i * E.sz + k]? = (E.c x)[k]? := by
  obtain ⟨h1, _⟩ := E.row_at l i h
  rw [← h1, List.getElem?_take, if_pos hk, List.getElem?_drop]

/-- A row that is handed over: nil where it is empty. -/
def Enc.av (l : List α) : AV := if l = [] then .nilSlice else .slice .unk E.sz l.length (E.row l)
/-- A row that grows. -/
def Enc.tk (k : Nat) (l : List α) : AV := if l = [] then .nilSlice else .slice (.tok k) E.sz l.length (E.row l)
/-- A row that grows, of which one is there. -/
@[simp] theorem Enc.av_nil : E.av [] = .nilSlice := nrfl rfl
@[simp] theorem Enc.tk_nil (k : Nat) : E.tk k [] = .nilSlice := nrfl rfl
theorem Enc.av_cons (x : α) (l : List α) : E.av (x :: l) = .slice .unk E.sz (l.length + 1) (E.row (x :: l)) := nrfl rfl
theorem Enc.av_ne {l : List α} (h : l ≠ []) : E.av l = .slice .unk E.sz l.length (E.row l) := if_neg h
theorem Enc.tk_ne (k : Nat) {l : List α} (h : l ≠ []) : E.tk k l = .slice (.tok k) E.sz l.length (E.row l) := if_neg h
@[simp ↓ high] theorem Enc.av_low0 (l : List α) : Fw.low 0 (E.av l) = true := by
  unfold Enc.av; split
  · rfl
  · exact E.row_low l
@[simp ↓ high] theorem Enc.av_low (m : Nat) (l : List α) : Fw.low m (E.av l) = true := low_mono (Nat.zero_le m) _ (E.av_low0 l)
@[simp ↓ high] theorem Enc.av_ids (l : List α) : idsOf (E.av l) = [] := ids_low0 _ (E.av_low0 l)
@[simp ↓ high] theorem Enc.av_known (l : List α) : (E.av l).known = true := by unfold Enc.av; split <;> rfl
@[simp ↓ high] theorem Enc.av_one (l : List α) : (E.av l).one = true := by unfold Enc.av; split <;> rfl
@[simp ↓ high] theorem Enc.av_cells (l : List α) : cellsAV (E.av l) = [E.av l] := by unfold Enc.av; split <;> rfl
@[simp ↓ high] theorem Enc.row_lowS (m : Nat) (l : List α) : lowL m (E.row l) = true := E.row_lowm m l
theorem Enc.av_inj {a b : List α} (h : E.av a = E.av b) : a = b := by
  unfold Enc.av at h
  split at h
  · split at h
    · rename_i h1 h2; rw [h1, h2]
    · cases h
  · split at h
    · cases h
    · injection h with _ _ _ h
      exact E.row_inj h
theorem Enc.alen {P : Program} {t e : TypeId} (hu : P.underlying t = some (.slice e)) (l : List α) : Fw.alen P t (E.av l) = some (.int .i64 l.length) := by
  unfold Enc.av
  split
  · rename_i h; subst h; simp [Fw.alen, hu]
  · simp [Fw.alen, hu]
theorem Enc.aidx {P : Program} {t e : TypeId} (hu : P.underlying t = some (.slice e)) (hs : szOf P e = some E.sz) {l : List α} {i : Nat} (h : i < l.length) : aindexAddr P t (E.av l) (.int .i64 (i : Int)) = some (.vptr (E.row l) (i * E.sz)) := by
  have hne : l ≠ [] := by rintro rfl; simp at h
  have : (i : Int) < l.length := by omega
  simp [E.av_ne hne, aindexAddr, hu, hs, h]
theorem Enc.app_nil {P : Program} {H : AH} {fid : Nat} {t : TypeId} {ow : Own} (h : elemChk P t E.sz = true) (l : List α) (hl : l ≠ []) (hb : l.length ≤ 137438953472) :
    aappend P H fid t t .nilSlice (.slice ow E.sz l.length (E.row l)) = some (E.tk fid l, [(fid, .tok l.length)]) := by
  rw [aappend_nil h (List.length_pos_iff.2 hl) hb (E.row_one l), E.tk_ne _ hl]
theorem Enc.app1_nil {P : Program} {H : AH} {fid : Nat} {t : TypeId} {ow : Own} (h : elemChk P t E.sz = true) (x : α) :
    aappend P H fid t t .nilSlice (.slice ow E.sz 1 (E.c x)) = some (.slice (.tok fid) E.sz 1 (E.c x), [(fid, .tok 1)]) :=
  aappend_nil h (by decide) (by decide) (E.one x)
theorem Enc.app1_tok {P : Program} {H : AH} {fid k n : Nat} {t : TypeId} {ow : Own} (h : elemChk P t E.sz = true) (l : List α) (x : α) (hn : n = l.length) (hk : H.at k = some (.tok n)) (hb : n + 1 ≤ 137438953472) :
    aappend P H fid t t (.slice (.tok k) E.sz n (E.row l)) (.slice ow E.sz 1 (E.c x)) = some (.slice (.tok k) E.sz (n + 1) (E.row (l ++ [x])), [(k, .tok (n + 1))]) := by
  rw [aappend_tok h hk (by decide) hb (E.one x), E.row_append, E.row_one1]
end
end Go.Proofs.Fw

namespace Go.Proofs.Fw
open Go.RowKit Go.WideShapes Go.ChangeShapes

theorem okWide_spot {P : Program} {w : World} {r : Reach} {b : Nat} {t e : TypeId} {a : Addr} {len cap : Nat} (ht : P.underlying t = some (.slice e)) (h : Value.okWide P w r b t (.slice (some a) len cap)) : a.spot = none := by
  simp only [Value.okWide, ht, Cell.okWide, Cell.ok, World.has] at h
  exact h.2.2.2.1

/-- A row of numbers, as it comes in. -/
def intsOf (k : IntKind) (lv : AV) (zs : List Int) : Prop := (lv = .nilSlice ∧ zs = []) ∨ lv = .slice .unk 1 zs.length (zs.map (.int k))
theorem repInts (g : Gh) (k : IntKind) : ∀ zs : List Int, RepL g (zs.map (AV.int k)) (zs.map (Value.int k))
  | [] => by simp [RepL]
  | z :: zs => by
    simp only [List.map_cons, RepL]
    exact ⟨_, _, rfl, by simp [RepV], repInts g k zs⟩

theorem open_intsR {H : Type} {enc : TypeId × Value → H} {P : Program} {W : World} {base : Nat} {sp : Nat → Bool} {held : Bool} {r : Reach} {b0 : Nat} {t e : TypeId} {k : IntKind} {v : Value} {d : DataW H} {ps : List MemPlace}
    (ht : P.underlying t = some (.slice e)) (he : P.underlying e = some (.int k)) (hc : P.cellsOf e = 1) (hval : Value.okWide P W r b0 t v) (h : DataW.Trod enc P W base sp held t v d ps) :
    ∃ lv zs, intsOf k lv zs ∧ (∀ z ∈ zs, (Lit.int k z).wf = true) ∧ RepV (ghAll W) lv v := by
  obtain ⟨a0, len, cap, rfl⟩ := okWide_slice ht hval
  obtain ⟨fuel, hf⟩ := h
  rcases open_ints ht he hc hf with ⟨hcs, _⟩ | ⟨a, len', cap', zs, hcs, _, hl, hm, hz, hx, hcell, hwz⟩
  · simp [Value.cells] at hcs
    obtain ⟨rfl, rfl, rfl⟩ := hcs
    exact ⟨.nilSlice, [], .inl ⟨rfl, rfl⟩, by simp, by simp [RepV]⟩
  · simp [Value.cells] at hcs
    obtain ⟨rfl, rfl, rfl⟩ := hcs
    have hs := okWide_spot ht hval
    obtain ⟨b, o, spot⟩ := a
    simp only at hs
    subst hs
    have hlz : len ≤ zs.length := by rw [hz]; split <;> omega
    refine ⟨.slice .unk 1 (zs.take len).length ((zs.take len).map (.int k)), zs.take len, .inr rfl, fun z hz => hwz z (List.mem_of_mem_take hz), ?_⟩
    simp only [RepV]
    refine ⟨b, o, cap, (zs.take len).map (Value.int k), by rw [List.length_take, Nat.min_eq_left hlz], repInts _ k _, fun i v hi => ?_, by simp, by rw [List.length_take]; omega, trivial⟩
    rw [List.getElem?_map] at hi
    obtain ⟨z, hz1, rfl⟩ := Option.map_eq_some_iff.1 hi
    have hil : i < zs.length := by
      have := (List.getElem?_eq_some_iff.1 hz1).1
      rw [List.length_take] at this; omega
    have := hcell i hil
    have hzi : zs[i]? = some z := by
      rw [List.getElem?_take] at hz1
      split at hz1
      · exact hz1
      · cases hz1
    rw [List.getD_eq_getElem?_getD, hzi, Option.getD_some] at this
    show W.cell? ⟨b, o + i, none⟩ = _
    rw [← this]
    unfold Addr.add
    split
    · rename_i h0; subst h0; rfl
    · rfl
end Go.Proofs.Fw

