/- Contracts as values, oracles out of rows of them; rows of things that have cells. -/
import Derived.Test.YtejjlojfgcgopaaGreatDoorZi5
import Derived.ChangeSlices
import Derived.WideShapes
import Derived.Carry
set_option linter.unusedSimpArgs false
set_option linter.unusedVariables false
namespace Go.Proofs.Fw
open Go.RowKit
structure Fact (P : Program) (E : Env) where
  f : FuncId
  α : Type
  ok : α → AH → Prop
  args : α → List AV
  out : α → AV
  up : α → AH → AH
  cs : ∀ x H, ok x H → CS P E f (args x) H (out x) (up x H) ∧ Keeps H (up x H)
  same : ∀ x y H, ok x H → ok y H → args x = args y → out x = out y ∧ up x H = up y H
section
variable {P : Program} {E : Env}
open Classical in
noncomputable def Fact.orc (F : Fact P E) : Orc := fun f args H =>
  if h : f = F.f ∧ ∃ x, F.ok x H ∧ args = F.args x then some (F.out h.2.choose, F.up h.2.choose H) else none
theorem Fact.orc_at (F : Fact P E) {x : F.α} {H : AH} (h : F.ok x H) : F.orc F.f (F.args x) H = some (F.out x, F.up x H) := by
  have hh : F.f = F.f ∧ ∃ y, F.ok y H ∧ F.args x = F.args y := ⟨rfl, x, h, rfl⟩
  unfold Fact.orc
  rw [dif_pos hh]
  have hc := hh.2.choose_spec
  obtain ⟨h1, h2⟩ := F.same _ _ H hc.1 h hc.2.symm
  rw [h1, h2]
theorem Fact.orc_sound (F : Fact P E) : Sound P E F.orc := by
  intro f args H v H' ho
  unfold Fact.orc at ho
  split at ho
  · rename_i hx
    injection ho with ho
    simp only [Prod.mk.injEq] at ho
    obtain ⟨rfl, rfl⟩ := ho
    have hs := hx.2.choose_spec
    generalize hx.2.choose = y at *
    obtain ⟨rfl, _⟩ := hx
    rw [hs.2]
    obtain ⟨h1, h2⟩ := F.cs y H hs.1
    exact ⟨h1, h2.1, h2.2⟩
  · cases ho
noncomputable def oOf : List (Fact P E) → Orc
  | [] => fun _ _ _ => none
  | F :: L => fun f args H => if f = F.f then F.orc f args H else oOf L f args H
theorem oOf_sound : ∀ L : List (Fact P E), Sound P E (oOf L)
  | [] => fun _ _ _ _ _ h => by cases h
  | F :: L => fun f args H v H' ho => by
    unfold oOf at ho
    split at ho
    · exact F.orc_sound f args H v H' ho
    · exact oOf_sound L f args H v H' ho
theorem oOf_hd (F : Fact P E) (L : List (Fact P E)) {x : F.α} {H : AH} (h : F.ok x H) : oOf (F :: L) F.f (F.args x) H = some (F.out x, F.up x H) := by
  unfold oOf
  rw [if_pos rfl, F.orc_at h]
theorem oOf_tl (F : Fact P E) (L : List (Fact P E)) {f : FuncId} {args : List AV} {H : AH} (h : f ≠ F.f) : oOf (F :: L) f args H = oOf L f args H := by
  conv => lhs; unfold oOf
  rw [if_neg h]
theorem oOf_mem {L : List (Fact P E)} (hL : (L.map (·.f)).Nodup) (F : Fact P E) (hF : F ∈ L) {x : F.α} {H : AH} (h : F.ok x H) : oOf L F.f (F.args x) H = some (F.out x, F.up x H) := by
  induction L with
  | nil => cases hF
  | cons G L ih =>
    rw [List.map_cons, List.nodup_cons] at hL
    rcases List.mem_cons.1 hF with rfl | hF
    · exact oOf_hd F L h
    · have hne : F.f ≠ G.f := fun he => hL.1 (he ▸ List.mem_map_of_mem hF)
      rw [oOf_tl G L hne]
      exact ih hL.2 hF
theorem oOf_cx (L : List (Fact P E)) (hM : MethOk P E) (hmix : P.follows .mixedOrders = true) : Cx (oOf L) P E := ⟨oOf_sound L, hM, hmix⟩
def Fact.pure (f : FuncId) {α : Type} (ok : α → Prop) (mk : α → List AV) (out : α → AV) (cs : ∀ x, ok x → ∀ H, CS P E f (mk x) H (out x) H) (same : ∀ x y, ok x → ok y → mk x = mk y → out x = out y) : Fact P E where
  f := f
  α := α
  ok := fun x _ => ok x
  args := mk
  out := out
  up := fun _ H => H
  cs := fun x H h => ⟨cs x h H, Keeps.refl H⟩
  same := fun x y _ hx hy h => ⟨same x y hx hy h, rfl⟩
def Fact.meth (f : FuncId) {S α : Type} (cell : S → List AV) (hc : ∀ s s', cell s = cell s' → s = s') (ok : α → S → Prop) (mk : Nat → α → List AV) (out : α → S → AV) (next : α → S → S)
    (cs : ∀ x s, ok x s → ∀ H id, H.at id = some (.box (cell s)) → CS P E f (.ptr id 0 :: mk id x) H (out x s) (H.set id (some (.box (cell (next x s))))))
    (same : ∀ id x y s, ok x s → ok y s → mk id x = mk id y → out x s = out y s ∧ next x s = next y s) : Fact P E where
  f := f
  α := Nat × α × S
  ok := fun x H => H.at x.1 = some (.box (cell x.2.2)) ∧ ok x.2.1 x.2.2
  args := fun x => .ptr x.1 0 :: mk x.1 x.2.1
  out := fun x => out x.2.1 x.2.2
  up := fun x H => H.set x.1 (some (.box (cell (next x.2.1 x.2.2))))
  cs := fun x H h => ⟨cs x.2.1 x.2.2 h.2 H x.1 h.1, Keeps.set h.1⟩
  same := fun x y H hx hy h => by
    obtain ⟨i, a, s⟩ := x
    obtain ⟨j, b, s'⟩ := y
    simp only [List.cons.injEq, AV.ptr.injEq, and_true] at h hx hy ⊢
    obtain ⟨rfl, h⟩ := h
    have he := hx.1.symm.trans hy.1
    simp only [Option.some.injEq, Ent.box.injEq] at he
    have := hc _ _ he
    subst this
    obtain ⟨h1, h2⟩ := same i a b s hx.2 hy.2 h
    rw [h1, h2]
    exact ⟨rfl, rfl⟩
end
structure Enc (α : Type) where
  sz : Nat
  c : α → List AV
  pos : 0 < sz
  len : ∀ x, (c x).length = sz
  low : ∀ x, lowL 0 (c x) = true
  one : ∀ x, (c x).all AV.one = true
  inj : ∀ x y, c x = c y → x = y
mutual
theorem ids_low0 : ∀ a : AV, low 0 a = true → idsOf a = []
  | .undef, _ => rfl
  | .bool _, _ => rfl
  | .int _ _, _ => rfl
  | .str _, _ => rfl
  | .nilPtr, _ => rfl
  | .nilSlice, _ => rfl
  | .emp, _ => rfl
  | .nilMap, _ => rfl
  | .nilFunc, _ => rfl
  | .adr _ _, _ => rfl
  | .nilIface, _ => rfl
  | .ptr _ _, h => by simp [Fw.low] at h
  | .bsl _ _ _ _ _, h => by simp [Fw.low] at h
  | .vptr _ _, _ => rfl
  | .slice .unk _ _ _, _ => rfl
  | .slice .full _ _ _, _ => rfl
  | .slice (.tok _) _ _ _, h => by simp [Fw.low] at h
  | .lsl _ _ _ _, h => by simp [Fw.low] at h
  | .lptr _ _ _, h => by simp [Fw.low] at h
  | .stk _ _ _ _, h => by simp [Fw.low] at h
  | .sptr _ _ _ _, h => by simp [Fw.low] at h
  | .func _ a b, h => by simp only [Fw.low, Bool.and_eq_true] at h; simp only [idsOf, ids_low0L a h.1, ids_low0L b h.2, List.append_nil]
  | .iface _ v, h => by simp only [Fw.low] at h; simp only [idsOf, ids_low0 v h]
  | .agg cs, h => by simp only [Fw.low] at h; simp only [idsOf, ids_low0L cs h]
  | .tup cs, h => by simp only [Fw.low] at h; simp only [idsOf, ids_low0L cs h]
theorem ids_low0L : ∀ aS : List AV, lowL 0 aS = true → idsOfL aS = []
  | [], _ => rfl
  | a :: aS, h => by simp only [Fw.lowL, Bool.and_eq_true] at h; simp only [idsOfL, ids_low0 a h.1, ids_low0L aS h.2, List.append_nil]
end
section
variable {α : Type} (E : Enc α)
def Enc.row : List α → List AV
  | [] => []
  | x :: l => E.c x ++ Enc.row l
theorem Enc.row_append : ∀ a b : List α, E.row (a ++ b) = E.row a ++ E.row b
  | [], b => rfl
  | x :: a, b => by rw [List.cons_append, Enc.row, Enc.row, Enc.row_append a b, List.append_assoc]
theorem Enc.row_one1 (x : α) : E.row [x] = E.c x := by rw [Enc.row, Enc.row, List.append_nil]
theorem Enc.row_length : ∀ l : List α, (E.row l).length = l.length * E.sz
  | [] => by simp [Enc.row]
  | x :: l => by rw [Enc.row, List.length_append, E.len, Enc.row_length l, List.length_cons, Nat.add_mul, Nat.one_mul, Nat.add_comm]
theorem Enc.row_low : ∀ l : List α, lowL 0 (E.row l) = true
  | [] => rfl
  | x :: l => by rw [Enc.row, lowL_append, E.low x, Enc.row_low l]; rfl
theorem Enc.row_lowm (m : Nat) (l : List α) : lowL m (E.row l) = true := lowL_mono (Nat.zero_le m) _ (E.row_low l)
theorem Enc.row_inj : ∀ {a b : List α}, E.row a = E.row b → a = b
  | [], [], _ => rfl
  | [], x :: b, h => by
    have h1 := congrArg List.length h
    have h2 := E.pos
    rw [E.row_length, E.row_length, List.length_cons, Nat.add_mul] at h1
    simp at h1; omega
  | x :: a, [], h => by
    have h1 := congrArg List.length h
    have h2 := E.pos
    rw [E.row_length, E.row_length, List.length_cons, Nat.add_mul] at h1
    simp at h1; omega
  | x :: a, y :: b, h => by
    rw [Enc.row, Enc.row] at h
    obtain ⟨h1, h2⟩ := List.append_inj h (by rw [E.len, E.len])
    rw [E.inj x y h1, Enc.row_inj h2]
theorem Enc.row_at : ∀ (l : List α) (i : Nat) {x : α}, l[i]? = some x → ((E.row l).drop (i * E.sz)).take E.sz = E.c x ∧ i * E.sz + E.sz ≤ (E.row l).length
  | [], i, x, h => by simp at h
  | y :: l, 0, x, h => by
    simp only [List.getElem?_cons_zero, Option.some.injEq] at h
    subst h
    have hx := E.len y
    rw [Enc.row, Nat.zero_mul, List.drop_zero, List.take_append_of_le_length (by omega), List.take_of_length_le (by omega), List.length_append]
    exact ⟨rfl, by omega⟩
  | y :: l, i + 1, x, h => by
    simp only [List.getElem?_cons_succ] at h
    obtain ⟨h1, h2⟩ := Enc.row_at l i h
    have hx := E.len y
    rw [Enc.row, List.length_append, Nat.add_mul, Nat.one_mul]
    refine ⟨?_, by omega⟩
    rw [List.drop_append, List.drop_of_length_le (by omega), hx, List.nil_append, show i * E.sz + E.sz - E.sz = i * E.sz by omega]
    exact h1
theorem Enc.row_cell {l : List α} {i : Nat} {x : α} (h : l[i]? = some x) (k : Nat) (hk : k < E.sz) : (E.row l)[i * E.sz + k]? = (E.c x)[k]? := by
  obtain ⟨h1, _⟩ := E.row_at l i h
  rw [← h1, List.getElem?_take, if_pos hk, List.getElem?_drop]
def Enc.av (l : List α) : AV := if l = [] then .nilSlice else .slice .unk E.sz l.length (E.row l)
def Enc.tk (k : Nat) (l : List α) : AV := if l = [] then .nilSlice else .slice (.tok k) E.sz l.length (E.row l)
@[simp] theorem Enc.av_nil : E.av [] = .nilSlice := nrfl rfl
@[simp] theorem Enc.tk_nil (k : Nat) : E.tk k [] = .nilSlice := nrfl rfl
theorem Enc.av_cons (x : α) (l : List α) : E.av (x :: l) = .slice .unk E.sz (l.length + 1) (E.row (x :: l)) := nrfl rfl
theorem Enc.av_ne {l : List α} (h : l ≠ []) : E.av l = .slice .unk E.sz l.length (E.row l) := if_neg h
theorem Enc.tk_ne (k : Nat) {l : List α} (h : l ≠ []) : E.tk k l = .slice (.tok k) E.sz l.length (E.row l) := if_neg h
@[simp ↓ high] theorem Enc.av_low0 (l : List α) : Fw.low 0 (E.av l) = true := by
  unfold Enc.av; split
  · rfl
  · exact E.row_low l
@[simp ↓ high] theorem Enc.av_low (m : Nat) (l : List α) : Fw.low m (E.av l) = true := low_mono (Nat.zero_le m) _ (E.av_low0 l)
@[simp ↓ high] theorem Enc.av_ids (l : List α) : idsOf (E.av l) = [] := ids_low0 _ (E.av_low0 l)
@[simp ↓ high] theorem Enc.av_known (l : List α) : (E.av l).known = true := by unfold Enc.av; split <;> rfl
@[simp ↓ high] theorem Enc.av_one (l : List α) : (E.av l).one = true := by unfold Enc.av; split <;> rfl
@[simp ↓ high] theorem Enc.av_cells (l : List α) : cellsAV (E.av l) = [E.av l] := by unfold Enc.av; split <;> rfl
@[simp ↓ high] theorem Enc.row_lowS (m : Nat) (l : List α) : lowL m (E.row l) = true := E.row_lowm m l
theorem Enc.av_inj {a b : List α} (h : E.av a = E.av b) : a = b := by
  unfold Enc.av at h
  split at h
  · split at h
    · rename_i h1 h2; rw [h1, h2]
    · cases h
  · split at h
    · cases h
    · injection h with _ _ _ h
      exact E.row_inj h
theorem Enc.alen {P : Program} {t e : TypeId} (hu : P.underlying t = some (.slice e)) (l : List α) : Fw.alen P t (E.av l) = some (.int .i64 l.length) := by
  unfold Enc.av
  split
  · rename_i h; subst h; simp [Fw.alen, hu]
  · simp [Fw.alen, hu]
theorem Enc.aidx {P : Program} {t e : TypeId} (hu : P.underlying t = some (.slice e)) (hs : szOf P e = some E.sz) {l : List α} {i : Nat} (h : i < l.length) : aindexAddr P t (E.av l) (.int .i64 (i : Int)) = some (.vptr (E.row l) (i * E.sz)) := by
  have hne : l ≠ [] := by rintro rfl; simp at h
  have : (i : Int) < l.length := by omega
  simp [E.av_ne hne, aindexAddr, hu, hs, h]
theorem Enc.app1_nil {P : Program} {H : AH} {fid : Nat} {t : TypeId} {ow : Own} (h : elemChk P t E.sz = true) (x : α) :
    aappend P H fid t t .nilSlice (.slice ow E.sz 1 (E.c x)) = some (.slice (.tok fid) E.sz 1 (E.c x), [(fid, .tok 1)]) :=
  aappend_nil h (by decide) (by decide) (E.one x)
theorem Enc.app1_tok {P : Program} {H : AH} {fid k n : Nat} {t : TypeId} {ow : Own} (h : elemChk P t E.sz = true) (l : List α) (x : α) (hn : n = l.length) (hk : H.at k = some (.tok n)) (hb : n + 1 ≤ 137438953472) :
    aappend P H fid t t (.slice (.tok k) E.sz n (E.row l)) (.slice ow E.sz 1 (E.c x)) = some (.slice (.tok k) E.sz (n + 1) (E.row (l ++ [x])), [(k, .tok (n + 1))]) := by
  rw [aappend_tok h hk (by decide) hb (E.one x), E.row_append, E.row_one1]
end
end Go.Proofs.Fw
namespace Go.Proofs.Fw
open Go.RowKit
theorem oOf_meth {P : Program} {E : Env} {L : List (Fact P E)} {f : FuncId} {S α : Type} {cell : S → List AV} {hc : ∀ s s', cell s = cell s' → s = s'} {ok : α → S → Prop} {mk : Nat → α → List AV} {out : α → S → AV} {next : α → S → S}
    {cs : ∀ x s, ok x s → ∀ H id, H.at id = some (.box (cell s)) → CS P E f (.ptr id 0 :: mk id x) H (out x s) (H.set id (some (.box (cell (next x s)))))} {same : ∀ id x y s, ok x s → ok y s → mk id x = mk id y → out x s = out y s ∧ next x s = next y s}
    (hL : (L.map (·.f)).Nodup) (hF : Fact.meth f cell hc ok mk out next cs same ∈ L) (x : α) (s : S) {H : AH} {id : Nat} (hat : H.at id = some (.box (cell s))) (hok : ok x s) :
    oOf L f (.ptr id 0 :: mk id x) H = some (out x s, H.set id (some (.box (cell (next x s))))) := oOf_mem hL _ hF (x := (id, x, s)) ⟨hat, hok⟩
theorem oOf_pure {P : Program} {E : Env} {L : List (Fact P E)} {f : FuncId} {α : Type} {ok : α → Prop} {mk : α → List AV} {out : α → AV} {cs : ∀ x, ok x → ∀ H, CS P E f (mk x) H (out x) H} {same : ∀ x y, ok x → ok y → mk x = mk y → out x = out y}
    (hL : (L.map (·.f)).Nodup) (hF : Fact.pure f ok mk out cs same ∈ L) (x : α) (hok : ok x) (H : AH) : oOf L f (mk x) H = some (out x, H) := oOf_mem hL _ hF (x := x) hok
end Go.Proofs.Fw
namespace Go.Proofs.Fw
open Go.RowKit
section
variable {α : Type} (E : Enc α)
def tokE (l : List α) : Option Ent := if l = [] then none else some (.tok l.length)
@[simp] theorem tokE_nil : tokE ([] : List α) = none := nrfl rfl
theorem tokE_ne {l : List α} (h : l ≠ []) : tokE l = some (.tok l.length) := if_neg h
theorem tokE_low (m : Nat) (l : List α) : lowH m [tokE l] = true := by unfold tokE; split <;> rfl
theorem tokE_ren (ψ : Nat → Nat) (l : List α) : (tokE l).map (renE ψ) = tokE l := by unfold tokE; split <;> rfl
@[simp ↓ high] theorem Enc.tk_known (k : Nat) (l : List α) : (E.tk k l).known = true := by unfold Enc.tk; split <;> rfl
@[simp ↓ high] theorem Enc.tk_one (k : Nat) (l : List α) : (E.tk k l).one = true := by unfold Enc.tk; split <;> rfl
@[simp ↓ high] theorem Enc.tk_cells (k : Nat) (l : List α) : cellsAV (E.tk k l) = [E.tk k l] := by unfold Enc.tk; split <;> rfl
theorem Enc.tk_low {k m : Nat} (h : k < m) (l : List α) : Fw.low m (E.tk k l) = true := by
  unfold Enc.tk; split
  · rfl
  · simp [Fw.low, h, E.row_lowm m l]
theorem Enc.tk_strip {k n : Nat} (h : k < n) (l : List α) : Fw.strip n (E.tk k l) = E.tk k l := by
  unfold Enc.tk; split
  · rfl
  · simp [Fw.strip, h, stripL_low n _ (E.row_low l)]
theorem Enc.tk_cut {k n : Nat} (h : ¬ k < n) (l : List α) : Fw.strip n (E.tk k l) = E.av l := by
  unfold Enc.tk Enc.av; split
  · rfl
  · simp [Fw.strip, h, stripL_low n _ (E.row_low l)]
theorem Enc.tk_ren (ψ : Nat → Nat) (k : Nat) (l : List α) : ren ψ (E.tk k l) = E.tk (ψ k) l := by
  unfold Enc.tk; split
  · rfl
  · simp [ren, renL_low ψ _ (E.row_low l)]
theorem Enc.av_strip (n : Nat) (l : List α) : Fw.strip n (E.av l) = E.av l := strip_low n _ (E.av_low0 l)
theorem Enc.row_strip (n : Nat) (l : List α) : stripL n (E.row l) = E.row l := stripL_low n _ (E.row_low l)
theorem Enc.av_ren (ψ : Nat → Nat) (l : List α) : ren ψ (E.av l) = E.av l := ren_low ψ _ (E.av_low0 l)
theorem Enc.tk_len {P : Program} {t e : TypeId} (hu : P.underlying t = some (.slice e)) (k : Nat) (l : List α) : Fw.alen P t (E.tk k l) = some (.int .i64 l.length) := by
  unfold Enc.tk
  split
  · rename_i h; subst h; simp [Fw.alen, hu]
  · simp [Fw.alen, hu]
end
theorem Less.trans {B : Bs} {t t' t'' : List AV} {H H' H'' : AH} (h : Less B t H t' H') (k : Less B t' H' t'' H'') : Less B t H t'' H'' := fun a w x => k a w (h a w x)
theorem Less.mkV {B : Bs} {n : Nat} {l l' : List (Nat × AV)} {H H' : AH} (s : Nat) (ψ : Nat → Nat) (m : Nat) (hN : B.H.length ≤ m) (hψ : ∀ i j, i < m → j < m → ψ i = ψ j → i = j) (hid : ∀ i, i < B.H.length → ψ i = i) (hlen : H'.length = m)
    (hH : ∀ i, i < m → H.at (ψ i) = (H'.at i).map (renE ψ)) (hl : lowH m H' = true) (hv : ∀ p ∈ l', low m p.2 = true ∧ Fw.strip s ((l.lookup p.1).getD .undef) = ren ψ p.2) : Less B (Fw.mkT n l) H (Fw.mkT n l') H' :=
  Less.view ψ m hN hψ hid hlen hH hl (WkVL.mkT fun p hp => .view s _ _ (hv p hp).1 (hv p hp).2)
end Go.Proofs.Fw
namespace Go.Proofs.Fw
open Go.RowKit
section
open Classical in
theorem CS.grow {P : Program} {E : Env} {f : FuncId} {args : List AV} {v : AV} {k n : Nat} (φ : Nat → Nat) {H0 H0' H H' : AH} (h : CS P E f args H0 v H0') (hk : H0.length = k) (hk' : H0'.length = n) (hkn : k ≤ n)
    (hφ : ∀ i j, i < n → j < n → φ i = φ j → i = j) (hE : ∀ i, low 0 (E.glob i) = true) (ha : lowL k args = true) (hv : low n v = true) (hl : lowH k H0 = true) (hl' : lowH n H0' = true)
    (hH : ∀ i, i < k → H.at (φ i) = (H0.at i).map (renE φ)) (hN : ∀ i, k ≤ i → i < n → H.at (φ i) = none) (hH' : ∀ i, i < n → H'.at (φ i) = (H0'.at i).map (renE φ)) (hO : ∀ j, (∀ i, i < n → φ i ≠ j) → H'.at j = H.at j) :
    CS P E f (renL φ args) H (ren φ v) H' := by
  intro g w cargs R hG hA
  let g0 : Gh := { G := g.G, M := fun i => if i < k then g.M (φ i) else none }
  have hM0 : ∀ i, i < k → g.M (φ i) = g0.M i := fun i hi => by simp [g0, hi]
  have R0 : Rel g0 H0 w := by
    refine ⟨R.imm, ?_, ?_, ?_, ?_⟩
    · intro i hi
      by_cases hik : i < k
      · rw [← hM0 i hik]
        exact R.free _ (by rw [hH i hik, hi]; rfl)
      · simp [g0, hik]
    · intro i e he hne
      have hik : i < k := by rw [← hk]; exact at_lt he
      obtain ⟨ge, h1, h2⟩ := R.ent (φ i) (renE φ e) (by rw [hH i hik, he]; rfl) (by cases e <;> simp_all [renE])
      exact ⟨ge, by rw [← hM0 i hik]; exact h1, (EntRep.ren (g := g0) (g' := g) (k := k) rfl hM0 (lowE_at hl he)).2 h2⟩
    · intro i j e e' he he' hb
      by_cases hik : i < k
      · by_cases hjk : j < k
        · rw [← hM0 i hik] at he
          rw [← hM0 j hjk] at he'
          exact hφ i j (by omega) (by omega) (R.inj _ _ _ _ he he' hb)
        · simp [g0, hjk] at he'
      · simp [g0, hik] at he
    · intro i e he
      by_cases hik : i < k
      · rw [← hM0 i hik] at he
        exact R.blk _ _ he
      · simp [g0, hik] at he
  have hM0n : ∀ i, i < n → g.M (φ i) = g0.M i := fun i hi => by
    by_cases hik : i < k
    · exact hM0 i hik
    · rw [R.free _ (hN i (by omega) hi)]; simp [g0, hik]
  have hG0 : GlobOk E g0 := fun i => by
    have h1 : RepV (g.cut 0) (E.glob i) _ := RepV.cut _ _ (hE i) (hG i)
    have hle0 : (g.cut 0).le g0 := ⟨fun _ _ _ h => h, fun _ _ h => by simp [Gh.cut] at h⟩
    exact RepV.mono hle0 _ _ h1
  have hA0 : RepL g0 args cargs := (RepL.ren (g := g0) (g' := g) (k := k) rfl hM0 _ _ ha).2 hA
  refine (h g0 w cargs R0 hG0 hA0).mono ?_
  rintro e w1 ⟨g1, cv, rfl, R1, p1, hr⟩
  let g' : Gh := { G := g1.G, M := fun j => if h : ∃ i, i < n ∧ φ i = j then g1.M (Classical.choose h) else g.M j }
  have hM1 : ∀ i, i < n → g'.M (φ i) = g1.M i := fun i hi => by
    have hex : ∃ i', i' < n ∧ φ i' = φ i := ⟨i, hi, rfl⟩
    have hc := Classical.choose_spec hex
    have he : Classical.choose hex = i := hφ _ _ hc.1 hi hc.2
    simp only [g', dif_pos hex, he]
  have hMo : ∀ j, (∀ i, i < n → φ i ≠ j) → g'.M j = g.M j := fun j hj => by
    have : ¬ ∃ i, i < n ∧ φ i = j := fun ⟨i, h1, h2⟩ => hj i h1 h2
    simp only [g', dif_neg this]
  have dec : ∀ j, (∃ i, i < n ∧ φ i = j) ∨ (∀ i, i < n → φ i ≠ j) := fun j => by
    by_cases h : ∃ i, i < n ∧ φ i = j
    · exact .inl h
    · exact .inr fun i h1 h2 => h ⟨i, h1, h2⟩
  have hle : g.le g' := by
    refine ⟨fun b i v hb => p1.le.G b i v hb, fun j e he => ?_⟩
    rcases dec j with ⟨i, hi, rfl⟩ | hj
    · rw [hM1 i hi]
      exact p1.le.M i e (by rw [← hM0n i hi]; exact he)
    · exact ⟨e, by rw [hMo j hj]; exact he, e.le_refl⟩
  have hold : ∀ j ge, (∀ i, i < n → φ i ≠ j) → g.M j = some ge → w1.heap[ge.block]? = w.heap[ge.block]? ∧ ∀ i, g1.G ge.block i = g.G ge.block i := by
    intro j ge hj hM
    refine p1.old ge.block (R.blk j ge hM) fun i e ge' he hne hM' hb => ?_
    have hik : i < k := by rw [← hk]; exact at_lt he
    rw [← hM0 i hik] at hM'
    exact hj i (by omega) (R.inj _ _ _ _ hM' hM hb)
  have cross : ∀ i j e e', i < n → (∀ i, i < n → φ i ≠ j) → g1.M i = some e → g.M j = some e' → e.block ≠ e'.block := by
    intro i j e e' hi hj he he' hb
    rcases p1.new i e he with ⟨e0, h0, hb0⟩ | h0
    · rw [← hM0n i hi] at h0
      exact hj i hi (R.inj _ _ _ _ h0 he' (hb0.trans hb))
    · have := R.blk j e' he'
      omega
  refine ⟨g', cv, rfl, ⟨R1.imm, ?_, ?_, ?_, ?_⟩, ⟨hle, ?_, ?_, ?_, p1.size, p1.os, p1.tape, p1.output⟩, (RepV.ren (g := g1) (g' := g') (k := n) rfl hM1 _ _ hv).1 hr⟩
  · intro j hj
    rcases dec j with ⟨i, hi, rfl⟩ | hj'
    · rw [hM1 i hi]
      refine R1.free i ?_
      rw [hH' i hi] at hj
      cases h : H0'.at i with
      | none => rfl
      | some e => rw [h] at hj; cases hj
    · rw [hMo j hj']
      exact R.free j (by rw [← hO j hj']; exact hj)
  · intro j e he hne
    rcases dec j with ⟨i, hi, rfl⟩ | hj'
    · rw [hH' i hi] at he
      cases h : H0'.at i with
      | none => rw [h] at he; cases he
      | some e0 =>
        rw [h] at he
        simp only [Option.map_some, Option.some.injEq] at he
        subst he
        obtain ⟨ge, h1, h2⟩ := R1.ent i e0 h (by rintro rfl; exact hne rfl)
        exact ⟨ge, by rw [hM1 i hi]; exact h1, (EntRep.ren (g := g1) (g' := g') (k := n) rfl hM1 (lowE_at hl' h)).1 h2⟩
    · rw [hO j hj'] at he
      obtain ⟨ge, h1, h2⟩ := R.ent j e he hne
      obtain ⟨h3, h4⟩ := hold j ge hj' h1
      exact ⟨ge, by rw [hMo j hj']; exact h1, h2.keep hle h3 h4⟩
  · intro j j' e e' he he' hb
    rcases dec j with ⟨i, hi, rfl⟩ | hj
    · rw [hM1 i hi] at he
      rcases dec j' with ⟨i', hi', rfl⟩ | hj'
      · rw [hM1 i' hi'] at he'
        rw [R1.inj i i' e e' he he' hb]
      · rw [hMo j' hj'] at he'
        exact absurd hb (cross i j' e e' hi hj' he he')
    · rw [hMo j hj] at he
      rcases dec j' with ⟨i', hi', rfl⟩ | hj'
      · rw [hM1 i' hi'] at he'
        exact absurd hb.symm (cross i' j e' e hi' hj he' he)
      · rw [hMo j' hj'] at he'
        exact R.inj j j' e e' he he' hb
  · intro j e he
    rcases dec j with ⟨i, hi, rfl⟩ | hj
    · rw [hM1 i hi] at he
      exact R1.blk i e he
    · rw [hMo j hj] at he
      exact Nat.lt_of_lt_of_le (R.blk j e he) p1.size
  · intro j hj
    rcases dec j with ⟨i, hi, rfl⟩ | hj'
    · have hik : i < k := by
        by_cases hik : i < k
        · exact hik
        · rw [hN i (by omega) hi] at hj; cases hj
      rw [hH i hik] at hj
      cases h : H0.at i with
      | none => rw [h] at hj; cases hj
      | some e0 =>
        rw [h] at hj
        simp only [Option.map_some, Option.some.injEq] at hj
        have : e0 = .hid := by cases e0 <;> simp_all [renE]
        subst this
        obtain ⟨h1, h2⟩ := p1.hid i h
        exact ⟨by rw [hM1 i hi, h1, hM0n i hi], by rw [hH' i hi, h2]; rfl⟩
    · exact ⟨hMo j hj', by rw [hO j hj', hj]⟩
  · intro j e he
    rcases dec j with ⟨i, hi, rfl⟩ | hj'
    · rw [hM1 i hi] at he
      rcases p1.new i e he with ⟨e0, h0, hb0⟩ | h0
      · exact .inl ⟨e0, by rw [hM0n i hi]; exact h0, hb0⟩
      · exact .inr h0
    · rw [hMo j hj'] at he
      exact .inl ⟨e, he, rfl⟩
  · intro b hb hn
    refine p1.old b hb fun i e ge he hne hM => ?_
    have hik : i < k := by rw [← hk]; exact at_lt he
    exact hn (φ i) (renE φ e) ge (by rw [hH i hik, he]; rfl) (by cases e <;> simp_all [renE]) (by rw [hM0 i hik]; exact hM)
end
end Go.Proofs.Fw
namespace Go.Proofs.Fw
open Go.RowKit
theorem AH.set_at {H : AH} {id : Nat} {e : Ent} (h : H.at id = some e) : H.set id (some e) = H := by
  apply List.ext_getElem?
  intro j
  rw [List.getElem?_set]
  split
  · rename_i hj
    subst hj
    unfold AH.at at h
    cases hH : H[id]? with
    | none => rw [hH] at h; cases h
    | some x =>
      rw [hH] at h
      simp only [Option.join_some] at h
      rw [h]
      simp [(List.getElem?_eq_some_iff.1 hH).1]
  · rfl
theorem CS.rd1 {P : Program} {E : Env} {f : FuncId} {fn : Func} {cs cs' args : List AV} {v : AV} (hE : ∀ i, low 0 (E.glob i) = true) (hf : P.funcs[f]? = some fn) (hb : fn.body = some (bodyOf fn)) (k : Nat) (hn : args.length ≤ fn.ntmps)
    (h : ∀ B : Bs, B.H = [some (.box cs)] → GlobOk E B.g → Tr P B (bodyOf fn) (mkT fn.ntmps (argL 0 args)) [some (.box cs)] (Fin P fn 1 k v [some (.box cs')]))
    (hr : lowL 1 args = true) (hv : low 0 v = true) (hc : lowL 0 cs = true) (hc' : lowL 0 cs' = true) {H : AH} {id : Nat} (hH : H.at id = some (.box cs)) : CS P E f (renL (fun _ => id) args) H v (H.set id (some (.box cs'))) := by
  have h1 := CS.of_Tr (H0 := [some (.box cs)]) (H1 := [some (.box cs')]) hf hb k hn h (low_mono (Nat.zero_le 1) v hv) (by simp [lowH, lowE, lowL_mono (Nat.zero_le 1) cs' hc'])
  have := CS.embed (k := 1) (fun _ => id) (H := H) (H' := H.set id (some (.box cs'))) h1 rfl rfl (ren_one id) hE hr (low_mono (Nat.zero_le 1) v hv)
    (by simp [lowH, lowE, lowL_mono (Nat.zero_le 1) cs hc]) (by simp [lowH, lowE, lowL_mono (Nat.zero_le 1) cs' hc'])
    (fun i hi => by
      obtain rfl : i = 0 := by omega
      simp [AH.at, renE, renL_low _ cs hc]
      exact hH)
    (fun i hi => by
      obtain rfl : i = 0 := by omega
      rw [at_set_self hH]
      simp [AH.at, renE, renL_low _ cs' hc'])
    (fun j hj => at_set_ne (hj 0 (by omega)))
  rw [ren_low _ v hv] at this
  exact this
end Go.Proofs.Fw
namespace Go.Proofs.Fw
open Go.RowKit Go.WideShapes Go.ChangeShapes
theorem okWide_spot {P : Program} {w : World} {r : Reach} {b : Nat} {t e : TypeId} {a : Addr} {len cap : Nat} (ht : P.underlying t = some (.slice e)) (h : Value.okWide P w r b t (.slice (some a) len cap)) : a.spot = none := by
  simp only [Value.okWide, ht, Cell.okWide, Cell.ok, World.has] at h
  exact h.2.2.2.1
theorem repInts (g : Gh) (k : IntKind) : ∀ zs : List Int, RepL g (zs.map (AV.int k)) (zs.map (Value.int k))
  | [] => by simp [RepL]
  | z :: zs => by
    simp only [List.map_cons, RepL]
    exact ⟨_, _, rfl, by simp [RepV], repInts g k zs⟩
end Go.Proofs.Fw
namespace Go.Proofs.Fw
open Go.RowKit
def meltV (t n : Nat) (xs : List AV) : AV → AV
  | .lsl k sz m cs => if k = t ∧ m = n then .slice (.tok t) sz (n + 1) (cs ++ xs) else .lsl k sz m cs
  | a => a
def meltE (t n : Nat) (xs : List AV) : Option Ent → Option Ent
  | some (.box cs) => some (.box (cs.map (meltV t n xs)))
  | e => e
theorem at_map {f : Option Ent → Option Ent} (hf : f none = none) (H : AH) (i : Nat) : AH.at (H.map f) i = f (H.at i) := by
  unfold AH.at
  rw [List.getElem?_map]
  cases H[i]? with
  | none => simp [hf]
  | some x => rfl
theorem meltE_none (t n : Nat) (xs : List AV) : meltE t n xs none = none := rfl
theorem Sat.melt {B : Bs} {ts : List AV} {H : AH} {a : Act} {w : World} {t n : Nat} {xs : List AV} (h : H.at t = some (.loose n xs)) (hs : Sat B ts H a w) :
    Sat B (ts.map (meltV t n xs)) ((H.set t (some (.tok (n + 1)))).map (meltE t n xs)) a w := by
  obtain ⟨g, R, p, hT, hd⟩ := hs
  obtain ⟨ge, hM, hr⟩ := R.ent t _ h (by simp)
  cases ge with
  | box b => exact hr.elim
  | tok b n' sz cap =>
  simp only [EntRep] at hr
  obtain ⟨rfl, hcap, hxl, ⟨vs, el, hheap, hfit, hrl⟩, hGn⟩ := hr
  have htl : t < H.length := at_lt h
  have hroom : n * sz + sz ≤ vs.length := by
    have : (n + 1) * sz ≤ cap * sz := Nat.mul_le_mul_right _ hcap
    rw [Nat.add_mul, Nat.one_mul] at this
    omega
  generalize hnews : (vs.drop (n * sz)).take sz = news at hrl
  have hnl : news.length = sz := by rw [← hnews]; simp; omega
  let g' : Gh := { G := fun k i => if k = b ∧ n * sz ≤ i then news[i - n * sz]? else g.G k i, M := g.M }
  have hGo : ∀ k i, (k ≠ b ∨ i < n * sz) → g'.G k i = g.G k i := fun k i h => by
    show (if k = b ∧ n * sz ≤ i then _ else _) = _
    rw [if_neg (by omega)]
  have hGi : ∀ i, n * sz ≤ i → g'.G b i = news[i - n * sz]? := fun i h => by
    show (if b = b ∧ n * sz ≤ i then _ else _) = _
    rw [if_pos ⟨rfl, h⟩]
  have hle : g.le g' := ⟨fun k i v hv => by
    by_cases hk : k = b
    · subst hk
      rcases Nat.lt_or_ge i (n * sz) with hi | hi
      · rw [hGo _ _ (.inr hi)]; exact hv
      · rw [hGn i hi] at hv; cases hv
    · rw [hGo _ _ (.inl hk)]; exact hv, fun j e he => ⟨e, he, e.le_refl⟩⟩
  have hmv : ∀ a v, RepV g a v → RepV g' (meltV t n xs a) v := by
    intro a v hv
    cases a with
    | lsl k sz' m cs =>
      simp only [meltV]
      split
      · rename_i hc
        obtain ⟨rfl, rfl⟩ := hc
        simp only [RepV] at hv ⊢
        obtain ⟨b', cap', us, rfl, h1, h2, h3, h4, b2, n2, cap2, h5, h6, h7⟩ := hv
        rw [hM] at h5
        injection h5 with h5
        injection h5 with e1 e2 e3 e4
        subst e1; subst e2; subst e3; subst e4
        obtain ⟨rfl, rfl, _⟩ := h7 rfl
        have hul : us.length = m * sz := by rw [h1.length, h3]
        refine ⟨b, 0, cap, us ++ news, rfl, (RepL.mono hle _ _ h1).append (RepL.mono hle _ _ hrl), Gh.has_append (Gh.has_mono hle h2) ?_, ?_, hcap, b, m + 1, cap, hM, Nat.le_refl _, fun _ => ⟨rfl, rfl, rfl⟩⟩
        · intro i v hi
          rw [Nat.zero_add, hul, hGi _ (by omega), Nat.add_sub_cancel_left]
          exact hi
        · rw [List.length_append, h3, hxl, Nat.add_mul, Nat.one_mul]
      · exact RepV.mono hle _ _ hv
    | _ => exact RepV.mono hle _ _ hv
  have hat : ∀ i, AH.at ((H.set t (some (.tok (n + 1)))).map (meltE t n xs)) i = if i = t then some (.tok (n + 1)) else meltE t n xs (H.at i) := by
    intro i
    rw [at_map (meltE_none t n xs), AH.at_set]
    by_cases hi : i = t
    · subst hi
      rw [if_pos ⟨rfl, htl⟩, if_pos rfl]; rfl
    · rw [if_neg (fun hh => hi hh.1.symm), if_neg hi]
  have R' : Rel g' ((H.set t (some (.tok (n + 1)))).map (meltE t n xs)) w := by
    refine ⟨?_, ?_, ?_, R.inj, R.blk⟩
    · intro k i v hv
      by_cases hk : k = b
      · subst hk
        rcases Nat.lt_or_ge i (n * sz) with hi | hi
        · rw [hGo _ _ (.inr hi)] at hv
          exact R.imm _ _ _ hv
        · rw [hGi i hi, ← hnews, List.getElem?_take] at hv
          split at hv
          · rw [List.getElem?_drop, Nat.add_sub_cancel' hi] at hv
            simp only [World.cell?, hheap]
            simpa using hv
          · cases hv
      · rw [hGo _ _ (.inl hk)] at hv
        exact R.imm _ _ _ hv
    · intro id hn
      rw [hat] at hn
      split at hn
      · cases hn
      · refine R.free id ?_
        cases hh : H.at id with
        | none => rfl
        | some e => rw [hh] at hn; cases e <;> simp [meltE] at hn
    · intro id e he hne
      rw [hat] at he
      split at he
      · rename_i hi
        subst hi
        injection he with he
        subst he
        refine ⟨_, hM, rfl, hcap, ⟨vs, el, hheap, hfit⟩, fun i hi => ?_⟩
        rw [Nat.add_mul, Nat.one_mul] at hi
        rw [hGi i (by omega), List.getElem?_eq_none (by omega)]
      · rename_i hi
        have key : ∀ e0, H.at id = some e0 → e0 ≠ .hid → ∃ ge, g.M id = some ge ∧ EntRep g w e0 ge ∧ ∀ i, g'.G ge.block i = g.G ge.block i := fun e0 h0 hn0 => by
          obtain ⟨ge, h1, h2⟩ := R.ent id e0 h0 hn0
          have hbk : ge.block ≠ b := fun hb => hi (R.inj id t ge _ h1 hM hb)
          exact ⟨ge, h1, h2, fun i => hGo _ i (.inl hbk)⟩
        cases hh : H.at id with
        | none => rw [hh] at he; cases he
        | some e0 =>
          rw [hh] at he
          cases e0 with
          | box cs =>
            simp only [meltE, Option.some.injEq] at he
            subst he
            obtain ⟨ge, h1, h2, h3⟩ := key _ hh (by simp)
            refine ⟨ge, h1, ?_⟩
            cases ge with
            | tok => exact h2
            | box b2 =>
              obtain ⟨us, el2, h4, h5, h6⟩ := h2
              exact ⟨us, el2, h4, RepL.map hmv _ _ h5, fun i => (h3 i).trans (h6 i)⟩
          | tok m =>
            simp only [meltE, Option.some.injEq] at he
            subst he
            obtain ⟨ge, h1, h2, h3⟩ := key _ hh (by simp)
            exact ⟨ge, h1, h2.keep hle rfl h3⟩
          | loose m cs =>
            simp only [meltE, Option.some.injEq] at he
            subst he
            obtain ⟨ge, h1, h2, h3⟩ := key _ hh (by simp)
            exact ⟨ge, h1, h2.keep hle rfl h3⟩
          | stk m cs =>
            simp only [meltE, Option.some.injEq] at he
            subst he
            obtain ⟨ge, h1, h2, h3⟩ := key _ hh (by simp)
            exact ⟨ge, h1, h2.keep hle rfl h3⟩
          | hid =>
            simp only [meltE, Option.some.injEq] at he
            exact absurd he.symm hne
  refine ⟨g', R', Post.trans B.R p ⟨hle, ?_, fun _ e he => .inl ⟨e, he, rfl⟩, ?_, Nat.le_refl _, rfl, rfl, rfl⟩, RepL.map hmv _ _ hT, hd⟩
  · intro id hh
    refine ⟨rfl, ?_⟩
    rw [hat, if_neg (fun hi => by subst hi; rw [h] at hh; cases hh), hh]
    rfl
  · intro k hk hn
    have hne : k ≠ b := fun hb => hn t _ _ h (by simp) hM (by simp [GEnt.block, hb])
    exact ⟨rfl, fun i => hGo k i (.inl hne)⟩
theorem Less.melt {B : Bs} {ts ts' : List AV} {H H' : AH} (t n : Nat) (xs : List AV) (h : H.at t = some (.loose n xs)) (h1 : ts.map (meltV t n xs) = ts') (h2 : (H.set t (some (.tok (n + 1)))).map (meltE t n xs) = H') : Less B ts H ts' H' := by
  subst h1; subst h2
  exact fun a w hs => hs.melt h
theorem Tr.post {P : Program} {B : Bs} {c : Code} {t : List AV} {H : AH} {Q : AEx → List AV → AH → Prop} (h : Tr P B c t H fun e t' H' => ∃ t1 H1, Less B t' H' t1 H1 ∧ Q e t1 H1) : Tr P B c t H Q :=
  fun Q' a w hs k => h Q' a w hs fun ex t' H' a' w' ⟨t1, H1, hl, hq⟩ h2 => k ex t1 H1 a' w' hq (hl a' w' h2)
section
variable {P : Program} {E : Env}
end
theorem lookup_map (f : AV → AV) (k : Nat) : ∀ l : List (Nat × AV), (l.map fun p => (p.1, f p.2)).lookup k = (l.lookup k).map f
  | [] => rfl
  | (j, a) :: l => by
    simp only [List.map_cons, List.lookup_cons]
    cases k == j with
    | true => rfl
    | false => exact lookup_map f k l
theorem mkT_map {n : Nat} {l : List (Nat × AV)} (f : AV → AV) (hf : f .undef = .undef) : (mkT n l).map f = mkT n (l.map fun p => (p.1, f p.2)) := by
  unfold mkT
  rw [List.map_map]
  refine List.map_congr_left fun i _ => ?_
  simp only [Function.comp, lookup_map]
  cases l.lookup i with
  | none => exact hf
  | some a => rfl
theorem Less.put {B : Bs} {n : Nat} {l : List (Nat × AV)} {H H' : AH} (t m : Nat) (xs : List AV) (h : H.at t = some (.loose m xs)) (ψ : Nat → Nat) (k : Nat) (hN : B.H.length ≤ k) (hψ : ∀ i j, i < k → j < k → ψ i = ψ j → i = j)
    (hid : ∀ i, i < B.H.length → ψ i = i) (hlen : H'.length = k) (hH : ∀ i, i < k → AH.at ((H.set t (some (.tok (m + 1)))).map (meltE t m xs)) (ψ i) = (H'.at i).map (renE ψ)) (hl : lowH k H' = true) :
    Less B (Fw.mkT n l) H (Fw.mkT n []) H' :=
  Less.trans (Less.melt t m xs h (mkT_map _ rfl) rfl) (Less.mkV (l' := []) 0 ψ k hN hψ hid hlen hH hl (by simp))
end Go.Proofs.Fw
namespace Go.Proofs.Fw
open Go.RowKit
section
variable {O : Orc} {P : Program} {E : Env} {ops : Array Oper}
end
end Go.Proofs.Fw
namespace Go.Proofs.Fw
open Go.RowKit
section
variable {P : Program} {E : Env} {O : Orc} {g : Gh} {H : AH} {w : World}
variable {B : Bs} {t : List AV} {Q : AEx → List AV → AH → Prop} {S : List FuncId}
end
end Go.Proofs.Fw
