/- Triples over the evaluator: what holds behind a run. .. The environment of the laws on words; calls of the library t -/
import Derived.Test.YtejjlojfgcgopaaGreatDoorZi2
import Derived.Test.YtejjlojfgcgopaaGreatDoorChecked
import Derived.KernelRfl
import Derived.Test.YtejjlojfgcgopaaGreatDoorRows
import Derived.WalkKit
import Derived.Lib.Bytealg
import Derived.Lib.Strings
import Derived.Lib.Walk
set_option linter.unusedSimpArgs false
set_option linter.unusedVariables false
namespace Go.Proofs.Fw
open Go.RowKit
noncomputable def fstC : Code → Code
  | .seq a _ => a
  | c => c
noncomputable def sndC : Code → Code
  | .seq _ b => b
  | c => c
noncomputable def inC : Code → Code
  | .block _ c => c
  | .loop c => c
  | c => c
noncomputable def yesC : Code → Code
  | .cond _ a _ => a
  | c => c
noncomputable def opsOf : Code → Array Oper
  | .region _ ops _ => ops
  | _ => #[]
noncomputable def bodyOf (fn : Func) : Code := fn.body.getD .skip
section
variable {O : Orc} {P : Program} {E : Env} {n : Nat}
theorem evCode_seq {c A B : Code} {t t1 : List AV} {H H1 : AH} (hc : c = .seq A B) (h1 : evCode O P E n A t H = some (.normal, t1, H1)) : evCode O P E n c t H = evCode O P E n B t1 H1 := by
  subst hc
  simp only [evCode, h1]
theorem evCode_block {c A : Code} {id : Nat} {t t1 : List AV} {H H1 : AH} (hc : c = .block id A) (h1 : evCode O P E n A t H = some (.exit id, t1, H1)) : evCode O P E n c t H = some (.normal, t1, H1) := by
  subst hc
  simp only [evCode, h1, if_true]
theorem evCode_loop {c L : Code} {id : Nat} {t t1 : List AV} {H H1 : AH} (hc : c = .block id (.loop L)) (h1 : iter (evCode O P E n L) n t H = some (.exit id, t1, H1)) : evCode O P E n c t H = some (.normal, t1, H1) :=
  evCode_block hc (by simp only [evCode]; exact h1)
theorem iter_step {f : List AV → AH → Option (AEx × List AV × AH)} {m : Nat} {t t1 : List AV} {H H1 : AH} (h : f t H = some (.normal, t1, H1)) : iter f (m + 1) t H = iter f m t1 H1 := by
  simp only [iter, h]
theorem iter_exit {f : List AV → AH → Option (AEx × List AV × AH)} {m id : Nat} {t t1 : List AV} {H H1 : AH} (h : f t H = some (.exit id, t1, H1)) : iter f (m + 1) t H = some (.exit id, t1, H1) := by
  simp only [iter, h]
def fin (P : Program) (fn : Func) : Option (AEx × List AV × AH) → Option (AV × AH)
  | some (.exit _, _, _) => none
  | some (_, t, H') => (match evResults P H' t fn.results.toList with
    | some vs => some (oneOrTup vs, H')
    | none => none)
  | none => none
theorem evFunc_fin {f : FuncId} {fn : Func} {c : Code} (hf : P.funcs[f]? = some fn) (hb : fn.body = some c) (args : List AV) (H : AH) :
    evFunc O P E n f args H = fin P fn (evCode O P E n c (args ++ List.replicate (fn.ntmps - args.length) .nothing) H) := by
  unfold evFunc
  rw [hf]
  simp only [hb]
  cases evCode O P E n c (args ++ List.replicate (fn.ntmps - args.length) .nothing) H with
  | none => rfl
  | some r =>
    obtain ⟨ex, t, H'⟩ := r
    cases ex <;> rfl
end
def callB (f0 : FuncId) (F : UInt8 → Bool) : Orc := fun f args H => if f = f0 then (match args with
  | [.int .u8 n] => if 0 ≤ n ∧ n < 256 then some (.bool (F (UInt8.ofNat n.toNat)), H) else none
  | _ => none) else none
theorem callB_sound {P : Program} {E : Env} {f0 : FuncId} {F : UInt8 → Bool} (h : ∀ b H, CS P E f0 [.int .u8 (b.toNat : Int)] H (.bool (F b)) H) : Sound P E (callB f0 F) := Sound.pure fun f args H v H' ho => by
  unfold callB at ho
  split at ho
  · rename_i hf
    split at ho
    · rename_i n
      split at ho
      · rename_i hn
        injection ho with ho
        simp only [Prod.mk.injEq] at ho
        obtain ⟨rfl, rfl⟩ := ho
        subst hf
        refine ⟨rfl, ?_⟩
        have := h (UInt8.ofNat n.toNat) H
        have e : ((UInt8.ofNat n.toNat).toNat : Int) = n := by
          simp only [UInt8.toNat_ofNat']
          omega
        rw [e] at this
        exact this
      · cases ho
    · cases ho
  · cases ho
theorem callB_at {f0 : FuncId} {F : UInt8 → Bool} (b : UInt8) (H : AH) : callB f0 F f0 [.int .u8 (b.toNat : Int)] H = some (.bool (F b), H) := by
  have h1 := UInt8.toNat_lt b
  have h2 : (0 : Int) ≤ (b.toNat : Int) ∧ (b.toNat : Int) < 256 := by omega
  simp only [callB, if_true, if_pos h2, Int.toNat_natCast, UInt8.ofNat_toNat]
def frontLen (p : UInt8 → Bool) (s : List UInt8) : Nat := (s.takeWhile p).length
theorem frontLen_le (p : UInt8 → Bool) : ∀ s : List UInt8, frontLen p s ≤ s.length
  | [] => Nat.le_refl _
  | b :: s => by
    have := frontLen_le p s
    unfold frontLen at this ⊢
    rw [List.takeWhile_cons]
    split <;> simp <;> omega
theorem frontLen_in (p : UInt8 → Bool) : ∀ (s : List UInt8) (i : Nat), i < frontLen p s → ∃ h : i < s.length, p s[i] = true
  | [], i, h => by simp [frontLen] at h
  | b :: s, i, h => by
    unfold frontLen at h
    rw [List.takeWhile_cons] at h
    split at h
    · rename_i hb
      cases i with
      | zero => exact ⟨by simp, hb⟩
      | succ i =>
        obtain ⟨h1, h2⟩ := frontLen_in p s i (by unfold frontLen; simpa using h)
        exact ⟨by simpa using h1, by simpa using h2⟩
    · simp at h
theorem frontLen_out (p : UInt8 → Bool) : ∀ (s : List UInt8) (h : frontLen p s < s.length), p (s[frontLen p s]'h) = false
  | [], h => by simp at h
  | b :: s, h => by
    have key : frontLen p (b :: s) = if p b = true then frontLen p s + 1 else 0 := by
      unfold frontLen
      rw [List.takeWhile_cons]
      split <;> simp
    by_cases hb : p b = true
    · rw [if_pos hb] at key
      have h1 : frontLen p s < s.length := by rw [key] at h; simpa using h
      have := frontLen_out p s h1
      simp only [key, List.getElem_cons_succ]
      exact this
    · rw [if_neg hb] at key
      simp only [key, List.getElem_cons_zero]
      simpa using hb
end Go.Proofs.Fw
namespace Go.Proofs.Fw
open Go.RowKit
def EndsIn (r : Option (AEx × List AV × AH)) (Q : AEx → List AV → AH → Prop) : Prop :=
  match r with
  | some (e, t, H) => Q e t H
  | none => False
theorem EndsIn.some_iff {e : AEx} {t : List AV} {H : AH} {Q : AEx → List AV → AH → Prop} : EndsIn (some (e, t, H)) Q ↔ Q e t H := Iff.rfl
theorem EndsIn.mono {r : Option (AEx × List AV × AH)} {Q Q' : AEx → List AV → AH → Prop} (h : EndsIn r Q) (hQ : ∀ e t H, Q e t H → Q' e t H) : EndsIn r Q' := by
  cases r with
  | none => exact h.elim
  | some x => exact hQ _ _ _ h
def Goes (Q : List AV → AH → Prop) (R : AEx → List AV → AH → Prop) : AEx → List AV → AH → Prop
  | .normal, t, H => Q t H
  | .exit id, t, H => R (.exit id) t H
  | .ret, t, H => R .ret t H
section
variable {O : Orc} {P : Program} {E : Env} {n : Nat} {t : List AV} {H : AH} {Q : AEx → List AV → AH → Prop}
theorem EndsIn.seq {c A B : Code} (hc : c = .seq A B) (h : EndsIn (evCode O P E n A t H) (Goes (fun t1 H1 => EndsIn (evCode O P E n B t1 H1) Q) Q)) : EndsIn (evCode O P E n c t H) Q := by
  subst hc
  simp only [evCode]
  cases hr : evCode O P E n A t H with
  | none => rw [hr] at h; exact h.elim
  | some x =>
    obtain ⟨e, t1, H1⟩ := x
    rw [hr] at h
    cases e <;> exact h
theorem EndsIn.block {c A : Code} {id : Nat} (hc : c = .block id A) (h : EndsIn (evCode O P E n A t H) fun e t1 H1 => match e with
    | .exit id' => if id' = id then Q .normal t1 H1 else Q (.exit id') t1 H1
    | e => Q e t1 H1) : EndsIn (evCode O P E n c t H) Q := by
  subst hc
  simp only [evCode]
  cases hr : evCode O P E n A t H with
  | none => rw [hr] at h; exact h.elim
  | some x =>
    obtain ⟨e, t1, H1⟩ := x
    rw [hr] at h
    cases e with
    | normal => exact h
    | ret => exact h
    | exit id' =>
      simp only [EndsIn] at h
      show EndsIn (if id' = id then _ else _) Q
      split
      · rename_i hid; rw [if_pos hid] at h; exact h
      · rename_i hid; rw [if_neg hid] at h; exact h
theorem EndsIn.iter {f : List AV → AH → Option (AEx × List AV × AH)} (I : Nat → List AV → AH → Prop)
    (h : ∀ k t H, I k t H → EndsIn (f t H) (Goes (fun t1 H1 => ∃ j, j < k ∧ I j t1 H1) Q)) : ∀ (m k : Nat) {t : List AV} {H : AH}, k < m → I k t H → EndsIn (Fw.iter f m t H) Q
  | 0, _, _, _, hk, _ => by omega
  | m + 1, k, t, H, hk, hI => by
    have h1 := h k t H hI
    simp only [Fw.iter]
    cases hr : f t H with
    | none => rw [hr] at h1; exact h1.elim
    | some x =>
      obtain ⟨e, t1, H1⟩ := x
      rw [hr] at h1
      cases e with
      | normal =>
        obtain ⟨j, hj, hI'⟩ := h1
        exact EndsIn.iter I h m j (by omega) hI'
      | exit id => exact h1
      | ret => exact h1
end
theorem evFunc_of {O : Orc} {P : Program} {E : Env} {n : Nat} {f : FuncId} {fn : Func} {c : Code} (hf : P.funcs[f]? = some fn) (hb : fn.body = some c) {args : List AV} {r : AV × AH} {H : AH}
    (h : EndsIn (evCode O P E n c (args ++ List.replicate (fn.ntmps - args.length) .nothing) H) fun e t H' => fin P fn (some (e, t, H')) = some r) : evFunc O P E n f args H = some r := by
  rw [evFunc_fin hf hb]
  cases hr : evCode O P E n c (args ++ List.replicate (fn.ntmps - args.length) .nothing) H with
  | none => rw [hr] at h; exact h.elim
  | some x => rw [hr] at h; exact h
noncomputable def headC : Nat → Code → Code
  | 0, _ => .skip
  | k + 1, .seq a b => .seq a (headC k b)
  | _ + 1, c => c
noncomputable def tailC : Nat → Code → Code
  | 0, c => c
  | k + 1, .seq _ b => tailC k b
  | _ + 1, _ => .skip
theorem EndsIn.split {O : Orc} {P : Program} {E : Env} {n : Nat} {Q : AEx → List AV → AH → Prop} : ∀ (k : Nat) (c : Code) {t : List AV} {H : AH},
    EndsIn (evCode O P E n (headC k c) t H) (Goes (fun t1 H1 => EndsIn (evCode O P E n (tailC k c) t1 H1) Q) Q) → EndsIn (evCode O P E n c t H) Q
  | 0, c, t, H, h => by simpa only [headC, tailC, evCode, EndsIn, Goes] using h
  | k + 1, .seq a b, t, H, h => by
    refine EndsIn.seq rfl ?_
    simp only [headC, tailC, evCode] at h
    cases hr : evCode O P E n a t H with
    | none => rw [hr] at h; exact h.elim
    | some x =>
      obtain ⟨e, t1, H1⟩ := x
      rw [hr] at h
      cases e with
      | normal => exact EndsIn.split k b h
      | exit id => exact h
      | ret => exact h
  | _ + 1, .skip, _, _, h => by simpa only [headC, tailC, evCode, EndsIn, Goes] using h
  | _ + 1, .region _ _ _, _, _, h => by
    refine EndsIn.mono h fun e t1 H1 h1 => ?_
    cases e <;> simpa only [tailC, evCode, EndsIn, Goes] using h1
  | _ + 1, .cond _ _ _, _, _, h => by
    refine EndsIn.mono h fun e t1 H1 h1 => ?_
    cases e <;> simpa only [tailC, evCode, EndsIn, Goes] using h1
  | _ + 1, .block _ _, _, _, h => by
    refine EndsIn.mono h fun e t1 H1 h1 => ?_
    cases e <;> simpa only [tailC, evCode, EndsIn, Goes] using h1
  | _ + 1, .loop _, _, _, h => by
    refine EndsIn.mono h fun e t1 H1 h1 => ?_
    cases e <;> simpa only [tailC, evCode, EndsIn, Goes] using h1
  | _ + 1, .exit _, _, _, h => by
    refine EndsIn.mono h fun e t1 H1 h1 => ?_
    cases e <;> simpa only [tailC, evCode, EndsIn, Goes] using h1
  | _ + 1, .ret, _, _, h => by
    refine EndsIn.mono h fun e t1 H1 h1 => ?_
    cases e <;> simpa only [tailC, evCode, EndsIn, Goes] using h1
  | _ + 1, .rangeFunc _ _ _ _, _, _, h => by simp only [headC, evCode] at h; exact h.elim
  | _ + 1, .scope _, _, _, h => by simp only [headC, evCode] at h; exact h.elim
  | _ + 1, .label _, _, _, h => by simp only [headC, evCode] at h; exact h.elim
  | _ + 1, .goto _, _, _, h => by simp only [headC, evCode] at h; exact h.elim
  | _ + 1, .refuse _, _, _, h => by simp only [headC, evCode] at h; exact h.elim
theorem CS.of_ev {P : Program} {E : Env} {O : Orc} (hS : Sound P E O) (hM : MethOk P E) (hmix : P.follows .mixedOrders = true) (hE : ∀ i, low 0 (E.glob i) = true) {n : Nat} {f : FuncId} {args : List AV} {v : AV} (k : Nat)
    (h : ∃ H', evFunc O P E n f args [] = some (v, H') ∧ low 0 (strip 0 (frz 0 H' k v)) = true ∧ strip 0 (frz 0 H' k v) = strip 0 v) (ha : lowL 0 args = true) (H : AH) : CS P E f args H (strip 0 v) H := by
  obtain ⟨H', h1, h2, h3⟩ := h
  have h4 := evFunc_ok hS hM hmix h1
  have h5 := h4.gc k (by simpa using h2) rfl
  simp only [List.length_nil, List.take_zero] at h5
  rw [h3] at h5
  exact h5.frame hE ha H
end Go.Proofs.Fw
namespace Go.Proofs.Fw
open Go.RowKit
def evP (O : Orc) (P : Program) (E : Env) (ops : Array Oper) : List (Oper × Nat) → List AV → AH → Option (List AV)
  | [], t, _ => some t
  | p :: ps, t, H => (match dstep O P E ops t H p with
    | some (v, [], _) => evP O P E ops ps (putT t p.1.dst v) H
    | _ => none)
def synItems : Nat → List Nat → List (Oper × Nat) → List (Nat × Nat × Oper)
  | _, _, [] => []
  | i, ms, p :: ps => (i, ms.getD i 0, p.1) :: synItems (i + 1) ms ps
def chkSyn (ops : Array Oper) : List (Nat × Nat × Oper) → Bool
  | [] => true
  | r :: rs => rs.all (fun s => s.2.1.testBit r.1 || r.2.2.apart ops s.2.2) && chkSyn ops rs
def Item.syn (r : Item) : Nat × Nat × Oper := (r.i, r.m, r.p.1)
theorem clos_zero (H : AH) (l : List Nat) : clos H 0 l = l := by simp only [clos]
theorem clos_nil (H : AH) : ∀ n, clos H n [] = []
  | 0 => rfl
  | n + 1 => by simp [clos, boxIdsL]
theorem evP_evD {O : Orc} {P : Program} {E : Env} {ops : Array Oper} : ∀ (ps : List (Oper × Nat)) (i : Nat) (ms : List Nat) {t t' : List AV} {H : AH}, evP O P E ops ps t H = some t' →
    ∃ l, evD O P E ops i ms ps t H = some (t', H, l) ∧ (∀ r ∈ l, r.u = []) ∧ l.map Item.syn = synItems i ms ps
  | [], i, ms, t, t', H, h => by
    simp only [evP] at h
    injection h with h
    subst h
    exact ⟨[], rfl, by simp, rfl⟩
  | p :: ps, i, ms, t, t', H, h => by
    simp only [evP] at h
    split at h
    · rename_i v S hd
      obtain ⟨l, h1, h2, h3⟩ := evP_evD ps (i + 1) ms h
      refine ⟨⟨i, ms.getD i 0, p, v, [], S⟩ :: l, ?_, ?_, ?_⟩
      · simp only [evD, hd, applyUps, h1]
      · intro r hr
        rcases List.mem_cons.1 hr with rfl | hr
        · rfl
        · exact h2 r hr
      · simp only [List.map_cons, h3, synItems, Item.syn]
    · cases h
theorem chk_syn {ops : Array Oper} : ∀ (l : List Item), (∀ r ∈ l, r.u = []) → chk ops l = chkSyn ops (l.map Item.syn)
  | [], _ => rfl
  | r :: l, h => by
    simp only [chk, List.map_cons, chkSyn]
    rw [chk_syn l fun q hq => h q (List.mem_cons_of_mem _ hq)]
    have h1 := h r List.mem_cons_self
    have key : ∀ l' : List Item, (∀ q ∈ l', q.u = []) → l'.all (okPair ops r) = (l'.map Item.syn).all (fun s => s.2.1.testBit r.i || r.p.1.apart ops s.2.2) := by
      intro l'
      induction l' with
      | nil => intro _; rfl
      | cons q l' ih =>
        intro hq
        simp only [List.all_cons, List.map_cons]
        rw [ih fun x hx => hq x (List.mem_cons_of_mem _ hx)]
        have h2 := hq q List.mem_cons_self
        simp [okPair, footApart, h1, h2, Item.syn]
    rw [key l fun q hq => h q (List.mem_cons_of_mem _ hq)]
    rfl
theorem evDraw_pure {O : Orc} {P : Program} {E : Env} {ops : Array Oper} {t t' : List AV} {H : AH} (h0 : idCount E ops.toList = 0) (h : evP O P E ops (withIds E ops.toList H.length) t H = some t')
    (hs : ∀ n, chkSyn ops (synItems 0 (masksFrom [] ops.toList) (withIds E ops.toList n)) = true) (hb : backOnly 0 ops.toList = true) : evDraw O P E ops t H = some (t', H) := by
  obtain ⟨l, h1, h2, h3⟩ := evP_evD _ 0 (masksFrom [] ops.toList) h
  have hg : grow H (idCount E ops.toList) = H := by rw [h0]; rfl
  unfold evDraw
  rw [hg, h1]
  simp only
  rw [if_pos ⟨by rw [chk_syn l h2, h3]; exact hs _, hb⟩]
end Go.Proofs.Fw
namespace Go.Proofs.Fw
open Go.RowKit
theorem Rel.below {g : Gh} {H : AH} {w w' : World} (R : Rel g H w) (h : Below w.heap.size w w') : Rel g H w' ∧ Post g H w g H w' := by
  refine ⟨⟨fun b i v hv => ?_, R.free, fun id e he hne => ?_, R.inj, fun id e he => Nat.lt_of_lt_of_le (R.blk id e he) h.size⟩,
    ⟨g.le_refl, fun id hid => ⟨rfl, hid⟩, fun id e he => .inl ⟨e, he, rfl⟩, fun b hb _ => ⟨h.block b hb, fun _ => rfl⟩, h.size, h.os, h.tape, h.output⟩⟩
  · have hb := R.lt hv
    exact (cell?_of_heap (h.block b hb)).trans (R.imm b i v hv)
  · obtain ⟨ge, h1, h2⟩ := R.ent id e he hne
    exact ⟨ge, h1, h2.keep g.le_refl (h.block _ (R.blk id ge h1)) (fun _ => rfl)⟩
theorem CS.of_below {P : Program} {E : Env} {f : FuncId} {args : List AV} {v : AV} {H : AH}
    (h : ∀ g w cargs, RepL g args cargs → Calls P f (List.toArray cargs) w fun e w' => ∃ cv, e = .returned cv ∧ (∀ g, RepV g v cv) ∧ Below w.heap.size w w') : CS P E f args H v H := by
  intro g w cargs R hG hA
  refine (h g w cargs hA).mono ?_
  rintro e w' ⟨cv, rfl, hr, hb⟩
  obtain ⟨R', p⟩ := R.below hb
  exact ⟨g, cv, rfl, R', p, hr g⟩
end Go.Proofs.Fw
namespace Go.Proofs.Fw
open Go.RowKit
def WB (v : AV) (X Y : Prop) : Prop :=
  match v with
  | .bool b => (b = true → X) ∧ (b = false → Y)
  | _ => False
def WG (b : Option Bool) (X Y : Prop) : Prop :=
  match b with
  | some b => (b = false → X) ∧ (b = true → Y)
  | none => False
def WS {α : Type} (r : Option α) (K : α → Prop) : Prop :=
  match r with
  | some x => K x
  | none => False
theorem WS_some {α : Type} (x : α) (K : α → Prop) : WS (some x) K ↔ K x := Iff.rfl
section
variable (O : Orc) (P : Program) (E : Env) (n : Nat)
def W (c : Code) (t : List AV) (H : AH) (Q : AEx → List AV → AH → Prop) : Prop := EndsIn (evCode O P E n c t H) Q
def WO (ops : Array Oper) (l : List (Oper × Nat)) (t : List AV) (H : AH) (K : List AV → AH → Prop) : Prop :=
  WS (evOps O P E ops l t H) fun r => K r.1 r.2
def Blk (id : Nat) (Q : AEx → List AV → AH → Prop) : AEx → List AV → AH → Prop := fun e t H => match e with
  | .exit id' => if id' = id then Q .normal t H else Q (.exit id') t H
  | e => Q e t H
variable {O P E n} {t : List AV} {H : AH} {Q : AEx → List AV → AH → Prop}
theorem W_skip : W O P E n .skip t H Q ↔ Q .normal t H := by simp only [W, evCode, EndsIn]
theorem W_exit (id : Nat) : W O P E n (.exit id) t H Q ↔ Q (.exit id) t H := by simp only [W, evCode, EndsIn]
theorem W_ret : W O P E n .ret t H Q ↔ Q .ret t H := by simp only [W, evCode, EndsIn]
theorem W_seq (a b : Code) : W O P E n (.seq a b) t H Q ↔ W O P E n a t H (Goes (fun t1 H1 => W O P E n b t1 H1 Q) Q) := by
  simp only [W, evCode]
  cases evCode O P E n a t H with
  | none => exact Iff.rfl
  | some x =>
    obtain ⟨e, t1, H1⟩ := x
    cases e <;> exact Iff.rfl
theorem W_cond (c : Operand) (a b : Code) : W O P E n (.cond c a b) t H Q ↔ WB (aeval E t c) (W O P E n a t H Q) (W O P E n b t H Q) := by
  simp only [W, evCode, WB]
  cases aeval E t c with
  | bool v => cases v <;> simp
  | _ => exact Iff.rfl
theorem W_block (id : Nat) (c : Code) : W O P E n (.block id c) t H Q ↔ W O P E n c t H (Blk id Q) := by
  simp only [W, evCode]
  cases evCode O P E n c t H with
  | none => exact Iff.rfl
  | some x =>
    obtain ⟨e, t1, H1⟩ := x
    cases e with
    | normal => exact Iff.rfl
    | ret => exact Iff.rfl
    | exit id' =>
      simp only [EndsIn, Blk]
      by_cases h : id' = id
      · simp only [if_pos h, EndsIn]
      · simp only [if_neg h, EndsIn]
theorem W_region (id : Nat) (ops : Array Oper) : W O P E n (.region id ops false) t H Q ↔ WO O P E ops (withIds E ops.toList H.length) t (grow H (idCount E ops.toList)) (fun t1 H1 => Q .normal t1 H1) := by
  simp only [W, evCode, WO, evRegion, Bool.false_eq_true, if_false]
  cases evOps O P E ops (withIds E ops.toList H.length) t (grow H (idCount E ops.toList)) with
  | none => exact Iff.rfl
  | some x => exact Iff.rfl
theorem W_draw (id : Nat) (ops : Array Oper) : W O P E n (.region id ops true) t H Q ↔ WS (evDraw O P E ops t H) (fun r => Q .normal r.1 r.2) := by
  simp only [W, evCode, if_true]
  cases evDraw O P E ops t H with
  | none => exact Iff.rfl
  | some x => exact Iff.rfl
theorem WO_nil (ops : Array Oper) (K : List AV → AH → Prop) : WO O P E ops [] t H K ↔ K t H := by simp only [WO, evOps, WS]
theorem WO_cons (ops : Array Oper) (o : Oper) (fid : Nat) (rest : List (Oper × Nat)) (K : List AV → AH → Prop) :
    WO O P E ops ((o, fid) :: rest) t H K ↔ WG (wantedA ops t o) (WO O P E ops rest (putT t o.dst .nothing) H K) (WS (stepO O P E (aeval E t) H fid o) fun r => WO O P E ops rest (putT t o.dst r.1) r.2 K) := by
  simp only [WO, evOps, WG]
  cases wantedA ops t o with
  | none => exact Iff.rfl
  | some b =>
    cases b with
    | false => simp
    | true =>
      simp only [Bool.true_eq_false, false_imp_iff, true_imp_iff, true_and]
      cases stepO O P E (aeval E t) H fid o with
      | none => exact Iff.rfl
      | some x => exact Iff.rfl
theorem Goes_normal (K : List AV → AH → Prop) (R : AEx → List AV → AH → Prop) : Goes K R .normal t H ↔ K t H := Iff.rfl
theorem Goes_exit (K : List AV → AH → Prop) (R : AEx → List AV → AH → Prop) (id : Nat) : Goes K R (.exit id) t H ↔ R (.exit id) t H := Iff.rfl
theorem Goes_ret (K : List AV → AH → Prop) (R : AEx → List AV → AH → Prop) : Goes K R .ret t H ↔ R .ret t H := Iff.rfl
theorem Blk_ret (id : Nat) : Blk id Q .ret t H ↔ Q .ret t H := Iff.rfl
theorem Blk_exit (id id' : Nat) : Blk id Q (.exit id') t H ↔ if id' = id then Q .normal t H else Q (.exit id') t H := Iff.rfl
theorem W_mono {c : Code} {Q' : AEx → List AV → AH → Prop} (h : W O P E n c t H Q) (hQ : ∀ e t H, Q e t H → Q' e t H) : W O P E n c t H Q' := EndsIn.mono h hQ
end
end Go.Proofs.Fw
namespace Go.Proofs.Fw
open Go.RowKit
mutual
def ren (φ : Nat → Nat) : AV → AV
  | .ptr id off => .ptr (φ id) off
  | .bsl id off sz n cap => .bsl (φ id) off sz n cap
  | .slice (.tok t) sz n cs => .slice (.tok (φ t)) sz n (renL φ cs)
  | .slice .unk sz n cs => .slice .unk sz n (renL φ cs)
  | .slice .full sz n cs => .slice .full sz n (renL φ cs)
  | .lsl t sz n cs => .lsl (φ t) sz n (renL φ cs)
  | .lptr t sz n => .lptr (φ t) sz n
  | .stk t ver sz n => .stk (φ t) ver sz n
  | .sptr t ver sz off => .sptr (φ t) ver sz off
  | .vptr cs off => .vptr (renL φ cs) off
  | .func fn a b => .func fn (renL φ a) (renL φ b)
  | .iface t v => .iface t (ren φ v)
  | .agg cs => .agg (renL φ cs)
  | .tup vs => .tup (renL φ vs)
  | .undef => .undef
  | .bool b => .bool b
  | .int k n => .int k n
  | .str s => .str s
  | .nilPtr => .nilPtr
  | .nilSlice => .nilSlice
  | .emp => .emp
  | .nilMap => .nilMap
  | .nilFunc => .nilFunc
  | .adr b o => .adr b o
  | .nilIface => .nilIface
def renL (φ : Nat → Nat) : List AV → List AV
  | [] => []
  | a :: aS => ren φ a :: renL φ aS
end
def renE (φ : Nat → Nat) : Ent → Ent
  | .box cs => .box (renL φ cs)
  | .tok n => .tok n
  | .loose n cs => .loose n (renL φ cs)
  | .stk n cs => .stk n (renL φ cs)
  | .hid => .hid
theorem renL_length (φ : Nat → Nat) : ∀ l : List AV, (renL φ l).length = l.length
  | [] => rfl
  | _ :: l => by simp [renL, renL_length φ l]
section
variable {φ : Nat → Nat} {g g' : Gh} {k : Nat}
mutual
theorem RepV.ren (hG : g'.G = g.G) (hM : ∀ i, i < k → g'.M (φ i) = g.M i) : ∀ (a : AV) (v : Value), low k a = true → (RepV g a v ↔ RepV g' (Fw.ren φ a) v)
  | .undef, _, _ => by simp [RepV, Fw.ren]
  | .bool _, _, _ => by simp [RepV, Fw.ren]
  | .int _ _, _, _ => by simp [RepV, Fw.ren]
  | .str _, _, _ => by simp [RepV, Fw.ren]
  | .nilPtr, _, _ => by simp [RepV, Fw.ren]
  | .nilSlice, _, _ => by simp [RepV, Fw.ren]
  | .emp, _, _ => by simp [RepV, Fw.ren]
  | .nilMap, _, _ => by simp [RepV, Fw.ren]
  | .nilFunc, _, _ => by simp [RepV, Fw.ren]
  | .adr _ _, _, _ => by simp [RepV, Fw.ren]
  | .nilIface, _, _ => by simp [RepV, Fw.ren]
  | .ptr id off, v, hl => by
    simp only [low, decide_eq_true_eq] at hl
    simp only [RepV, Fw.ren, hM id hl]
  | .bsl id off sz n cap, v, hl => by
    simp only [low, decide_eq_true_eq] at hl
    simp only [RepV, Fw.ren, hM id hl]
  | .vptr cs off, v, hl => by
    simp only [low] at hl
    simp only [RepV, Fw.ren]
    constructor
    · rintro ⟨b, o, vs, hv, h1, h2⟩
      exact ⟨b, o, vs, hv, (RepL.ren hG hM _ _ hl).1 h1, fun i v hi => by rw [hG]; exact h2 i v hi⟩
    · rintro ⟨b, o, vs, hv, h1, h2⟩
      exact ⟨b, o, vs, hv, (RepL.ren hG hM _ _ hl).2 h1, fun i v hi => by rw [← hG]; exact h2 i v hi⟩
  | .slice .unk sz n cs, v, hl => by
    simp only [low] at hl
    simp only [RepV, Fw.ren, renL_length]
    constructor
    · rintro ⟨b, o, cap, vs, hv, h1, h2, h3, h4, h5⟩
      exact ⟨b, o, cap, vs, hv, (RepL.ren hG hM _ _ hl).1 h1, fun i v hi => by rw [hG]; exact h2 i v hi, h3, h4, trivial⟩
    · rintro ⟨b, o, cap, vs, hv, h1, h2, h3, h4, h5⟩
      exact ⟨b, o, cap, vs, hv, (RepL.ren hG hM _ _ hl).2 h1, fun i v hi => by rw [← hG]; exact h2 i v hi, h3, h4, trivial⟩
  | .slice .full sz n cs, v, hl => by
    simp only [low] at hl
    simp only [RepV, Fw.ren, renL_length]
    constructor
    · rintro ⟨b, o, cap, vs, hv, h1, h2, h3, h4, h5⟩
      exact ⟨b, o, cap, vs, hv, (RepL.ren hG hM _ _ hl).1 h1, fun i v hi => by rw [hG]; exact h2 i v hi, h3, h4, h5⟩
    · rintro ⟨b, o, cap, vs, hv, h1, h2, h3, h4, h5⟩
      exact ⟨b, o, cap, vs, hv, (RepL.ren hG hM _ _ hl).2 h1, fun i v hi => by rw [← hG]; exact h2 i v hi, h3, h4, h5⟩
  | .slice (.tok t) sz n cs, v, hl => by
    simp only [low, Bool.and_eq_true, decide_eq_true_eq] at hl
    simp only [RepV, Fw.ren, renL_length, OwnOk, hM t hl.1]
    constructor
    · rintro ⟨b, o, cap, vs, hv, h1, h2, h3, h4, h5⟩
      exact ⟨b, o, cap, vs, hv, (RepL.ren hG hM _ _ hl.2).1 h1, fun i v hi => by rw [hG]; exact h2 i v hi, h3, h4, h5⟩
    · rintro ⟨b, o, cap, vs, hv, h1, h2, h3, h4, h5⟩
      exact ⟨b, o, cap, vs, hv, (RepL.ren hG hM _ _ hl.2).2 h1, fun i v hi => by rw [← hG]; exact h2 i v hi, h3, h4, h5⟩
  | .lsl t sz n cs, v, hl => by
    simp only [low, Bool.and_eq_true, decide_eq_true_eq] at hl
    simp only [RepV, Fw.ren, renL_length, OwnOk, hM t hl.1]
    constructor
    · rintro ⟨b, cap, vs, hv, h1, h2, h3, h4, h5⟩
      exact ⟨b, cap, vs, hv, (RepL.ren hG hM _ _ hl.2).1 h1, fun i v hi => by rw [hG]; exact h2 i v hi, h3, h4, h5⟩
    · rintro ⟨b, cap, vs, hv, h1, h2, h3, h4, h5⟩
      exact ⟨b, cap, vs, hv, (RepL.ren hG hM _ _ hl.2).2 h1, fun i v hi => by rw [← hG]; exact h2 i v hi, h3, h4, h5⟩
  | .lptr t sz n, v, hl => by
    simp only [low, decide_eq_true_eq] at hl
    simp only [RepV, Fw.ren, OwnOk, hM t hl]
  | .stk t ver sz n, v, hl => by
    simp only [low, decide_eq_true_eq] at hl
    simp only [RepV, Fw.ren, OwnOk, hM t hl]
  | .sptr t ver sz n, v, hl => by
    simp only [low, decide_eq_true_eq] at hl
    simp only [RepV, Fw.ren, OwnOk, hM t hl]
  | .func fn fi ca, v, hl => by
    simp only [low, Bool.and_eq_true] at hl
    simp only [RepV, Fw.ren]
    constructor
    · rintro ⟨fs, cs, hv, h1, h2⟩
      exact ⟨fs, cs, hv, (RepL.ren hG hM _ _ hl.1).1 h1, (RepL.ren hG hM _ _ hl.2).1 h2⟩
    · rintro ⟨fs, cs, hv, h1, h2⟩
      exact ⟨fs, cs, hv, (RepL.ren hG hM _ _ hl.1).2 h1, (RepL.ren hG hM _ _ hl.2).2 h2⟩
  | .iface t x, v, hl => by
    simp only [low] at hl
    simp only [RepV, Fw.ren]
    constructor
    · rintro ⟨y, hv, h1⟩
      exact ⟨y, hv, (RepV.ren hG hM _ _ hl).1 h1⟩
    · rintro ⟨y, hv, h1⟩
      exact ⟨y, hv, (RepV.ren hG hM _ _ hl).2 h1⟩
  | .agg cs, v, hl => by
    simp only [low] at hl
    simp only [RepV, Fw.ren]
    constructor
    · rintro ⟨vs, hv, h1⟩
      exact ⟨vs, hv, (RepL.ren hG hM _ _ hl).1 h1⟩
    · rintro ⟨vs, hv, h1⟩
      exact ⟨vs, hv, (RepL.ren hG hM _ _ hl).2 h1⟩
  | .tup cs, v, hl => by
    simp only [low] at hl
    simp only [RepV, Fw.ren]
    constructor
    · rintro ⟨vs, hv, h1⟩
      exact ⟨vs, hv, (RepL.ren hG hM _ _ hl).1 h1⟩
    · rintro ⟨vs, hv, h1⟩
      exact ⟨vs, hv, (RepL.ren hG hM _ _ hl).2 h1⟩
theorem RepL.ren (hG : g'.G = g.G) (hM : ∀ i, i < k → g'.M (φ i) = g.M i) : ∀ (aS : List AV) (vs : List Value), lowL k aS = true → (RepL g aS vs ↔ RepL g' (renL φ aS) vs)
  | [], _, _ => by simp [RepL, renL]
  | a :: aS, vs, hl => by
    simp only [lowL, Bool.and_eq_true] at hl
    simp only [RepL, renL]
    constructor
    · rintro ⟨v, ws, hv, h1, h2⟩
      exact ⟨v, ws, hv, (RepV.ren hG hM _ _ hl.1).1 h1, (RepL.ren hG hM _ _ hl.2).1 h2⟩
    · rintro ⟨v, ws, hv, h1, h2⟩
      exact ⟨v, ws, hv, (RepV.ren hG hM _ _ hl.1).2 h1, (RepL.ren hG hM _ _ hl.2).2 h2⟩
end
theorem EntRep.ren (hG : g'.G = g.G) (hM : ∀ i, i < k → g'.M (φ i) = g.M i) {w : World} {e : Ent} {ge : GEnt} (hl : lowE k (some e) = true) : EntRep g w e ge ↔ EntRep g' w (renE φ e) ge := by
  cases e with
  | hid => simp [EntRep, renE]
  | box cs =>
    simp only [lowE] at hl
    cases ge with
    | box b =>
      simp only [EntRep, renE, hG]
      constructor
      · rintro ⟨vs, el, h1, h2, h3⟩
        exact ⟨vs, el, h1, (RepL.ren hG hM _ _ hl).1 h2, h3⟩
      · rintro ⟨vs, el, h1, h2, h3⟩
        exact ⟨vs, el, h1, (RepL.ren hG hM _ _ hl).2 h2, h3⟩
    | tok => simp [EntRep, renE]
  | tok n =>
    cases ge with
    | box => simp [EntRep, renE]
    | tok b n' sz cap => simp only [EntRep, renE, hG]
  | stk n cs =>
    simp only [lowE] at hl
    cases ge with
    | box => simp [EntRep, renE]
    | tok b n' sz cap =>
      simp only [EntRep, renE, hG, renL_length]
      constructor
      · rintro ⟨h1, h2, ⟨vs, el, h3, h4, h5⟩, h6⟩
        exact ⟨h1, h2, ⟨vs, el, h3, h4, (RepL.ren hG hM _ _ hl).1 h5⟩, h6⟩
      · rintro ⟨h1, h2, ⟨vs, el, h3, h4, h5⟩, h6⟩
        exact ⟨h1, h2, ⟨vs, el, h3, h4, (RepL.ren hG hM _ _ hl).2 h5⟩, h6⟩
  | loose n cs =>
    simp only [lowE] at hl
    cases ge with
    | box => simp [EntRep, renE]
    | tok b n' sz cap =>
      simp only [EntRep, renE, hG, renL_length]
      constructor
      · rintro ⟨h1, h2, h0, ⟨vs, el, h3, h4, h5⟩, h6⟩
        exact ⟨h1, h2, h0, ⟨vs, el, h3, h4, (RepL.ren hG hM _ _ hl).1 h5⟩, h6⟩
      · rintro ⟨h1, h2, h0, ⟨vs, el, h3, h4, h5⟩, h6⟩
        exact ⟨h1, h2, h0, ⟨vs, el, h3, h4, (RepL.ren hG hM _ _ hl).2 h5⟩, h6⟩
end
theorem lowE_at {n : Nat} : ∀ {H : AH} {i : Nat} {e : Ent}, lowH n H = true → H.at i = some e → lowE n (some e) = true
  | [], i, e, _, h => by simp [AH.at] at h
  | x :: r, i, e, hl, h => by
    simp only [lowH, Bool.and_eq_true] at hl
    cases i with
    | zero =>
      simp only [AH.at, List.getElem?_cons_zero, Option.join_some] at h
      rw [← h]
      exact hl.1
    | succ i => exact lowE_at (H := r) (i := i) hl.2 (by simpa [AH.at] using h)
open Classical in
theorem CS.embed {P : Program} {E : Env} {f : FuncId} {args : List AV} {v : AV} {k : Nat} (φ : Nat → Nat) {H0 H0' H H' : AH} (h : CS P E f args H0 v H0') (hk : H0.length = k) (hk' : H0'.length = k)
    (hφ : ∀ i j, i < k → j < k → φ i = φ j → i = j) (hE : ∀ i, low 0 (E.glob i) = true) (ha : lowL k args = true) (hv : low k v = true) (hl : lowH k H0 = true) (hl' : lowH k H0' = true)
    (hH : ∀ i, i < k → H.at (φ i) = (H0.at i).map (renE φ)) (hH' : ∀ i, i < k → H'.at (φ i) = (H0'.at i).map (renE φ)) (hO : ∀ j, (∀ i, i < k → φ i ≠ j) → H'.at j = H.at j) :
    CS P E f (renL φ args) H (ren φ v) H' := by
  intro g w cargs R hG hA
  let g0 : Gh := { G := g.G, M := fun i => if i < k then g.M (φ i) else none }
  have hM0 : ∀ i, i < k → g.M (φ i) = g0.M i := fun i hi => by simp [g0, hi]
  have R0 : Rel g0 H0 w := by
    refine ⟨R.imm, ?_, ?_, ?_, ?_⟩
    · intro i hi
      by_cases hik : i < k
      · rw [← hM0 i hik]
        exact R.free _ (by rw [hH i hik, hi]; rfl)
      · simp [g0, hik]
    · intro i e he hne
      have hik : i < k := by rw [← hk]; exact at_lt he
      obtain ⟨ge, h1, h2⟩ := R.ent (φ i) (renE φ e) (by rw [hH i hik, he]; rfl) (by cases e <;> simp_all [renE])
      exact ⟨ge, by rw [← hM0 i hik]; exact h1, (EntRep.ren (g := g0) (g' := g) (k := k) rfl hM0 (lowE_at hl he)).2 h2⟩
    · intro i j e e' he he' hb
      by_cases hik : i < k
      · by_cases hjk : j < k
        · rw [← hM0 i hik] at he
          rw [← hM0 j hjk] at he'
          exact hφ i j hik hjk (R.inj _ _ _ _ he he' hb)
        · simp [g0, hjk] at he'
      · simp [g0, hik] at he
    · intro i e he
      by_cases hik : i < k
      · rw [← hM0 i hik] at he
        exact R.blk _ _ he
      · simp [g0, hik] at he
  have hG0 : GlobOk E g0 := fun i => by
    have h1 : RepV (g.cut 0) (E.glob i) _ := RepV.cut _ _ (hE i) (hG i)
    have hle0 : (g.cut 0).le g0 := ⟨fun _ _ _ h => h, fun _ _ h => by simp [Gh.cut] at h⟩
    exact RepV.mono hle0 _ _ h1
  have hA0 : RepL g0 args cargs := (RepL.ren (g := g0) (g' := g) (k := k) rfl hM0 _ _ ha).2 hA
  refine (h g0 w cargs R0 hG0 hA0).mono ?_
  rintro e w1 ⟨g1, cv, rfl, R1, p1, hr⟩
  let g' : Gh := { G := g1.G, M := fun j => if h : ∃ i, i < k ∧ φ i = j then g1.M (Classical.choose h) else g.M j }
  have hM1 : ∀ i, i < k → g'.M (φ i) = g1.M i := fun i hi => by
    have hex : ∃ i', i' < k ∧ φ i' = φ i := ⟨i, hi, rfl⟩
    have hc := Classical.choose_spec hex
    have he : Classical.choose hex = i := hφ _ _ hc.1 hi hc.2
    simp only [g', dif_pos hex, he]
  have hMo : ∀ j, (∀ i, i < k → φ i ≠ j) → g'.M j = g.M j := fun j hj => by
    have : ¬ ∃ i, i < k ∧ φ i = j := fun ⟨i, h1, h2⟩ => hj i h1 h2
    simp only [g', dif_neg this]
  have dec : ∀ j, (∃ i, i < k ∧ φ i = j) ∨ (∀ i, i < k → φ i ≠ j) := fun j => by
    by_cases h : ∃ i, i < k ∧ φ i = j
    · exact .inl h
    · exact .inr fun i h1 h2 => h ⟨i, h1, h2⟩
  have hle : g.le g' := by
    refine ⟨fun b i v hb => p1.le.G b i v hb, fun j e he => ?_⟩
    rcases dec j with ⟨i, hi, rfl⟩ | hj
    · rw [hM1 i hi]
      exact p1.le.M i e (by rw [← hM0 i hi]; exact he)
    · exact ⟨e, by rw [hMo j hj]; exact he, e.le_refl⟩
  have hold : ∀ j ge, (∀ i, i < k → φ i ≠ j) → g.M j = some ge → w1.heap[ge.block]? = w.heap[ge.block]? ∧ ∀ i, g1.G ge.block i = g.G ge.block i := by
    intro j ge hj hM
    refine p1.old ge.block (R.blk j ge hM) fun i e ge' he hne hM' hb => ?_
    have hik : i < k := by rw [← hk]; exact at_lt he
    rw [← hM0 i hik] at hM'
    exact hj i hik (R.inj _ _ _ _ hM' hM hb)
  have cross : ∀ i j e e', i < k → (∀ i, i < k → φ i ≠ j) → g1.M i = some e → g.M j = some e' → e.block ≠ e'.block := by
    intro i j e e' hi hj he he' hb
    rcases p1.new i e he with ⟨e0, h0, hb0⟩ | h0
    · rw [← hM0 i hi] at h0
      exact hj i hi (R.inj _ _ _ _ h0 he' (hb0.trans hb))
    · have := R.blk j e' he'
      omega
  refine ⟨g', cv, rfl, ⟨R1.imm, ?_, ?_, ?_, ?_⟩, ⟨hle, ?_, ?_, ?_, p1.size, p1.os, p1.tape, p1.output⟩, (RepV.ren (g := g1) (g' := g') (k := k) rfl hM1 _ _ hv).1 hr⟩
  · intro j hj
    rcases dec j with ⟨i, hi, rfl⟩ | hj'
    · rw [hM1 i hi]
      refine R1.free i ?_
      rw [hH' i hi] at hj
      cases h : H0'.at i with
      | none => rfl
      | some e => rw [h] at hj; cases hj
    · rw [hMo j hj']
      exact R.free j (by rw [← hO j hj']; exact hj)
  · intro j e he hne
    rcases dec j with ⟨i, hi, rfl⟩ | hj'
    · rw [hH' i hi] at he
      cases h : H0'.at i with
      | none => rw [h] at he; cases he
      | some e0 =>
        rw [h] at he
        simp only [Option.map_some, Option.some.injEq] at he
        subst he
        obtain ⟨ge, h1, h2⟩ := R1.ent i e0 h (by rintro rfl; exact hne rfl)
        exact ⟨ge, by rw [hM1 i hi]; exact h1, (EntRep.ren (g := g1) (g' := g') (k := k) rfl hM1 (lowE_at hl' h)).1 h2⟩
    · rw [hO j hj'] at he
      obtain ⟨ge, h1, h2⟩ := R.ent j e he hne
      obtain ⟨h3, h4⟩ := hold j ge hj' h1
      exact ⟨ge, by rw [hMo j hj']; exact h1, h2.keep hle h3 h4⟩
  · intro j j' e e' he he' hb
    rcases dec j with ⟨i, hi, rfl⟩ | hj
    · rw [hM1 i hi] at he
      rcases dec j' with ⟨i', hi', rfl⟩ | hj'
      · rw [hM1 i' hi'] at he'
        rw [R1.inj i i' e e' he he' hb]
      · rw [hMo j' hj'] at he'
        exact absurd hb (cross i j' e e' hi hj' he he')
    · rw [hMo j hj] at he
      rcases dec j' with ⟨i', hi', rfl⟩ | hj'
      · rw [hM1 i' hi'] at he'
        exact absurd hb.symm (cross i' j e' e hi' hj he' he)
      · rw [hMo j' hj'] at he'
        exact R.inj j j' e e' he he' hb
  · intro j e he
    rcases dec j with ⟨i, hi, rfl⟩ | hj
    · rw [hM1 i hi] at he
      exact R1.blk i e he
    · rw [hMo j hj] at he
      exact Nat.lt_of_lt_of_le (R.blk j e he) p1.size
  · intro j hj
    rcases dec j with ⟨i, hi, rfl⟩ | hj'
    · rw [hH i hi] at hj
      cases h : H0.at i with
      | none => rw [h] at hj; cases hj
      | some e0 =>
        rw [h] at hj
        simp only [Option.map_some, Option.some.injEq] at hj
        have : e0 = .hid := by cases e0 <;> simp_all [renE]
        subst this
        obtain ⟨h1, h2⟩ := p1.hid i h
        exact ⟨by rw [hM1 i hi, h1, hM0 i hi], by rw [hH' i hi, h2]; rfl⟩
    · exact ⟨hMo j hj', by rw [hO j hj', hj]⟩
  · intro j e he
    rcases dec j with ⟨i, hi, rfl⟩ | hj'
    · rw [hM1 i hi] at he
      rcases p1.new i e he with ⟨e0, h0, hb0⟩ | h0
      · exact .inl ⟨e0, by rw [hM0 i hi]; exact h0, hb0⟩
      · exact .inr h0
    · rw [hMo j hj'] at he
      exact .inl ⟨e, he, rfl⟩
  · intro b hb hn
    refine p1.old b hb fun i e ge he hne hM => ?_
    have hik : i < k := by rw [← hk]; exact at_lt he
    exact hn (φ i) (renE φ e) ge (by rw [hH i hik, he]; rfl) (by cases e <;> simp_all [renE]) (by rw [hM0 i hik]; exact hM)
end Go.Proofs.Fw
namespace Go.Proofs.Fw
open Go.RowKit
def oTab (l : List (FuncId × Orc)) : Orc := fun f args H => match l.lookup f with
  | some o => o f args H
  | none => none
theorem oTab_sound {P : Program} {E : Env} {l : List (FuncId × Orc)} (h : ∀ p ∈ l, Sound P E p.2) : Sound P E (oTab l) := by
  intro f args H v H' ho
  unfold oTab at ho
  split at ho
  · rename_i o hl
    have : (f, o) ∈ l := by
      clear h ho
      induction l with
      | nil => simp at hl
      | cons p l ih =>
        obtain ⟨f', o'⟩ := p
        simp only [List.lookup] at hl
        split at hl
        · rename_i hf
          injection hl with hl
          subst hl
          simp only [beq_iff_eq] at hf
          subst hf
          simp
        · exact List.mem_cons_of_mem _ (ih hl)
    exact h _ this f args H v H' ho
  · cases ho
def oPure {α : Type} (f0 : FuncId) (dec : List AV → Option α) (out : α → AV) : Orc := fun f args H => if f = f0 then (dec args).map (fun x => (out x, H)) else none
theorem oPure_sound {P : Program} {E : Env} {α : Type} {f0 : FuncId} {dec : List AV → Option α} {out : α → AV}
    (h : ∀ args x H, dec args = some x → CS P E f0 args H (out x) H) : Sound P E (oPure f0 dec out) := Sound.pure fun f args H v H' ho => by
  unfold oPure at ho
  split at ho
  · rename_i hf
    subst hf
    cases hd : dec args with
    | none => rw [hd] at ho; cases ho
    | some x =>
      rw [hd] at ho
      simp only [Option.map_some, Option.some.injEq, Prod.mk.injEq] at ho
      obtain ⟨rfl, rfl⟩ := ho
      exact ⟨rfl, h args x H hd⟩
  · cases ho
section
variable {P : Program} {E : Env} {O : Orc} {n : Nat} {f : FuncId} {fn : Func} {c : Code} {args : List AV}
theorem ren_one (id : Nat) : ∀ i j, i < 1 → j < 1 → (fun _ : Nat => id) i = (fun _ : Nat => id) j → i = j := by omega
mutual
theorem ren_low (φ : Nat → Nat) : ∀ (a : AV), low 0 a = true → ren φ a = a
  | .undef, _ => rfl
  | .bool _, _ => rfl
  | .int _ _, _ => rfl
  | .str _, _ => rfl
  | .nilPtr, _ => rfl
  | .nilSlice, _ => rfl
  | .emp, _ => rfl
  | .nilMap, _ => rfl
  | .nilFunc, _ => rfl
  | .adr _ _, _ => rfl
  | .nilIface, _ => rfl
  | .ptr _ _, h => by simp [low] at h
  | .bsl _ _ _ _ _, h => by simp [low] at h
  | .vptr cs _, h => by simp only [low] at h; simp only [ren, renL_low φ cs h]
  | .slice .unk _ _ cs, h => by simp only [low] at h; simp only [ren, renL_low φ cs h]
  | .slice .full _ _ cs, h => by simp only [low] at h; simp only [ren, renL_low φ cs h]
  | .slice (.tok t) _ _ cs, h => by simp [low] at h
  | .lsl _ _ _ _, h => by simp [low] at h
  | .lptr _ _ _, h => by simp [low] at h
  | .stk _ _ _ _, h => by simp [low] at h
  | .sptr _ _ _ _, h => by simp [low] at h
  | .func _ a b, h => by simp only [low, Bool.and_eq_true] at h; simp only [ren, renL_low φ a h.1, renL_low φ b h.2]
  | .iface _ v, h => by simp only [low] at h; simp only [ren, ren_low φ v h]
  | .agg cs, h => by simp only [low] at h; simp only [ren, renL_low φ cs h]
  | .tup cs, h => by simp only [low] at h; simp only [ren, renL_low φ cs h]
theorem renL_low (φ : Nat → Nat) : ∀ (aS : List AV), lowL 0 aS = true → renL φ aS = aS
  | [], _ => rfl
  | a :: aS, h => by simp only [lowL, Bool.and_eq_true] at h; simp only [renL, ren_low φ a h.1, renL_low φ aS h.2]
end
mutual
theorem low_mono {m n : Nat} (h : m ≤ n) : ∀ (a : AV), low m a = true → low n a = true
  | .undef, _ => rfl
  | .bool _, _ => rfl
  | .int _ _, _ => rfl
  | .str _, _ => rfl
  | .nilPtr, _ => rfl
  | .nilSlice, _ => rfl
  | .emp, _ => rfl
  | .nilMap, _ => rfl
  | .nilFunc, _ => rfl
  | .adr _ _, _ => rfl
  | .nilIface, _ => rfl
  | .ptr _ _, k => by simp only [low, decide_eq_true_eq] at k ⊢; omega
  | .bsl _ _ _ _ _, k => by simp only [low, decide_eq_true_eq] at k ⊢; omega
  | .vptr cs _, k => by simp only [low] at k ⊢; exact lowL_mono h cs k
  | .slice .unk _ _ cs, k => by simp only [low] at k ⊢; exact lowL_mono h cs k
  | .slice .full _ _ cs, k => by simp only [low] at k ⊢; exact lowL_mono h cs k
  | .slice (.tok t) _ _ cs, k => by simp only [low, Bool.and_eq_true, decide_eq_true_eq] at k ⊢; exact ⟨by omega, lowL_mono h cs k.2⟩
  | .lsl t _ _ cs, k => by simp only [low, Bool.and_eq_true, decide_eq_true_eq] at k ⊢; exact ⟨by omega, lowL_mono h cs k.2⟩
  | .lptr _ _ _, k => by simp only [low, decide_eq_true_eq] at k ⊢; omega
  | .stk _ _ _ _, k => by simp only [low, decide_eq_true_eq] at k ⊢; omega
  | .sptr _ _ _ _, k => by simp only [low, decide_eq_true_eq] at k ⊢; omega
  | .func _ a b, k => by simp only [low, Bool.and_eq_true] at k ⊢; exact ⟨lowL_mono h a k.1, lowL_mono h b k.2⟩
  | .iface _ v, k => by simp only [low] at k ⊢; exact low_mono h v k
  | .agg cs, k => by simp only [low] at k ⊢; exact lowL_mono h cs k
  | .tup cs, k => by simp only [low] at k ⊢; exact lowL_mono h cs k
theorem lowL_mono {m n : Nat} (h : m ≤ n) : ∀ (aS : List AV), lowL m aS = true → lowL n aS = true
  | [], _ => rfl
  | a :: aS, k => by simp only [lowL, Bool.and_eq_true] at k ⊢; exact ⟨low_mono h a k.1, lowL_mono h aS k.2⟩
end
theorem at_set_self {H : AH} {id : Nat} {e e0 : Ent} (h : H.at id = some e0) : AH.at (H.set id (some e)) id = some e := by
  rw [AH.at_set, if_pos ⟨rfl, at_lt h⟩]
theorem at_set_ne {H : AH} {id j : Nat} {e : Option Ent} (h : id ≠ j) : AH.at (H.set id e) j = H.at j := by
  rw [AH.at_set, if_neg (fun k => h k.1)]
theorem Keeps.set {H : AH} {id : Nat} {e e0 : Ent} (h : H.at id = some e0) : Keeps H (H.set id (some e)) := by
  refine ⟨by simp, fun j _ hj => ?_⟩
  rw [at_set_ne, hj]
  rintro rfl
  rw [h] at hj; cases hj
theorem CS.box {cs cs' rest : List AV} {v : AV} (h : CS P E f (.ptr 0 0 :: rest) [some (.box cs)] v [some (.box cs')]) (hE : ∀ i, low 0 (E.glob i) = true) (hr : lowL 0 rest = true) (hv : low 0 v = true) (hc : lowL 0 cs = true) (hc' : lowL 0 cs' = true)
    {H : AH} {id : Nat} (hH : H.at id = some (.box cs)) : CS P E f (.ptr id 0 :: rest) H v (H.set id (some (.box cs'))) := by
  have := CS.embed (k := 1) (fun _ => id) (H := H) (H' := H.set id (some (.box cs'))) h rfl rfl (ren_one id) hE (by simp [lowL, low, lowL_mono (Nat.zero_le 1) rest hr]) (low_mono (Nat.zero_le 1) v hv)
    (by simp [lowH, lowE, lowL_mono (Nat.zero_le 1) cs hc]) (by simp [lowH, lowE, lowL_mono (Nat.zero_le 1) cs' hc'])
    (fun i hi => by
      obtain rfl : i = 0 := by omega
      simp [AH.at, renE, renL_low _ cs hc]
      exact hH)
    (fun i hi => by
      obtain rfl : i = 0 := by omega
      rw [at_set_self hH]
      simp [AH.at, renE, renL_low _ cs' hc'])
    (fun j hj => at_set_ne (hj 0 (by omega)))
  simpa [renL, ren, renL_low _ rest hr, ren_low _ v hv] using this
end
end Go.Proofs.Fw
namespace Go.Proofs.Fw
open Go.RowKit
structure Bs where
  g : Gh
  H : AH
  w : World
  R : Rel g H w
def Sat (B : Bs) (t : List AV) (H : AH) (a : Act) (w : World) : Prop := ∃ g, Rel g H w ∧ Post B.g B.H B.w g H w ∧ RepL g t a.tmps.toList ∧ a.defers = []
def Tr (P : Program) (B : Bs) (c : Code) (t : List AV) (H : AH) (Q : AEx → List AV → AH → Prop) : Prop :=
  ∀ (Q' : Exit → Act → World → Prop) a w, Sat B t H a w → (∀ ex t' H' a' w', Q ex t' H' → Sat B t' H' a' w' → Q' ex.ex a' w') → c.wp P Q' a w
section
variable {P : Program} {E : Env} {O : Orc} {B : Bs} {n : Nat} {t : List AV} {H : AH} {Q : AEx → List AV → AH → Prop}
theorem Tr.mono {c : Code} {Q1 : AEx → List AV → AH → Prop} (h : Tr P B c t H Q1) (hQ : ∀ e t H, Q1 e t H → Q e t H) : Tr P B c t H Q :=
  fun Q' a w hs k => h Q' a w hs fun ex t' H' a' w' h1 h2 => k ex t' H' a' w' (hQ _ _ _ h1) h2
theorem Tr.of_W (hS : Sound P E O) (hM : MethOk P E) (hmix : P.follows .mixedOrders = true) (hG : GlobOk E B.g) {c : Code} (h : W O P E n c t H Q) : Tr P B c t H Q := by
  intro Q' a w hs k
  obtain ⟨g, R, p, hT, hd⟩ := hs
  unfold W at h
  cases hr : evCode O P E n c t H with
  | none => rw [hr] at h; exact h.elim
  | some x =>
    obtain ⟨ex, t', H'⟩ := x
    rw [hr] at h
    refine evCode_ok hS hM hmix n c hr R (hG.mono p.le) hT hd fun g' a' w' R' p' hT' hd' => ?_
    exact k ex t' H' a' w' h ⟨g', R', Post.trans B.R p p', hT', hd'⟩
theorem Tr.skip (h : Q .normal t H) : Tr P B .skip t H Q := fun Q' a w hs k => wp_skip (k _ _ _ _ _ h hs)
theorem Tr.ret (h : Q .ret t H) : Tr P B .ret t H Q := fun Q' a w hs k => wp_ret (k _ _ _ _ _ h hs)
theorem Tr.exit {id : Nat} (h : Q (.exit id) t H) : Tr P B (.exit id) t H Q := fun Q' a w hs k => wp_exit (k _ _ _ _ _ h hs)
theorem Tr.seq {c d : Code} (h : Tr P B c t H (Goes (fun t1 H1 => Tr P B d t1 H1 Q) Q)) : Tr P B (.seq c d) t H Q := by
  intro Q' a w hs k
  refine wp_seq (h _ a w hs fun ex t' H' a' w' h1 h2 => ?_)
  cases ex with
  | normal => exact h1 Q' a' w' h2 k
  | exit id => exact k _ _ _ _ _ h1 h2
  | ret => exact k _ _ _ _ _ h1 h2
theorem Tr.block {id : Nat} {c : Code} (h : Tr P B c t H (Blk id Q)) : Tr P B (.block id c) t H Q := by
  intro Q' a w hs k
  refine wp_block (h _ a w hs fun ex t' H' a' w' h1 h2 => ?_)
  cases ex with
  | normal => exact k _ _ _ _ _ h1 h2
  | ret => exact k _ _ _ _ _ h1 h2
  | exit id' =>
    simp only [Blk] at h1
    simp only [AEx.ex, Exit.inBlock]
    split
    · rename_i hid
      rw [if_pos hid] at h1
      exact k _ _ _ _ _ h1 h2
    · rename_i hid
      rw [if_neg hid] at h1
      exact k _ _ _ _ _ h1 h2
theorem Tr.cond (hG : GlobOk E B.g) {c : Operand} {x y : Code} (b : Bool) (hc : aeval E t c = .bool b) (h1 : b = true → Tr P B x t H Q) (h2 : b = false → Tr P B y t H Q) : Tr P B (.cond c x y) t H Q := by
  intro Q' a w hs k
  obtain ⟨g, R, p, hT, hd⟩ := hs
  have he := aeval_ok (hG.mono p.le) hT c
  rw [hc] at he
  simp only [RepV] at he
  cases b with
  | true => exact wp_cond_true he (h1 rfl Q' a w ⟨g, R, p, hT, hd⟩ k)
  | false => exact wp_cond_false he (h2 rfl Q' a w ⟨g, R, p, hT, hd⟩ k)
inductive Wk (m : Nat) : AV → AV → Prop
  | undef (a : AV) : Wk m a .undef
  | keep (a : AV) (h : low m a = true) : Wk m a a
  | strip (a : AV) (h : low m (Fw.strip m a) = true) : Wk m a (Fw.strip m a)
inductive WkL (m : Nat) : List AV → List AV → Prop
  | nil : WkL m [] []
  | cons {a b : AV} {aS bs : List AV} (h : Wk m a b) (t : WkL m aS bs) : WkL m (a :: aS) (b :: bs)
theorem Wk.low {m : Nat} {a b : AV} (h : Wk m a b) : Fw.low m b = true := by
  cases h with
  | undef => rfl
  | keep h => exact h
  | strip h => exact h
theorem WkL.low {m : Nat} {aS bs : List AV} (h : WkL m aS bs) : lowL m bs = true := by
  induction h with
  | nil => rfl
  | cons h _ ih => simp only [lowL, h.low, ih, Bool.and_self]
theorem Wk.rep {g : Gh} {m : Nat} {a b : AV} (h : Wk m a b) {v : Value} (k : RepV g a v) : RepV g b v := by
  cases h with
  | undef => simp [RepV]
  | keep h => exact k
  | strip h => exact RepV.strip m _ _ k
theorem WkL.rep {g : Gh} {m : Nat} {aS bs : List AV} (h : WkL m aS bs) : ∀ {vs : List Value}, RepL g aS vs → RepL g bs vs := by
  induction h with
  | nil => intro vs k; exact k
  | cons h _ ih =>
    intro vs k
    simp only [RepL] at k ⊢
    obtain ⟨v, ws, hv, h1, h2⟩ := k
    exact ⟨v, ws, hv, h.rep h1, ih h2⟩
theorem Sat.gc {m : Nat} (hm : B.H.length ≤ m) {t' : List AV} (ht : WkL m t t') (hH : lowH m (H.take m) = true) {a : Act} {w : World} (h : Sat B t H a w) : Sat B t' (H.take m) a w := by
  obtain ⟨g, R, p, hT, hd⟩ := h
  have hM : ∀ id, id < m → (g.cut m).M id = g.M id := fun id hi => by simp [Gh.cut, hi]
  have hMo : ∀ id, m ≤ id → (g.cut m).M id = none := fun id hi => by simp only [Gh.cut]; rw [if_neg (by omega)]
  have hlt : ∀ {id e}, (g.cut m).M id = some e → id < m ∧ g.M id = some e := fun {id e} h => by
    rcases Nat.lt_or_ge id m with hi | hi
    · exact ⟨hi, by rw [← hM id hi]; exact h⟩
    · rw [hMo id hi] at h; cases h
  refine ⟨g.cut m, ⟨R.imm, ?_, ?_, ?_, ?_⟩, ⟨⟨p.le.G, ?_⟩, ?_, ?_, p.old, p.size, p.os, p.tape, p.output⟩, RepL.cut _ _ ht.low (ht.rep hT), hd⟩
  · intro id hn
    rw [at_take] at hn
    split at hn
    · rename_i hi
      rw [hM id hi]
      exact R.free id hn
    · rename_i hi
      exact hMo id (by omega)
  · intro id e he hne
    have he0 := he
    rw [at_take] at he
    split at he
    · rename_i hi
      obtain ⟨ge, h1, h2⟩ := R.ent id e he hne
      refine ⟨ge, by rw [hM id hi]; exact h1, ?_⟩
      cases e with
      | hid => trivial
      | box cs =>
        cases ge with
        | box b =>
          obtain ⟨vs, el, h3, h4, h5⟩ := h2
          exact ⟨vs, el, h3, RepL.cut _ _ (lowH_at (i := id) hH he0) h4, h5⟩
        | tok => exact h2
      | tok k => cases ge with
        | box => exact h2
        | tok b n sz cap => exact h2
      | stk m' cs => cases ge with
        | box => exact h2
        | tok b n sz cap =>
          obtain ⟨h3, h4, ⟨vs, el, h7, h8, h9⟩, h6⟩ := h2
          exact ⟨h3, h4, ⟨vs, el, h7, h8, RepL.cut _ _ (lowH_st (i := id) hH he0) h9⟩, h6⟩
      | loose m' cs => cases ge with
        | box => exact h2
        | tok b n sz cap =>
          obtain ⟨h3, h4, h0, ⟨vs, el, h7, h8, h9⟩, h6⟩ := h2
          exact ⟨h3, h4, h0, ⟨vs, el, h7, h8, RepL.cut _ _ (lowH_lo (i := id) hH he0) h9⟩, h6⟩
    · cases he
  · intro id id' e e' he he' hb
    exact R.inj id id' e e' (hlt he).2 (hlt he').2 hb
  · intro id e he
    exact R.blk id e (hlt he).2
  · intro id e he
    have hi : id < m := by
      rcases Nat.lt_or_ge id B.H.length with hi | hi
      · omega
      · rw [B.R.free id (at_ge hi)] at he; cases he
    obtain ⟨e', h1, h2⟩ := p.le.M id e he
    exact ⟨e', by rw [hM id hi]; exact h1, h2⟩
  · intro id he
    have hi := at_lt he
    obtain ⟨h1, h2⟩ := p.hid id he
    exact ⟨by rw [hM id (by omega)]; exact h1, by rw [at_take, if_pos (by omega)]; exact h2⟩
  · intro id e he
    exact p.new id e (hlt he).2
def Less (B : Bs) (t : List AV) (H : AH) (t' : List AV) (H' : AH) : Prop := ∀ a w, Sat B t H a w → Sat B t' H' a w
theorem Less.refl : Less B t H t H := fun _ _ h => h
theorem Less.take {t' : List AV} {H' : AH} (m : Nat) (h1 : B.H.length ≤ m) (h2 : WkL m t t') (h3 : H.take m = H') (h4 : lowH m H' = true) : Less B t H t' H' := by
  intro a w hs
  subst h3
  exact Sat.gc h1 h2 h4 hs
theorem Tr.less {c : Code} {t' : List AV} {H' : AH} (hl : Less B t H t' H') (h : Tr P B c t' H' Q) : Tr P B c t H Q :=
  fun Q' a w hs k => h Q' a w (hl a w hs) k
inductive WkV (ψ : Nat → Nat) (m : Nat) : AV → AV → Prop
  | undef (a : AV) : WkV ψ m a .undef
  | view (n : Nat) (a b : AV) (h : low m b = true) (he : Fw.strip n a = ren ψ b) : WkV ψ m a b
inductive WkVL (ψ : Nat → Nat) (m : Nat) : List AV → List AV → Prop
  | nil : WkVL ψ m [] []
  | cons {a b : AV} {aS bs : List AV} (h : WkV ψ m a b) (t : WkVL ψ m aS bs) : WkVL ψ m (a :: aS) (b :: bs)
theorem WkVL.rep {ψ : Nat → Nat} {m : Nat} {g g' : Gh} (hG : g.G = g'.G) (hM : ∀ i, i < m → g.M (ψ i) = g'.M i) {aS bs : List AV} (h : WkVL ψ m aS bs) : ∀ {vs : List Value}, RepL g aS vs → RepL g' bs vs := by
  induction h with
  | nil => intro vs k; exact k
  | cons h _ ih =>
    intro vs k
    simp only [RepL] at k ⊢
    obtain ⟨v, ws, hv, h1, h2⟩ := k
    refine ⟨v, ws, hv, ?_, ih h2⟩
    cases h with
    | undef => simp [RepV]
    | view n _ _ hl he =>
      have := RepV.strip n _ _ h1
      rw [he] at this
      exact (RepV.ren (g := g') (g' := g) hG hM _ _ hl).2 this
theorem Less.view {t' : List AV} {H' : AH} (ψ : Nat → Nat) (m : Nat) (hN : B.H.length ≤ m) (hψ : ∀ i j, i < m → j < m → ψ i = ψ j → i = j) (hid : ∀ i, i < B.H.length → ψ i = i) (hlen : H'.length = m)
    (hH : ∀ i, i < m → H.at (ψ i) = (H'.at i).map (renE ψ)) (hl : lowH m H' = true) (ht : WkVL ψ m t t') : Less B t H t' H' := by
  intro a w hs
  obtain ⟨g, R, p, hT, hd⟩ := hs
  let g' : Gh := { G := g.G, M := fun i => if i < m then g.M (ψ i) else none }
  have hM : ∀ i, i < m → g.M (ψ i) = g'.M i := fun i hi => by simp [g', hi]
  have hMo : ∀ i, ¬ i < m → g'.M i = none := fun i hi => by simp [g', hi]
  refine ⟨g', ⟨R.imm, ?_, ?_, ?_, ?_⟩, ⟨⟨p.le.G, ?_⟩, ?_, ?_, p.old, p.size, p.os, p.tape, p.output⟩, WkVL.rep (g := g) (g' := g') rfl hM ht hT, hd⟩
  · intro i hi
    by_cases hik : i < m
    · rw [← hM i hik]
      exact R.free _ (by rw [hH i hik, hi]; rfl)
    · exact hMo i hik
  · intro i e he hne
    have hik : i < m := by rw [← hlen]; exact at_lt he
    obtain ⟨ge, h1, h2⟩ := R.ent (ψ i) (renE ψ e) (by rw [hH i hik, he]; rfl) (by cases e <;> simp_all [renE])
    exact ⟨ge, by rw [← hM i hik]; exact h1, (EntRep.ren (g := g') (g' := g) (k := m) rfl hM (lowE_at hl he)).2 h2⟩
  · intro i j e e' he he' hb
    by_cases hik : i < m
    · by_cases hjk : j < m
      · rw [← hM i hik] at he
        rw [← hM j hjk] at he'
        exact hψ i j hik hjk (R.inj _ _ _ _ he he' hb)
      · rw [hMo j hjk] at he'; cases he'
    · rw [hMo i hik] at he; cases he
  · intro i e he
    by_cases hik : i < m
    · rw [← hM i hik] at he
      exact R.blk _ _ he
    · rw [hMo i hik] at he; cases he
  · intro i e he
    have hi : i < B.H.length := by
      rcases Nat.lt_or_ge i B.H.length with hi | hi
      · exact hi
      · rw [B.R.free i (at_ge hi)] at he; cases he
    obtain ⟨e', h1, h2⟩ := p.le.M i e he
    exact ⟨e', by rw [← hM i (by omega), hid i hi]; exact h1, h2⟩
  · intro i he
    have hi := at_lt he
    obtain ⟨h1, h2⟩ := p.hid i he
    refine ⟨by rw [← hM i (by omega), hid i hi]; exact h1, ?_⟩
    have h3 := hH i (by omega)
    rw [hid i hi, h2] at h3
    cases h : H'.at i with
    | none => rw [h] at h3; cases h3
    | some e =>
      rw [h] at h3
      simp only [Option.map_some, Option.some.injEq] at h3
      cases e with
      | hid => rfl
      | box cs => simp only [renE] at h3; cases h3
      | tok n => simp only [renE] at h3; cases h3
      | loose n cs => simp only [renE] at h3; cases h3
      | stk n cs => simp only [renE] at h3; cases h3
  · intro i e he
    by_cases hik : i < m
    · rw [← hM i hik] at he
      rcases p.new (ψ i) e he with ⟨e0, h0, hb⟩ | h0
      · have hi : ψ i < B.H.length := by
          rcases Nat.lt_or_ge (ψ i) B.H.length with hi | hi
          · exact hi
          · rw [B.R.free _ (at_ge hi)] at h0; cases h0
        have : i = ψ i := hψ i (ψ i) hik (by omega) (hid _ hi).symm
        exact .inl ⟨e0, by rw [this]; exact h0, hb⟩
      · exact .inr h0
    · rw [hMo i hik] at he; cases he
theorem Tr.loop {L : Code} (I : Nat → List AV → AH → Prop) (k : Nat) (hI : I k t H)
    (h : ∀ k t H, I k t H → Tr P B L t H (Goes (fun t1 H1 => ∃ j t2 H2, j < k ∧ Less B t1 H1 t2 H2 ∧ I j t2 H2) Q)) : Tr P B (.loop L) t H Q := by
  intro Q' a w hs hk
  refine wp_loop_rounds (k + 1) ?_
  have key : ∀ (m k : Nat) {t : List AV} {H : AH} {a : Act} {w : World}, k < m → I k t H → Sat B t H a w → Code.rounds P L Q' m a w := by
    intro m
    induction m with
    | zero => intro k t H a w hm; omega
    | succ m ih =>
      intro k t H a w hm hI hs
      rw [rounds_succ]
      refine h k t H hI _ a w hs fun ex t' H' a' w' h1 h2 => ?_
      cases ex with
      | normal =>
        obtain ⟨j, t2, H2, hj, hl, hI'⟩ := h1
        exact ih j (by omega) hI' (hl a' w' h2)
      | exit id => exact hk _ _ _ _ _ h1 h2
      | ret => exact hk _ _ _ _ _ h1 h2
  exact key (k + 1) k (by omega) hI hs
def mkT (n : Nat) (l : List (Nat × AV)) : List AV := (List.range n).map fun i => (l.lookup i).getD .undef
theorem mkT_length (n : Nat) (l : List (Nat × AV)) : (mkT n l).length = n := by simp [mkT]
theorem mkT_get (n : Nat) (l : List (Nat × AV)) (k : Nat) : (mkT n l)[k]? = if k < n then some ((l.lookup k).getD .undef) else none := by
  unfold mkT
  rw [List.getElem?_map]
  split
  · rename_i h
    rw [List.getElem?_range h]
    rfl
  · rename_i h
    rw [List.getElem?_eq_none (by simp; omega)]
    rfl
theorem mkT_getD (n : Nat) (l : List (Nat × AV)) (k : Nat) (h : k < n) : (mkT n l).getD k .nothing = (l.lookup k).getD .undef := by
  rw [List.getD_eq_getElem?_getD, mkT_get, if_pos h]
  rfl
theorem mkT_set (n : Nat) (l : List (Nat × AV)) (k : Nat) (v : AV) : (mkT n l).set k v = mkT n ((k, v) :: l) := by
  apply List.ext_getElem?
  intro i
  rw [List.getElem?_set, mkT_get, mkT_get, mkT_length]
  by_cases hk : k = i
  · subst hk
    rw [if_pos rfl]
    split
    · simp [List.lookup]
    · rfl
  · rw [if_neg hk]
    split
    · have : (i == k) = false := by simp only [beq_eq_false_iff_ne]; omega
      simp [List.lookup, this]
    · rfl
theorem lookup_mem {l : List (Nat × AV)} {i : Nat} {v : AV} (h : l.lookup i = some v) : (i, v) ∈ l := by
  induction l with
  | nil => simp at h
  | cons p l ih =>
    obtain ⟨j, u⟩ := p
    simp only [List.lookup] at h
    split at h
    · rename_i hj
      simp only [beq_iff_eq] at hj
      injection h with h
      subst h; subst hj
      simp
    · exact List.mem_cons_of_mem _ (ih h)
theorem WkL.map {α : Type} {m : Nat} {f f' : α → AV} : ∀ {l : List α}, (∀ x ∈ l, Wk m (f x) (f' x)) → WkL m (l.map f) (l.map f')
  | [], _ => .nil
  | x :: l, h => .cons (h x List.mem_cons_self) (WkL.map fun y hy => h y (List.mem_cons_of_mem _ hy))
theorem WkL.mkT {m n : Nat} {l l' : List (Nat × AV)} (h : ∀ p ∈ l', Wk m ((l.lookup p.1).getD .undef) p.2) : WkL m (Fw.mkT n l) (Fw.mkT n l') := by
  refine WkL.map fun i _ => ?_
  cases hi : l'.lookup i with
  | none => exact .undef _
  | some v => exact h (i, v) (lookup_mem hi)
theorem WkVL.map {α : Type} {ψ : Nat → Nat} {m : Nat} {f f' : α → AV} : ∀ {l : List α}, (∀ x ∈ l, WkV ψ m (f x) (f' x)) → WkVL ψ m (l.map f) (l.map f')
  | [], _ => .nil
  | x :: l, h => .cons (h x List.mem_cons_self) (WkVL.map fun y hy => h y (List.mem_cons_of_mem _ hy))
theorem WkVL.mkT {ψ : Nat → Nat} {m n : Nat} {l l' : List (Nat × AV)} (h : ∀ p ∈ l', WkV ψ m ((l.lookup p.1).getD .undef) p.2) : WkVL ψ m (Fw.mkT n l) (Fw.mkT n l') := by
  refine WkVL.map fun i _ => ?_
  cases hi : l'.lookup i with
  | none => exact .undef _
  | some v => exact h (i, v) (lookup_mem hi)
theorem Less.mkT {n : Nat} {l l' : List (Nat × AV)} {H H' : AH} (m : Nat) (hm : B.H.length ≤ m) (h : ∀ p ∈ l', Wk m ((l.lookup p.1).getD .undef) p.2) (hH : H.take m = H') (hl : lowH m H' = true) : Less B (Fw.mkT n l) H (Fw.mkT n l') H' :=
  .take m hm (.mkT h) hH hl
def argL : Nat → List AV → List (Nat × AV)
  | _, [] => []
  | k, a :: aS => (k, a) :: argL (k + 1) aS
theorem argL_lookup : ∀ (aS : List AV) (k i : Nat), (argL k aS).lookup i = if k ≤ i then aS[i - k]? else none
  | [], k, i => by simp [argL]
  | a :: aS, k, i => by
    simp only [argL, List.lookup]
    by_cases h : i = k
    · subst h
      simp
    · have : (i == k) = false := by simpa using h
      rw [this, argL_lookup aS (k + 1) i]
      simp only
      by_cases hk : k ≤ i
      · rw [if_pos hk, if_pos (by omega), show i - k = (i - (k + 1)) + 1 by omega]
        simp
      · rw [if_neg hk, if_neg (by omega)]
theorem RepL.of_get {g : Gh} : ∀ {aS : List AV} {vs : List Value}, aS.length = vs.length → (∀ (i : Nat) (a : AV) (v : Value), aS[i]? = some a → vs[i]? = some v → RepV g a v) → RepL g aS vs
  | [], [], _, _ => by simp [RepL]
  | [], _ :: _, h, _ => by simp at h
  | _ :: _, [], h, _ => by simp at h
  | a :: aS, v :: vs, h, k => by
    simp only [RepL]
    exact ⟨v, vs, rfl, k 0 a v rfl rfl, RepL.of_get (by simpa using h) fun i a' v' h1 h2 => k (i + 1) a' v' (by simpa using h1) (by simpa using h2)⟩
theorem RepL.mkT_args {g : Gh} {args : List AV} {vs : List Value} {n : Nat} (hn : args.length ≤ n) (h : RepL g (args ++ List.replicate (n - args.length) .nothing) vs) : RepL g (mkT n (argL 0 args)) vs := by
  refine RepL.of_get (by rw [h.length, mkT_length]; simp; omega) fun i a v h1 h2 => ?_
  rw [mkT_get] at h1
  split at h1
  · injection h1 with h1
    rw [argL_lookup, if_pos (Nat.zero_le _), Nat.sub_zero] at h1
    cases hi : args[i]? with
    | none => rw [hi] at h1; subst h1; simp [RepV]
    | some b =>
      rw [hi] at h1
      obtain rfl : b = a := h1
      obtain ⟨v', h3, h4⟩ := h.get (i := i) (a := b) (by rw [List.getElem?_append_left (List.getElem?_eq_some_iff.1 hi).1]; exact hi)
      rw [h2] at h3
      injection h3 with h3
      subst h3
      exact h4
  · cases h1
theorem Rel.gc_end {g : Gh} {H H1 : AH} {w w1 : World} {g1 : Gh} {v : AV} {cv : Value} (R : Rel g H w) (R1 : Rel g1 H1 w1) (p1 : Post g H w g1 H1 w1) (hr : RepV g1 v cv) (k : Nat)
    (hv : low H.length (Fw.strip H.length (frz H.length H1 k v)) = true) (hH : lowH H.length (H1.take H.length) = true) :
    ∃ g', Rel g' (H1.take H.length) w1 ∧ Post g H w g' (H1.take H.length) w1 ∧ RepV g' (Fw.strip H.length (frz H.length H1 k v)) cv := Rel.gc_endN H.length (Nat.le_refl _) R R1 p1 hr k hv hH
def Fin (P : Program) (fn : Func) (N k : Nat) (v : AV) (H1 : AH) : AEx → List AV → AH → Prop := fun e t H' =>
  (∀ id, e ≠ .exit id) ∧ WS (evResults P H' t fn.results.toList) fun vs => Fw.strip N (frz N H' k (oneOrTup vs)) = v ∧ H'.take N = H1
theorem Fin_ret (fn : Func) (N k : Nat) (v : AV) (H1 H' : AH) (t : List AV) : Fin P fn N k v H1 .ret t H' ↔ WS (evResults P H' t fn.results.toList) fun vs => Fw.strip N (frz N H' k (oneOrTup vs)) = v ∧ H'.take N = H1 := by simp [Fin]
theorem Fin_normal (fn : Func) (N k : Nat) (v : AV) (H1 H' : AH) (t : List AV) : Fin P fn N k v H1 .normal t H' ↔ WS (evResults P H' t fn.results.toList) fun vs => Fw.strip N (frz N H' k (oneOrTup vs)) = v ∧ H'.take N = H1 := by simp [Fin]
theorem CS.of_Tr {f : FuncId} {fn : Func} {c : Code} {args : List AV} {v : AV} {H0 H1 : AH} (hf : P.funcs[f]? = some fn) (hb : fn.body = some c) (k : Nat) (hn : args.length ≤ fn.ntmps)
    (h : ∀ B : Bs, B.H = H0 → GlobOk E B.g → Tr P B c (mkT fn.ntmps (argL 0 args)) H0 (Fin P fn H0.length k v H1)) (hv : low H0.length v = true) (hl : lowH H0.length H1 = true) : CS P E f args H0 v H1 := by
  intro g w cargs R hG hA
  refine calls_of_wp hf hb ?_
  have hT : RepL g (args ++ List.replicate (fn.ntmps - args.length) .nothing) (List.toArray cargs ++ Array.replicate (fn.ntmps - (List.toArray cargs).size) undef).toList := by
    simp only [Array.toList_append, Array.toList_replicate, List.size_toArray, hA.length]
    exact hA.append (RepL.replicate _ (by simp [AV.nothing, RepV, RepL, undef]))
  refine h ⟨g, H0, w, R⟩ rfl hG _ _ w ⟨g, R, Post.refl g H0 w, RepL.mkT_args hn hT, rfl⟩ ?_
  rintro ex t' H' a' w' ⟨hne, hw⟩ ⟨g', R', p', hT', hd'⟩
  cases hr : evResults P H' t' fn.results.toList with
  | none => rw [hr] at hw; exact hw.elim
  | some vs =>
    rw [hr] at hw
    obtain ⟨hv1, hH1⟩ := hw
    obtain ⟨us, h1, h2⟩ := evResults_ok (P := P) R' hT' _ _ hr
    have hres : (results fn a'.tmps).run P w' = .ok (if hs : (List.toArray us).size = 1 then (List.toArray us)[0] else .tuple (List.toArray us)) w' := by
      have e1 : results fn a'.tmps = (do let vs ← fn.results.mapM (resSem a'.tmps); pure (if hs : vs.size = 1 then vs[0] else .tuple vs)) := rfl
      rw [e1, Array.mapM_eq_mapM_toList]
      simp only [Sem.run_bind, Sem.run_map, h2, Result.andThen_ok]
      rfl
    obtain ⟨g2, h3, h4, h5⟩ := Rel.gc_end R R' p' (oneOrTup_ok h1) k (by rw [hv1]; exact hv) (by rw [hH1]; exact hl)
    rw [hv1] at h5
    rw [hH1] at h3 h4
    cases ex with
    | normal => exact ⟨hd', _, hres, g2, _, rfl, h3, h4, h5⟩
    | exit id => exact (hne _ rfl).elim
    | ret => exact ⟨hd', _, hres, g2, _, rfl, h3, h4, h5⟩
end
end Go.Proofs.Fw
namespace Go.Proofs.Fw
open Go.RowKit
def WU (r : Option (AV × Ups)) (K : AV → Prop) : Prop :=
  match r with
  | some (v, []) => K v
  | _ => False
section
variable (O : Orc) (P : Program) (E : Env)
def WP (ops : Array Oper) (l : List (Oper × Nat)) (t : List AV) (H : AH) (K : List AV → Prop) : Prop := WS (evP O P E ops l t H) K
variable {O P E} {n : Nat} {t : List AV} {H : AH} {Q : AEx → List AV → AH → Prop}
theorem WP_nil (ops : Array Oper) (K : List AV → Prop) : WP O P E ops [] t H K ↔ K t := by simp only [WP, evP, WS]
theorem WP_cons (ops : Array Oper) (p : Oper × Nat) (rest : List (Oper × Nat)) (K : List AV → Prop) :
    WG (wantedA ops t p.1) (WP O P E ops rest (putT t p.1.dst .nothing) H K)
      (WU (stepU O P E (aeval E t) (mask H (visIds E H (aeval E t) p)) p.2 (visIds E H (aeval E t) p) p.1) fun v => WP O P E ops rest (putT t p.1.dst v) H K) →
    WP O P E ops (p :: rest) t H K := by
  intro h
  simp only [WP, evP, dstep]
  cases hw : wantedA ops t p.1 with
  | none => rw [hw] at h; exact h.elim
  | some b =>
    rw [hw] at h
    cases b with
    | false =>
      have := h.1 rfl
      simpa only [WP] using this
    | true =>
      have h1 := h.2 rfl
      simp only
      cases hs : stepU O P E (aeval E t) (mask H (visIds E H (aeval E t) p)) p.2 (visIds E H (aeval E t) p) p.1 with
      | none => rw [hs] at h1; exact h1.elim
      | some r =>
        obtain ⟨v, u⟩ := r
        rw [hs] at h1
        cases u with
        | nil => simpa only [List.all_nil, if_true, WP, WU] using h1
        | cons x u => exact h1.elim
theorem W_pure {id : Nat} {ops : Array Oper} (h0 : idCount E ops.toList = 0) (hs : ∀ n, chkSyn ops (synItems 0 (masksFrom [] ops.toList) (withIds E ops.toList n)) = true) (hb : backOnly 0 ops.toList = true)
    (h : WP O P E ops (withIds E ops.toList H.length) t H fun t' => Q .normal t' H) : W O P E n (.region id ops true) t H Q := by
  rw [W_draw]
  unfold WP at h
  cases hr : evP O P E ops (withIds E ops.toList H.length) t H with
  | none => rw [hr] at h; exact h.elim
  | some t' =>
    rw [hr] at h
    rw [evDraw_pure h0 hr hs hb]
    exact h
end
section
variable {P : Program} {E : Env} {O : Orc} {B : Bs} {n : Nat} {Q : AEx → List AV → AH → Prop}
noncomputable def isSeqs : Nat → Code → Bool
  | 0, _ => true
  | k + 1, .seq _ b => isSeqs k b
  | _ + 1, _ => false
theorem Tr.split (hS : Sound P E O) (hM : MethOk P E) (hmix : P.follows .mixedOrders = true) (hG : GlobOk E B.g) : ∀ (k : Nat) (c : Code) {t : List AV} {H : AH}, isSeqs k c = true →
    W O P E n (headC k c) t H (Goes (fun t1 H1 => Tr P B (tailC k c) t1 H1 Q) Q) → Tr P B c t H Q
  | 0, c, t, H, _, h => by simpa only [headC, tailC, W_skip, Goes] using h
  | k + 1, .seq a b, t, H, hs, h => by
    simp only [headC, tailC, W_seq] at h
    refine Tr.seq (Tr.mono (Tr.of_W hS hM hmix hG h) fun e t1 H1 h1 => ?_)
    cases e with
    | normal => exact Tr.split hS hM hmix hG k b hs h1
    | exit id => exact h1
    | ret => exact h1
  | _ + 1, .skip, _, _, hs, _ => by simp [isSeqs] at hs
  | _ + 1, .region _ _ _, _, _, hs, _ => by simp [isSeqs] at hs
  | _ + 1, .cond _ _ _, _, _, hs, _ => by simp [isSeqs] at hs
  | _ + 1, .block _ _, _, _, hs, _ => by simp [isSeqs] at hs
  | _ + 1, .loop _, _, _, hs, _ => by simp [isSeqs] at hs
  | _ + 1, .exit _, _, _, hs, _ => by simp [isSeqs] at hs
  | _ + 1, .ret, _, _, hs, _ => by simp [isSeqs] at hs
  | _ + 1, .rangeFunc _ _ _ _, _, _, hs, _ => by simp [isSeqs] at hs
  | _ + 1, .scope _, _, _, hs, _ => by simp [isSeqs] at hs
  | _ + 1, .label _, _, _, hs, _ => by simp [isSeqs] at hs
  | _ + 1, .goto _, _, _, hs, _ => by simp [isSeqs] at hs
  | _ + 1, .refuse _, _, _, hs, _ => by simp [isSeqs] at hs
end
end Go.Proofs.Fw
namespace Go.Proofs.Fw
open Go.RowKit
section
variable (O : Orc) (P : Program) (E : Env)
def WPx (ops : Array Oper) : List (Oper × Nat) → List AV → AH → (List AV → Prop) → Prop
  | [], t, _, K => K t
  | p :: rest, t, H, K => WG (wantedA ops t p.1) (WPx ops rest (putT t p.1.dst .nothing) H K)
      (WU (stepU O P E (aeval E t) (mask H (visIds E H (aeval E t) p)) p.2 (visIds E H (aeval E t) p) p.1) fun v => WPx ops rest (putT t p.1.dst v) H K)
def WOx (ops : Array Oper) : List (Oper × Nat) → List AV → AH → (List AV → AH → Prop) → Prop
  | [], t, H, K => K t H
  | p :: rest, t, H, K => WG (wantedA ops t p.1) (WOx ops rest (putT t p.1.dst .nothing) H K)
      (WS (stepO O P E (aeval E t) H p.2 p.1) fun r => WOx ops rest (putT t p.1.dst r.1) r.2 K)
abbrev LoopP := Code → List AV → AH → (AEx → List AV → AH → Prop) → Prop
def noLoop : LoopP := fun _ _ _ _ => False
def Wt (Lp : LoopP) : Code → List AV → AH → (AEx → List AV → AH → Prop) → Prop
  | .skip, t, H, Q => Q .normal t H
  | .region _ ops false, t, H, Q => WOx O P E ops (withIds E ops.toList H.length) t (grow H (idCount E ops.toList)) fun t1 H1 => Q .normal t1 H1
  | .region _ ops true, t, H, Q => WPx O P E ops (withIds E ops.toList H.length) t H fun t1 => Q .normal t1 H
  | .seq a b, t, H, Q => Wt Lp a t H (Goes (fun t1 H1 => Wt Lp b t1 H1 Q) Q)
  | .cond c a b, t, H, Q => WB (aeval E t c) (Wt Lp a t H Q) (Wt Lp b t H Q)
  | .block id c, t, H, Q => Wt Lp c t H (Blk id Q)
  | .exit id, t, H, Q => Q (.exit id) t H
  | .ret, t, H, Q => Q .ret t H
  | .loop c, t, H, Q => Lp c t H Q
  | _, _, _, _ => False
abbrev Wx : Code → List AV → AH → (AEx → List AV → AH → Prop) → Prop := Wt O P E noLoop
def synOf : Nat → List Nat → List Oper → List (Nat × Nat × Oper)
  | _, _, [] => []
  | i, ms, o :: os => (i, ms.getD i 0, o) :: synOf (i + 1) ms os
def okDraw (ops : Array Oper) : Bool := (idCount E ops.toList == 0) && chkSyn ops (synOf 0 (masksFrom [] ops.toList) ops.toList) && backOnly 0 ops.toList
def okDraws : Code → Bool
  | .region _ ops true => okDraw E ops
  | .seq a b => okDraws a && okDraws b
  | .cond _ a b => okDraws a && okDraws b
  | .block _ c => okDraws c
  | _ => true
end
section
variable {O : Orc} {P : Program} {E : Env} {n : Nat}
theorem syn_withIds : ∀ (l : List Oper) (i : Nat) (ms : List Nat) (k : Nat), synItems i ms (withIds E l k) = synOf i ms l
  | [], _, _, _ => rfl
  | o :: l, i, ms, k => by simp only [withIds, synItems, synOf, syn_withIds l]
theorem WPx.sound {ops : Array Oper} : ∀ {l : List (Oper × Nat)} {t : List AV} {H : AH} {K : List AV → Prop}, WPx O P E ops l t H K → WP O P E ops l t H K
  | [], _, _, _, h => WP_nil _ _ |>.2 h
  | p :: rest, t, H, K, h => by
    refine WP_cons _ _ _ _ ?_
    simp only [WPx] at h
    revert h
    cases wantedA ops t p.1 with
    | none => exact id
    | some b =>
      intro h
      refine ⟨fun hb => WPx.sound (h.1 hb), fun hb => ?_⟩
      have := h.2 hb
      revert this
      cases stepU O P E (aeval E t) (mask H (visIds E H (aeval E t) p)) p.2 (visIds E H (aeval E t) p) p.1 with
      | none => exact id
      | some r =>
        obtain ⟨v, u⟩ := r
        cases u with
        | nil => exact fun h => WPx.sound h
        | cons x u => exact id
theorem WOx.sound {ops : Array Oper} : ∀ {l : List (Oper × Nat)} {t : List AV} {H : AH} {K : List AV → AH → Prop}, WOx O P E ops l t H K → WO O P E ops l t H K
  | [], _, _, _, h => (WO_nil _ _).2 h
  | (o, fid) :: rest, t, H, K, h => by
    rw [WO_cons]
    simp only [WOx] at h
    revert h
    cases wantedA ops t o with
    | none => exact id
    | some b =>
      intro h
      refine ⟨fun hb => WOx.sound (h.1 hb), fun hb => ?_⟩
      have := h.2 hb
      revert this
      cases stepO O P E (aeval E t) H fid o with
      | none => exact id
      | some r => exact fun h => WOx.sound h
theorem Wx.sound : ∀ {c : Code} {t : List AV} {H : AH} {Q : AEx → List AV → AH → Prop}, okDraws E c = true → Wx O P E c t H Q → W O P E n c t H Q
  | .skip, _, _, _, _, h => W_skip.2 h
  | .region _ ops false, t, H, Q, _, h => (W_region _ _).2 (WOx.sound h)
  | .region _ ops true, t, H, Q, hd, h => by
    simp only [okDraws, okDraw, Bool.and_eq_true, beq_iff_eq] at hd
    exact W_pure hd.1.1 (fun n => by rw [syn_withIds]; exact hd.1.2) hd.2 (WPx.sound h)
  | .seq a b, t, H, Q, hd, h => by
    simp only [okDraws, Bool.and_eq_true] at hd
    rw [W_seq]
    refine W_mono (Wx.sound (c := a) hd.1 h) fun e t1 H1 h1 => ?_
    cases e with
    | normal => exact Wx.sound (c := b) hd.2 h1
    | exit id => exact h1
    | ret => exact h1
  | .cond c a b, t, H, Q, hd, h => by
    simp only [okDraws, Bool.and_eq_true] at hd
    rw [W_cond]
    simp only [Wt] at h
    revert h
    cases aeval E t c with
    | bool v => exact fun h => ⟨fun hv => Wx.sound (c := a) hd.1 (h.1 hv), fun hv => Wx.sound (c := b) hd.2 (h.2 hv)⟩
    | _ => exact id
  | .block id c, t, H, Q, hd, h => by
    simp only [okDraws] at hd
    rw [W_block]
    exact Wx.sound (c := c) hd h
  | .exit id, _, _, _, _, h => (W_exit id).2 h
  | .ret, _, _, _, _, h => W_ret.2 h
  | .loop _, _, _, _, _, h => by simp only [Wx, Wt, noLoop] at h
  | .rangeFunc _ _ _ _, _, _, _, _, h => by simp only [Wx, Wt, noLoop] at h
  | .scope _, _, _, _, _, h => by simp only [Wx, Wt, noLoop] at h
  | .label _, _, _, _, _, h => by simp only [Wx, Wt, noLoop] at h
  | .goto _, _, _, _, _, h => by simp only [Wx, Wt, noLoop] at h
  | .refuse _, _, _, _, _, h => by simp only [Wx, Wt, noLoop] at h
variable {B : Bs} {t : List AV} {H : AH} {Q : AEx → List AV → AH → Prop}
structure Cx (O : Orc) (P : Program) (E : Env) : Prop where
  sound : Sound P E O
  meth : MethOk P E
  mix : P.follows .mixedOrders = true
theorem Tr.run (X : Cx O P E) (hG : GlobOk E B.g) {c : Code} (hd : okDraws E c = true) (h : Wx O P E c t H Q) : Tr P B c t H Q :=
  Tr.of_W (n := 0) X.sound X.meth X.mix hG (Wx.sound hd h)
def LpT (P : Program) (B : Bs) : LoopP := fun c t H Q => Tr P B (.loop c) t H Q
theorem Wt.tr (X : Cx O P E) (hG : GlobOk E B.g) : ∀ {c : Code} {t : List AV} {H : AH} {Q : AEx → List AV → AH → Prop}, okDraws E c = true → Wt O P E (LpT P B) c t H Q → Tr P B c t H Q
  | .skip, _, _, _, _, h => Tr.skip h
  | .region id ops false, t, H, Q, hd, h => Tr.of_W (n := 0) X.sound X.meth X.mix hG ((W_region _ _).2 (WOx.sound h))
  | .region id ops true, t, H, Q, hd, h => Tr.of_W (n := 0) X.sound X.meth X.mix hG (Wx.sound (c := .region id ops true) hd h)
  | .seq a b, t, H, Q, hd, h => by
    simp only [okDraws, Bool.and_eq_true] at hd
    refine Tr.seq (Tr.mono (Wt.tr X hG (c := a) hd.1 h) fun e t1 H1 h1 => ?_)
    cases e with
    | normal => exact Wt.tr X hG (c := b) hd.2 h1
    | exit id => exact h1
    | ret => exact h1
  | .cond c a b, t, H, Q, hd, h => by
    simp only [okDraws, Bool.and_eq_true] at hd
    simp only [Wt] at h
    cases hv : aeval E t c with
    | bool v =>
      rw [hv] at h
      exact Tr.cond hG v hv (fun k => Wt.tr X hG (c := a) hd.1 (h.1 k)) (fun k => Wt.tr X hG (c := b) hd.2 (h.2 k))
    | _ => rw [hv] at h; exact h.elim
  | .block id c, t, H, Q, hd, h => by
    simp only [okDraws] at hd
    exact Tr.block (Wt.tr X hG (c := c) hd h)
  | .exit id, _, _, _, _, h => Tr.exit h
  | .ret, _, _, _, _, h => Tr.ret h
  | .loop _, _, _, _, _, h => h
  | .rangeFunc _ _ _ _, _, _, _, _, h => by simp only [Wt] at h
  | .scope _, _, _, _, _, h => by simp only [Wt] at h
  | .label _, _, _, _, _, h => by simp only [Wt] at h
  | .goto _, _, _, _, _, h => by simp only [Wt] at h
  | .refuse _, _, _, _, _, h => by simp only [Wt] at h
theorem Tr.runs (X : Cx O P E) (hG : GlobOk E B.g) (k : Nat) {c : Code} (hs : isSeqs k c = true) (hd : okDraws E (headC k c) = true) (h : Wx O P E (headC k c) t H (Goes (fun t1 H1 => Tr P B (tailC k c) t1 H1 Q) Q)) : Tr P B c t H Q :=
  Tr.split (n := 0) X.sound X.meth X.mix hG k c hs (Wx.sound hd h)
end
mutual
theorem strip_low (n : Nat) : ∀ (a : AV), low 0 a = true → Fw.strip n a = a
  | .undef, _ => rfl
  | .bool _, _ => rfl
  | .int _ _, _ => rfl
  | .str _, _ => rfl
  | .nilPtr, _ => rfl
  | .nilSlice, _ => rfl
  | .emp, _ => rfl
  | .nilMap, _ => rfl
  | .nilFunc, _ => rfl
  | .adr _ _, _ => rfl
  | .nilIface, _ => rfl
  | .ptr _ _, _ => rfl
  | .bsl _ _ _ _ _, _ => rfl
  | .vptr cs _, h => by simp only [low] at h; simp only [strip, stripL_low n cs h]
  | .slice .unk _ _ cs, h => by simp only [low] at h; simp only [strip, stripL_low n cs h]
  | .slice .full _ _ cs, h => by simp only [low] at h; simp only [strip, stripL_low n cs h]
  | .slice (.tok t) _ _ cs, h => by simp [low] at h
  | .lsl _ _ _ _, h => by simp [low] at h
  | .lptr _ _ _, _ => rfl
  | .stk _ _ _ _, _ => rfl
  | .sptr _ _ _ _, _ => rfl
  | .func _ a b, h => by simp only [low, Bool.and_eq_true] at h; simp only [strip, stripL_low n a h.1, stripL_low n b h.2]
  | .iface _ v, h => by simp only [low] at h; simp only [strip, strip_low n v h]
  | .agg cs, h => by simp only [low] at h; simp only [strip, stripL_low n cs h]
  | .tup cs, h => by simp only [low] at h; simp only [strip, stripL_low n cs h]
theorem stripL_low (n : Nat) : ∀ (aS : List AV), lowL 0 aS = true → stripL n aS = aS
  | [], _ => rfl
  | a :: aS, h => by simp only [lowL, Bool.and_eq_true] at h; simp only [stripL, strip_low n a h.1, stripL_low n aS h.2]
end
mutual
theorem frz_low (N : Nat) (H : AH) : ∀ (k : Nat) (a : AV), low 0 a = true → frz N H k a = a
  | 0, _, _ => by simp only [frz]
  | _ + 1, .undef, _ => rfl
  | _ + 1, .bool _, _ => rfl
  | _ + 1, .int _ _, _ => rfl
  | _ + 1, .str _, _ => rfl
  | _ + 1, .nilPtr, _ => rfl
  | _ + 1, .nilSlice, _ => rfl
  | _ + 1, .emp, _ => rfl
  | _ + 1, .nilMap, _ => rfl
  | _ + 1, .nilFunc, _ => rfl
  | _ + 1, .adr _ _, _ => rfl
  | _ + 1, .nilIface, _ => rfl
  | _ + 1, .ptr _ _, h => by simp [low] at h
  | _ + 1, .bsl _ _ _ _ _, h => by simp [low] at h
  | k + 1, .vptr cs _, h => by simp only [low] at h; simp only [frz, frzL_low N H k cs h]
  | k + 1, .slice .unk _ _ cs, h => by simp only [low] at h; simp only [frz, frzL_low N H k cs h]
  | k + 1, .slice .full _ _ cs, h => by simp only [low] at h; simp only [frz, frzL_low N H k cs h]
  | k + 1, .slice (.tok t) _ _ cs, h => by simp [low] at h
  | _ + 1, .lsl _ _ _ _, _ => rfl
  | _ + 1, .lptr _ _ _, _ => rfl
  | _ + 1, .stk _ _ _ _, _ => rfl
  | _ + 1, .sptr _ _ _ _, _ => rfl
  | k + 1, .func _ a b, h => by simp only [low, Bool.and_eq_true] at h; simp only [frz, frzL_low N H k a h.1, frzL_low N H k b h.2]
  | k + 1, .iface _ v, h => by simp only [low] at h; simp only [frz, frz_low N H k v h]
  | k + 1, .agg cs, h => by simp only [low] at h; simp only [frz, frzL_low N H k cs h]
  | k + 1, .tup cs, h => by simp only [low] at h; simp only [frz, frzL_low N H k cs h]
theorem frzL_low (N : Nat) (H : AH) : ∀ (k : Nat) (aS : List AV), lowL 0 aS = true → aS.map (frz N H k) = aS
  | _, [], _ => rfl
  | k, a :: aS, h => by simp only [lowL, Bool.and_eq_true] at h; simp only [List.map_cons, frz_low N H k a h.1, frzL_low N H k aS h.2]
end
theorem lowL_append (n : Nat) : ∀ (aS bs : List AV), lowL n (aS ++ bs) = (lowL n aS && lowL n bs)
  | [], bs => by simp [lowL]
  | a :: aS, bs => by simp [lowL, lowL_append n aS bs, Bool.and_assoc]
theorem lowL_flatMap {α : Type} (n : Nat) (f : α → List AV) (h : ∀ x, lowL n (f x) = true) : ∀ l : List α, lowL n (l.flatMap f) = true
  | [] => rfl
  | x :: l => by simp [lowL_append, h x, lowL_flatMap n f h l]
theorem WkV.same {ψ : Nat → Nat} {m : Nat} {a b : AV} (h : a = b) (hl : Fw.low 0 b = true) : WkV ψ m a b := by
  subst h
  exact .view 0 a a (low_mono (Nat.zero_le m) a hl) (by rw [strip_low 0 a hl, ren_low ψ a hl])
theorem Wk.same {m : Nat} {a b : AV} (h : a = b) (hl : Fw.low m b = true) : Wk m a b := by subst h; exact .keep a hl
end Go.Proofs.Fw

namespace Go.Proofs.Fw
open Go.RowKit
theorem nrfl {α : Sort _} {a b : α} (h : a = b) : a = b := h
inductive Fr where
  | seq (c : Code)
  | blk (id : Nat)
section
variable (O : Orc) (P : Program) (E : Env) (Lp : LoopP)
def unwind : List Fr → (AEx → List AV → AH → Prop) → AEx → List AV → AH → Prop
  | [], Q => Q
  | .seq b :: ks, Q => Goes (fun t H => Wt O P E Lp b t H (unwind ks Q)) (unwind ks Q)
  | .blk id :: ks, Q => Blk id (unwind ks Q)
def Go (c : Code) (ks : List Fr) (t : List AV) (H : AH) (Q : AEx → List AV → AH → Prop) : Prop := Wt O P E Lp c t H (unwind O P E Lp ks Q)
def GoO (ops : Array Oper) (l : List (Oper × Nat)) (ks : List Fr) (t : List AV) (H : AH) (Q : AEx → List AV → AH → Prop) : Prop := WOx O P E ops l t H fun t1 H1 => unwind O P E Lp ks Q .normal t1 H1
def GoS (r : Option (AV × AH)) (dst : Option Tmp) (ops : Array Oper) (l : List (Oper × Nat)) (ks : List Fr) (t : List AV) (Q : AEx → List AV → AH → Prop) : Prop := WS r fun r => GoO O P E Lp ops l ks (putT t dst r.1) r.2 Q
def GoV (r : Option AV) (dst : Option Tmp) (ops : Array Oper) (l : List (Oper × Nat)) (ks : List Fr) (t : List AV) (H : AH) (Q : AEx → List AV → AH → Prop) : Prop := WS r fun v => GoO O P E Lp ops l ks (putT t dst v) H Q
def GoU (r : Option (AV × Ups)) (dst : Option Tmp) (ops : Array Oper) (l : List (Oper × Nat)) (ks : List Fr) (t : List AV) (H : AH) (Q : AEx → List AV → AH → Prop) : Prop := WS r fun r => GoO O P E Lp ops l ks (putT t dst r.1) (applyUps H r.2) Q
def GoG (w : Option Bool) (ops : Array Oper) (o : Oper) (fid : Nat) (l : List (Oper × Nat)) (ks : List Fr) (t : List AV) (H : AH) (Q : AEx → List AV → AH → Prop) : Prop :=
  WG w (GoO O P E Lp ops l ks (putT t o.dst .nothing) H Q) (GoS O P E Lp (stepO O P E (aeval E t) H fid o) o.dst ops l ks t Q)
def GoP (ops : Array Oper) (l : List (Oper × Nat)) (ks : List Fr) (t : List AV) (H : AH) (Q : AEx → List AV → AH → Prop) : Prop := WPx O P E ops l t H fun t1 => unwind O P E Lp ks Q .normal t1 H
def GoPU (r : Option (AV × Ups)) (dst : Option Tmp) (ops : Array Oper) (l : List (Oper × Nat)) (ks : List Fr) (t : List AV) (H : AH) (Q : AEx → List AV → AH → Prop) : Prop := WU r fun v => GoP O P E Lp ops l ks (putT t dst v) H Q
def GoPV (r : Option AV) (dst : Option Tmp) (ops : Array Oper) (l : List (Oper × Nat)) (ks : List Fr) (t : List AV) (H : AH) (Q : AEx → List AV → AH → Prop) : Prop := WS r fun v => GoP O P E Lp ops l ks (putT t dst v) H Q
def GoPG (w : Option Bool) (ops : Array Oper) (o : Oper) (fid : Nat) (l : List (Oper × Nat)) (ks : List Fr) (t : List AV) (H : AH) (Q : AEx → List AV → AH → Prop) : Prop :=
  WG w (GoP O P E Lp ops l ks (putT t o.dst .nothing) H Q) (GoPU O P E Lp (stepU O P E (aeval E t) (mask H (visIds E H (aeval E t) (o, fid))) fid (visIds E H (aeval E t) (o, fid)) o) o.dst ops l ks t H Q)
def GoB (v : AV) (a b : Code) (ks : List Fr) (t : List AV) (H : AH) (Q : AEx → List AV → AH → Prop) : Prop := WB v (Go O P E Lp a ks t H Q) (Go O P E Lp b ks t H Q)
def GoD (p : Prop) (a b : Code) (ks : List Fr) (t : List AV) (H : AH) (Q : AEx → List AV → AH → Prop) : Prop := (p → Go O P E Lp a ks t H Q) ∧ (¬ p → Go O P E Lp b ks t H Q)
def GoGD (p : Prop) (ops : Array Oper) (o : Oper) (fid : Nat) (l : List (Oper × Nat)) (ks : List Fr) (t : List AV) (H : AH) (Q : AEx → List AV → AH → Prop) : Prop :=
  (¬ p → GoO O P E Lp ops l ks (putT t o.dst .nothing) H Q) ∧ (p → GoS O P E Lp (stepO O P E (aeval E t) H fid o) o.dst ops l ks t Q)
def GoPGD (p : Prop) (ops : Array Oper) (o : Oper) (fid : Nat) (l : List (Oper × Nat)) (ks : List Fr) (t : List AV) (H : AH) (Q : AEx → List AV → AH → Prop) : Prop :=
  (¬ p → GoP O P E Lp ops l ks (putT t o.dst .nothing) H Q) ∧
    (p → GoPU O P E Lp (stepU O P E (aeval E t) (mask H (visIds E H (aeval E t) (o, fid))) fid (visIds E H (aeval E t) (o, fid)) o) o.dst ops l ks t H Q)
def GoX (b : Prop) [Decidable b] (id : Nat) (ks : List Fr) (t : List AV) (H : AH) (Q : AEx → List AV → AH → Prop) : Prop := if b then Go O P E Lp .skip ks t H Q else Go O P E Lp (.exit id) ks t H Q
end
def callV (O : Orc) (P : Program) (v : AV) (aS : List AV) (H : AH) : Option (AV × AH) :=
  match v with
  | .func (.func i) first cap => if goFn P i = true then O i (first ++ aS ++ cap) H else none
  | _ => none
def callI (O : Orc) (P : Program) (E : Env) (v : AV) (name : String) (aS : List AV) (H : AH) : Option (AV × AH) :=
  match v with
  | .iface t x => (match E.meth t name with
    | some i => if goFn P i = true then O i (x :: aS) H else none
    | none => none)
  | _ => none
section
variable {O : Orc} {P : Program} {E : Env} {Lp : LoopP} {ks : List Fr} {t : List AV} {H : AH} {Q : AEx → List AV → AH → Prop}
theorem Go_of {c : Code} : Wx O P E c t H Q = Go O P E noLoop c [] t H Q := nrfl rfl
theorem Go_loop (c : Code) : Go O P E Lp (.loop c) ks t H Q = Lp c t H (unwind O P E Lp ks Q) := nrfl rfl
theorem Go_seq (a b : Code) : Go O P E Lp (.seq a b) ks t H Q = Go O P E Lp a (.seq b :: ks) t H Q := nrfl rfl
theorem Go_block (id : Nat) (c : Code) : Go O P E Lp (.block id c) ks t H Q = Go O P E Lp c (.blk id :: ks) t H Q := nrfl rfl
theorem Go_region (id : Nat) (ops : Array Oper) : Go O P E Lp (.region id ops false) ks t H Q = GoO O P E Lp ops (withIds E ops.toList H.length) ks t (grow H (idCount E ops.toList)) Q := nrfl rfl
theorem Go_draw (id : Nat) (ops : Array Oper) : Go O P E Lp (.region id ops true) ks t H Q = GoP O P E Lp ops (withIds E ops.toList H.length) ks t H Q := nrfl rfl
theorem Go_cond (c : Operand) (a b : Code) : Go O P E Lp (.cond c a b) ks t H Q = GoB O P E Lp (aeval E t c) a b ks t H Q := nrfl rfl
theorem Go_skip_seq (b : Code) : Go O P E Lp .skip (.seq b :: ks) t H Q = Go O P E Lp b ks t H Q := nrfl rfl
theorem Go_skip_blk (id : Nat) : Go O P E Lp .skip (.blk id :: ks) t H Q = Go O P E Lp .skip ks t H Q := nrfl rfl
theorem Go_skip : Go O P E Lp .skip [] t H Q = Q .normal t H := nrfl rfl
theorem Go_ret_seq (b : Code) : Go O P E Lp .ret (.seq b :: ks) t H Q = Go O P E Lp .ret ks t H Q := nrfl rfl
theorem Go_ret_blk (id : Nat) : Go O P E Lp .ret (.blk id :: ks) t H Q = Go O P E Lp .ret ks t H Q := nrfl rfl
theorem Go_ret : Go O P E Lp .ret [] t H Q = Q .ret t H := nrfl rfl
theorem Go_exit_seq (id : Nat) (b : Code) : Go O P E Lp (.exit id) (.seq b :: ks) t H Q = Go O P E Lp (.exit id) ks t H Q := nrfl rfl
theorem Go_exit_blk (id id' : Nat) : Go O P E Lp (.exit id) (.blk id' :: ks) t H Q = GoX O P E Lp (id = id') id ks t H Q := nrfl rfl
theorem Go_exit (id : Nat) : Go O P E Lp (.exit id) [] t H Q = Q (.exit id) t H := nrfl rfl
theorem GoX_T (id : Nat) [Decidable True] : GoX O P E Lp True id ks t H Q = Go O P E Lp .skip ks t H Q := if_pos trivial
theorem GoX_F (id : Nat) [Decidable False] : GoX O P E Lp False id ks t H Q = Go O P E Lp (.exit id) ks t H Q := if_neg not_false
theorem GoB_bool (v : Bool) (a b : Code) : GoB O P E Lp (.bool v) a b ks t H Q = GoD O P E Lp (v = true) a b ks t H Q := by simp only [GoB, WB, GoD, Bool.not_eq_true]
theorem GoD_T (a b : Code) : GoD O P E Lp True a b ks t H Q = Go O P E Lp a ks t H Q := by simp [GoD]
theorem GoD_F (a b : Code) : GoD O P E Lp False a b ks t H Q = Go O P E Lp b ks t H Q := by simp [GoD]
theorem GoD_split {p : Prop} {a b : Code} (h1 : p → Go O P E Lp a ks t H Q) (h2 : ¬ p → Go O P E Lp b ks t H Q) : GoD O P E Lp p a b ks t H Q := ⟨h1, h2⟩
theorem GoO_nil (ops : Array Oper) : GoO O P E Lp ops [] ks t H Q = Go O P E Lp .skip ks t H Q := nrfl rfl
theorem GoO_cons (ops : Array Oper) (o : Oper) (fid : Nat) (l : List (Oper × Nat)) : GoO O P E Lp ops ((o, fid) :: l) ks t H Q = GoG O P E Lp (wantedA ops t o) ops o fid l ks t H Q := nrfl rfl
theorem GoG_some (b : Bool) (ops : Array Oper) (o : Oper) (fid : Nat) (l : List (Oper × Nat)) : GoG O P E Lp (some b) ops o fid l ks t H Q = GoGD O P E Lp (b = true) ops o fid l ks t H Q := by simp only [GoG, WG, GoGD, Bool.not_eq_true]
theorem GoGD_T (ops : Array Oper) (o : Oper) (fid : Nat) (l : List (Oper × Nat)) : GoGD O P E Lp True ops o fid l ks t H Q = GoS O P E Lp (stepO O P E (aeval E t) H fid o) o.dst ops l ks t Q := by simp [GoGD]
theorem GoGD_F (ops : Array Oper) (o : Oper) (fid : Nat) (l : List (Oper × Nat)) : GoGD O P E Lp False ops o fid l ks t H Q = GoO O P E Lp ops l ks (putT t o.dst .nothing) H Q := by simp [GoGD]
theorem GoS_some (v : AV) (H1 : AH) (dst : Option Tmp) (ops : Array Oper) (l : List (Oper × Nat)) : GoS O P E Lp (some (v, H1)) dst ops l ks t Q = GoO O P E Lp ops l ks (putT t dst v) H1 Q := nrfl rfl
theorem GoV_some (v : AV) (dst : Option Tmp) (ops : Array Oper) (l : List (Oper × Nat)) : GoV O P E Lp (some v) dst ops l ks t H Q = GoO O P E Lp ops l ks (putT t dst v) H Q := nrfl rfl
theorem GoV_map {α : Type} (r : Option α) (f : α → AV) (dst : Option Tmp) (ops : Array Oper) (l : List (Oper × Nat)) : GoV O P E Lp (r.map f) dst ops l ks t H Q = WS r fun x => GoO O P E Lp ops l ks (putT t dst (f x)) H Q := by
  cases r <;> rfl
theorem GoU_some (v : AV) (u : Ups) (dst : Option Tmp) (ops : Array Oper) (l : List (Oper × Nat)) : GoU O P E Lp (some (v, u)) dst ops l ks t H Q = GoO O P E Lp ops l ks (putT t dst v) (applyUps H u) Q := nrfl rfl
theorem GoP_nil (ops : Array Oper) : GoP O P E Lp ops [] ks t H Q = Go O P E Lp .skip ks t H Q := nrfl rfl
theorem GoP_cons (ops : Array Oper) (o : Oper) (fid : Nat) (l : List (Oper × Nat)) : GoP O P E Lp ops ((o, fid) :: l) ks t H Q = GoPG O P E Lp (wantedA ops t o) ops o fid l ks t H Q := nrfl rfl
theorem GoPG_some (b : Bool) (ops : Array Oper) (o : Oper) (fid : Nat) (l : List (Oper × Nat)) : GoPG O P E Lp (some b) ops o fid l ks t H Q = GoPGD O P E Lp (b = true) ops o fid l ks t H Q := by simp only [GoPG, WG, GoPGD, Bool.not_eq_true]
theorem GoPGD_T (ops : Array Oper) (o : Oper) (fid : Nat) (l : List (Oper × Nat)) : GoPGD O P E Lp True ops o fid l ks t H Q =
  GoPU O P E Lp (stepU O P E (aeval E t) (mask H (visIds E H (aeval E t) (o, fid))) fid (visIds E H (aeval E t) (o, fid)) o) o.dst ops l ks t H Q := by simp [GoPGD]
theorem GoPGD_F (ops : Array Oper) (o : Oper) (fid : Nat) (l : List (Oper × Nat)) : GoPGD O P E Lp False ops o fid l ks t H Q = GoP O P E Lp ops l ks (putT t o.dst .nothing) H Q := by simp [GoPGD]
theorem GoPU_some (v : AV) (dst : Option Tmp) (ops : Array Oper) (l : List (Oper × Nat)) : GoPU O P E Lp (some (v, [])) dst ops l ks t H Q = GoP O P E Lp ops l ks (putT t dst v) H Q := nrfl rfl
theorem GoPV_some (v : AV) (dst : Option Tmp) (ops : Array Oper) (l : List (Oper × Nat)) : GoPV O P E Lp (some v) dst ops l ks t H Q = GoP O P E Lp ops l ks (putT t dst v) H Q := nrfl rfl
def apick (c a b : AV) : Option AV := match c with
  | .bool t => some (if t then a else b)
  | _ => none
theorem apick_bool (c : Bool) (a b : AV) : apick (.bool c) a b = some (if c then a else b) := nrfl rfl
def aface (P : Program) (t : TypeId) (x : AV) : Option AV := match P.underlying t with
  | some (.interface _) => none
  | some _ => some (.iface t x)
  | none => none
def aalloc (P : Program) (fid : Nat) (t : TypeId) : Option (AV × Ups) := match zeroAV P t with
  | some z => some (.ptr fid 0, [(fid, .box (cellsAV z))])
  | none => none
def abox (E : Env) (fid : Nat) (t : TypeId) (x : AV) : Option (AV × Ups) :=
  if E.imm t = true then (if x.known = true then some (.vptr (cellsAV x) 0, []) else none)
  else if x.known = true then some (.ptr fid 0, [(fid, .box (cellsAV x))]) else none
theorem GoS_map (r : Option AV) {d : Option Tmp} {ops : Array Oper} {l : List (Oper × Nat)} : GoS O P E Lp (r.map fun a => (a, H)) d ops l ks t Q = GoV O P E Lp r d ops l ks t H Q := by cases r <;> rfl
theorem GoS_rd (r : Option AV) {d : Option Tmp} {ops : Array Oper} {l : List (Oper × Nat)} : GoS O P E Lp (match r.map (fun a => (a, ([] : Ups))) with
    | some (r, u) => some (r, applyUps H u)
    | none => none) d ops l ks t Q = GoV O P E Lp r d ops l ks t H Q := by cases r <;> rfl
theorem GoS_up (r : Option (AV × Ups)) {d : Option Tmp} {ops : Array Oper} {l : List (Oper × Nat)} : GoS O P E Lp (r.map fun r => (r.1, applyUps H r.2)) d ops l ks t Q = GoU O P E Lp r d ops l ks t H Q := by cases r <;> rfl
theorem GoS_ups (r : Option (AV × Ups)) {d : Option Tmp} {ops : Array Oper} {l : List (Oper × Nat)} : GoS O P E Lp (match r with
    | some (r, u) => some (r, applyUps H u)
    | none => none) d ops l ks t Q = GoU O P E Lp r d ops l ks t H Q := by
  cases r with
  | none => rfl
  | some r => obtain ⟨a, u⟩ := r; rfl
theorem GoPU_rd (r : Option AV) {d : Option Tmp} {ops : Array Oper} {l : List (Oper × Nat)} : GoPU O P E Lp (r.map fun a => (a, [])) d ops l ks t H Q = GoPV O P E Lp r d ops l ks t H Q := by cases r <;> rfl
section
variable (ρ : Operand → AV) (fid : Nat) (d dst : Option Tmp) (ty : TypeId) (pos : String) (after : Array Edge) (guard : Option (Nat × Bool)) (ops : Array Oper) (l : List (Oper × Nat))
theorem step_pick (c a b : Operand) : stepO O P E ρ H fid ⟨dst, .pick c a b, ty, pos, after, guard⟩ = (apick (ρ c) (ρ a) (ρ b)).map (fun a => (a, H)) := by
  simp only [stepO, aop, apick]
  cases ρ c <;> rfl
theorem stepU_pick (c a b : Operand) (S : List Nat) (H' : AH) : stepU O P E ρ H' fid S ⟨dst, .pick c a b, ty, pos, after, guard⟩ = (apick (ρ c) (ρ a) (ρ b)).map (fun a => (a, [])) := by
  simp only [stepU, aop, apick]
  cases ρ c <;> rfl
theorem step_makeInterface (u : TypeId) (x : Operand) : stepO O P E ρ H fid ⟨dst, .makeInterface u x, ty, pos, after, guard⟩ = (aface P u (ρ x)).map (fun a => (a, H)) := by
  simp only [stepO, aop, aface]
  cases P.underlying u with
  | none => rfl
  | some k => cases k <;> rfl
theorem stepU_makeInterface (u : TypeId) (x : Operand) (S : List Nat) (H' : AH) : stepU O P E ρ H' fid S ⟨dst, .makeInterface u x, ty, pos, after, guard⟩ = (aface P u (ρ x)).map (fun a => (a, [])) := by
  simp only [stepU, aop, aface]
  cases P.underlying u with
  | none => rfl
  | some k => cases k <;> rfl
theorem step_alloc (u : TypeId) : stepO O P E ρ H fid ⟨dst, .alloc u, ty, pos, after, guard⟩ = (aalloc P fid u).map (fun r => (r.1, applyUps H r.2)) := by
  simp only [stepO, aop, aalloc]
  cases zeroAV P u <;> rfl
theorem step_box (u : TypeId) (x : Operand) : stepO O P E ρ H fid ⟨dst, .box u x, ty, pos, after, guard⟩ = (abox E fid u (ρ x)).map (fun r => (r.1, applyUps H r.2)) := by
  simp only [stepO, aop, abox]
  cases E.imm u <;> cases (ρ x).known <;> rfl
theorem step_call (f : Operand) (aS : Array Operand) (us : Array TypeId) : stepO O P E ρ H fid ⟨dst, .call ⟨.value f, aS, us⟩, ty, pos, after, guard⟩ = callV O P (ρ f) (aS.toList.map ρ) H := by
  simp only [stepO, callee, callV]
  cases ρ f with
  | func fn a b => cases fn <;> rfl
  | _ => rfl
theorem step_invoke (f : Operand) (nm : String) (aS : Array Operand) (us : Array TypeId) : stepO O P E ρ H fid ⟨dst, .call ⟨.invoke f nm, aS, us⟩, ty, pos, after, guard⟩ = callI O P E (ρ f) nm (aS.toList.map ρ) H := by
  simp only [stepO, callee, callI]
  cases ρ f with
  | iface u x =>
    simp only
    cases E.meth u nm <;> rfl
  | _ => rfl
theorem GoS_move (x : Operand) : GoS O P E Lp (stepO O P E ρ H fid ⟨dst, .move x, ty, pos, after, guard⟩) d ops l ks t Q = GoV O P E Lp (some (ρ x)) d ops l ks t H Q := nrfl rfl
theorem GoPU_move (x : Operand) (S : List Nat) (H' : AH) : GoPU O P E Lp (stepU O P E ρ H' fid S ⟨dst, .move x, ty, pos, after, guard⟩) d ops l ks t H Q = GoPV O P E Lp (some (ρ x)) d ops l ks t H Q := nrfl rfl
theorem GoS_assign (x : Operand) : GoS O P E Lp (stepO O P E ρ H fid ⟨dst, .assign x, ty, pos, after, guard⟩) d ops l ks t Q = GoV O P E Lp (some (ρ x)) d ops l ks t H Q := nrfl rfl
theorem GoPU_assign (x : Operand) (S : List Nat) (H' : AH) : GoPU O P E Lp (stepU O P E ρ H' fid S ⟨dst, .assign x, ty, pos, after, guard⟩) d ops l ks t H Q = GoPV O P E Lp (some (ρ x)) d ops l ks t H Q := nrfl rfl
theorem GoS_build (u : TypeId) (parts : Array (Nat × Operand)) : GoS O P E Lp (stepO O P E ρ H fid ⟨dst, .build u parts, ty, pos, after, guard⟩) d ops l ks t Q = GoV O P E Lp (abuild P u (parts.toList.map fun p => (p.1, ρ p.2))) d ops l ks t H Q := GoS_rd (abuild P u (parts.toList.map fun p => (p.1, ρ p.2)))
theorem GoPU_build (u : TypeId) (parts : Array (Nat × Operand)) (S : List Nat) (H' : AH) : GoPU O P E Lp (stepU O P E ρ H' fid S ⟨dst, .build u parts, ty, pos, after, guard⟩) d ops l ks t H Q = GoPV O P E Lp (abuild P u (parts.toList.map fun p => (p.1, ρ p.2))) d ops l ks t H Q := GoPU_rd (abuild P u (parts.toList.map fun p => (p.1, ρ p.2)))
theorem GoS_buildSlice (u : TypeId) (len : Nat) (parts : Array (Nat × Operand)) : GoS O P E Lp (stepO O P E ρ H fid ⟨dst, .buildSlice u len parts, ty, pos, after, guard⟩) d ops l ks t Q = GoV O P E Lp (abuildSlice P u len (parts.toList.map fun p => (p.1, ρ p.2))) d ops l ks t H Q := GoS_rd (abuildSlice P u len (parts.toList.map fun p => (p.1, ρ p.2)))
theorem GoPU_buildSlice (u : TypeId) (len : Nat) (parts : Array (Nat × Operand)) (S : List Nat) (H' : AH) : GoPU O P E Lp (stepU O P E ρ H' fid S ⟨dst, .buildSlice u len parts, ty, pos, after, guard⟩) d ops l ks t H Q = GoPV O P E Lp (abuildSlice P u len (parts.toList.map fun p => (p.1, ρ p.2))) d ops l ks t H Q := GoPU_rd (abuildSlice P u len (parts.toList.map fun p => (p.1, ρ p.2)))
theorem GoS_load (u : TypeId) (a : Operand) : GoS O P E Lp (stepO O P E ρ H fid ⟨dst, .load u a, ty, pos, after, guard⟩) d ops l ks t Q = GoV O P E Lp (aload P H u (ρ a)) d ops l ks t H Q := GoS_rd (aload P H u (ρ a))
theorem GoPU_load (u : TypeId) (a : Operand) (S : List Nat) (H' : AH) : GoPU O P E Lp (stepU O P E ρ H' fid S ⟨dst, .load u a, ty, pos, after, guard⟩) d ops l ks t H Q = GoPV O P E Lp (aload P H' u (ρ a)) d ops l ks t H Q := GoPU_rd (aload P H' u (ρ a))
theorem GoS_nilCheck (x : Operand) : GoS O P E Lp (stepO O P E ρ H fid ⟨dst, .nilCheck x, ty, pos, after, guard⟩) d ops l ks t Q = GoV O P E Lp (anilCheck (ρ x)) d ops l ks t H Q := GoS_rd (anilCheck (ρ x))
theorem GoPU_nilCheck (x : Operand) (S : List Nat) (H' : AH) : GoPU O P E Lp (stepU O P E ρ H' fid S ⟨dst, .nilCheck x, ty, pos, after, guard⟩) d ops l ks t H Q = GoPV O P E Lp (anilCheck (ρ x)) d ops l ks t H Q := GoPU_rd (anilCheck (ρ x))
theorem GoS_binOp (op : BinOp) (u : TypeId) (x y : Operand) (w : TypeId) : GoS O P E Lp (stepO O P E ρ H fid ⟨dst, .binOp op u x y w, ty, pos, after, guard⟩) d ops l ks t Q = GoV O P E Lp (abin P op u (isConstO x || isConstO y) (ρ x) (ρ y)) d ops l ks t H Q := GoS_rd (abin P op u (isConstO x || isConstO y) (ρ x) (ρ y))
theorem GoPU_binOp (op : BinOp) (u : TypeId) (x y : Operand) (w : TypeId) (S : List Nat) (H' : AH) : GoPU O P E Lp (stepU O P E ρ H' fid S ⟨dst, .binOp op u x y w, ty, pos, after, guard⟩) d ops l ks t H Q = GoPV O P E Lp (abin P op u (isConstO x || isConstO y) (ρ x) (ρ y)) d ops l ks t H Q := GoPU_rd (abin P op u (isConstO x || isConstO y) (ρ x) (ρ y))
theorem GoS_unOp (op : UnOp) (u : TypeId) (x : Operand) : GoS O P E Lp (stepO O P E ρ H fid ⟨dst, .unOp op u x, ty, pos, after, guard⟩) d ops l ks t Q = GoV O P E Lp (aun op (ρ x)) d ops l ks t H Q := GoS_rd (aun op (ρ x))
theorem GoPU_unOp (op : UnOp) (u : TypeId) (x : Operand) (S : List Nat) (H' : AH) : GoPU O P E Lp (stepU O P E ρ H' fid S ⟨dst, .unOp op u x, ty, pos, after, guard⟩) d ops l ks t H Q = GoPV O P E Lp (aun op (ρ x)) d ops l ks t H Q := GoPU_rd (aun op (ρ x))
theorem GoS_convert (src dst' : TypeId) (x : Operand) : GoS O P E Lp (stepO O P E ρ H fid ⟨dst, .convert src dst' x, ty, pos, after, guard⟩) d ops l ks t Q = GoV O P E Lp (aconvert P H src dst' (ρ x)) d ops l ks t H Q := GoS_rd (aconvert P H src dst' (ρ x))
theorem GoPU_convert (src dst' : TypeId) (x : Operand) (S : List Nat) (H' : AH) : GoPU O P E Lp (stepU O P E ρ H' fid S ⟨dst, .convert src dst' x, ty, pos, after, guard⟩) d ops l ks t H Q = GoPV O P E Lp (aconvert P H' src dst' (ρ x)) d ops l ks t H Q := GoPU_rd (aconvert P H' src dst' (ρ x))
theorem GoS_makeFunc (fn : Fn) (first captured : Array Operand) : GoS O P E Lp (stepO O P E ρ H fid ⟨dst, .makeFunc fn first captured, ty, pos, after, guard⟩) d ops l ks t Q = GoV O P E Lp (some (.func fn (first.toList.map ρ) (captured.toList.map ρ))) d ops l ks t H Q := nrfl rfl
theorem GoPU_makeFunc (fn : Fn) (first captured : Array Operand) (S : List Nat) (H' : AH) : GoPU O P E Lp (stepU O P E ρ H' fid S ⟨dst, .makeFunc fn first captured, ty, pos, after, guard⟩) d ops l ks t H Q = GoPV O P E Lp (some (.func fn (first.toList.map ρ) (captured.toList.map ρ))) d ops l ks t H Q := nrfl rfl
theorem GoS_slice (u : TypeId) (x : Operand) (lo hi mx : Option Operand) : GoS O P E Lp (stepO O P E ρ H fid ⟨dst, .slice u x lo hi mx, ty, pos, after, guard⟩) d ops l ks t Q = GoV O P E Lp (aslice P u (ρ x) (lo.map ρ) (hi.map ρ) (mx.map ρ)) d ops l ks t H Q := GoS_rd (aslice P u (ρ x) (lo.map ρ) (hi.map ρ) (mx.map ρ))
theorem GoPU_slice (u : TypeId) (x : Operand) (lo hi mx : Option Operand) (S : List Nat) (H' : AH) : GoPU O P E Lp (stepU O P E ρ H' fid S ⟨dst, .slice u x lo hi mx, ty, pos, after, guard⟩) d ops l ks t H Q = GoPV O P E Lp (aslice P u (ρ x) (lo.map ρ) (hi.map ρ) (mx.map ρ)) d ops l ks t H Q := GoPU_rd (aslice P u (ρ x) (lo.map ρ) (hi.map ρ) (mx.map ρ))
theorem GoS_fieldAddr (u : TypeId) (x : Operand) (f : Nat) : GoS O P E Lp (stepO O P E ρ H fid ⟨dst, .fieldAddr u x f, ty, pos, after, guard⟩) d ops l ks t Q = GoV O P E Lp (afieldAddr P u (ρ x) f) d ops l ks t H Q := GoS_rd (afieldAddr P u (ρ x) f)
theorem GoPU_fieldAddr (u : TypeId) (x : Operand) (f : Nat) (S : List Nat) (H' : AH) : GoPU O P E Lp (stepU O P E ρ H' fid S ⟨dst, .fieldAddr u x f, ty, pos, after, guard⟩) d ops l ks t H Q = GoPV O P E Lp (afieldAddr P u (ρ x) f) d ops l ks t H Q := GoPU_rd (afieldAddr P u (ρ x) f)
theorem GoS_field (u : TypeId) (x : Operand) (f : Nat) : GoS O P E Lp (stepO O P E ρ H fid ⟨dst, .field u x f, ty, pos, after, guard⟩) d ops l ks t Q = GoV O P E Lp (afield P u (ρ x) f) d ops l ks t H Q := GoS_rd (afield P u (ρ x) f)
theorem GoPU_field (u : TypeId) (x : Operand) (f : Nat) (S : List Nat) (H' : AH) : GoPU O P E Lp (stepU O P E ρ H' fid S ⟨dst, .field u x f, ty, pos, after, guard⟩) d ops l ks t H Q = GoPV O P E Lp (afield P u (ρ x) f) d ops l ks t H Q := GoPU_rd (afield P u (ρ x) f)
theorem GoS_indexAddr (u : TypeId) (x i : Operand) : GoS O P E Lp (stepO O P E ρ H fid ⟨dst, .indexAddr u x i, ty, pos, after, guard⟩) d ops l ks t Q = GoV O P E Lp (aindexAddr P u (ρ x) (ρ i)) d ops l ks t H Q := GoS_rd (aindexAddr P u (ρ x) (ρ i))
theorem GoPU_indexAddr (u : TypeId) (x i : Operand) (S : List Nat) (H' : AH) : GoPU O P E Lp (stepU O P E ρ H' fid S ⟨dst, .indexAddr u x i, ty, pos, after, guard⟩) d ops l ks t H Q = GoPV O P E Lp (aindexAddr P u (ρ x) (ρ i)) d ops l ks t H Q := GoPU_rd (aindexAddr P u (ρ x) (ρ i))
theorem GoS_index (u : TypeId) (x i : Operand) : GoS O P E Lp (stepO O P E ρ H fid ⟨dst, .index u x i, ty, pos, after, guard⟩) d ops l ks t Q = GoV O P E Lp (aindex P u (ρ x) (ρ i)) d ops l ks t H Q := GoS_rd (aindex P u (ρ x) (ρ i))
theorem GoPU_index (u : TypeId) (x i : Operand) (S : List Nat) (H' : AH) : GoPU O P E Lp (stepU O P E ρ H' fid S ⟨dst, .index u x i, ty, pos, after, guard⟩) d ops l ks t H Q = GoPV O P E Lp (aindex P u (ρ x) (ρ i)) d ops l ks t H Q := GoPU_rd (aindex P u (ρ x) (ρ i))
theorem GoS_typeAssert (x : Operand) (u w : TypeId) (ok : Bool) : GoS O P E Lp (stepO O P E ρ H fid ⟨dst, .typeAssert x u w ok, ty, pos, after, guard⟩) d ops l ks t Q = GoV O P E Lp (atypeAssert P (ρ x) w ok) d ops l ks t H Q := GoS_rd (atypeAssert P (ρ x) w ok)
theorem GoPU_typeAssert (x : Operand) (u w : TypeId) (ok : Bool) (S : List Nat) (H' : AH) : GoPU O P E Lp (stepU O P E ρ H' fid S ⟨dst, .typeAssert x u w ok, ty, pos, after, guard⟩) d ops l ks t H Q = GoPV O P E Lp (atypeAssert P (ρ x) w ok) d ops l ks t H Q := GoPU_rd (atypeAssert P (ρ x) w ok)
theorem GoS_extract (x : Operand) (i : Nat) : GoS O P E Lp (stepO O P E ρ H fid ⟨dst, .extract x i, ty, pos, after, guard⟩) d ops l ks t Q = GoV O P E Lp (aextract (ρ x) i) d ops l ks t H Q := GoS_rd (aextract (ρ x) i)
theorem GoPU_extract (x : Operand) (i : Nat) (S : List Nat) (H' : AH) : GoPU O P E Lp (stepU O P E ρ H' fid S ⟨dst, .extract x i, ty, pos, after, guard⟩) d ops l ks t H Q = GoPV O P E Lp (aextract (ρ x) i) d ops l ks t H Q := GoPU_rd (aextract (ρ x) i)
theorem GoS_len (x : Operand) (u : TypeId) : GoS O P E Lp (stepO O P E ρ H fid ⟨dst, .call ⟨.builtin .len, #[x], #[u]⟩, ty, pos, after, guard⟩) d ops l ks t Q = GoV O P E Lp (alen P u (ρ x)) d ops l ks t H Q := GoS_rd (alen P u (ρ x))
theorem GoPU_len (x : Operand) (u : TypeId) (S : List Nat) (H' : AH) : GoPU O P E Lp (stepU O P E ρ H' fid S ⟨dst, .call ⟨.builtin .len, #[x], #[u]⟩, ty, pos, after, guard⟩) d ops l ks t H Q = GoPV O P E Lp (alen P u (ρ x)) d ops l ks t H Q := GoPU_rd (alen P u (ρ x))
theorem GoS_cap (x : Operand) (u : TypeId) : GoS O P E Lp (stepO O P E ρ H fid ⟨dst, .call ⟨.builtin .cap, #[x], #[u]⟩, ty, pos, after, guard⟩) d ops l ks t Q = GoV O P E Lp (acap P u (ρ x)) d ops l ks t H Q := GoS_rd (acap P u (ρ x))
theorem GoPU_cap (x : Operand) (u : TypeId) (S : List Nat) (H' : AH) : GoPU O P E Lp (stepU O P E ρ H' fid S ⟨dst, .call ⟨.builtin .cap, #[x], #[u]⟩, ty, pos, after, guard⟩) d ops l ks t H Q = GoPV O P E Lp (acap P u (ρ x)) d ops l ks t H Q := GoPU_rd (acap P u (ρ x))
theorem GoS_max (x y : Operand) (us : Array TypeId) : GoS O P E Lp (stepO O P E ρ H fid ⟨dst, .call ⟨.builtin .max, #[x, y], us⟩, ty, pos, after, guard⟩) d ops l ks t Q = GoV O P E Lp (amax2 (ρ x) (ρ y)) d ops l ks t H Q := GoS_rd (amax2 (ρ x) (ρ y))
theorem GoPU_max (x y : Operand) (us : Array TypeId) (S : List Nat) (H' : AH) : GoPU O P E Lp (stepU O P E ρ H' fid S ⟨dst, .call ⟨.builtin .max, #[x, y], us⟩, ty, pos, after, guard⟩) d ops l ks t H Q = GoPV O P E Lp (amax2 (ρ x) (ρ y)) d ops l ks t H Q := GoPU_rd (amax2 (ρ x) (ρ y))
theorem GoS_min (x y : Operand) (us : Array TypeId) : GoS O P E Lp (stepO O P E ρ H fid ⟨dst, .call ⟨.builtin .min, #[x, y], us⟩, ty, pos, after, guard⟩) d ops l ks t Q = GoV O P E Lp (amin2 (ρ x) (ρ y)) d ops l ks t H Q := GoS_rd (amin2 (ρ x) (ρ y))
theorem GoPU_min (x y : Operand) (us : Array TypeId) (S : List Nat) (H' : AH) : GoPU O P E Lp (stepU O P E ρ H' fid S ⟨dst, .call ⟨.builtin .min, #[x, y], us⟩, ty, pos, after, guard⟩) d ops l ks t H Q = GoPV O P E Lp (amin2 (ρ x) (ρ y)) d ops l ks t H Q := GoPU_rd (amin2 (ρ x) (ρ y))
theorem GoS_pick (c a b : Operand) : GoS O P E Lp (stepO O P E ρ H fid ⟨dst, .pick c a b, ty, pos, after, guard⟩) d ops l ks t Q = GoV O P E Lp (apick (ρ c) (ρ a) (ρ b)) d ops l ks t H Q := by
  rw [show stepO O P E ρ H fid ⟨dst, .pick c a b, ty, pos, after, guard⟩ = (apick (ρ c) (ρ a) (ρ b)).map (fun a => (a, H)) from step_pick ..]
  exact GoS_map _
theorem GoPU_pick (c a b : Operand) (S : List Nat) (H' : AH) : GoPU O P E Lp (stepU O P E ρ H' fid S ⟨dst, .pick c a b, ty, pos, after, guard⟩) d ops l ks t H Q = GoPV O P E Lp (apick (ρ c) (ρ a) (ρ b)) d ops l ks t H Q := by
  rw [show stepU O P E ρ H' fid S ⟨dst, .pick c a b, ty, pos, after, guard⟩ = (apick (ρ c) (ρ a) (ρ b)).map (fun a => (a, [])) from stepU_pick ..]
  exact GoPU_rd _
theorem GoS_makeInterface (u : TypeId) (x : Operand) : GoS O P E Lp (stepO O P E ρ H fid ⟨dst, .makeInterface u x, ty, pos, after, guard⟩) d ops l ks t Q = GoV O P E Lp (aface P u (ρ x)) d ops l ks t H Q := by
  rw [show stepO O P E ρ H fid ⟨dst, .makeInterface u x, ty, pos, after, guard⟩ = (aface P u (ρ x)).map (fun a => (a, H)) from step_makeInterface ..]
  exact GoS_map _
theorem GoPU_makeInterface (u : TypeId) (x : Operand) (S : List Nat) (H' : AH) : GoPU O P E Lp (stepU O P E ρ H' fid S ⟨dst, .makeInterface u x, ty, pos, after, guard⟩) d ops l ks t H Q = GoPV O P E Lp (aface P u (ρ x)) d ops l ks t H Q := by
  rw [show stepU O P E ρ H' fid S ⟨dst, .makeInterface u x, ty, pos, after, guard⟩ = (aface P u (ρ x)).map (fun a => (a, [])) from stepU_makeInterface ..]
  exact GoPU_rd _
theorem GoS_alloc (u : TypeId) : GoS O P E Lp (stepO O P E ρ H fid ⟨dst, .alloc u, ty, pos, after, guard⟩) d ops l ks t Q = GoU O P E Lp (aalloc P fid u) d ops l ks t H Q := by
  rw [show stepO O P E ρ H fid ⟨dst, .alloc u, ty, pos, after, guard⟩ = (aalloc P fid u).map (fun r => (r.1, applyUps H r.2)) from step_alloc ..]
  exact GoS_up _
theorem GoS_box (u : TypeId) (x : Operand) : GoS O P E Lp (stepO O P E ρ H fid ⟨dst, .box u x, ty, pos, after, guard⟩) d ops l ks t Q = GoU O P E Lp (abox E fid u (ρ x)) d ops l ks t H Q := by
  rw [show stepO O P E ρ H fid ⟨dst, .box u x, ty, pos, after, guard⟩ = (abox E fid u (ρ x)).map (fun r => (r.1, applyUps H r.2)) from step_box ..]
  exact GoS_up _
theorem GoS_store (u : TypeId) (a x : Operand) : GoS O P E Lp (stepO O P E ρ H fid ⟨dst, .store u a x, ty, pos, after, guard⟩) d ops l ks t Q = GoU O P E Lp (astore P H u (ρ a) (ρ x)) d ops l ks t H Q := GoS_ups (astore P H u (ρ a) (ρ x))
theorem GoS_makeSlice (u : TypeId) (x y : Operand) : GoS O P E Lp (stepO O P E ρ H fid ⟨dst, .makeSlice u x y, ty, pos, after, guard⟩) d ops l ks t Q = GoU O P E Lp (amakeSlice P fid u (ρ x) (ρ y)) d ops l ks t H Q := GoS_ups (amakeSlice P fid u (ρ x) (ρ y))
theorem GoS_append (s x : Operand) (u w : TypeId) : GoS O P E Lp (stepO O P E ρ H fid ⟨dst, .call ⟨.builtin .append, #[s, x], #[u, w]⟩, ty, pos, after, guard⟩) d ops l ks t Q = GoU O P E Lp (aapp P E H fid u w (ρ s) (ρ x)) d ops l ks t H Q := GoS_ups (aapp P E H fid u w (ρ s) (ρ x))
theorem GoS_copy (s x : Operand) (u w : TypeId) : GoS O P E Lp (stepO O P E ρ H fid ⟨dst, .call ⟨.builtin .copy, #[s, x], #[u, w]⟩, ty, pos, after, guard⟩) d ops l ks t Q = GoU O P E Lp (acopy P H u (ρ s) (ρ x)) d ops l ks t H Q := GoS_ups (acopy P H u (ρ s) (ρ x))
theorem GoS_call (f : Operand) (aS : Array Operand) (us : Array TypeId) : GoS O P E Lp (stepO O P E ρ H fid ⟨dst, .call ⟨.value f, aS, us⟩, ty, pos, after, guard⟩) d ops l ks t Q = GoS O P E Lp (callV O P (ρ f) (aS.toList.map ρ) H) d ops l ks t Q := by
  rw [step_call]
theorem GoS_invoke (f : Operand) (nm : String) (aS : Array Operand) (us : Array TypeId) : GoS O P E Lp (stepO O P E ρ H fid ⟨dst, .call ⟨.invoke f nm, aS, us⟩, ty, pos, after, guard⟩) d ops l ks t Q = GoS O P E Lp (callI O P E (ρ f) nm (aS.toList.map ρ) H) d ops l ks t Q := by
  rw [step_invoke]
end
end
theorem aeval_mkT (E : Env) (n : Nat) (l : List (Nat × AV)) (k : Nat) (h : k < n) : aeval E (mkT n l) (.tmp k) = (l.lookup k).getD .undef := mkT_getD n l k h
theorem aeval_const (E : Env) (t : List AV) (v : Value) : aeval E t (.const v) = (ofValC v).getD .undef := nrfl rfl
theorem aeval_global (E : Env) (t : List AV) (g : Nat) : aeval E t (.global g) = E.glob g := nrfl rfl
theorem aeval_func (E : Env) (t : List AV) (f : FuncId) : aeval E t (.func f) = .func (.func f) [] [] := nrfl rfl
theorem wantedA_none (ops : Array Oper) (t : List AV) (dst : Option Tmp) (op : Op) (ty : TypeId) (pos : String) (after : Array Edge) : wantedA ops t ⟨dst, op, ty, pos, after, none⟩ = some true := nrfl rfl
def gd (v : AV) (want : Bool) : Option Bool := match v with
  | .bool b => some (b == want)
  | .tup _ => some false
  | _ => none
theorem gd_bool (b want : Bool) : gd (.bool b) want = some (b == want) := nrfl rfl
theorem gd_nothing (want : Bool) : gd .nothing want = some false := nrfl rfl
theorem wantedA_some (ops : Array Oper) (n : Nat) (l : List (Nat × AV)) (dst : Option Tmp) (op : Op) (ty : TypeId) (pos : String) (after : Array Edge) (j : Nat) (want : Bool) {d : Nat} (hd : (ops[j]?).bind (·.dst) = some d) (h : d < n) :
    wantedA ops (mkT n l) ⟨dst, op, ty, pos, after, some (j, want)⟩ = gd ((l.lookup d).getD .undef) want := by
  unfold wantedA
  simp only [hd, mkT_get, if_pos h]
  cases (l.lookup d).getD .undef <;> rfl
theorem putT_some (n : Nat) (l : List (Nat × AV)) (d : Tmp) (v : AV) : putT (mkT n l) (some d) v = mkT n ((d, v) :: l) := mkT_set n l d v
theorem putT_none (t : List AV) (v : AV) : putT t none v = t := nrfl rfl
section
variable {O : Orc} {P : Program} {E : Env} {Lp : LoopP} {ks : List Fr} {t : List AV} {H : AH} {Q : AEx → List AV → AH → Prop}
def GoPC (O : Orc) (P : Program) (E : Env) (Lp : LoopP) (r : Option (AV × AH)) (n : Nat) (d : Option Tmp) (ops : Array Oper) (l : List (Oper × Nat)) (ks : List Fr) (t : List AV) (H : AH) (Q : AEx → List AV → AH → Prop) : Prop :=
  WS r fun r => r.2.length = n ∧ GoP O P E Lp ops l ks (putT t d r.1) H Q
theorem GoPC_some (v : AV) (H1 : AH) (n : Nat) (d : Option Tmp) (ops : Array Oper) (l : List (Oper × Nat)) : GoPC O P E Lp (some (v, H1)) n d ops l ks t H Q = (H1.length = n ∧ GoP O P E Lp ops l ks (putT t d v) H Q) := nrfl rfl
theorem GoPU_call (ρ : Operand → AV) (fid : Nat) (d dst : Option Tmp) (ty : TypeId) (pos : String) (after : Array Edge) (guard : Option (Nat × Bool)) (ops : Array Oper) (l : List (Oper × Nat)) (f : Operand) (aS : Array Operand) (us : Array TypeId) (H' : AH) :
    GoPU O P E Lp (stepU O P E ρ H' fid [] ⟨dst, .call ⟨.value f, aS, us⟩, ty, pos, after, guard⟩) d ops l ks t H Q = GoPC O P E Lp (callV O P (ρ f) (aS.toList.map ρ) H') H'.length d ops l ks t H Q := by
  simp only [stepU, callee, callV]
  cases ρ f with
  | func fn a b =>
    cases fn with
    | func i =>
      simp only
      cases goFn P i with
      | true =>
        simp only [if_true]
        cases O i (a ++ aS.toList.map ρ ++ b) H' with
        | none => rfl
        | some r =>
          obtain ⟨v, H1⟩ := r
          simp only [GoPC, WS]
          by_cases h : H1.length = H'.length
          · rw [if_pos h]
            simp [GoPU, WU, h]
          · rw [if_neg h]
            simp [GoPU, WU, h]
      | false => rfl
    | _ => rfl
  | _ => rfl
end
section
variable {O : Orc} {P : Program} {E : Env} {Lp : LoopP} {ks : List Fr} {t : List AV} {H : AH} {Q : AEx → List AV → AH → Prop}
theorem GoPU_box (ρ : Operand → AV) (fid : Nat) (d dst : Option Tmp) (ty : TypeId) (pos : String) (after : Array Edge) (guard : Option (Nat × Bool)) (ops : Array Oper) (l : List (Oper × Nat)) (S : List Nat) (u : TypeId) (x : Operand) (H' : AH) :
    GoPU O P E Lp (stepU O P E ρ H' fid S ⟨dst, .box u x, ty, pos, after, guard⟩) d ops l ks t H Q = GoPU O P E Lp (abox E fid u (ρ x)) d ops l ks t H Q := by
  simp only [stepU, aop, abox]
end
end Go.Proofs.Fw
namespace Go.Proofs.Fw
open Go.RowKit
def elemChk (P : Program) (t : TypeId) (sz : Nat) : Bool :=
  match P.underlying t with
  | some (.slice e) => (match P.info? e with
    | some i => (match i.zero with
      | some z => (z.cells.size == i.size) && (i.size == sz) && decide (0 < sz) && decide (i.bytes ≤ 1024)
      | none => false)
    | none => false)
  | _ => false
section
variable {P : Program} {H : AH} {fid : Nat} {t : TypeId} {sz m n k : Nat} {ow : Own} {xs ys : List AV}
theorem aappend_nil (h : elemChk P t sz = true) (hm : 0 < m) (hb : m ≤ 137438953472) (ha : ys.all AV.one = true) :
    aappend P H fid t t .nilSlice (.slice ow sz m ys) = some (.slice (.tok fid) sz m ys, [(fid, .tok m)]) := by
  unfold elemChk at h
  unfold aappend
  split at h
  · rename_i e he
    rw [he]
    simp only
    split at h
    · rename_i i hi
      rw [hi]
      simp only
      split at h
      · rename_i z hz
        rw [hz]
        simp only [Bool.and_eq_true, beq_iff_eq, decide_eq_true_eq] at h
        obtain ⟨⟨⟨h1, h2⟩, h3⟩, h4⟩ := h
        simp only
        have hbytes : m * i.bytes ≤ 140737488355328 := by
          calc m * i.bytes ≤ 137438953472 * 1024 := Nat.mul_le_mul hb h4
            _ = 140737488355328 := by decide
        rw [if_pos ⟨h1, by omega, by simp [isByteStr]⟩]
        simp only [copied, h2, if_true, ha]
        rw [if_neg (by omega), if_pos ⟨hbytes, by omega⟩]
      · cases h
    · cases h
  · cases h
theorem aappend_tok (h : elemChk P t sz = true) (hk : H.at k = some (.tok n)) (hm : 0 < m) (hb : n + m ≤ 137438953472) (ha : ys.all AV.one = true) :
    aappend P H fid t t (.slice (.tok k) sz n xs) (.slice ow sz m ys) = some (.slice (.tok k) sz (n + m) (xs ++ ys), [(k, .tok (n + m))]) := by
  unfold elemChk at h
  unfold aappend
  split at h
  · rename_i e he
    rw [he]
    simp only
    split at h
    · rename_i i hi
      rw [hi]
      simp only
      split at h
      · rename_i z hz
        rw [hz]
        simp only [Bool.and_eq_true, beq_iff_eq, decide_eq_true_eq] at h
        obtain ⟨⟨⟨h1, h2⟩, h3⟩, h4⟩ := h
        simp only
        have hbytes : (n + m) * i.bytes ≤ 140737488355328 := by
          calc (n + m) * i.bytes ≤ 137438953472 * 1024 := Nat.mul_le_mul hb h4
            _ = 140737488355328 := by decide
        rw [if_pos ⟨h1, by omega, by simp [isByteStr]⟩]
        simp only [copied, h2, if_true, ha]
        rw [if_neg (by omega), if_pos ⟨hbytes, by omega⟩]
        simp only [hk, if_true]
      · cases h
    · cases h
  · cases h
theorem aappend_full (h : elemChk P t sz = true) (hm : 0 < m) (hb : n + m ≤ 137438953472) (ha : ys.all AV.one = true) :
    aappend P H fid t t (.slice .full sz n xs) (.slice ow sz m ys) = some (.slice (.tok fid) sz (n + m) (xs ++ ys), [(fid, .tok (n + m))]) := by
  unfold elemChk at h
  unfold aappend
  split at h
  · rename_i e he
    rw [he]
    simp only
    split at h
    · rename_i i hi
      rw [hi]
      simp only
      split at h
      · rename_i z hz
        rw [hz]
        simp only [Bool.and_eq_true, beq_iff_eq, decide_eq_true_eq] at h
        obtain ⟨⟨⟨h1, h2⟩, h3⟩, h4⟩ := h
        simp only
        have hbytes : (n + m) * i.bytes ≤ 140737488355328 := by
          calc (n + m) * i.bytes ≤ 137438953472 * 1024 := Nat.mul_le_mul hb h4
            _ = 140737488355328 := by decide
        rw [if_pos ⟨h1, by omega, by simp [isByteStr]⟩]
        simp only [copied, h2, if_true, ha]
        rw [if_neg (by omega), if_pos ⟨hbytes, by omega⟩]
      · cases h
    · cases h
  · cases h
end
end Go.Proofs.Fw
namespace Go.Proofs.Fw
open Go.RowKit
attribute [simp] Go_seq Go_block Go_region Go_draw Go_cond Go_skip_seq Go_skip_blk Go_skip Go_ret_seq Go_ret_blk Go_ret Go_exit_seq
attribute [simp] Go_exit_blk Go_exit GoX_T GoX_F GoB_bool GoD_T GoD_F GoO_nil GoO_cons GoG_some GoGD_T GoGD_F
attribute [simp] GoS_some GoV_some GoV_map GoU_some GoP_nil GoP_cons GoPG_some GoPGD_T GoPGD_F GoPU_some GoPV_some GoS_move
attribute [simp] GoS_assign GoS_build GoS_buildSlice GoS_load GoS_nilCheck GoS_binOp GoS_unOp GoS_convert GoS_makeFunc GoS_slice GoS_fieldAddr GoS_field
attribute [simp] GoS_indexAddr GoS_index GoS_typeAssert GoS_extract GoS_len GoS_cap GoS_max GoS_min GoS_pick GoS_makeInterface GoS_alloc GoS_box
attribute [simp] GoS_store GoS_makeSlice GoS_append GoS_copy GoS_call GoS_invoke GoPU_move GoPU_assign GoPU_build GoPU_buildSlice GoPU_load GoPU_nilCheck
attribute [simp] GoPU_binOp GoPU_unOp GoPU_convert GoPU_makeFunc GoPU_slice GoPU_fieldAddr GoPU_field GoPU_indexAddr GoPU_index GoPU_typeAssert GoPU_extract GoPU_len
attribute [simp] GoPU_cap GoPU_max GoPU_min GoPU_pick GoPU_makeInterface apick_bool aface aalloc abox callV aeval_mkT aeval_const
attribute [simp] aeval_global aeval_func wantedA_none wantedA_some gd_bool gd_nothing putT_some putT_none argL withIds needsId grow
attribute [simp] ofValC ofVal ofVals applyUps evResults oneOrTup alen.eq_def abin.eq_def abinInt abinStr aun aindex.eq_def
attribute [simp] aslice.eq_def optInt aextract anilCheck aconvert.eq_def aindexAddr.eq_def aload.eq_def ldAt isConstO aeq.eq_def cellsAV astore.eq_def
attribute [simp] putAt AV.known AV.one AH.at fstC sndC inC bodyOf Fin_ret Fin_normal WS_some Goes_normal
attribute [simp] Goes_exit Goes_ret aapp_hard
attribute [simp] idCount headC tailC mkT_get List.lookup
attribute [simp] frz frzL_low frz_low strip stripL strip_low stripL_low low lowL lowE lowH
attribute [simp] visIds opIds quietO.eq_def seenO.eq_def depO.eq_def clos_zero idsOf idsOfL clos_nil Op.operands Call.operands lowL_append
attribute [simp] Go_loop GoPC_some GoPU_call GoPU_box
end Go.Proofs.Fw
namespace Go.Proofs.Fw
open Go.RowKit
section
variable {P : Program} {E : Env} {O : Orc} {B : Bs} {Q : AEx → List AV → AH → Prop} {t : List AV} {H : AH}
theorem Tr.pre (X : Cx O P E) (hG : GlobOk E B.g) (k : Nat) {c R : Code} (hR : tailC k c = R) (hs : isSeqs k c = true) (hd : okDraws E (headC k c) = true) (h : Wx O P E (headC k c) t H (Goes (fun t1 H1 => Tr P B R t1 H1 Q) Q)) : Tr P B c t H Q := by
  subst hR
  exact Tr.runs X hG k hs hd h
theorem Tr.seqD {c a b : Code} (hc : c = .seq a b) (h : Tr P B a t H (Goes (fun t1 H1 => Tr P B b t1 H1 Q) Q)) : Tr P B c t H Q := by
  subst hc; exact Tr.seq h
theorem Tr.blockD {c a : Code} {id : Nat} (hc : c = .block id a) (h : Tr P B a t H (Blk id Q)) : Tr P B c t H Q := by
  subst hc; exact Tr.block h
theorem Tr.forD {c a : Code} {id : Nat} (hc : c = .block id (.loop a)) (I : Nat → List AV → AH → Prop) (k : Nat) (hI : I k t H)
    (h : ∀ k t H, I k t H → Tr P B a t H (Goes (fun t1 H1 => ∃ j t2 H2, j < k ∧ Less B t1 H1 t2 H2 ∧ I j t2 H2) (Blk id Q))) : Tr P B c t H Q := by
  subst hc; exact Tr.block (Tr.loop I k hI h)
end
end Go.Proofs.Fw
namespace Go.Proofs.Fw
open Go.RowKit
def oNil : Orc := fun _ _ _ => none
theorem oNil_sound {P : Program} {E : Env} : Sound P E oNil := fun _ _ _ _ _ h => by cases h
theorem CS.run0 {O : Orc} {P : Program} {E : Env} (X : Cx O P E) (hE : ∀ i, low 0 (E.glob i) = true) {f : FuncId} {fn : Func} {args : List AV} {v : AV} (hf : P.funcs[f]? = some fn) (hb : fn.body = some (bodyOf fn)) (hd : okDraws E (bodyOf fn) = true) (k : Nat)
    (hn : args.length ≤ fn.ntmps) (h : Go O P E noLoop (bodyOf fn) [] (mkT fn.ntmps (argL 0 args)) [] (Fin P fn 0 k v [])) (hv : low 0 v = true) (ha : lowL 0 args = true) (H : AH) : CS P E f args H v H :=
  (CS.of_Tr (H0 := []) (H1 := []) hf hb k hn (fun B hB hG => Tr.run X hG hd h) hv rfl).frame hE ha H
theorem CS.tr0 {P : Program} {E : Env} (hE : ∀ i, low 0 (E.glob i) = true) {f : FuncId} {fn : Func} {args : List AV} {v : AV} (hf : P.funcs[f]? = some fn) (hb : fn.body = some (bodyOf fn)) (k : Nat)
    (hn : args.length ≤ fn.ntmps) (h : ∀ B : Bs, B.H = [] → GlobOk E B.g → Tr P B (bodyOf fn) (mkT fn.ntmps (argL 0 args)) [] (Fin P fn 0 k v [])) (hv : low 0 v = true) (ha : lowL 0 args = true) (H : AH) : CS P E f args H v H :=
  (CS.of_Tr (H0 := []) (H1 := []) hf hb k hn h hv rfl).frame hE ha H
theorem Less.mk0 {B : Bs} {n : Nat} {l l' : List (Nat × AV)} {H : AH} (hB : B.H = []) (h : ∀ p ∈ l', (l.lookup p.1).getD .undef = p.2 ∧ low 0 p.2 = true) : Less B (Fw.mkT n l) H (Fw.mkT n l') [] :=
  Less.mkT 0 (by simp [hB]) (fun p hp => .same (h p hp).1 (h p hp).2) rfl rfl
theorem Tr.go {O : Orc} {P : Program} {E : Env} {B : Bs} (X : Cx O P E) (hG : GlobOk E B.g) {c : Code} {t : List AV} {H : AH} {Q : AEx → List AV → AH → Prop} (hd : okDraws E c = true) (h : Go O P E (LpT P B) c [] t H Q) : Tr P B c t H Q := Wt.tr X hG hd h
end Go.Proofs.Fw
namespace Go.Proofs.Fw
open Go.RowKit
section
variable {O : Orc} {P : Program} {E : Env} {Lp : LoopP} {B : Bs} {ks : List Fr} {t : List AV} {H : AH} {Q : AEx → List AV → AH → Prop}
theorem unwind_normal : unwind O P E Lp ks Q .normal t H = Go O P E Lp .skip ks t H Q := nrfl rfl
theorem unwind_exit (id : Nat) : unwind O P E Lp ks Q (.exit id) t H = Go O P E Lp (.exit id) ks t H Q := nrfl rfl
theorem unwind_ret : unwind O P E Lp ks Q .ret t H = Go O P E Lp .ret ks t H Q := nrfl rfl
attribute [simp] unwind_normal unwind_exit unwind_ret
theorem LpT.loop {L : Code} (X : Cx O P E) (hG : GlobOk E B.g) (hd : okDraws E L = true) (I : Nat → List AV → AH → Prop) (k : Nat) {t' : List AV} {H' : AH} (hl : Less B t H t' H') (hI : I k t' H')
    (h : ∀ k t H, I k t H → Go O P E (LpT P B) L [] t H (Goes (fun t1 H1 => ∃ j t2 H2, j < k ∧ Less B t1 H1 t2 H2 ∧ I j t2 H2) Q)) : LpT P B L t H Q :=
  Tr.less hl (Tr.loop I k hI fun k t H hI => Tr.go X hG hd (h k t H hI))
end
end Go.Proofs.Fw
namespace Go.Proofs.Fw
open Go.RowKit
def Nxt (B : Bs) (I : Nat → List AV → AH → Prop) (k : Nat) (t : List AV) (H : AH) : Prop := ∃ j t2 H2, j < k ∧ Less B t H t2 H2 ∧ I j t2 H2
theorem Nxt.mk {B : Bs} {I : Nat → List AV → AH → Prop} {k : Nat} {t : List AV} {H : AH} (j : Nat) (hj : j < k) {t2 : List AV} {H2 : AH} (hl : Less B t H t2 H2) (hI : I j t2 H2) : Nxt B I k t H := ⟨j, t2, H2, hj, hl, hI⟩
section
variable {O : Orc} {P : Program} {E : Env} {B : Bs} {t : List AV} {H : AH} {Q : AEx → List AV → AH → Prop}
theorem LpT.loopN {L : Code} (X : Cx O P E) (hG : GlobOk E B.g) (hd : okDraws E L = true) (I : Nat → List AV → AH → Prop) (k : Nat) {t' : List AV} {H' : AH} (hl : Less B t H t' H') (hI : I k t' H')
    (h : ∀ k t H, I k t H → Go O P E (LpT P B) L [] t H (Goes (Nxt B I k) Q)) : LpT P B L t H Q :=
  LpT.loop X hG hd I k hl hI h
end
def fI (P : Program) (t : TypeId) (i : Nat) : Nat × TypeId × Bool := match P.underlying t with
  | some (.struct fields) => (match fields[i]? with
    | some f => (match szOf P f.type with
      | some n => (f.offset, f.type, !(n == 0))
      | none => (0, 0, false))
    | none => (0, 0, false))
  | _ => (0, 0, false)
theorem fI_ok {P : Program} {t : TypeId} {i : Nat} (h : (fI P t i).2.2 = true) : ∃ fields f n, P.underlying t = some (.struct fields) ∧ fields[i]? = some f ∧ szOf P f.type = some n ∧ n ≠ 0 ∧ (fI P t i).1 = f.offset ∧ (fI P t i).2.1 = f.type := by
  unfold fI at h ⊢
  split at h
  · rename_i fields hu
    split at h
    · rename_i f hf
      split at h
      · rename_i n hn
        exact ⟨fields, f, n, hu, hf, hn, by simpa using h, rfl, rfl⟩
      · cases h
    · cases h
  · cases h
@[simp] theorem fiA {P : Program} {t : TypeId} {i : Nat} (h : (fI P t i).2.2 = true) (id off : Nat) : afieldAddr P t (.ptr id off) i = some (.ptr id (off + (fI P t i).1)) := by
  obtain ⟨fields, f, n, h1, h2, h3, h4, h5, h6⟩ := fI_ok h
  simp only [afieldAddr, h1, h2, h3, h4, h5, if_false]
@[simp] theorem fiV {P : Program} {t : TypeId} {i : Nat} (h : (fI P t i).2.2 = true) (cs : List AV) (off : Nat) : afieldAddr P t (.vptr cs off) i = some (.vptr cs (off + (fI P t i).1)) := by
  obtain ⟨fields, f, n, h1, h2, h3, h4, h5, h6⟩ := fI_ok h
  simp only [afieldAddr, h1, h2, h3, h4, h5, if_false]
@[simp] theorem fiL {P : Program} {t : TypeId} {i : Nat} (h : (fI P t i).2.2 = true) (cs : List AV) : afield P t (.agg cs) i = ldAt P (fI P t i).2.1 cs (fI P t i).1 := by
  obtain ⟨fields, f, n, h1, h2, h3, h4, h5, h6⟩ := fI_ok h
  simp only [afield, h1, h2, h5, h6]
end Go.Proofs.Fw

namespace Go.Proofs.YtejjlojfgcgopaaGreatDoor.Ty
open Go.RowKit Go.Proofs.Fw
set_option maxRecDepth 100000
theorem sz2 : szOf Tryz.prog 2 = some 1 := by kernel_rfl
theorem ag2 : aggB Tryz.prog 2 = some false := by kernel_rfl
theorem zv2 : zeroAV Tryz.prog 2 = some (.int .i64 0) := by kernel_rfl
theorem sz3 : szOf Tryz.prog 3 = some 1 := by kernel_rfl
theorem ag3 : aggB Tryz.prog 3 = some false := by kernel_rfl
theorem zv3 : zeroAV Tryz.prog 3 = some (.int .i64 0) := by kernel_rfl
theorem sz4 : szOf Tryz.prog 4 = some 1 := by kernel_rfl
theorem ag4 : aggB Tryz.prog 4 = some false := by kernel_rfl
theorem zv4 : zeroAV Tryz.prog 4 = some (.bool false) := by kernel_rfl
theorem sz5 : szOf Tryz.prog 5 = some 1 := by kernel_rfl
theorem ag5 : aggB Tryz.prog 5 = some false := by kernel_rfl
theorem zv5 : zeroAV Tryz.prog 5 = some (.int .u8 0) := by kernel_rfl
theorem sz9 : szOf Tryz.prog 9 = some 1 := by kernel_rfl
theorem ag9 : aggB Tryz.prog 9 = some false := by kernel_rfl
theorem zv9 : zeroAV Tryz.prog 9 = some (.str []) := by kernel_rfl
theorem sz23 : szOf Tryz.prog 23 = some 1 := by kernel_rfl
theorem ag23 : aggB Tryz.prog 23 = some false := by kernel_rfl
theorem zv23 : zeroAV Tryz.prog 23 = some (.nilSlice) := by kernel_rfl
theorem ec23 : elemChk Tryz.prog 23 1 = true := by kernel_rfl
theorem sz31 : szOf Tryz.prog 31 = some 29 := by kernel_rfl
theorem ag31 : aggB Tryz.prog 31 = some true := by kernel_rfl
theorem zv31 : zeroAV Tryz.prog 31 = some (.agg [.int .i64 0, .nilSlice, .int .i64 0, .int .i64 0, .str [], .nilSlice, .int .i64 0, .int .i64 0, .str [], .nilSlice, .str [], .int .i64 0, .int .i64 0, .str [], .nilSlice, .int .i64 0, .int .i64 0, .str [], .nilSlice, .str [], .int .i64 0, .int .i64 0, .str [], .nilSlice, .int .i64 0, .int .i64 0, .str [], .nilSlice, .int .i64 0]) := by kernel_rfl
theorem fa31_0 : fI Tryz.prog 31 0 = (0, 3, true) := by kernel_rfl
theorem fa31_1 : fI Tryz.prog 31 1 = (1, 24, true) := by kernel_rfl
theorem fa31_2 : fI Tryz.prog 31 2 = (2, 27, true) := by kernel_rfl
theorem fa31_3 : fI Tryz.prog 31 3 = (6, 27, true) := by kernel_rfl
theorem fa31_4 : fI Tryz.prog 31 4 = (10, 29, true) := by kernel_rfl
theorem fa31_5 : fI Tryz.prog 31 5 = (19, 9, true) := by kernel_rfl
theorem fa31_6 : fI Tryz.prog 31 6 = (20, 27, true) := by kernel_rfl
theorem fa31_7 : fI Tryz.prog 31 7 = (24, 27, true) := by kernel_rfl
theorem fa31_8 : fI Tryz.prog 31 8 = (28, 2, true) := by kernel_rfl
theorem sz33 : szOf Tryz.prog 33 = some 1 := by kernel_rfl
theorem ag33 : aggB Tryz.prog 33 = some false := by kernel_rfl
theorem zv33 : zeroAV Tryz.prog 33 = some (.nilIface) := by kernel_rfl
theorem sz38 : szOf Tryz.prog 38 = some 1 := by kernel_rfl
theorem ag38 : aggB Tryz.prog 38 = some false := by kernel_rfl
theorem zv38 : zeroAV Tryz.prog 38 = some (.nilSlice) := by kernel_rfl
theorem ec38 : elemChk Tryz.prog 38 1 = true := by kernel_rfl
theorem sz46 : szOf Tryz.prog 46 = some 29 := by kernel_rfl
theorem ag46 : aggB Tryz.prog 46 = some true := by kernel_rfl
theorem zv46 : zeroAV Tryz.prog 46 = some (.agg [.int .i64 0, .nilSlice, .int .i64 0, .int .i64 0, .str [], .nilSlice, .int .i64 0, .int .i64 0, .str [], .nilSlice, .str [], .int .i64 0, .int .i64 0, .str [], .nilSlice, .int .i64 0, .int .i64 0, .str [], .nilSlice, .str [], .int .i64 0, .int .i64 0, .str [], .nilSlice, .int .i64 0, .int .i64 0, .str [], .nilSlice, .int .i64 0]) := by kernel_rfl
theorem fa46_0 : fI Tryz.prog 46 0 = (0, 3, true) := by kernel_rfl
theorem fa46_1 : fI Tryz.prog 46 1 = (1, 39, true) := by kernel_rfl
theorem fa46_2 : fI Tryz.prog 46 2 = (2, 42, true) := by kernel_rfl
theorem fa46_3 : fI Tryz.prog 46 3 = (6, 42, true) := by kernel_rfl
theorem fa46_4 : fI Tryz.prog 46 4 = (10, 44, true) := by kernel_rfl
theorem fa46_5 : fI Tryz.prog 46 5 = (19, 9, true) := by kernel_rfl
theorem fa46_6 : fI Tryz.prog 46 6 = (20, 42, true) := by kernel_rfl
theorem fa46_7 : fI Tryz.prog 46 7 = (24, 42, true) := by kernel_rfl
theorem fa46_8 : fI Tryz.prog 46 8 = (28, 2, true) := by kernel_rfl
theorem sz47 : szOf Tryz.prog 47 = some 1 := by kernel_rfl
theorem ag47 : aggB Tryz.prog 47 = some false := by kernel_rfl
theorem zv47 : zeroAV Tryz.prog 47 = some (.nilSlice) := by kernel_rfl
theorem ec47 : elemChk Tryz.prog 47 1 = true := by kernel_rfl
theorem sz51 : szOf Tryz.prog 51 = some 2 := by kernel_rfl
theorem ag51 : aggB Tryz.prog 51 = some true := by kernel_rfl
theorem zv51 : zeroAV Tryz.prog 51 = some (.agg [.str [], .nilSlice]) := by kernel_rfl
theorem fa51_0 : fI Tryz.prog 51 0 = (0, 9, true) := by kernel_rfl
theorem fa51_1 : fI Tryz.prog 51 1 = (1, 49, true) := by kernel_rfl
theorem sz52 : szOf Tryz.prog 52 = some 1 := by kernel_rfl
theorem ag52 : aggB Tryz.prog 52 = some false := by kernel_rfl
theorem zv52 : zeroAV Tryz.prog 52 = some (.int .u16 0) := by kernel_rfl
theorem sz54 : szOf Tryz.prog 54 = some 1 := by kernel_rfl
theorem ag54 : aggB Tryz.prog 54 = some false := by kernel_rfl
theorem zv54 : zeroAV Tryz.prog 54 = some (.nilSlice) := by kernel_rfl
theorem ec54 : elemChk Tryz.prog 54 4 = true := by kernel_rfl
theorem sz55 : szOf Tryz.prog 55 = some 1 := by kernel_rfl
theorem ag55 : aggB Tryz.prog 55 = some false := by kernel_rfl
theorem zv55 : zeroAV Tryz.prog 55 = some (.nilSlice) := by kernel_rfl
theorem ec55 : elemChk Tryz.prog 55 2 = true := by kernel_rfl
theorem sz57 : szOf Tryz.prog 57 = some 2 := by kernel_rfl
theorem ag57 : aggB Tryz.prog 57 = some true := by kernel_rfl
theorem zv57 : zeroAV Tryz.prog 57 = some (.agg [.nilSlice, .int .i64 0]) := by kernel_rfl
theorem fa57_0 : fI Tryz.prog 57 0 = (0, 55, true) := by kernel_rfl
theorem fa57_1 : fI Tryz.prog 57 1 = (1, 3, true) := by kernel_rfl
theorem sz125 : szOf Tryz.prog 125 = some 1 := by kernel_rfl
theorem ag125 : aggB Tryz.prog 125 = some false := by kernel_rfl
theorem zv125 : zeroAV Tryz.prog 125 = some (.nilSlice) := by kernel_rfl
theorem ec125 : elemChk Tryz.prog 125 4 = true := by kernel_rfl
theorem sz134 : szOf Tryz.prog 134 = some 1 := by kernel_rfl
theorem ag134 : aggB Tryz.prog 134 = some false := by kernel_rfl
theorem zv134 : zeroAV Tryz.prog 134 = some (.int .i64 0) := by kernel_rfl
theorem sz144 : szOf Tryz.prog 144 = some 4 := by kernel_rfl
theorem ag144 : aggB Tryz.prog 144 = some true := by kernel_rfl
theorem zv144 : zeroAV Tryz.prog 144 = some (.agg [.int .i64 0, .str [], .int .i64 0, .int .i64 0]) := by kernel_rfl
theorem fa144_0 : fI Tryz.prog 144 0 = (0, 3, true) := by kernel_rfl
theorem fa144_1 : fI Tryz.prog 144 1 = (1, 9, true) := by kernel_rfl
theorem fa144_2 : fI Tryz.prog 144 2 = (2, 3, true) := by kernel_rfl
theorem fa144_3 : fI Tryz.prog 144 3 = (3, 2, true) := by kernel_rfl
theorem sz152 : szOf Tryz.prog 152 = some 1 := by kernel_rfl
theorem ag152 : aggB Tryz.prog 152 = some false := by kernel_rfl
theorem zv152 : zeroAV Tryz.prog 152 = some (.nilPtr) := by kernel_rfl
theorem sz156 : szOf Tryz.prog 156 = some 3 := by kernel_rfl
theorem ag156 : aggB Tryz.prog 156 = some true := by kernel_rfl
theorem zv156 : zeroAV Tryz.prog 156 = some (.agg [.str [], .int .i64 0, .nilIface]) := by kernel_rfl
theorem fa156_0 : fI Tryz.prog 156 0 = (0, 9, true) := by kernel_rfl
theorem fa156_1 : fI Tryz.prog 156 1 = (1, 3, true) := by kernel_rfl
theorem fa156_2 : fI Tryz.prog 156 2 = (2, 33, true) := by kernel_rfl
theorem sz158 : szOf Tryz.prog 158 = some 2 := by kernel_rfl
theorem ag158 : aggB Tryz.prog 158 = some true := by kernel_rfl
theorem zv158 : zeroAV Tryz.prog 158 = some (.agg [.str [], .int .i64 0]) := by kernel_rfl
theorem fa158_0 : fI Tryz.prog 158 0 = (0, 9, true) := by kernel_rfl
theorem fa158_1 : fI Tryz.prog 158 1 = (1, 3, true) := by kernel_rfl
theorem sz192 : szOf Tryz.prog 192 = some 4 := by kernel_rfl
theorem ag192 : aggB Tryz.prog 192 = some true := by kernel_rfl
theorem zv192 : zeroAV Tryz.prog 192 = some (.agg [.int .i64 0, .str [], .int .i64 0, .int .i64 0]) := by kernel_rfl
theorem fa192_0 : fI Tryz.prog 192 0 = (0, 3, true) := by kernel_rfl
theorem fa192_1 : fI Tryz.prog 192 1 = (1, 9, true) := by kernel_rfl
theorem fa192_2 : fI Tryz.prog 192 2 = (2, 3, true) := by kernel_rfl
theorem fa192_3 : fI Tryz.prog 192 3 = (3, 2, true) := by kernel_rfl
theorem sz203 : szOf Tryz.prog 203 = some 1 := by kernel_rfl
theorem ag203 : aggB Tryz.prog 203 = some false := by kernel_rfl
theorem zv203 : zeroAV Tryz.prog 203 = some (.int .u64 0) := by kernel_rfl
theorem sz326 : szOf Tryz.prog 326 = some 1 := by kernel_rfl
theorem ag326 : aggB Tryz.prog 326 = some false := by kernel_rfl
theorem zv326 : zeroAV Tryz.prog 326 = some (.nilPtr) := by kernel_rfl
theorem sz341 : szOf Tryz.prog 341 = some 3 := by kernel_rfl
theorem ag341 : aggB Tryz.prog 341 = some true := by kernel_rfl
theorem zv341 : zeroAV Tryz.prog 341 = some (.agg [.str [], .str [], .nilIface]) := by kernel_rfl
theorem fa341_0 : fI Tryz.prog 341 0 = (0, 9, true) := by kernel_rfl
theorem fa341_1 : fI Tryz.prog 341 1 = (1, 9, true) := by kernel_rfl
theorem fa341_2 : fI Tryz.prog 341 2 = (2, 33, true) := by kernel_rfl
theorem go4 : goFn Tryz.prog 4 = true := by kernel_rfl
theorem go19 : goFn Tryz.prog 19 = true := by kernel_rfl
theorem go20 : goFn Tryz.prog 20 = true := by kernel_rfl
theorem go24 : goFn Tryz.prog 24 = true := by kernel_rfl
theorem go51 : goFn Tryz.prog 51 = true := by kernel_rfl
theorem go61 : goFn Tryz.prog 61 = true := by kernel_rfl
theorem go62 : goFn Tryz.prog 62 = true := by kernel_rfl
theorem go63 : goFn Tryz.prog 63 = true := by kernel_rfl
theorem go64 : goFn Tryz.prog 64 = true := by kernel_rfl
theorem go65 : goFn Tryz.prog 65 = true := by kernel_rfl
theorem go66 : goFn Tryz.prog 66 = true := by kernel_rfl
theorem go87 : goFn Tryz.prog 87 = true := by kernel_rfl
theorem go88 : goFn Tryz.prog 88 = true := by kernel_rfl
theorem go135 : goFn Tryz.prog 135 = true := by kernel_rfl
theorem go175 : goFn Tryz.prog 175 = true := by kernel_rfl
theorem go176 : goFn Tryz.prog 176 = true := by kernel_rfl
theorem go206 : goFn Tryz.prog 206 = true := by kernel_rfl
theorem go221 : goFn Tryz.prog 221 = true := by kernel_rfl
attribute [simp] sz2 ag2 zv2 Tryz.underlying2 sz3 ag3 zv3 Tryz.underlying3 sz4 ag4 zv4 Tryz.underlying4 sz5 ag5 zv5 Tryz.underlying5 sz9 ag9 zv9 Tryz.underlying9
attribute [simp] sz23 ag23 zv23 ec23 Tryz.underlying23 sz31 ag31 zv31 fa31_0 fa31_1 fa31_2 fa31_3 fa31_4 fa31_5 fa31_6 fa31_7 fa31_8 Tryz.underlying31 sz33 ag33
attribute [simp] zv33 Tryz.underlying33 sz38 ag38 zv38 ec38 Tryz.underlying38 sz46 ag46 zv46 fa46_0 fa46_1 fa46_2 fa46_3 fa46_4 fa46_5 fa46_6 fa46_7 fa46_8 Tryz.underlying46
attribute [simp] sz47 ag47 zv47 ec47 Tryz.underlying47 sz51 ag51 zv51 fa51_0 fa51_1 Tryz.underlying51 sz52 ag52 zv52 Tryz.underlying52 sz54 ag54 zv54 ec54 Tryz.underlying54
attribute [simp] sz55 ag55 zv55 ec55 Tryz.underlying55 sz57 ag57 zv57 fa57_0 fa57_1 Tryz.underlying57 sz125 ag125 zv125 ec125 Tryz.underlying125 sz134 ag134 zv134 Tryz.underlying134
attribute [simp] sz144 ag144 zv144 fa144_0 fa144_1 fa144_2 fa144_3 Tryz.underlying144 sz152 ag152 zv152 Tryz.underlying152 sz156 ag156 zv156 fa156_0 fa156_1 fa156_2 Tryz.underlying156 sz158
attribute [simp] ag158 zv158 fa158_0 fa158_1 Tryz.underlying158 sz192 ag192 zv192 fa192_0 fa192_1 fa192_2 fa192_3 Tryz.underlying192 sz203 ag203 zv203 Tryz.underlying203 sz326 ag326 zv326
attribute [simp] Tryz.underlying326 sz341 ag341 zv341 fa341_0 fa341_1 fa341_2 Tryz.underlying341 go4 go19 go20 go24 go51 go61 go62 go63 go64 go65 go66 go87
attribute [simp] go88 go135 go175 go176 go206 go221
end Go.Proofs.YtejjlojfgcgopaaGreatDoor.Ty

namespace Go.Proofs.YtejjlojfgcgopaaGreatDoor.Tw
open Go.RowKit Go.Proofs.Fw
set_option maxRecDepth 100000
theorem sz154 : szOf Tryz.prog 154 = some 1 := by kernel_rfl
theorem ag154 : aggB Tryz.prog 154 = some false := by kernel_rfl
theorem zv154 : zeroAV Tryz.prog 154 = some (.nilPtr) := by kernel_rfl
theorem sz159 : szOf Tryz.prog 159 = some 1 := by kernel_rfl
theorem ag159 : aggB Tryz.prog 159 = some false := by kernel_rfl
theorem zv159 : zeroAV Tryz.prog 159 = some (.nilPtr) := by kernel_rfl
theorem go70 : goFn Tryz.prog 70 = true := by kernel_rfl
theorem go71 : goFn Tryz.prog 71 = true := by kernel_rfl
theorem go102 : goFn Tryz.prog 102 = true := by kernel_rfl
theorem go256 : goFn Tryz.prog 256 = true := by kernel_rfl
attribute [simp] sz154 ag154 zv154 Tryz.underlying154 sz159 ag159 zv159 Tryz.underlying159 go70 go71 go102 go256
end Go.Proofs.YtejjlojfgcgopaaGreatDoor.Tw

namespace Go.Proofs.YtejjlojfgcgopaaGreatDoor.Tx
open Go.RowKit Go.Proofs.Fw
set_option maxRecDepth 100000
theorem sz25 : szOf Tryz.prog 25 = some 1 := by kernel_rfl
theorem ag25 : aggB Tryz.prog 25 = some false := by kernel_rfl
theorem zv25 : zeroAV Tryz.prog 25 = some (.nilSlice) := by kernel_rfl
theorem ec25 : elemChk Tryz.prog 25 4 = true := by kernel_rfl
theorem sz27 : szOf Tryz.prog 27 = some 4 := by kernel_rfl
theorem ag27 : aggB Tryz.prog 27 = some true := by kernel_rfl
theorem zv27 : zeroAV Tryz.prog 27 = some (.agg [.int .i64 0, .int .i64 0, .str [], .nilSlice]) := by kernel_rfl
theorem fa27_0 : fI Tryz.prog 27 0 = (0, 3, true) := by kernel_rfl
theorem fa27_1 : fI Tryz.prog 27 1 = (1, 2, true) := by kernel_rfl
theorem fa27_2 : fI Tryz.prog 27 2 = (2, 9, true) := by kernel_rfl
theorem fa27_3 : fI Tryz.prog 27 3 = (3, 25, true) := by kernel_rfl
theorem sz29 : szOf Tryz.prog 29 = some 9 := by kernel_rfl
theorem ag29 : aggB Tryz.prog 29 = some true := by kernel_rfl
theorem zv29 : zeroAV Tryz.prog 29 = some (.agg [.str [], .int .i64 0, .int .i64 0, .str [], .nilSlice, .int .i64 0, .int .i64 0, .str [], .nilSlice]) := by kernel_rfl
theorem fa29_0 : fI Tryz.prog 29 0 = (0, 9, true) := by kernel_rfl
theorem fa29_1 : fI Tryz.prog 29 1 = (1, 27, true) := by kernel_rfl
theorem fa29_2 : fI Tryz.prog 29 2 = (5, 27, true) := by kernel_rfl
theorem sz40 : szOf Tryz.prog 40 = some 1 := by kernel_rfl
theorem ag40 : aggB Tryz.prog 40 = some false := by kernel_rfl
theorem zv40 : zeroAV Tryz.prog 40 = some (.nilSlice) := by kernel_rfl
theorem ec40 : elemChk Tryz.prog 40 4 = true := by kernel_rfl
theorem sz42 : szOf Tryz.prog 42 = some 4 := by kernel_rfl
theorem ag42 : aggB Tryz.prog 42 = some true := by kernel_rfl
theorem zv42 : zeroAV Tryz.prog 42 = some (.agg [.int .i64 0, .int .i64 0, .str [], .nilSlice]) := by kernel_rfl
theorem fa42_0 : fI Tryz.prog 42 0 = (0, 3, true) := by kernel_rfl
theorem fa42_1 : fI Tryz.prog 42 1 = (1, 2, true) := by kernel_rfl
theorem fa42_2 : fI Tryz.prog 42 2 = (2, 9, true) := by kernel_rfl
theorem fa42_3 : fI Tryz.prog 42 3 = (3, 40, true) := by kernel_rfl
theorem sz44 : szOf Tryz.prog 44 = some 9 := by kernel_rfl
theorem ag44 : aggB Tryz.prog 44 = some true := by kernel_rfl
theorem zv44 : zeroAV Tryz.prog 44 = some (.agg [.str [], .int .i64 0, .int .i64 0, .str [], .nilSlice, .int .i64 0, .int .i64 0, .str [], .nilSlice]) := by kernel_rfl
theorem fa44_0 : fI Tryz.prog 44 0 = (0, 9, true) := by kernel_rfl
theorem fa44_1 : fI Tryz.prog 44 1 = (1, 42, true) := by kernel_rfl
theorem fa44_2 : fI Tryz.prog 44 2 = (5, 42, true) := by kernel_rfl
theorem sz292 : szOf Tryz.prog 292 = some 1 := by kernel_rfl
theorem ag292 : aggB Tryz.prog 292 = some false := by kernel_rfl
theorem zv292 : zeroAV Tryz.prog 292 = some (.nilPtr) := by kernel_rfl
theorem sz293 : szOf Tryz.prog 293 = some 4 := by kernel_rfl
theorem ag293 : aggB Tryz.prog 293 = some true := by kernel_rfl
theorem zv293 : zeroAV Tryz.prog 293 = some (.agg [.nilSlice, .int .i64 0, .nilSlice, .int .i64 0]) := by kernel_rfl
theorem fa293_0 : fI Tryz.prog 293 0 = (0, 54, true) := by kernel_rfl
theorem fa293_1 : fI Tryz.prog 293 1 = (1, 3, true) := by kernel_rfl
theorem fa293_2 : fI Tryz.prog 293 2 = (2, 57, true) := by kernel_rfl
theorem sz302 : szOf Tryz.prog 302 = some 1 := by kernel_rfl
theorem ag302 : aggB Tryz.prog 302 = some false := by kernel_rfl
theorem zv302 : zeroAV Tryz.prog 302 = some (.nilPtr) := by kernel_rfl
theorem sz304 : szOf Tryz.prog 304 = some 4 := by kernel_rfl
theorem ag304 : aggB Tryz.prog 304 = some true := by kernel_rfl
theorem zv304 : zeroAV Tryz.prog 304 = some (.agg [.nilSlice, .int .i64 0, .int .i64 0, .nilIface]) := by kernel_rfl
theorem fa304_0 : fI Tryz.prog 304 0 = (0, 125, true) := by kernel_rfl
theorem fa304_1 : fI Tryz.prog 304 1 = (1, 3, true) := by kernel_rfl
theorem fa304_2 : fI Tryz.prog 304 2 = (2, 3, true) := by kernel_rfl
theorem fa304_3 : fI Tryz.prog 304 3 = (3, 33, true) := by kernel_rfl
theorem go141 : goFn Tryz.prog 141 = true := by kernel_rfl
theorem go145 : goFn Tryz.prog 145 = true := by kernel_rfl
theorem go165 : goFn Tryz.prog 165 = true := by kernel_rfl
theorem go168 : goFn Tryz.prog 168 = true := by kernel_rfl
theorem go169 : goFn Tryz.prog 169 = true := by kernel_rfl
theorem go178 : goFn Tryz.prog 178 = true := by kernel_rfl
theorem go179 : goFn Tryz.prog 179 = true := by kernel_rfl
theorem go180 : goFn Tryz.prog 180 = true := by kernel_rfl
theorem go181 : goFn Tryz.prog 181 = true := by kernel_rfl
theorem go193 : goFn Tryz.prog 193 = true := by kernel_rfl
theorem go194 : goFn Tryz.prog 194 = true := by kernel_rfl
theorem go195 : goFn Tryz.prog 195 = true := by kernel_rfl
theorem go196 : goFn Tryz.prog 196 = true := by kernel_rfl
theorem go197 : goFn Tryz.prog 197 = true := by kernel_rfl
theorem go209 : goFn Tryz.prog 209 = true := by kernel_rfl
theorem go210 : goFn Tryz.prog 210 = true := by kernel_rfl
theorem go215 : goFn Tryz.prog 215 = true := by kernel_rfl
theorem go224 : goFn Tryz.prog 224 = true := by kernel_rfl
theorem go225 : goFn Tryz.prog 225 = true := by kernel_rfl
theorem go232 : goFn Tryz.prog 232 = true := by kernel_rfl
theorem go233 : goFn Tryz.prog 233 = true := by kernel_rfl
theorem go234 : goFn Tryz.prog 234 = true := by kernel_rfl
theorem go235 : goFn Tryz.prog 235 = true := by kernel_rfl
attribute [simp] sz25 ag25 zv25 ec25 Tryz.underlying25 sz27 ag27 zv27 fa27_0 fa27_1 fa27_2 fa27_3 Tryz.underlying27 sz29 ag29 zv29 fa29_0 fa29_1 fa29_2 Tryz.underlying29
attribute [simp] sz40 ag40 zv40 ec40 Tryz.underlying40 sz42 ag42 zv42 fa42_0 fa42_1 fa42_2 fa42_3 Tryz.underlying42 sz44 ag44 zv44 fa44_0 fa44_1 fa44_2 Tryz.underlying44
attribute [simp] sz292 ag292 zv292 Tryz.underlying292 sz293 ag293 zv293 fa293_0 fa293_1 fa293_2 Tryz.underlying293 sz302 ag302 zv302 Tryz.underlying302 sz304 ag304 zv304 fa304_0 fa304_1
attribute [simp] fa304_2 fa304_3 Tryz.underlying304 go141 go145 go165 go168 go169 go178 go179 go180 go181 go193 go194 go195 go196 go197 go209 go210 go215
attribute [simp] go224 go225 go232 go233 go234 go235
end Go.Proofs.YtejjlojfgcgopaaGreatDoor.Tx

namespace Go.Proofs.YtejjlojfgcgopaaGreatDoor.Tu
open Go.RowKit Go.Proofs.Fw
set_option maxRecDepth 100000
theorem sz49 : szOf Tryz.prog 49 = some 1 := by kernel_rfl
theorem ag49 : aggB Tryz.prog 49 = some false := by kernel_rfl
theorem zv49 : zeroAV Tryz.prog 49 = some (.nilSlice) := by kernel_rfl
theorem ec49 : elemChk Tryz.prog 49 1 = true := by kernel_rfl
theorem sz80 : szOf Tryz.prog 80 = some 2 := by kernel_rfl
theorem ag80 : aggB Tryz.prog 80 = some true := by kernel_rfl
theorem zv80 : zeroAV Tryz.prog 80 = some (.agg [.nilSlice, .int .i64 0]) := by kernel_rfl
theorem fa80_0 : fI Tryz.prog 80 0 = (0, 78, true) := by kernel_rfl
theorem fa80_1 : fI Tryz.prog 80 1 = (1, 2, true) := by kernel_rfl
theorem sz89 : szOf Tryz.prog 89 = some 4 := by kernel_rfl
theorem ag89 : aggB Tryz.prog 89 = some true := by kernel_rfl
theorem zv89 : zeroAV Tryz.prog 89 = some (.agg [.str [], .nilSlice, .int .i64 0, .int .i64 0]) := by kernel_rfl
theorem fa89_0 : fI Tryz.prog 89 0 = (0, 9, true) := by kernel_rfl
theorem fa89_1 : fI Tryz.prog 89 1 = (1, 49, true) := by kernel_rfl
theorem fa89_2 : fI Tryz.prog 89 2 = (2, 3, true) := by kernel_rfl
theorem fa89_3 : fI Tryz.prog 89 3 = (3, 2, true) := by kernel_rfl
theorem sz96 : szOf Tryz.prog 96 = some 1 := by kernel_rfl
theorem ag96 : aggB Tryz.prog 96 = some false := by kernel_rfl
theorem zv96 : zeroAV Tryz.prog 96 = some (.int .u64 0) := by kernel_rfl
theorem sz139 : szOf Tryz.prog 139 = some 1 := by kernel_rfl
theorem ag139 : aggB Tryz.prog 139 = some false := by kernel_rfl
theorem zv139 : zeroAV Tryz.prog 139 = some (.nilSlice) := by kernel_rfl
theorem ec139 : elemChk Tryz.prog 139 1 = true := by kernel_rfl
theorem sz201 : szOf Tryz.prog 201 = some 1 := by kernel_rfl
theorem ag201 : aggB Tryz.prog 201 = some false := by kernel_rfl
theorem zv201 : zeroAV Tryz.prog 201 = some (.nilMap) := by kernel_rfl
theorem go18 : goFn Tryz.prog 18 = true := by kernel_rfl
theorem go23 : goFn Tryz.prog 23 = true := by kernel_rfl
theorem go56 : goFn Tryz.prog 56 = true := by kernel_rfl
theorem go58 : goFn Tryz.prog 58 = true := by kernel_rfl
theorem go59 : goFn Tryz.prog 59 = true := by kernel_rfl
theorem go67 : goFn Tryz.prog 67 = true := by kernel_rfl
theorem go69 : goFn Tryz.prog 69 = true := by kernel_rfl
theorem go93 : goFn Tryz.prog 93 = true := by kernel_rfl
theorem go94 : goFn Tryz.prog 94 = true := by kernel_rfl
theorem go95 : goFn Tryz.prog 95 = true := by kernel_rfl
theorem go96 : goFn Tryz.prog 96 = true := by kernel_rfl
theorem go98 : goFn Tryz.prog 98 = true := by kernel_rfl
theorem go99 : goFn Tryz.prog 99 = true := by kernel_rfl
theorem go100 : goFn Tryz.prog 100 = true := by kernel_rfl
attribute [simp] sz49 ag49 zv49 ec49 Tryz.underlying49 sz80 ag80 zv80 fa80_0 fa80_1 Tryz.underlying80 sz89 ag89 zv89 fa89_0 fa89_1 fa89_2 fa89_3 Tryz.underlying89 sz96
attribute [simp] ag96 zv96 Tryz.underlying96 sz139 ag139 zv139 ec139 Tryz.underlying139 sz201 ag201 zv201 Tryz.underlying201 go18 go23 go56 go58 go59 go67 go69 go93
attribute [simp] go94 go95 go96 go98 go99 go100
end Go.Proofs.YtejjlojfgcgopaaGreatDoor.Tu

namespace Go.Proofs.YtejjlojfgcgopaaGreatDoor
open Go.RowKit Go.Proofs.Fw
theorem mixed : Tryz.prog.follows .mixedOrders = true := by kernel_rfl
def spaceCells : List AV := (List.range 256).map fun i => .int .u8 (if i = 32 ∨ (9 ≤ i ∧ i ≤ 13) then 1 else 0)
def rangeTxt : List UInt8 := [118, 97, 108, 117, 101, 32, 111, 117, 116, 32, 111, 102, 32, 114, 97, 110, 103, 101]
def rangeAV : AV := .vptr [.iface 357 (.vptr [.str rangeTxt] 0)] 0
def globT : List (Nat × AV) := [(3, .vptr spaceCells 0), (6, rangeAV)]
def envT : Env := ⟨globOf globT, fun _ _ => none, fun t => t == 156 || t == 341, fun _ => false, fun _ => false⟩
@[simp] theorem envT_soft (t : TypeId) : envT.soft t = false := by rfl
theorem methT : MethOk Tryz.prog envT := fun _ _ _ h => by cases h
theorem lowT : ∀ i, low 0 (envT.glob i) = true := low_globOf (by
  intro x hx
  simp only [globT, List.mem_cons, List.not_mem_nil, or_false] at hx
  rcases hx with rfl | rfl
  · show lowL 0 spaceCells = true
    kernel_rfl
  · rfl)
set_option maxHeartbeats 1000000 in
set_option maxRecDepth 100000 in
theorem idxByte (s : ByteArray) (c : Int) (w : World) : Calls Tryz.prog 130 #[.string s, .int .u8 c] w fun e w' => e = .returned (.int .i64 (Lib.indexByte s.data.toList c.toNat.toUInt8)) ∧ w' = w := by
  go_enter Tryz.func130, Tryz.ntmps130
  go_wp2
  rw [run_callFunc_extern Tryz.func172 (by kernel_rfl) (by kernel_rfl) (by kernel_rfl) (e := Extern.BytealgIndexByte.indexByte) (by kernel_rfl), Lib.run_indexByteString]
  simp only [Result.andThen]
  rw [Oper.upon_value]
  go_wp2
  go_ret
  exact ⟨rfl, rfl⟩
def oIdx : Orc := fun f args H => if f = 130 then (match args with
  | [.str s, .int .u8 c] => some (.int .i64 (Lib.indexByte s c.toNat.toUInt8), H)
  | _ => none) else none
theorem oIdx_sound : Sound Tryz.prog envT oIdx := Sound.pure fun f args H v H' h => by
  unfold oIdx at h
  split at h
  · rename_i hf
    split at h
    · rename_i s c
      injection h with h
      simp only [Prod.mk.injEq] at h
      obtain ⟨rfl, rfl⟩ := h
      subst hf
      refine ⟨rfl, CS.of_calls fun g w cargs hA => ?_⟩
      simp only [RepL, RepV] at hA
      obtain ⟨_, _, rfl, rfl, _, _, rfl, rfl, rfl⟩ := hA
      refine (idxByte _ c w).mono fun e w' => ?_
      rintro ⟨rfl, rfl⟩
      exact ⟨_, rfl, fun g => by simp only [RepV], rfl⟩
    · cases h
  · cases h
def keyTxt : List UInt8 := [105,110,116,101,103,101,114,32,100,111,32,101,110,100,32,105,102,32,116,104,101,110,32,101,108,115,101,32,114,101,97,100,32,112,114,105,110,116]
def keysL : List (List UInt8) := [[105,110,116,101,103,101,114],[100,111],[101,110,100],[105,102],[116,104,101,110],[101,108,115,101],[114,101,97,100],[112,114,105,110,116]]
def keysAV : AV := .slice .unk 1 8 (keysL.map .str)
def fzT : FuncId → Nat := fun f => if f = 174 then 3 else 0
set_option maxRecDepth 100000 in
theorem fields_run : run fzT oIdx Tryz.prog envT 100 6 174 [.str keyTxt] [] = some (keysAV, []) := by kernel_rfl
end Go.Proofs.YtejjlojfgcgopaaGreatDoor
namespace Go.Proofs.YtejjlojfgcgopaaGreatDoor
open Go.RowKit Go.Proofs.Fw
def oKeys : Orc := callS 174 fun s => if s = keyTxt then some keysAV else none
def base1 : Orc := orElse oKeys oIdx
theorem base1_sound : Sound Tryz.prog envT base1 := Sound.orElse (Sound.callS lowT fun s v h => by
  split at h
  · rename_i hs
    injection h with h
    subst hs; subst h
    exact (run_sound oIdx_sound methT mixed 100 6 _ _ _ _ _ fields_run).1
  · cases h) oIdx_sound
end Go.Proofs.YtejjlojfgcgopaaGreatDoor
