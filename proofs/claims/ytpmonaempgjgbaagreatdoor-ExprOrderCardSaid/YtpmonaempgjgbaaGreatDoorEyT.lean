/- furrowlaw2.Tells, where it is true: an error that tells just the parts and the number. -/
import Derived.Test.YtpmonaempgjgbaaGreatDoorTnD
import Derived.Test.YtpmonaempgjgbaaGreatDoorTu
import Derived.Test.YtpmonaempgjgbaaGreatDoorFwG5
set_option linter.unusedSimpArgs false
set_option linter.unusedVariables false
namespace Go.Proofs.YtpmonaempgjgbaaGreatDoor
open Go.RowKit Go.Proofs.Fw
set_option maxRecDepth 100000
set_option maxHeartbeats 4000000
-- 

def asOut (a : List AV) (H : AH) : Option (AV × AH) :=
  match a with
  | [.iface t x, .iface tt (.ptr id 0)] => (match H.at id with
    | some (.box [_]) => if t = 135 ∧ tt = 137 then (match x with | .vptr cs 0 => some (.bool true, H.set id (some (.box [.vptr cs 0]))) | _ => none)
      else if t = 132 ∧ tt = 142 then (match x with | .int .i64 n => some (.bool true, H.set id (some (.box [.int .i64 n]))) | _ => none)
      else if t = 132 ∧ tt = 137 then (match x with | .int .i64 _ => some (.bool false, H) | _ => none) else none
    | _ => none)
  | _ => none

theorem at_set_none {H : AH} {i j : Nat} {e x : Ent} (hx : H.at i = some x) (hj : H.at j = none) : AH.at (H.set i (some e)) j = none := by
  have hij : i ≠ j := fun h => by subst h; rw [hx] at hj; cases hj
  unfold AH.at at hj ⊢
  rw [List.getElem?_set_ne hij]
  exact hj

theorem asOut_ok {a : List AV} {H H' : AH} {v : AV} (h : asOut a H = some (v, H')) : CS Tryz.prog envN 62 a H v H' ∧ H.length ≤ H'.length ∧ ∀ id, id < H.length → H.at id = none → H'.at id = none := by
  unfold asOut at h
  split at h
  · split at h
    · rename_i t x tt id y hH
      split at h
      · rename_i ht
        obtain ⟨rfl, rfl⟩ := ht
        split at h
        · injection h with h
          simp only [Prod.mk.injEq] at h
          obtain ⟨rfl, rfl⟩ := h
          exact ⟨asF_cs hH, by simp, fun j _ hj => at_set_none hH hj⟩
        · cases h
      · split at h
        · rename_i ht
          obtain ⟨rfl, rfl⟩ := ht
          split at h
          · injection h with h
            simp only [Prod.mk.injEq] at h
            obtain ⟨rfl, rfl⟩ := h
            exact ⟨asN_cs hH, by simp, fun j _ hj => at_set_none hH hj⟩
          · cases h
        · split at h
          · rename_i ht
            obtain ⟨rfl, rfl⟩ := ht
            split at h
            · injection h with h
              simp only [Prod.mk.injEq] at h
              obtain ⟨rfl, rfl⟩ := h
              exact ⟨asX_cs, Nat.le_refl _, fun _ _ hj => hj⟩
            · cases h
          · cases h
    · cases h
  · cases h

open Classical in
/-- What Tells asks. -/
noncomputable def oTl (l : List (List UInt8 × Int)) (c : Int) : Orc := fun f a H =>
  if f = 61 then (if a = [errAV l c, .iface 132 (.int .i64 c)] then some (.bool true, H) else none) else if f = 62 then asOut a H else none
theorem oTl_sound (l : List (List UInt8 × Int)) (c : Int) : Sound Tryz.prog envN (oTl l c) := by
  intro f a H v H' h
  unfold oTl at h
  split at h
  · rename_i hf
    subst hf
    split at h
    · rename_i ha
      subst ha
      injection h with h
      simp only [Prod.mk.injEq] at h
      obtain ⟨rfl, rfl⟩ := h
      have := Is_cs l c c H
      rw [show (c == c) = true by simp] at this
      exact ⟨this, Nat.le_refl _, fun _ _ hj => hj⟩
    · cases h
  · split at h
    · rename_i hf
      subst hf
      exact asOut_ok h
    · cases h
theorem oTl_cx (l : List (List UInt8 × Int)) (c : Int) : Cx (oTl l c) Tryz.prog envN := ⟨oTl_sound l c, methNOk, mixed⟩
theorem oTl_is (l : List (List UInt8 × Int)) (c : Int) (H : AH) : oTl l c 61 [errAV l c, .iface 132 (.int .i64 c)] H = some (.bool true, H) := by simp [oTl]
theorem oTl_as (l : List (List UInt8 × Int)) (c : Int) (a : List AV) (H : AH) : oTl l c 62 a H = asOut a H := by simp [oTl]

def partCells : List (List UInt8 × Int) → List AV
  | [] => []
  | (w, p) :: l => .str w :: .int .i64 p :: partCells l

@[simp] theorem ids_err : ∀ (l : List (List UInt8 × Int)) (c : Int), idsOf (errAV l c) = []
  | [], c => rfl
  | (w, p) :: l, c => by simp [errAV, idsOf, idsOfL, ids_err l c]
@[simp high] theorem clos0 : clos [some (.box [.nilPtr])] 4 [0] = [0] := by
  have h : boxIdsL [some (.box [.nilPtr])] [0] = [] := by simp [boxIdsL, boxIds, AH.at, idsOf, idsOfL]
  simp [clos, h]
@[simp high] theorem mask0 : mask [some (.box [.nilPtr])] [0] = [some (.box [.nilPtr])] := by simp [mask, maskFrom]
@[simp high] theorem clos1 (w : List UInt8) (p : Int) (l : List (List UInt8 × Int)) (c : Int) : clos [some (.box [.vptr [.str w, .int .i64 p, errAV l c] 0])] 4 [0] = [0] := by
  have h : boxIdsL [some (.box [.vptr [.str w, .int .i64 p, errAV l c] 0])] [0] = [] := by simp [boxIdsL, boxIds, AH.at, idsOf, idsOfL]
  simp [clos, h]
@[simp high] theorem mask1 (x : AV) : mask [some (.box [x])] [0] = [some (.box [x])] := by simp [mask, maskFrom]

theorem partCells_get : ∀ (l : List (List UInt8 × Int)) (i : Nat) {w : List UInt8} {p : Int} {r : List (List UInt8 × Int)}, l.drop i = (w, p) :: r → (partCells l)[i * 2]? = some (.str w) ∧ (partCells l)[i * 2 + 1]? = some (.int .i64 p)
  | [], i, w, p, r, h => by simp at h
  | (a, b) :: l, 0, w, p, r, h => by
    simp only [List.drop_zero, List.cons.injEq, Prod.mk.injEq] at h
    obtain ⟨⟨rfl, rfl⟩, _⟩ := h
    simp [partCells]
  | (a, b) :: l, i + 1, w, p, r, h => by
    have := partCells_get l i (by simpa using h)
    rw [show (i + 1) * 2 = i * 2 + 1 + 1 by omega]
    simpa [partCells] using this

def TlI (l : List (List UInt8 × Int)) (c : Int) (sv : AV) (k : Nat) (t : List AV) (H : AH) : Prop :=
  ∃ i, i + k = l.length ∧ t = mkT 88 [(0, errAV (l.drop i) c), (3, .vptr [sv, .int .i64 c] 0), (5, .int .i64 ((i : Nat) : Int))] ∧ H = []

theorem tells_cs (l : List (List UInt8 × Int)) (c : Int) (hc : c ≠ 0) (hl : l.length < 1000) (ow : Own) (how : ow = .unk ∨ ow = .full) (H : AH) :
    CS Tryz.prog envN 21 [errAV l c, .agg [.slice ow 2 l.length (partCells l), .int .i64 c]] H (.bool true) H := by
  have hplow : lowL 0 (partCells l) = true := by
    clear hl
    induction l with
    | nil => rfl
    | cons x l ih => obtain ⟨w, p⟩ := x; simp [partCells, ih]
  have hsl : low 0 (.slice ow 2 l.length (partCells l)) = true := by rcases how with rfl | rfl <;> simp [hplow]
  clear how
  refine CS.tr0 lowN Tryz.func21 (by kernel_rfl) 0 (by simp [Tryz.f21]) (fun B hB hG => ?_) rfl (by simp [errAV_low, hsl]) H
  refine Tr.go (oTl_cx l c) hG (by kernel_rfl) ?_
  simp [Tryz.f21, hc, oTl_is]
  refine Tr.less (t' := mkT 88 [(0, errAV (l.drop 0) c), (3, .vptr [.slice ow 2 l.length (partCells l), .int .i64 c] 0), (5, .int .i64 ((0 : Nat) : Int))]) (H' := []) (Less.mk0 hB (by simp [errAV_low, hsl])) (Tr.loop (TlI l c (.slice ow 2 l.length (partCells l))) l.length ⟨0, by omega, rfl, rfl⟩ ?_)
  rintro k t H ⟨i, hik, rfl, rfl⟩
  refine Tr.seqD rfl ?_
  refine Tr.go (oTl_cx l c) hG (by kernel_rfl) ?_
  cases k with
  | zero =>
    obtain rfl : i = l.length := by omega
    simp [Blk_exit, errAV, oTl_as, asOut, AH.at]
  | succ k =>
    have e1 : i < l.length := by omega
    have e2 : (i : Int) < l.length := by omega
    obtain ⟨w, p, hd⟩ : ∃ w p, l.drop i = (w, p) :: l.drop (i + 1) := ⟨l[i].1, l[i].2, List.drop_eq_getElem_cons e1⟩
    simp [e2]
    refine Tr.seqD rfl (Tr.blockD rfl (Tr.seqD rfl ?_))
    refine Tr.go (oTl_cx l c) hG (by kernel_rfl) ?_
    simp
    rw [hd]
    refine Tr.seqD rfl (Tr.seqD rfl (Tr.solid (oTl_cx l c) hG 2 (by kernel_rfl) ?_))
    simp [errAV]
    refine ⟨_, .bool true, [(0, .box [.vptr [.str w, .int .i64 p, errAV (l.drop (i + 1)) c] 0])], [0], rfl, ?_, ?_⟩
    · simp [dstep, stepU, callee, oTl_as, asOut, AH.at]
    · obtain ⟨pc0, pc1⟩ := partCells_get l i hd
      simp [applyUps, errAV, e1, pc0, pc1]
      refine Tr.go (oTl_cx l c) hG (by kernel_rfl) ?_
      simp
      refine Tr.go (oTl_cx l c) hG (by kernel_rfl) ?_
      simp
      refine Tr.go (oTl_cx l c) hG (by kernel_rfl) ?_
      have w1 : IntKind.i64.wrap ((i : Int) + 1) = (i : Int) + 1 := wrap_i64 (by omega) (by omega)
      simp [w1]
      exact ⟨k, by omega, _, _, Less.mk0 (l' := [(0, errAV (l.drop (i + 1)) c), (3, .vptr [.slice ow 2 l.length (partCells l), .int .i64 c] 0), (5, .int .i64 ((i + 1 : Nat) : Int))]) hB (by simp [errAV_low, hsl]), ⟨i + 1, by omega, rfl, rfl⟩⟩
end Go.Proofs.YtpmonaempgjgbaaGreatDoor
