/- furrowlaw2.Tells, where it is true: an error that tells just .. Facts on the types of this program, and which functions are  -/
import Derived.Test.YtejjlojfgcgopaaGreatDoorZ10
import Derived.Test.YtejjlojfgcgopaaGreatDoorZ7
import Derived.Test.YtejjlojfgcgopaaGreatDoorZ5
import Derived.Test.YtejjlojfgcgopaaGreatDoorZ11
import Derived.Test.YtejjlojfgcgopaaGreatDoorZ13
import Derived.Test.YtejjlojfgcgopaaGreatDoorZ9
import Derived.Test.YtejjlojfgcgopaaGreatDoorZ6
set_option linter.unusedSimpArgs false
set_option linter.unusedVariables false
namespace Go.Proofs.YtejjlojfgcgopaaGreatDoor
open Go.RowKit Go.Proofs.Fw
set_option maxRecDepth 100000
set_option maxHeartbeats 4000000
def asOut (a : List AV) (H : AH) : Option (AV × AH) :=
  match a with
  | [.iface t x, .iface tt (.ptr id 0)] => (match H.at id with
    | some (.box [_]) => if t = 152 ∧ tt = 154 then (match x with | .vptr cs 0 => some (.bool true, H.set id (some (.box [.vptr cs 0]))) | _ => none)
      else if t = 134 ∧ tt = 159 then (match x with | .int .i64 n => some (.bool true, H.set id (some (.box [.int .i64 n]))) | _ => none)
      else if t = 134 ∧ tt = 154 then (match x with | .int .i64 _ => some (.bool false, H) | _ => none) else none
    | _ => none)
  | _ => none
theorem at_set_none {H : AH} {i j : Nat} {e x : Ent} (hx : H.at i = some x) (hj : H.at j = none) : AH.at (H.set i (some e)) j = none := by
  have hij : i ≠ j := fun h => by subst h; rw [hx] at hj; cases hj
  unfold AH.at at hj ⊢
  rw [List.getElem?_set_ne hij]
  exact hj
theorem asOut_ok {a : List AV} {H H' : AH} {v : AV} (h : asOut a H = some (v, H')) : CS Tryz.prog envN 71 a H v H' ∧ H.length ≤ H'.length ∧ ∀ id, id < H.length → H.at id = none → H'.at id = none := by
  unfold asOut at h
  split at h
  · split at h
    · rename_i t x tt id y hH
      split at h
      · rename_i ht
        obtain ⟨rfl, rfl⟩ := ht
        split at h
        · injection h with h
          simp only [Prod.mk.injEq] at h
          obtain ⟨rfl, rfl⟩ := h
          exact ⟨asF_cs hH, by simp, fun j _ hj => at_set_none hH hj⟩
        · cases h
      · split at h
        · rename_i ht
          obtain ⟨rfl, rfl⟩ := ht
          split at h
          · injection h with h
            simp only [Prod.mk.injEq] at h
            obtain ⟨rfl, rfl⟩ := h
            exact ⟨asN_cs hH, by simp, fun j _ hj => at_set_none hH hj⟩
          · cases h
        · split at h
          · rename_i ht
            obtain ⟨rfl, rfl⟩ := ht
            split at h
            · injection h with h
              simp only [Prod.mk.injEq] at h
              obtain ⟨rfl, rfl⟩ := h
              exact ⟨asX_cs, Nat.le_refl _, fun _ _ hj => hj⟩
            · cases h
          · cases h
    · cases h
  · cases h
open Classical in
noncomputable def oTl (l : List (List UInt8 × Int)) (c : Int) : Orc := fun f a H =>
  if f = 70 then (if a = [errAV l c, .iface 134 (.int .i64 c)] then some (.bool true, H) else none) else if f = 71 then asOut a H else none
theorem oTl_sound (l : List (List UInt8 × Int)) (c : Int) : Sound Tryz.prog envN (oTl l c) := by
  intro f a H v H' h
  unfold oTl at h
  split at h
  · rename_i hf
    subst hf
    split at h
    · rename_i ha
      subst ha
      injection h with h
      simp only [Prod.mk.injEq] at h
      obtain ⟨rfl, rfl⟩ := h
      have := Is_cs l c c H
      rw [show (c == c) = true by simp] at this
      exact ⟨this, Nat.le_refl _, fun _ _ hj => hj⟩
    · cases h
  · split at h
    · rename_i hf
      subst hf
      exact asOut_ok h
    · cases h
theorem oTl_cx (l : List (List UInt8 × Int)) (c : Int) : Cx (oTl l c) Tryz.prog envN := ⟨oTl_sound l c, methNOk, mixed⟩
theorem oTl_is (l : List (List UInt8 × Int)) (c : Int) (H : AH) : oTl l c 70 [errAV l c, .iface 134 (.int .i64 c)] H = some (.bool true, H) := by simp [oTl]
theorem oTl_as (l : List (List UInt8 × Int)) (c : Int) (a : List AV) (H : AH) : oTl l c 71 a H = asOut a H := by simp [oTl]
def partCells : List (List UInt8 × Int) → List AV
  | [] => []
  | (w, p) :: l => .str w :: .int .i64 p :: partCells l
@[simp] theorem ids_err : ∀ (l : List (List UInt8 × Int)) (c : Int), idsOf (errAV l c) = []
  | [], c => rfl
  | (w, p) :: l, c => by simp [errAV, idsOf, idsOfL, ids_err l c]
@[simp high] theorem clos0 : clos [some (.box [.nilPtr])] 4 [0] = [0] := by
  have h : boxIdsL [some (.box [.nilPtr])] [0] = [] := by simp [boxIdsL, boxIds, AH.at, idsOf, idsOfL]
  simp [clos, h]
@[simp high] theorem mask0 : mask [some (.box [.nilPtr])] [0] = [some (.box [.nilPtr])] := by simp [mask, maskFrom]
@[simp high] theorem clos1 (w : List UInt8) (p : Int) (l : List (List UInt8 × Int)) (c : Int) : clos [some (.box [.vptr [.str w, .int .i64 p, errAV l c] 0])] 4 [0] = [0] := by
  have h : boxIdsL [some (.box [.vptr [.str w, .int .i64 p, errAV l c] 0])] [0] = [] := by simp [boxIdsL, boxIds, AH.at, idsOf, idsOfL]
  simp [clos, h]
@[simp high] theorem mask1 (x : AV) : mask [some (.box [x])] [0] = [some (.box [x])] := by simp [mask, maskFrom]
theorem partCells_get : ∀ (l : List (List UInt8 × Int)) (i : Nat) {w : List UInt8} {p : Int} {r : List (List UInt8 × Int)}, l.drop i = (w, p) :: r → (partCells l)[i * 2]? = some (.str w) ∧ (partCells l)[i * 2 + 1]? = some (.int .i64 p)
  | [], i, w, p, r, h => by simp at h
  | (a, b) :: l, 0, w, p, r, h => by
    simp only [List.drop_zero, List.cons.injEq, Prod.mk.injEq] at h
    obtain ⟨⟨rfl, rfl⟩, _⟩ := h
    simp [partCells]
  | (a, b) :: l, i + 1, w, p, r, h => by
    have := partCells_get l i (by simpa using h)
    rw [show (i + 1) * 2 = i * 2 + 1 + 1 by omega]
    simpa [partCells] using this
def TlI (l : List (List UInt8 × Int)) (c : Int) (sv : AV) (k : Nat) (t : List AV) (H : AH) : Prop :=
  ∃ i, i + k = l.length ∧ t = mkT 88 [(0, errAV (l.drop i) c), (3, .vptr [sv, .int .i64 c] 0), (5, .int .i64 ((i : Nat) : Int))] ∧ H = []
theorem tells_cs (l : List (List UInt8 × Int)) (c : Int) (hc : c ≠ 0) (hl : l.length < 1000) (ow : Own) (how : ow = .unk ∨ ow = .full) (H : AH) :
    CS Tryz.prog envN 23 [errAV l c, .agg [.slice ow 2 l.length (partCells l), .int .i64 c]] H (.bool true) H := by
  have hplow : lowL 0 (partCells l) = true := by
    clear hl
    induction l with
    | nil => rfl
    | cons x l ih => obtain ⟨w, p⟩ := x; simp [partCells, ih]
  have hsl : low 0 (.slice ow 2 l.length (partCells l)) = true := by rcases how with rfl | rfl <;> simp [hplow]
  clear how
  refine CS.tr0 lowN Tryz.func23 (by kernel_rfl) 0 (by simp [Tryz.f23]) (fun B hB hG => ?_) rfl (by simp [errAV_low, hsl]) H
  refine Tr.go (oTl_cx l c) hG (by kernel_rfl) ?_
  simp [Tryz.f23, hc, oTl_is]
  refine Tr.less (t' := mkT 88 [(0, errAV (l.drop 0) c), (3, .vptr [.slice ow 2 l.length (partCells l), .int .i64 c] 0), (5, .int .i64 ((0 : Nat) : Int))]) (H' := []) (Less.mk0 hB (by simp [errAV_low, hsl])) (Tr.loop (TlI l c (.slice ow 2 l.length (partCells l))) l.length ⟨0, by omega, rfl, rfl⟩ ?_)
  rintro k t H ⟨i, hik, rfl, rfl⟩
  refine Tr.seqD rfl ?_
  refine Tr.go (oTl_cx l c) hG (by kernel_rfl) ?_
  cases k with
  | zero =>
    obtain rfl : i = l.length := by omega
    simp [Blk_exit, errAV, oTl_as, asOut, AH.at]
  | succ k =>
    have e1 : i < l.length := by omega
    have e2 : (i : Int) < l.length := by omega
    obtain ⟨w, p, hd⟩ : ∃ w p, l.drop i = (w, p) :: l.drop (i + 1) := ⟨l[i].1, l[i].2, List.drop_eq_getElem_cons e1⟩
    simp [e2]
    refine Tr.seqD rfl (Tr.blockD rfl (Tr.seqD rfl ?_))
    refine Tr.go (oTl_cx l c) hG (by kernel_rfl) ?_
    simp
    rw [hd]
    refine Tr.seqD rfl (Tr.seqD rfl (Tr.solid (oTl_cx l c) hG 2 (by kernel_rfl) ?_))
    simp [errAV]
    refine ⟨_, .bool true, [(0, .box [.vptr [.str w, .int .i64 p, errAV (l.drop (i + 1)) c] 0])], [0], rfl, ?_, ?_⟩
    · simp [dstep, stepU, callee, oTl_as, asOut, AH.at]
    · obtain ⟨pc0, pc1⟩ := partCells_get l i hd
      simp [applyUps, errAV, e1, pc0, pc1]
      refine Tr.go (oTl_cx l c) hG (by kernel_rfl) ?_
      simp
      refine Tr.go (oTl_cx l c) hG (by kernel_rfl) ?_
      simp
      refine Tr.go (oTl_cx l c) hG (by kernel_rfl) ?_
      have w1 : IntKind.i64.wrap ((i : Int) + 1) = (i : Int) + 1 := wrap_i64 (by omega) (by omega)
      simp [w1]
      exact ⟨k, by omega, _, _, Less.mk0 (l' := [(0, errAV (l.drop (i + 1)) c), (3, .vptr [.slice ow 2 l.length (partCells l), .int .i64 c] 0), (5, .int .i64 ((i + 1 : Nat) : Int))]) hB (by simp [errAV_low, hsl]), ⟨i + 1, by omega, rfl, rfl⟩⟩
end Go.Proofs.YtejjlojfgcgopaaGreatDoor
namespace Go.Proofs.YtejjlojfgcgopaaGreatDoor
set_option maxHeartbeats 1000000
def wdsIn : Nat → Nat → List Wd → Prop
  | p, e, [] => p ≤ e
  | p, e, w :: r => p ≤ w.at_ ∧ wdsIn (w.at_ + w.text.length) e r
theorem lex_in : ∀ (n : Nat) (s : List UInt8) (p : Nat) (b : Bool) (l : List Wd), s.length < n → lex n s p b = .ok l → wdsIn p (p + s.length) l ∧ l.length ≤ s.length := by
  intro n
  induction n with
  | zero => intro s p b l h; omega
  | succ n ih =>
    intro s p b l hn h
    cases s with
    | nil =>
      simp only [lex] at h
      injection h with h
      subst h
      exact ⟨Nat.le_refl _, Nat.le_refl _⟩
    | cons c r =>
      simp only [List.length_cons] at hn ⊢
      cases hb : isBlank c with
      | true =>
        simp only [lex, hb, if_true] at h
        obtain ⟨h1, h2⟩ := ih r (p + 1) false l (by omega) h
        refine ⟨?_, by omega⟩
        rw [show p + (r.length + 1) = p + 1 + r.length by omega]
        cases l with
        | nil => have : p + 1 ≤ _ := h1; show p ≤ _; omega
        | cons w l => exact ⟨by have := h1.1; omega, h1.2⟩
      | false =>
        rw [lex_word _ _ _ _ _ hb] at h
        split at h
        · cases h
        · rename_i he
          have hp := wordOf_pos (r := r) (wordErr_zero (by simpa using he))
          have hle := wordOf_le c r
          simp only [List.length_cons] at hle
          cases hx : lex n ((c :: r).drop (wordOf (c :: r)).1.2.1.length) (p + (wordOf (c :: r)).1.2.1.length) ((wordOf (c :: r)).1.1 == 2) with
          | error x => rw [hx] at h; cases h
          | ok l' =>
            rw [hx] at h
            simp only [behind, List.singleton_append] at h
            injection h with h
            subst h
            obtain ⟨h1, h2⟩ := ih _ _ _ l' (by rw [List.length_drop, List.length_cons]; omega) hx
            rw [List.length_drop, List.length_cons] at h1 h2
            refine ⟨⟨Nat.le_refl _, ?_⟩, by simp only [List.length_cons]; omega⟩
            rw [show p + (r.length + 1) = p + (wordOf (c :: r)).1.2.1.length + (r.length + 1 - (wordOf (c :: r)).1.2.1.length) by omega]
            exact h1
end Go.Proofs.YtejjlojfgcgopaaGreatDoor
namespace Go.Proofs.YtejjlojfgcgopaaGreatDoor
open Go.RowKit Go.Proofs.Fw
set_option maxRecDepth 100000
set_option maxHeartbeats 4000000
@[simp] theorem ids_nothing : idsOf AV.nothing = [] := nrfl rfl
theorem wdCells_inj {a b : Wd} (h : wdCells a = wdCells b) : a = b := by
  obtain ⟨k, s, p, n⟩ := a
  obtain ⟨k', s', p', n'⟩ := b
  simp only [wdCells, List.cons.injEq, AV.int.injEq, AV.str.injEq, true_and, and_true] at h
  obtain ⟨h1, h2, h3, h4⟩ := h
  have e1 : k = k' := by omega
  have e2 : p = p' := by omega
  have e3 : n = n' := by omega
  rw [e1, h2, e2, e3]
theorem wdsCells_inj : ∀ {a b : List Wd}, wdsCells a = wdsCells b → a = b
  | [], [], _ => rfl
  | [], x :: b, h => by
    have hc : wdsCells (x :: b) = wdCells x ++ wdsCells b := rfl
    rw [hc] at h
    simp [wdCells, wdsCells] at h
  | x :: a, [], h => by
    have hc : wdsCells (x :: a) = wdCells x ++ wdsCells a := rfl
    rw [hc] at h
    simp [wdCells, wdsCells] at h
  | x :: a, y :: b, h => by
    have hc : wdsCells (x :: a) = wdCells x ++ wdsCells a := rfl
    have hd : wdsCells (y :: b) = wdCells y ++ wdsCells b := rfl
    rw [hc, hd] at h
    have := List.append_inj h rfl
    rw [wdCells_inj this.1, wdsCells_inj this.2]
theorem wdsAV_inj {a b : List Wd} (h : wdsAV a = wdsAV b) : a = b := by
  unfold wdsAV at h
  split at h
  · split at h
    · rename_i h1 h2; rw [h1, h2]
    · cases h
  · split at h
    · cases h
    · injection h with _ _ _ h
      exact wdsCells_inj h
def parseT (x : Ex × Nat × Option (Nat × Nat)) : AV := .tup [.agg (tC x.1.tn), .int .i64 x.2.1, eAV x.2.2]
def condT (c : List UInt8 × Ex × Ex) : AV := .agg (.str c.1 :: (tC c.2.1.tn ++ tC c.2.2.tn))
def parseCT (x : (List UInt8 × Ex × Ex) × Nat × Option (Nat × Nat)) : AV := .tup [condT x.1, .int .i64 x.2.1, eAV x.2.2]
theorem rep_exAV (g : Gh) (e : Ex) (v : Value) (h : RepV g (exAV e) v) : RepV g (.agg (tC e.tn)) v := by
  unfold exAV at h
  simp only [RepV] at h ⊢
  obtain ⟨vs, rfl, h⟩ := h
  exact ⟨vs, rfl, rep_tn g e vs h⟩
theorem rep_cond (g : Gh) (c : List UInt8 × Ex × Ex) (v : Value) (h : RepV g (condAV c) v) : RepV g (condT c) v := by
  unfold condAV at h
  unfold condT
  simp only [RepV] at h ⊢
  obtain ⟨vs, rfl, u, us, rfl, h1, h2⟩ := h
  obtain ⟨v1, v2, rfl, h3, h4⟩ := repL_append2 h2
  exact ⟨_, rfl, u, _, rfl, h1, (rep_tn g _ v1 h3).append (rep_tn g _ v2 h4)⟩
theorem parseT_cs (ts : List Wd) (hts : ts.length < 1000000) (H : AH) : CS Tryz.prog envF 145 [wdsAV ts] H (parseT (parseX ts)) H := CS.toF (CS.weak (v' := parseT (parseX ts)) (parse_cs ts hts H) fun g cv h => by
  unfold parseAV at h
  unfold parseT
  simp only [RepV] at h ⊢
  obtain ⟨vs, rfl, u, us, rfl, h1, h2⟩ := h
  exact ⟨_, rfl, u, us, rfl, rep_exAV g _ _ h1, h2⟩)
theorem parseCT_cs (ts : List Wd) (hts : ts.length < 1000000) (H : AH) : CS Tryz.prog envF 141 [wdsAV ts] H (parseCT (parseC ts)) H := CS.toF (CS.weak (v' := parseCT (parseC ts)) (parsec_cs ts hts H) fun g cv h => by
  unfold parseCAV at h
  unfold parseCT
  simp only [RepV] at h ⊢
  obtain ⟨vs, rfl, u, us, rfl, h1, h2⟩ := h
  exact ⟨_, rfl, u, us, rfl, rep_cond g _ _ h1, h2⟩)
theorem lex_count {s : List UInt8} {l : List Wd} (hs : s.length < 1000000) (h : lex (s.length + 1) s 0 false = .ok l) : l.length < 1000000 := by
  have := (lex_in _ _ _ _ _ (by omega) h).2
  omega
end Go.Proofs.YtejjlojfgcgopaaGreatDoor
namespace Go.Proofs.YtejjlojfgcgopaaGreatDoor
open Go.RowKit Go.Proofs.Fw
set_option maxRecDepth 100000
set_option maxHeartbeats 4000000
end Go.Proofs.YtejjlojfgcgopaaGreatDoor

namespace Go.Proofs.YtejjlojfgcgopaaGreatDoor.Tp
open Go.RowKit Go.Proofs.Fw
set_option maxRecDepth 100000
theorem sz24 : szOf Tryz.prog 24 = some 1 := by kernel_rfl
theorem ag24 : aggB Tryz.prog 24 = some false := by kernel_rfl
theorem zv24 : zeroAV Tryz.prog 24 = some (.nilSlice) := by kernel_rfl
theorem ec24 : elemChk Tryz.prog 24 2 = true := by kernel_rfl
theorem sz31 : szOf Tryz.prog 31 = some 29 := by kernel_rfl
theorem ag31 : aggB Tryz.prog 31 = some true := by kernel_rfl
theorem zv31 : zeroAV Tryz.prog 31 = some (.agg [.int .i64 0, .nilSlice, .int .i64 0, .int .i64 0, .str [], .nilSlice, .int .i64 0, .int .i64 0, .str [], .nilSlice, .str [], .int .i64 0, .int .i64 0, .str [], .nilSlice, .int .i64 0, .int .i64 0, .str [], .nilSlice, .str [], .int .i64 0, .int .i64 0, .str [], .nilSlice, .int .i64 0, .int .i64 0, .str [], .nilSlice, .int .i64 0]) := by kernel_rfl
theorem fa31_0 (id off : Nat) : afieldAddr Tryz.prog 31 (.ptr id off) 0 = some (.ptr id (off + 0)) := by kernel_rfl
theorem fv31_0 (cs : List AV) (off : Nat) : afieldAddr Tryz.prog 31 (.vptr cs off) 0 = some (.vptr cs (off + 0)) := by kernel_rfl
theorem fl31_0 (cs : List AV) : afield Tryz.prog 31 (.agg cs) 0 = ldAt Tryz.prog 3 cs 0 := by kernel_rfl
theorem fa31_1 (id off : Nat) : afieldAddr Tryz.prog 31 (.ptr id off) 1 = some (.ptr id (off + 1)) := by kernel_rfl
theorem fv31_1 (cs : List AV) (off : Nat) : afieldAddr Tryz.prog 31 (.vptr cs off) 1 = some (.vptr cs (off + 1)) := by kernel_rfl
theorem fl31_1 (cs : List AV) : afield Tryz.prog 31 (.agg cs) 1 = ldAt Tryz.prog 24 cs 1 := by kernel_rfl
theorem fa31_2 (id off : Nat) : afieldAddr Tryz.prog 31 (.ptr id off) 2 = some (.ptr id (off + 2)) := by kernel_rfl
theorem fv31_2 (cs : List AV) (off : Nat) : afieldAddr Tryz.prog 31 (.vptr cs off) 2 = some (.vptr cs (off + 2)) := by kernel_rfl
theorem fl31_2 (cs : List AV) : afield Tryz.prog 31 (.agg cs) 2 = ldAt Tryz.prog 27 cs 2 := by kernel_rfl
theorem fa31_3 (id off : Nat) : afieldAddr Tryz.prog 31 (.ptr id off) 3 = some (.ptr id (off + 6)) := by kernel_rfl
theorem fv31_3 (cs : List AV) (off : Nat) : afieldAddr Tryz.prog 31 (.vptr cs off) 3 = some (.vptr cs (off + 6)) := by kernel_rfl
theorem fl31_3 (cs : List AV) : afield Tryz.prog 31 (.agg cs) 3 = ldAt Tryz.prog 27 cs 6 := by kernel_rfl
theorem fa31_4 (id off : Nat) : afieldAddr Tryz.prog 31 (.ptr id off) 4 = some (.ptr id (off + 10)) := by kernel_rfl
theorem fv31_4 (cs : List AV) (off : Nat) : afieldAddr Tryz.prog 31 (.vptr cs off) 4 = some (.vptr cs (off + 10)) := by kernel_rfl
theorem fl31_4 (cs : List AV) : afield Tryz.prog 31 (.agg cs) 4 = ldAt Tryz.prog 29 cs 10 := by kernel_rfl
theorem fa31_5 (id off : Nat) : afieldAddr Tryz.prog 31 (.ptr id off) 5 = some (.ptr id (off + 19)) := by kernel_rfl
theorem fv31_5 (cs : List AV) (off : Nat) : afieldAddr Tryz.prog 31 (.vptr cs off) 5 = some (.vptr cs (off + 19)) := by kernel_rfl
theorem fl31_5 (cs : List AV) : afield Tryz.prog 31 (.agg cs) 5 = ldAt Tryz.prog 9 cs 19 := by kernel_rfl
theorem fa31_6 (id off : Nat) : afieldAddr Tryz.prog 31 (.ptr id off) 6 = some (.ptr id (off + 20)) := by kernel_rfl
theorem fv31_6 (cs : List AV) (off : Nat) : afieldAddr Tryz.prog 31 (.vptr cs off) 6 = some (.vptr cs (off + 20)) := by kernel_rfl
theorem fl31_6 (cs : List AV) : afield Tryz.prog 31 (.agg cs) 6 = ldAt Tryz.prog 27 cs 20 := by kernel_rfl
theorem fa31_7 (id off : Nat) : afieldAddr Tryz.prog 31 (.ptr id off) 7 = some (.ptr id (off + 24)) := by kernel_rfl
theorem fv31_7 (cs : List AV) (off : Nat) : afieldAddr Tryz.prog 31 (.vptr cs off) 7 = some (.vptr cs (off + 24)) := by kernel_rfl
theorem fl31_7 (cs : List AV) : afield Tryz.prog 31 (.agg cs) 7 = ldAt Tryz.prog 27 cs 24 := by kernel_rfl
theorem fa31_8 (id off : Nat) : afieldAddr Tryz.prog 31 (.ptr id off) 8 = some (.ptr id (off + 28)) := by kernel_rfl
theorem fv31_8 (cs : List AV) (off : Nat) : afieldAddr Tryz.prog 31 (.vptr cs off) 8 = some (.vptr cs (off + 28)) := by kernel_rfl
theorem fl31_8 (cs : List AV) : afield Tryz.prog 31 (.agg cs) 8 = ldAt Tryz.prog 2 cs 28 := by kernel_rfl
theorem sz121 : szOf Tryz.prog 121 = some 2 := by kernel_rfl
theorem ag121 : aggB Tryz.prog 121 = some true := by kernel_rfl
theorem zv121 : zeroAV Tryz.prog 121 = some (.agg [.str [], .nilSlice]) := by kernel_rfl
theorem fa121_0 (id off : Nat) : afieldAddr Tryz.prog 121 (.ptr id off) 0 = some (.ptr id (off + 0)) := by kernel_rfl
theorem fv121_0 (cs : List AV) (off : Nat) : afieldAddr Tryz.prog 121 (.vptr cs off) 0 = some (.vptr cs (off + 0)) := by kernel_rfl
theorem fl121_0 (cs : List AV) : afield Tryz.prog 121 (.agg cs) 0 = ldAt Tryz.prog 9 cs 0 := by kernel_rfl
theorem fa121_1 (id off : Nat) : afieldAddr Tryz.prog 121 (.ptr id off) 1 = some (.ptr id (off + 1)) := by kernel_rfl
theorem fv121_1 (cs : List AV) (off : Nat) : afieldAddr Tryz.prog 121 (.vptr cs off) 1 = some (.vptr cs (off + 1)) := by kernel_rfl
theorem fl121_1 (cs : List AV) : afield Tryz.prog 121 (.agg cs) 1 = ldAt Tryz.prog 49 cs 1 := by kernel_rfl
theorem sz129 : szOf Tryz.prog 129 = some 1 := by kernel_rfl
theorem ag129 : aggB Tryz.prog 129 = some false := by kernel_rfl
theorem zv129 : zeroAV Tryz.prog 129 = some (.nilPtr) := by kernel_rfl
theorem sz131 : szOf Tryz.prog 131 = some 3 := by kernel_rfl
theorem ag131 : aggB Tryz.prog 131 = some true := by kernel_rfl
theorem zv131 : zeroAV Tryz.prog 131 = some (.agg [.nilSlice, .int .i64 0, .nilIface]) := by kernel_rfl
theorem fa131_0 (id off : Nat) : afieldAddr Tryz.prog 131 (.ptr id off) 0 = some (.ptr id (off + 0)) := by kernel_rfl
theorem fv131_0 (cs : List AV) (off : Nat) : afieldAddr Tryz.prog 131 (.vptr cs off) 0 = some (.vptr cs (off + 0)) := by kernel_rfl
theorem fl131_0 (cs : List AV) : afield Tryz.prog 131 (.agg cs) 0 = ldAt Tryz.prog 125 cs 0 := by kernel_rfl
theorem fa131_1 (id off : Nat) : afieldAddr Tryz.prog 131 (.ptr id off) 1 = some (.ptr id (off + 1)) := by kernel_rfl
theorem fv131_1 (cs : List AV) (off : Nat) : afieldAddr Tryz.prog 131 (.vptr cs off) 1 = some (.vptr cs (off + 1)) := by kernel_rfl
theorem fl131_1 (cs : List AV) : afield Tryz.prog 131 (.agg cs) 1 = ldAt Tryz.prog 3 cs 1 := by kernel_rfl
theorem fa131_2 (id off : Nat) : afieldAddr Tryz.prog 131 (.ptr id off) 2 = some (.ptr id (off + 2)) := by kernel_rfl
theorem fv131_2 (cs : List AV) (off : Nat) : afieldAddr Tryz.prog 131 (.vptr cs off) 2 = some (.vptr cs (off + 2)) := by kernel_rfl
theorem fl131_2 (cs : List AV) : afield Tryz.prog 131 (.agg cs) 2 = ldAt Tryz.prog 33 cs 2 := by kernel_rfl
theorem sz260 : szOf Tryz.prog 260 = some 24 := by kernel_rfl
theorem ag260 : aggB Tryz.prog 260 = some true := by kernel_rfl
theorem zv260 : zeroAV Tryz.prog 260 = some (.agg [.int .u8 0, .int .u8 0, .int .u8 0, .int .u8 0, .int .u8 0, .int .u8 0, .int .u8 0, .int .u8 0, .int .u8 0, .int .u8 0, .int .u8 0, .int .u8 0, .int .u8 0, .int .u8 0, .int .u8 0, .int .u8 0, .int .u8 0, .int .u8 0, .int .u8 0, .int .u8 0, .int .u8 0, .int .u8 0, .int .u8 0, .int .u8 0]) := by kernel_rfl
theorem sz309 : szOf Tryz.prog 309 = some 20 := by kernel_rfl
theorem ag309 : aggB Tryz.prog 309 = some true := by kernel_rfl
theorem zv309 : zeroAV Tryz.prog 309 = some (.agg [.int .u64 0, .int .u64 0, .int .u64 0, .int .u64 0, .int .u64 0, .int .u64 0, .int .u64 0, .int .u64 0, .int .u64 0, .int .u64 0, .int .u64 0, .int .u64 0, .int .u64 0, .int .u64 0, .int .u64 0, .int .u64 0, .int .u64 0, .int .u64 0, .int .u64 0, .int .u64 0]) := by kernel_rfl
theorem go16 : goFn Tryz.prog 16 = true := by kernel_rfl
theorem go17 : goFn Tryz.prog 17 = true := by kernel_rfl
theorem go50 : goFn Tryz.prog 50 = true := by kernel_rfl
theorem go52 : goFn Tryz.prog 52 = true := by kernel_rfl
theorem go53 : goFn Tryz.prog 53 = true := by kernel_rfl
theorem go54 : goFn Tryz.prog 54 = true := by kernel_rfl
theorem go55 : goFn Tryz.prog 55 = true := by kernel_rfl
theorem go57 : goFn Tryz.prog 57 = true := by kernel_rfl
theorem go89 : goFn Tryz.prog 89 = true := by kernel_rfl
theorem go90 : goFn Tryz.prog 90 = true := by kernel_rfl
theorem go91 : goFn Tryz.prog 91 = true := by kernel_rfl
theorem go92 : goFn Tryz.prog 92 = true := by kernel_rfl
theorem go97 : goFn Tryz.prog 97 = true := by kernel_rfl
theorem go137 : goFn Tryz.prog 137 = true := by kernel_rfl
theorem go138 : goFn Tryz.prog 138 = true := by kernel_rfl
theorem go139 : goFn Tryz.prog 139 = true := by kernel_rfl
theorem go140 : goFn Tryz.prog 140 = true := by kernel_rfl
theorem go142 : goFn Tryz.prog 142 = true := by kernel_rfl
theorem go143 : goFn Tryz.prog 143 = true := by kernel_rfl
theorem go144 : goFn Tryz.prog 144 = true := by kernel_rfl
theorem go149 : goFn Tryz.prog 149 = true := by kernel_rfl
theorem go150 : goFn Tryz.prog 150 = true := by kernel_rfl
theorem go151 : goFn Tryz.prog 151 = true := by kernel_rfl
theorem go177 : goFn Tryz.prog 177 = true := by kernel_rfl
theorem go184 : goFn Tryz.prog 184 = true := by kernel_rfl
theorem go185 : goFn Tryz.prog 185 = true := by kernel_rfl
theorem go186 : goFn Tryz.prog 186 = true := by kernel_rfl
attribute [simp] sz24 ag24 zv24 ec24 Tryz.underlying24 sz31 ag31 zv31 fa31_0 fv31_0 fl31_0 fa31_1 fv31_1 fl31_1 fa31_2 fv31_2 fl31_2 fa31_3 fv31_3 fl31_3
attribute [simp] fa31_4 fv31_4 fl31_4 fa31_5 fv31_5 fl31_5 fa31_6 fv31_6 fl31_6 fa31_7 fv31_7 fl31_7 fa31_8 fv31_8 fl31_8 Tryz.underlying31 sz121 ag121 zv121 fa121_0
attribute [simp] fv121_0 fl121_0 fa121_1 fv121_1 fl121_1 Tryz.underlying121 sz129 ag129 zv129 Tryz.underlying129 sz131 ag131 zv131 fa131_0 fv131_0 fl131_0 fa131_1 fv131_1 fl131_1 fa131_2
attribute [simp] fv131_2 fl131_2 Tryz.underlying131 sz260 ag260 zv260 Tryz.underlying260 sz309 ag309 zv309 Tryz.underlying309 go16 go17 go50 go52 go53 go54 go55 go57 go89
attribute [simp] go90 go91 go92 go97 go137 go138 go139 go140 go142 go143 go144 go149 go150 go151 go177 go184 go185 go186
end Go.Proofs.YtejjlojfgcgopaaGreatDoor.Tp
namespace Go.Proofs.YtejjlojfgcgopaaGreatDoor
open Go.RowKit Go.Proofs.Fw
set_option maxRecDepth 100000
set_option maxHeartbeats 4000000
def castP (l : List (List UInt8 × Nat)) : List (List UInt8 × Int) := l.map fun x => (x.1, (x.2 : Int))
def erOk (e : Er) : Prop := ∀ l c, e = some (l, c) → l ≠ [] ∧ c ≠ 0
theorem erOk_none : erOk none := fun _ _ h => by cases h
theorem erOk_some {l : List (List UInt8 × Nat)} {c : Nat} (hl : l ≠ []) (hc : c ≠ 0) : erOk (some (l, c)) := fun l' c' h => by
  injection h with h
  injection h with h1 h2
  subst h1; subst h2
  exact ⟨hl, hc⟩
theorem castP_inj : ∀ {a b : List (List UInt8 × Nat)}, castP a = castP b → a = b
  | [], [], _ => rfl
  | [], x :: b, h => by simp [castP] at h
  | x :: a, [], h => by simp [castP] at h
  | (w, p) :: a, (w', p') :: b, h => by
    simp only [castP, List.map_cons, List.cons.injEq, Prod.mk.injEq] at h
    obtain ⟨⟨rfl, h1⟩, h2⟩ := h
    have : p = p' := by omega
    rw [this, castP_inj h2]
def dimE : Enc Int where
  sz := 1
  c := fun n => [.int .i64 n]
  pos := by decide
  len := fun _ => rfl
  low := fun _ => rfl
  one := fun _ => rfl
  inj := fun x y h => by simpa using h
def itE : Enc It where
  sz := 2
  c := fun x => [.str x.name, dimE.av x.dims]
  pos := by decide
  len := fun _ => rfl
  low := fun x => by simp
  one := fun x => by simp
  inj := fun x y h => by
    simp only [List.cons.injEq, AV.str.injEq, and_true] at h
    obtain ⟨a, b⟩ := x
    obtain ⟨a', b'⟩ := y
    simp only at h
    rw [h.1, dimE.av_inj h.2]
def strE : Enc (List UInt8) where
  sz := 1
  c := fun s => [.str s]
  pos := by decide
  len := fun _ => rfl
  low := fun _ => rfl
  one := fun _ => rfl
  inj := fun x y h => by simpa using h
theorem it_sz : itE.sz = 2 := rfl
theorem dim_c (n : Int) : dimE.c n = [.int .i64 n] := rfl
theorem it_c (x : It) : itE.c x = [.str x.name, dimE.av x.dims] := rfl
structure Sx where
  kind : Int
  items : List It
  to : Tn
  e : Tn
  op : List UInt8
  ca : Tn
  cb : Tn
  name : List UInt8
  lo : Tn
  hi : Tn
  step : Int
def Sm.x (m : Sm) : Sx := ⟨m.kind, m.items, m.to.tn, m.e.tn, m.op, m.ca.tn, m.cb.tn, m.name, m.lo.tn, m.hi.tn, m.step⟩
def Sx.c (x : Sx) : List AV := [.int .i64 x.kind, itE.av x.items, .int .i64 x.to.k, .int .i64 x.to.n, .str x.to.s, x.to.ar, .int .i64 x.e.k, .int .i64 x.e.n, .str x.e.s, x.e.ar, .str x.op,
  .int .i64 x.ca.k, .int .i64 x.ca.n, .str x.ca.s, x.ca.ar, .int .i64 x.cb.k, .int .i64 x.cb.n, .str x.cb.s, x.cb.ar, .str x.name, .int .i64 x.lo.k, .int .i64 x.lo.n, .str x.lo.s, x.lo.ar, .int .i64 x.hi.k, .int .i64 x.hi.n, .str x.hi.s, x.hi.ar, .int .i64 x.step]
theorem Sx.c_low (x : Sx) : lowL 0 x.c = true := by simp [Sx.c]
def sxE : Enc Sx where
  sz := 29
  c := Sx.c
  pos := by decide
  len := fun _ => rfl
  low := Sx.c_low
  one := fun x => by simp [Sx.c]
  inj := fun x y h => by
    have tn_ext : ∀ a b : Tn, a.k = b.k → a.n = b.n → a.s = b.s → a.ar = b.ar → a = b := fun a b h1 h2 h3 h4 => tC_inj a b (by rw [tC_eq, tC_eq, h1, h2, h3, h4])
    simp only [Sx.c, List.cons.injEq, AV.int.injEq, AV.str.injEq, true_and, and_true] at h
    obtain ⟨h1, h2, a1, a2, a3, a4, b1, b2, b3, b4, h3, c1, c2, c3, c4, d1, d2, d3, d4, h4, e1, e2, e3, e4, f1, f2, f3, f4, h5⟩ := h
    obtain ⟨_, _, _, _, _, _, _, _, _, _, _⟩ := x
    obtain ⟨_, _, _, _, _, _, _, _, _, _, _⟩ := y
    simp only at *
    rw [h1, itE.av_inj h2, tn_ext _ _ a1 a2 a3 a4, tn_ext _ _ b1 b2 b3 b4, h3, tn_ext _ _ c1 c2 c3 c4, tn_ext _ _ d1 d2 d3 d4, h4, tn_ext _ _ e1 e2 e3 e4, tn_ext _ _ f1 f2 f3 f4, h5]
def t0 : Tn := .lf 0 0 []
@[simp] theorem t0_k : t0.k = 0 := nrfl rfl
@[simp] theorem t0_n : t0.n = 0 := nrfl rfl
@[simp] theorem t0_s : t0.s = [] := nrfl rfl
@[simp] theorem t0_ar : t0.ar = .nilSlice := nrfl rfl
theorem exnone_tn : Ex.none.tn = t0 := rfl
theorem isW_lt {ts : List Wd} {r : Sr} {k : Nat} {s : List UInt8} (h : isW ts r k s = true) : r.at_ < ts.length ∧ r.err = none := by
  simp only [isW, isK, Bool.and_eq_true, Option.isNone_iff_eq_none] at h
  refine ⟨?_, h.1⟩
  have h2 := h.2
  split at h2
  · rename_i hw; exact (List.getElem?_eq_some_iff.1 hw).1
  · cases h2
theorem takesW_t {ts : List Wd} {r : Sr} {k : Nat} {s : List UInt8} (h : isW ts r k s = true) : takesW ts r k s = r.step := by simp [takesW, h]
theorem takesW_f {ts : List Wd} {r : Sr} {k : Nat} {s : List UInt8} (h : isW ts r k s = false) : takesW ts r k s = r := by simp [takesW, h]
theorem elemDim : elemChk Tryz.prog 49 1 = true := by kernel_rfl
@[simp] theorem bsDim (n : Int) : abuildSlice Tryz.prog 49 1 [(0, .int .i64 n)] = some (.slice .full 1 1 [.int .i64 n]) := by kernel_rfl
@[simp high] theorem alenDimT (k : Nat) (l : List Int) : alen Tryz.prog 49 (dimE.tk k l) = some (.int .i64 l.length) := dimE.tk_len Tryz.underlying49 k l
def bS (ts : List Wd) (r : St) : Prop := r.at_ ≤ ts.length ∧ ∀ p c, r.err = some (p, c) → p ≤ ts.length
def bR (ts : List Wd) (of : Rd) : Prop := ∀ r, bS ts r → bS ts (of r).2
theorem bS.step {ts : List Wd} {r : St} (h : bS ts r) (hl : r.at_ < ts.length) : bS ts r.step := ⟨hl, h.2⟩
theorem bS.next {ts : List Wd} {r : St} (h : bS ts r) {s : List UInt8} (hn : nextB ts r s = true) : bS ts r.step := h.step (nextB_lt hn)
theorem bS.fail {ts : List Wd} {r : St} (h : bS ts r) {p : Nat} (hp : p ≤ ts.length) (e : Nat) : bS ts (r.fail p e) := by
  unfold St.fail
  split
  · refine ⟨h.1, fun q c hq => ?_⟩
    simp only [Option.some.injEq, Prod.mk.injEq] at hq
    omega
  · exact h
theorem bS.must {ts : List Wd} {r : St} (h : bS ts r) (s : List UInt8) : bS ts (mustS ts r s) := by
  unfold mustS
  split
  · exact h.next ‹_›
  · exact h.fail h.1 2
theorem rowL_b {ts : List Wd} {of : Rd} (ho : bR ts of) {f : List UInt8} {one : Nat} {s : List UInt8} {two : Nat} : ∀ (n : Nat) (e : Ex) (r : St), bS ts r → bS ts (rowL ts of f one s two n e r).2
  | 0, e, r, h => h
  | n + 1, e, r, h => by
    simp only [rowL]
    split
    · exact h
    · split
      · exact rowL_b ho n _ _ (ho _ (h.next ‹_›))
      · split
        · exact rowL_b ho n _ _ (ho _ (h.next ‹_›))
        · exact h
theorem rowF_b {ts : List Wd} {of : Rd} (ho : bR ts of) {f : List UInt8} {one : Nat} {s : List UInt8} {two : Nat} : bR ts (rowF ts of f one s two) := fun r h => rowL_b ho _ _ _ (ho r h)
theorem subL_b {ts : List Wd} {sum : Rd} (ho : bR ts sum) : ∀ (n : Nat) (a : List Ex) (r : St), bS ts r → bS ts (subL ts sum n a r).2
  | 0, a, r, h => h
  | n + 1, a, r, h => by
    have h1 := ho r h
    simp only [subL]
    split
    · rename_i hn
      refine subL_b ho n _ _ ?_
      split
      · have h2 := h1.fail h1.1 4
        have hl := nextB_lt hn
        refine h2.step ?_
        rw [show ((sum r).2.fail (sum r).2.at_ 4).at_ = (sum r).2.at_ by unfold St.fail; split <;> rfl]
        exact hl
      · exact h1.next hn
    · exact h1
theorem inF_b {ts : List Wd} {p : Nat} {of : Rd} (ho : bR ts of) (hp : p ≤ ts.length) : bR ts (inF p of) := fun r h => by
  simp only [inF]
  have h2 : bS ts (if r.deep + 1 > 20 then (⟨r.at_, r.deep + 1, r.err⟩ : St).fail p 4 else ⟨r.at_, r.deep + 1, r.err⟩) := by
    split
    · exact bS.fail (r := ⟨r.at_, r.deep + 1, r.err⟩) ⟨h.1, h.2⟩ hp 4
    · exact ⟨h.1, h.2⟩
  generalize (if r.deep + 1 > 20 then (⟨r.at_, r.deep + 1, r.err⟩ : St).fail p 4 else ⟨r.at_, r.deep + 1, r.err⟩) = r2 at *
  split
  · have := ho r2 h2
    exact ⟨this.1, this.2⟩
  · exact ⟨h2.1, h2.2⟩
theorem nameF_b {ts : List Wd} {sum : Rd} (ho : bR ts sum) (s : List UInt8) {r : St} (h : bS ts r) (hl : r.at_ < ts.length) : bS ts (nameF ts sum s r).2 := by
  simp only [nameF]
  split
  · rename_i hn
    exact (subL_b ho 6 [] _ ((h.step hl).next hn)).must _
  · exact h.step hl
theorem facF_b {ts : List Wd} {sum fac : Rd} (hs : bR ts sum) (hf : bR ts fac) : bR ts (facF ts sum fac) := fun r h => by
  unfold facF
  split
  · rename_i w he hw
    have hl : r.at_ < ts.length := (List.getElem?_eq_some_iff.1 hw).1
    split
    · exact h.step hl
    · split
      · exact nameF_b hs _ h hl
      · split
        · exact inF_b hf h.1 _ (h.step hl)
        · split
          · exact bS.must (inF_b hs h.1 _ (h.step hl)) _
          · exact h.fail h.1 2
  · exact h.fail h.1 2
theorem fac_b (ts : List Wd) : ∀ n, bR ts (fac ts n)
  | 0 => fun _ h => h
  | n + 1 => facF_b (rowF_b (rowF_b (fac_b ts n))) (fac_b ts n)
theorem sumAt_b (ts : List Wd) : bR ts (sumAt ts) := rowF_b (rowF_b (fac_b ts _))
theorem bS0 (ts : List Wd) : bS ts ⟨0, 0, none⟩ := ⟨Nat.zero_le _, fun p c h => by cases h⟩
theorem parseX_b (ts : List Wd) : (parseX ts).2.1 ≤ ts.length ∧ ∀ p c, (parseX ts).2.2 = some (p, c) → p ≤ ts.length := by
  have h := sumAt_b ts _ (bS0 ts)
  unfold parseX
  split
  · exact ⟨h.1, fun p c hq => by cases hq⟩
  · rename_i x hx
    exact ⟨Nat.zero_le _, fun p c hq => h.2 p c (by rw [hx]; exact hq)⟩
theorem condMid_b {ts : List Wd} {r : St} (h : bS ts r) : bS ts (condMid ts r).2 := by
  unfold condMid
  split
  · exact h
  · split
    · rename_i w hw
      split
      · exact h.step (List.getElem?_eq_some_iff.1 hw).1
      · exact h.fail h.1 2
    · exact h.fail h.1 2
theorem parseC_b (ts : List Wd) : (parseC ts).2.1 ≤ ts.length ∧ ∀ p c, (parseC ts).2.2 = some (p, c) → p ≤ ts.length := by
  have h := sumAt_b ts _ (condMid_b (sumAt_b ts _ (bS0 ts)))
  unfold parseC
  simp only
  split
  · exact ⟨h.1, fun p c hq => by cases hq⟩
  · rename_i x hx
    exact ⟨Nat.zero_le _, fun p c hq => h.2 p c (by rw [hx]; exact hq)⟩
end Go.Proofs.YtejjlojfgcgopaaGreatDoor

namespace Go.Proofs.YtejjlojfgcgopaaGreatDoor
open Go.RowKit Go.Proofs.Fw
set_option maxRecDepth 100000
set_option maxHeartbeats 4000000
inductive Nd where
  | mk (line end_ : Int) (st : Sx) (body els : List Nd) (mid : Int)
mutual
def ndC : Nd → List AV
  | .mk l e s b c m => .int .i64 l :: .int .i64 e :: (s.c ++ [if b.isEmpty then .nilSlice else .slice .unk 34 b.length (ndsC b), if c.isEmpty then .nilSlice else .slice .unk 34 c.length (ndsC c), .int .i64 m])
def ndsC : List Nd → List AV
  | [] => []
  | n :: r => ndC n ++ ndsC r
end
def Nd.line : Nd → Int | .mk l _ _ _ _ _ => l
def Nd.end_ : Nd → Int | .mk _ e _ _ _ _ => e
def Nd.st : Nd → Sx | .mk _ _ s _ _ _ => s
def Nd.body : Nd → List Nd | .mk _ _ _ b _ _ => b
def Nd.els : Nd → List Nd | .mk _ _ _ _ c _ => c
def Nd.mid : Nd → Int | .mk _ _ _ _ _ m => m
theorem Sx.c_len (x : Sx) : x.c.length = 29 := rfl
theorem ndC_len (n : Nd) : (ndC n).length = 34 := by
  cases n
  rw [ndC]
  simp [Sx.c_len]
mutual
theorem ndC_low : ∀ n : Nd, lowL 0 (ndC n) = true
  | .mk l e s b c m => by
    have h1 := ndsC_low b
    have h2 := ndsC_low c
    have h3 := Sx.c_low s
    rw [ndC]
    simp only [lowL, low, lowL_append, h3, Bool.true_and, Bool.and_true, Bool.and_eq_true]
    constructor
    · split
      · rfl
      · exact h1
    · split
      · rfl
      · exact h2
theorem ndsC_low : ∀ l : List Nd, lowL 0 (ndsC l) = true
  | [] => rfl
  | n :: r => by rw [ndsC, lowL_append, ndC_low n, ndsC_low r]; rfl
end
theorem ndC_one (n : Nd) : (ndC n).all AV.one = true := by
  cases n with
  | mk l e s b c m =>
    rw [ndC]
    have h3 := sxE.one s
    have h4 : s.c.all AV.one = true := h3
    simp only [List.all_cons, List.all_append, h4, AV.one, Bool.true_and, List.all_nil, Bool.and_true, Bool.and_eq_true]
    constructor
    · cases b <;> rfl
    · cases c <;> rfl
theorem ndsC_length : ∀ l : List Nd, (ndsC l).length = l.length * 34
  | [] => rfl
  | n :: r => by rw [ndsC, List.length_append, ndC_len, ndsC_length r, List.length_cons]; omega
mutual
theorem ndC_inj : ∀ a b : Nd, ndC a = ndC b → a = b
  | .mk l e s b c m, .mk l' e' s' b' c' m', h => by
    simp only [ndC, List.cons.injEq, AV.int.injEq, true_and] at h
    obtain ⟨h1, h2, h3⟩ := h
    obtain ⟨h4, h5⟩ := List.append_inj h3 (by rw [Sx.c_len, Sx.c_len])
    simp only [List.cons.injEq, AV.int.injEq, true_and, and_true] at h5
    have k1 : b = b' := by
      cases b with
      | nil => cases b' with
        | nil => rfl
        | cons => simp at h5
      | cons x b => cases b' with
        | nil => simp at h5
        | cons y b' =>
          simp only [List.isEmpty_cons, Bool.false_eq_true, if_false, AV.slice.injEq, true_and] at h5
          exact ndsC_inj _ _ h5.1.2
    have k2 : c = c' := by
      cases c with
      | nil => cases c' with
        | nil => rfl
        | cons => simp at h5
      | cons x c => cases c' with
        | nil => simp at h5
        | cons y c' =>
          simp only [List.isEmpty_cons, Bool.false_eq_true, if_false, AV.slice.injEq, true_and] at h5
          exact ndsC_inj _ _ h5.2.1.2
    rw [h1, h2, sxE.inj s s' h4, k1, k2, h5.2.2]
theorem ndsC_inj : ∀ a b : List Nd, ndsC a = ndsC b → a = b
  | [], [], _ => rfl
  | [], n :: b, h => by
    have := congrArg List.length h
    rw [ndsC_length, ndsC_length] at this
    simp at this
  | n :: a, [], h => by
    have := congrArg List.length h
    rw [ndsC_length, ndsC_length] at this
    simp at this
  | n :: a, m :: b, h => by
    rw [ndsC, ndsC] at h
    obtain ⟨h1, h2⟩ := List.append_inj h (by rw [ndC_len, ndC_len])
    rw [ndC_inj n m h1, ndsC_inj a b h2]
end
def ndE : Enc Nd where
  sz := 34
  c := ndC
  pos := by decide
  len := ndC_len
  low := ndC_low
  one := ndC_one
  inj := ndC_inj
theorem ndE_row : ∀ l : List Nd, ndE.row l = ndsC l
  | [] => rfl
  | n :: r => by rw [Enc.row, ndsC, ndE_row r]; rfl
theorem ndE_av (l : List Nd) : (if l.isEmpty then AV.nilSlice else .slice .unk 34 l.length (ndsC l)) = ndE.av l := by
  cases l with
  | nil => rfl
  | cons n r => rw [Enc.av_ne _ (by simp), ndE_row]; rfl
theorem ndC_eq (n : Nd) : ndC n = .int .i64 n.line :: .int .i64 n.end_ :: (n.st.c ++ [ndE.av n.body, ndE.av n.els, .int .i64 n.mid]) := by
  cases n with
  | mk l e s b c m => rw [ndC, ndE_av, ndE_av]; rfl
end Go.Proofs.YtejjlojfgcgopaaGreatDoor

namespace Go.Proofs.YtejjlojfgcgopaaGreatDoor.Tq
open Go.RowKit Go.Proofs.Fw
set_option maxRecDepth 100000
theorem sz65 : szOf Tryz.prog 65 = some 1 := by kernel_rfl
theorem ag65 : aggB Tryz.prog 65 = some false := by kernel_rfl
theorem zv65 : zeroAV Tryz.prog 65 = some (.int .u32 0) := by kernel_rfl
theorem go3 : goFn Tryz.prog 3 = true := by kernel_rfl
theorem go5 : goFn Tryz.prog 5 = true := by kernel_rfl
theorem go15 : goFn Tryz.prog 15 = true := by kernel_rfl
theorem go49 : goFn Tryz.prog 49 = true := by kernel_rfl
attribute [simp] sz65 ag65 zv65 Tryz.underlying65 go3 go5 go15 go49
end Go.Proofs.YtejjlojfgcgopaaGreatDoor.Tq
namespace Go.Proofs.YtejjlojfgcgopaaGreatDoor.Tv
open Go.RowKit Go.Proofs.Fw
set_option maxRecDepth 100000
theorem sz39 : szOf Tryz.prog 39 = some 1 := by kernel_rfl
theorem ag39 : aggB Tryz.prog 39 = some false := by kernel_rfl
theorem zv39 : zeroAV Tryz.prog 39 = some (.nilSlice) := by kernel_rfl
theorem ec39 : elemChk Tryz.prog 39 2 = true := by kernel_rfl
theorem sz46 : szOf Tryz.prog 46 = some 29 := by kernel_rfl
theorem ag46 : aggB Tryz.prog 46 = some true := by kernel_rfl
theorem zv46 : zeroAV Tryz.prog 46 = some (.agg [.int .i64 0, .nilSlice, .int .i64 0, .int .i64 0, .str [], .nilSlice, .int .i64 0, .int .i64 0, .str [], .nilSlice, .str [], .int .i64 0, .int .i64 0, .str [], .nilSlice, .int .i64 0, .int .i64 0, .str [], .nilSlice, .str [], .int .i64 0, .int .i64 0, .str [], .nilSlice, .int .i64 0, .int .i64 0, .str [], .nilSlice, .int .i64 0]) := by kernel_rfl
theorem fa46_0 (id off : Nat) : afieldAddr Tryz.prog 46 (.ptr id off) 0 = some (.ptr id (off + 0)) := by kernel_rfl
theorem fv46_0 (cs : List AV) (off : Nat) : afieldAddr Tryz.prog 46 (.vptr cs off) 0 = some (.vptr cs (off + 0)) := by kernel_rfl
theorem fl46_0 (cs : List AV) : afield Tryz.prog 46 (.agg cs) 0 = ldAt Tryz.prog 3 cs 0 := by kernel_rfl
theorem fa46_1 (id off : Nat) : afieldAddr Tryz.prog 46 (.ptr id off) 1 = some (.ptr id (off + 1)) := by kernel_rfl
theorem fv46_1 (cs : List AV) (off : Nat) : afieldAddr Tryz.prog 46 (.vptr cs off) 1 = some (.vptr cs (off + 1)) := by kernel_rfl
theorem fl46_1 (cs : List AV) : afield Tryz.prog 46 (.agg cs) 1 = ldAt Tryz.prog 39 cs 1 := by kernel_rfl
theorem fa46_2 (id off : Nat) : afieldAddr Tryz.prog 46 (.ptr id off) 2 = some (.ptr id (off + 2)) := by kernel_rfl
theorem fv46_2 (cs : List AV) (off : Nat) : afieldAddr Tryz.prog 46 (.vptr cs off) 2 = some (.vptr cs (off + 2)) := by kernel_rfl
theorem fl46_2 (cs : List AV) : afield Tryz.prog 46 (.agg cs) 2 = ldAt Tryz.prog 42 cs 2 := by kernel_rfl
theorem fa46_3 (id off : Nat) : afieldAddr Tryz.prog 46 (.ptr id off) 3 = some (.ptr id (off + 6)) := by kernel_rfl
theorem fv46_3 (cs : List AV) (off : Nat) : afieldAddr Tryz.prog 46 (.vptr cs off) 3 = some (.vptr cs (off + 6)) := by kernel_rfl
theorem fl46_3 (cs : List AV) : afield Tryz.prog 46 (.agg cs) 3 = ldAt Tryz.prog 42 cs 6 := by kernel_rfl
theorem fa46_4 (id off : Nat) : afieldAddr Tryz.prog 46 (.ptr id off) 4 = some (.ptr id (off + 10)) := by kernel_rfl
theorem fv46_4 (cs : List AV) (off : Nat) : afieldAddr Tryz.prog 46 (.vptr cs off) 4 = some (.vptr cs (off + 10)) := by kernel_rfl
theorem fl46_4 (cs : List AV) : afield Tryz.prog 46 (.agg cs) 4 = ldAt Tryz.prog 44 cs 10 := by kernel_rfl
theorem fa46_5 (id off : Nat) : afieldAddr Tryz.prog 46 (.ptr id off) 5 = some (.ptr id (off + 19)) := by kernel_rfl
theorem fv46_5 (cs : List AV) (off : Nat) : afieldAddr Tryz.prog 46 (.vptr cs off) 5 = some (.vptr cs (off + 19)) := by kernel_rfl
theorem fl46_5 (cs : List AV) : afield Tryz.prog 46 (.agg cs) 5 = ldAt Tryz.prog 9 cs 19 := by kernel_rfl
theorem fa46_6 (id off : Nat) : afieldAddr Tryz.prog 46 (.ptr id off) 6 = some (.ptr id (off + 20)) := by kernel_rfl
theorem fv46_6 (cs : List AV) (off : Nat) : afieldAddr Tryz.prog 46 (.vptr cs off) 6 = some (.vptr cs (off + 20)) := by kernel_rfl
theorem fl46_6 (cs : List AV) : afield Tryz.prog 46 (.agg cs) 6 = ldAt Tryz.prog 42 cs 20 := by kernel_rfl
theorem fa46_7 (id off : Nat) : afieldAddr Tryz.prog 46 (.ptr id off) 7 = some (.ptr id (off + 24)) := by kernel_rfl
theorem fv46_7 (cs : List AV) (off : Nat) : afieldAddr Tryz.prog 46 (.vptr cs off) 7 = some (.vptr cs (off + 24)) := by kernel_rfl
theorem fl46_7 (cs : List AV) : afield Tryz.prog 46 (.agg cs) 7 = ldAt Tryz.prog 42 cs 24 := by kernel_rfl
theorem fa46_8 (id off : Nat) : afieldAddr Tryz.prog 46 (.ptr id off) 8 = some (.ptr id (off + 28)) := by kernel_rfl
theorem fv46_8 (cs : List AV) (off : Nat) : afieldAddr Tryz.prog 46 (.vptr cs off) 8 = some (.vptr cs (off + 28)) := by kernel_rfl
theorem fl46_8 (cs : List AV) : afield Tryz.prog 46 (.agg cs) 8 = ldAt Tryz.prog 2 cs 28 := by kernel_rfl
theorem sz51 : szOf Tryz.prog 51 = some 2 := by kernel_rfl
theorem ag51 : aggB Tryz.prog 51 = some true := by kernel_rfl
theorem zv51 : zeroAV Tryz.prog 51 = some (.agg [.str [], .nilSlice]) := by kernel_rfl
theorem fa51_0 (id off : Nat) : afieldAddr Tryz.prog 51 (.ptr id off) 0 = some (.ptr id (off + 0)) := by kernel_rfl
theorem fv51_0 (cs : List AV) (off : Nat) : afieldAddr Tryz.prog 51 (.vptr cs off) 0 = some (.vptr cs (off + 0)) := by kernel_rfl
theorem fl51_0 (cs : List AV) : afield Tryz.prog 51 (.agg cs) 0 = ldAt Tryz.prog 9 cs 0 := by kernel_rfl
theorem fa51_1 (id off : Nat) : afieldAddr Tryz.prog 51 (.ptr id off) 1 = some (.ptr id (off + 1)) := by kernel_rfl
theorem fv51_1 (cs : List AV) (off : Nat) : afieldAddr Tryz.prog 51 (.vptr cs off) 1 = some (.vptr cs (off + 1)) := by kernel_rfl
theorem fl51_1 (cs : List AV) : afield Tryz.prog 51 (.agg cs) 1 = ldAt Tryz.prog 49 cs 1 := by kernel_rfl
theorem sz227 : szOf Tryz.prog 227 = some 1 := by kernel_rfl
theorem ag227 : aggB Tryz.prog 227 = some false := by kernel_rfl
theorem zv227 : zeroAV Tryz.prog 227 = some (.nilPtr) := by kernel_rfl
theorem sz229 : szOf Tryz.prog 229 = some 4 := by kernel_rfl
theorem ag229 : aggB Tryz.prog 229 = some true := by kernel_rfl
theorem zv229 : zeroAV Tryz.prog 229 = some (.agg [.nilSlice, .int .i64 0, .nilSlice, .int .i64 0]) := by kernel_rfl
theorem fa229_0 (id off : Nat) : afieldAddr Tryz.prog 229 (.ptr id off) 0 = some (.ptr id (off + 0)) := by kernel_rfl
theorem fv229_0 (cs : List AV) (off : Nat) : afieldAddr Tryz.prog 229 (.vptr cs off) 0 = some (.vptr cs (off + 0)) := by kernel_rfl
theorem fl229_0 (cs : List AV) : afield Tryz.prog 229 (.agg cs) 0 = ldAt Tryz.prog 54 cs 0 := by kernel_rfl
theorem fa229_1 (id off : Nat) : afieldAddr Tryz.prog 229 (.ptr id off) 1 = some (.ptr id (off + 1)) := by kernel_rfl
theorem fv229_1 (cs : List AV) (off : Nat) : afieldAddr Tryz.prog 229 (.vptr cs off) 1 = some (.vptr cs (off + 1)) := by kernel_rfl
theorem fl229_1 (cs : List AV) : afield Tryz.prog 229 (.agg cs) 1 = ldAt Tryz.prog 3 cs 1 := by kernel_rfl
theorem fa229_2 (id off : Nat) : afieldAddr Tryz.prog 229 (.ptr id off) 2 = some (.ptr id (off + 2)) := by kernel_rfl
theorem fv229_2 (cs : List AV) (off : Nat) : afieldAddr Tryz.prog 229 (.vptr cs off) 2 = some (.vptr cs (off + 2)) := by kernel_rfl
theorem fl229_2 (cs : List AV) : afield Tryz.prog 229 (.agg cs) 2 = ldAt Tryz.prog 57 cs 2 := by kernel_rfl
theorem go76 : goFn Tryz.prog 76 = true := by kernel_rfl
theorem go85 : goFn Tryz.prog 85 = true := by kernel_rfl
theorem go86 : goFn Tryz.prog 86 = true := by kernel_rfl
theorem go116 : goFn Tryz.prog 116 = true := by kernel_rfl
theorem go117 : goFn Tryz.prog 117 = true := by kernel_rfl
theorem go118 : goFn Tryz.prog 118 = true := by kernel_rfl
theorem go119 : goFn Tryz.prog 119 = true := by kernel_rfl
theorem go120 : goFn Tryz.prog 120 = true := by kernel_rfl
theorem go121 : goFn Tryz.prog 121 = true := by kernel_rfl
theorem go129 : goFn Tryz.prog 129 = true := by kernel_rfl
theorem go130 : goFn Tryz.prog 130 = true := by kernel_rfl
theorem go162 : goFn Tryz.prog 162 = true := by kernel_rfl
theorem go163 : goFn Tryz.prog 163 = true := by kernel_rfl
theorem go164 : goFn Tryz.prog 164 = true := by kernel_rfl
theorem go166 : goFn Tryz.prog 166 = true := by kernel_rfl
theorem go167 : goFn Tryz.prog 167 = true := by kernel_rfl
theorem go171 : goFn Tryz.prog 171 = true := by kernel_rfl
theorem go190 : goFn Tryz.prog 190 = true := by kernel_rfl
theorem go191 : goFn Tryz.prog 191 = true := by kernel_rfl
theorem go192 : goFn Tryz.prog 192 = true := by kernel_rfl
attribute [simp] sz39 ag39 zv39 ec39 Tryz.underlying39 sz46 ag46 zv46 fa46_0 fv46_0 fl46_0 fa46_1 fv46_1 fl46_1 fa46_2 fv46_2 fl46_2 fa46_3 fv46_3 fl46_3
attribute [simp] fa46_4 fv46_4 fl46_4 fa46_5 fv46_5 fl46_5 fa46_6 fv46_6 fl46_6 fa46_7 fv46_7 fl46_7 fa46_8 fv46_8 fl46_8 Tryz.underlying46 sz51 ag51 zv51 fa51_0
attribute [simp] fv51_0 fl51_0 fa51_1 fv51_1 fl51_1 Tryz.underlying51 sz227 ag227 zv227 Tryz.underlying227 sz229 ag229 zv229 fa229_0 fv229_0 fl229_0 fa229_1 fv229_1 fl229_1 fa229_2
attribute [simp] fv229_2 fl229_2 Tryz.underlying229 go76 go85 go86 go116 go117 go118 go119 go120 go121 go129 go130 go162 go163 go164 go166 go167 go171
attribute [simp] go190 go191 go192
end Go.Proofs.YtejjlojfgcgopaaGreatDoor.Tv

namespace Go.Proofs.YtejjlojfgcgopaaGreatDoor.Tt
open Go.RowKit Go.Proofs.Fw
set_option maxRecDepth 100000
theorem sz68 : szOf Tryz.prog 68 = some 1 := by kernel_rfl
theorem ag68 : aggB Tryz.prog 68 = some false := by kernel_rfl
theorem zv68 : zeroAV Tryz.prog 68 = some (.nilSlice) := by kernel_rfl
theorem ec68 : elemChk Tryz.prog 68 34 = true := by kernel_rfl
theorem sz108 : szOf Tryz.prog 108 = some 34 := by kernel_rfl
theorem ag108 : aggB Tryz.prog 108 = some true := by kernel_rfl
theorem zv108 : zeroAV Tryz.prog 108 = some (.agg [.int .i64 0, .int .i64 0, .int .i64 0, .nilSlice, .int .i64 0, .int .i64 0, .str [], .nilSlice, .int .i64 0, .int .i64 0, .str [], .nilSlice, .str [], .int .i64 0, .int .i64 0, .str [], .nilSlice, .int .i64 0, .int .i64 0, .str [], .nilSlice, .str [], .int .i64 0, .int .i64 0, .str [], .nilSlice, .int .i64 0, .int .i64 0, .str [], .nilSlice, .int .i64 0, .nilSlice, .nilSlice, .int .i64 0]) := by kernel_rfl
theorem fa108_0 (id off : Nat) : afieldAddr Tryz.prog 108 (.ptr id off) 0 = some (.ptr id (off + 0)) := by kernel_rfl
theorem fv108_0 (cs : List AV) (off : Nat) : afieldAddr Tryz.prog 108 (.vptr cs off) 0 = some (.vptr cs (off + 0)) := by kernel_rfl
theorem fl108_0 (cs : List AV) : afield Tryz.prog 108 (.agg cs) 0 = ldAt Tryz.prog 3 cs 0 := by kernel_rfl
theorem fa108_1 (id off : Nat) : afieldAddr Tryz.prog 108 (.ptr id off) 1 = some (.ptr id (off + 1)) := by kernel_rfl
theorem fv108_1 (cs : List AV) (off : Nat) : afieldAddr Tryz.prog 108 (.vptr cs off) 1 = some (.vptr cs (off + 1)) := by kernel_rfl
theorem fl108_1 (cs : List AV) : afield Tryz.prog 108 (.agg cs) 1 = ldAt Tryz.prog 3 cs 1 := by kernel_rfl
theorem fa108_2 (id off : Nat) : afieldAddr Tryz.prog 108 (.ptr id off) 2 = some (.ptr id (off + 2)) := by kernel_rfl
theorem fv108_2 (cs : List AV) (off : Nat) : afieldAddr Tryz.prog 108 (.vptr cs off) 2 = some (.vptr cs (off + 2)) := by kernel_rfl
theorem fl108_2 (cs : List AV) : afield Tryz.prog 108 (.agg cs) 2 = ldAt Tryz.prog 46 cs 2 := by kernel_rfl
theorem fa108_3 (id off : Nat) : afieldAddr Tryz.prog 108 (.ptr id off) 3 = some (.ptr id (off + 31)) := by kernel_rfl
theorem fv108_3 (cs : List AV) (off : Nat) : afieldAddr Tryz.prog 108 (.vptr cs off) 3 = some (.vptr cs (off + 31)) := by kernel_rfl
theorem fl108_3 (cs : List AV) : afield Tryz.prog 108 (.agg cs) 3 = ldAt Tryz.prog 68 cs 31 := by kernel_rfl
theorem fa108_4 (id off : Nat) : afieldAddr Tryz.prog 108 (.ptr id off) 4 = some (.ptr id (off + 32)) := by kernel_rfl
theorem fv108_4 (cs : List AV) (off : Nat) : afieldAddr Tryz.prog 108 (.vptr cs off) 4 = some (.vptr cs (off + 32)) := by kernel_rfl
theorem fl108_4 (cs : List AV) : afield Tryz.prog 108 (.agg cs) 4 = ldAt Tryz.prog 68 cs 32 := by kernel_rfl
theorem fa108_5 (id off : Nat) : afieldAddr Tryz.prog 108 (.ptr id off) 5 = some (.ptr id (off + 33)) := by kernel_rfl
theorem fv108_5 (cs : List AV) (off : Nat) : afieldAddr Tryz.prog 108 (.vptr cs off) 5 = some (.vptr cs (off + 33)) := by kernel_rfl
theorem fl108_5 (cs : List AV) : afield Tryz.prog 108 (.agg cs) 5 = ldAt Tryz.prog 3 cs 33 := by kernel_rfl
theorem sz171 : szOf Tryz.prog 171 = some 1 := by kernel_rfl
theorem ag171 : aggB Tryz.prog 171 = some false := by kernel_rfl
theorem zv171 : zeroAV Tryz.prog 171 = some (.nilPtr) := by kernel_rfl
theorem sz172 : szOf Tryz.prog 172 = some 1 := by kernel_rfl
theorem ag172 : aggB Tryz.prog 172 = some false := by kernel_rfl
theorem zv172 : zeroAV Tryz.prog 172 = some (.nilSlice) := by kernel_rfl
theorem ec172 : elemChk Tryz.prog 172 29 = true := by kernel_rfl
theorem sz173 : szOf Tryz.prog 173 = some 1 := by kernel_rfl
theorem ag173 : aggB Tryz.prog 173 = some false := by kernel_rfl
theorem zv173 : zeroAV Tryz.prog 173 = some (.nilSlice) := by kernel_rfl
theorem ec173 : elemChk Tryz.prog 173 2 = true := by kernel_rfl
theorem sz175 : szOf Tryz.prog 175 = some 7 := by kernel_rfl
theorem ag175 : aggB Tryz.prog 175 = some true := by kernel_rfl
theorem zv175 : zeroAV Tryz.prog 175 = some (.agg [.nilSlice, .nilSlice, .nilSlice, .int .i64 0, .nilSlice, .int .i64 0, .bool false]) := by kernel_rfl
theorem fa175_0 (id off : Nat) : afieldAddr Tryz.prog 175 (.ptr id off) 0 = some (.ptr id (off + 0)) := by kernel_rfl
theorem fv175_0 (cs : List AV) (off : Nat) : afieldAddr Tryz.prog 175 (.vptr cs off) 0 = some (.vptr cs (off + 0)) := by kernel_rfl
theorem fl175_0 (cs : List AV) : afield Tryz.prog 175 (.agg cs) 0 = ldAt Tryz.prog 23 cs 0 := by kernel_rfl
theorem fa175_1 (id off : Nat) : afieldAddr Tryz.prog 175 (.ptr id off) 1 = some (.ptr id (off + 1)) := by kernel_rfl
theorem fv175_1 (cs : List AV) (off : Nat) : afieldAddr Tryz.prog 175 (.vptr cs off) 1 = some (.vptr cs (off + 1)) := by kernel_rfl
theorem fl175_1 (cs : List AV) : afield Tryz.prog 175 (.agg cs) 1 = ldAt Tryz.prog 172 cs 1 := by kernel_rfl
theorem fa175_2 (id off : Nat) : afieldAddr Tryz.prog 175 (.ptr id off) 2 = some (.ptr id (off + 2)) := by kernel_rfl
theorem fv175_2 (cs : List AV) (off : Nat) : afieldAddr Tryz.prog 175 (.vptr cs off) 2 = some (.vptr cs (off + 2)) := by kernel_rfl
theorem fl175_2 (cs : List AV) : afield Tryz.prog 175 (.agg cs) 2 = ldAt Tryz.prog 173 cs 2 := by kernel_rfl
theorem fa175_3 (id off : Nat) : afieldAddr Tryz.prog 175 (.ptr id off) 3 = some (.ptr id (off + 3)) := by kernel_rfl
theorem fv175_3 (cs : List AV) (off : Nat) : afieldAddr Tryz.prog 175 (.vptr cs off) 3 = some (.vptr cs (off + 3)) := by kernel_rfl
theorem fl175_3 (cs : List AV) : afield Tryz.prog 175 (.agg cs) 3 = ldAt Tryz.prog 3 cs 3 := by kernel_rfl
theorem fa175_4 (id off : Nat) : afieldAddr Tryz.prog 175 (.ptr id off) 4 = some (.ptr id (off + 4)) := by kernel_rfl
theorem fv175_4 (cs : List AV) (off : Nat) : afieldAddr Tryz.prog 175 (.vptr cs off) 4 = some (.vptr cs (off + 4)) := by kernel_rfl
theorem fl175_4 (cs : List AV) : afield Tryz.prog 175 (.agg cs) 4 = ldAt Tryz.prog 57 cs 4 := by kernel_rfl
theorem fa175_5 (id off : Nat) : afieldAddr Tryz.prog 175 (.ptr id off) 5 = some (.ptr id (off + 6)) := by kernel_rfl
theorem fv175_5 (cs : List AV) (off : Nat) : afieldAddr Tryz.prog 175 (.vptr cs off) 5 = some (.vptr cs (off + 6)) := by kernel_rfl
theorem fl175_5 (cs : List AV) : afield Tryz.prog 175 (.agg cs) 5 = ldAt Tryz.prog 4 cs 6 := by kernel_rfl
theorem go27 : goFn Tryz.prog 27 = true := by kernel_rfl
theorem go35 : goFn Tryz.prog 35 = true := by kernel_rfl
theorem go72 : goFn Tryz.prog 72 = true := by kernel_rfl
theorem go77 : goFn Tryz.prog 77 = true := by kernel_rfl
theorem go107 : goFn Tryz.prog 107 = true := by kernel_rfl
theorem go122 : goFn Tryz.prog 122 = true := by kernel_rfl
theorem go123 : goFn Tryz.prog 123 = true := by kernel_rfl
theorem go124 : goFn Tryz.prog 124 = true := by kernel_rfl
attribute [simp] sz68 ag68 zv68 ec68 Tryz.underlying68 sz108 ag108 zv108 fa108_0 fv108_0 fl108_0 fa108_1 fv108_1 fl108_1 fa108_2 fv108_2 fl108_2 fa108_3 fv108_3 fl108_3
attribute [simp] fa108_4 fv108_4 fl108_4 fa108_5 fv108_5 fl108_5 Tryz.underlying108 sz171 ag171 zv171 Tryz.underlying171 sz172 ag172 zv172 ec172 Tryz.underlying172 sz173 ag173 zv173 ec173
attribute [simp] Tryz.underlying173 sz175 ag175 zv175 fa175_0 fv175_0 fl175_0 fa175_1 fv175_1 fl175_1 fa175_2 fv175_2 fl175_2 fa175_3 fv175_3 fl175_3 fa175_4 fv175_4 fl175_4 fa175_5
attribute [simp] fv175_5 fl175_5 Tryz.underlying175 go27 go35 go72 go77 go107 go122 go123 go124
end Go.Proofs.YtejjlojfgcgopaaGreatDoor.Tt

namespace Go.Proofs.YtejjlojfgcgopaaGreatDoor.Ts
open Go.RowKit Go.Proofs.Fw
set_option maxRecDepth 100000
theorem sz78 : szOf Tryz.prog 78 = some 1 := by kernel_rfl
theorem ag78 : aggB Tryz.prog 78 = some false := by kernel_rfl
theorem zv78 : zeroAV Tryz.prog 78 = some (.nilSlice) := by kernel_rfl
theorem ec78 : elemChk Tryz.prog 78 4 = true := by kernel_rfl
theorem sz167 : szOf Tryz.prog 167 = some 1 := by kernel_rfl
theorem ag167 : aggB Tryz.prog 167 = some false := by kernel_rfl
theorem zv167 : zeroAV Tryz.prog 167 = some (.nilPtr) := by kernel_rfl
theorem sz169 : szOf Tryz.prog 169 = some 5 := by kernel_rfl
theorem ag169 : aggB Tryz.prog 169 = some true := by kernel_rfl
theorem zv169 : zeroAV Tryz.prog 169 = some (.agg [.nilSlice, .int .i64 0, .nilSlice, .int .i64 0, .int .i64 0]) := by kernel_rfl
theorem fa169_0 (id off : Nat) : afieldAddr Tryz.prog 169 (.ptr id off) 0 = some (.ptr id (off + 0)) := by kernel_rfl
theorem fv169_0 (cs : List AV) (off : Nat) : afieldAddr Tryz.prog 169 (.vptr cs off) 0 = some (.vptr cs (off + 0)) := by kernel_rfl
theorem fl169_0 (cs : List AV) : afield Tryz.prog 169 (.agg cs) 0 = ldAt Tryz.prog 80 cs 0 := by kernel_rfl
theorem fa169_1 (id off : Nat) : afieldAddr Tryz.prog 169 (.ptr id off) 1 = some (.ptr id (off + 2)) := by kernel_rfl
theorem fv169_1 (cs : List AV) (off : Nat) : afieldAddr Tryz.prog 169 (.vptr cs off) 1 = some (.vptr cs (off + 2)) := by kernel_rfl
theorem fl169_1 (cs : List AV) : afield Tryz.prog 169 (.agg cs) 1 = ldAt Tryz.prog 57 cs 2 := by kernel_rfl
theorem fa169_2 (id off : Nat) : afieldAddr Tryz.prog 169 (.ptr id off) 2 = some (.ptr id (off + 4)) := by kernel_rfl
theorem fv169_2 (cs : List AV) (off : Nat) : afieldAddr Tryz.prog 169 (.vptr cs off) 2 = some (.vptr cs (off + 4)) := by kernel_rfl
theorem fl169_2 (cs : List AV) : afield Tryz.prog 169 (.agg cs) 2 = ldAt Tryz.prog 3 cs 4 := by kernel_rfl
theorem go30 : goFn Tryz.prog 30 = true := by kernel_rfl
theorem go34 : goFn Tryz.prog 34 = true := by kernel_rfl
theorem go75 : goFn Tryz.prog 75 = true := by kernel_rfl
theorem go110 : goFn Tryz.prog 110 = true := by kernel_rfl
theorem go111 : goFn Tryz.prog 111 = true := by kernel_rfl
theorem go112 : goFn Tryz.prog 112 = true := by kernel_rfl
theorem go113 : goFn Tryz.prog 113 = true := by kernel_rfl
theorem go114 : goFn Tryz.prog 114 = true := by kernel_rfl
theorem go115 : goFn Tryz.prog 115 = true := by kernel_rfl
theorem go161 : goFn Tryz.prog 161 = true := by kernel_rfl
attribute [simp] sz78 ag78 zv78 ec78 Tryz.underlying78 sz167 ag167 zv167 Tryz.underlying167 sz169 ag169 zv169 fa169_0 fv169_0 fl169_0 fa169_1 fv169_1 fl169_1 fa169_2 fv169_2
attribute [simp] fl169_2 Tryz.underlying169 go30 go34 go75 go110 go111 go112 go113 go114 go115 go161
end Go.Proofs.YtejjlojfgcgopaaGreatDoor.Ts
