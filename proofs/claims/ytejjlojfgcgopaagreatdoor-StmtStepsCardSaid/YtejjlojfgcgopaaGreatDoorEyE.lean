/- furrowlaw2.Tells, where it is true: an error that tells just the parts and the number. The words of a text stand in order, and are no more than its bytes; what is wrong has a number. Contracts by trees: reading, comparisons in words, errors told; expr.Same. furrowlaw5.known returns true. -/
import Derived.Test.YtejjlojfgcgopaaGreatDoorTnD
import Derived.Test.YtejjlojfgcgopaaGreatDoorTu
import Derived.Test.YtejjlojfgcgopaaGreatDoorFwG5
import Derived.Test.YtejjlojfgcgopaaGreatDoorTkM
import Derived.Test.YtejjlojfgcgopaaGreatDoorEyC
set_option linter.unusedSimpArgs false
set_option linter.unusedVariables false
namespace Go.Proofs.YtejjlojfgcgopaaGreatDoor
open Go.RowKit Go.Proofs.Fw
set_option maxRecDepth 100000
set_option maxHeartbeats 4000000
-- 

def asOut (a : List AV) (H : AH) : Option (AV × AH) :=
  match a with
  | [.iface t x, .iface tt (.ptr id 0)] => (match H.at id with
    | some (.box [_]) => if t = 152 ∧ tt = 154 then (match x with | .vptr cs 0 => some (.bool true, H.set id (some (.box [.vptr cs 0]))) | _ => none)
      else if t = 134 ∧ tt = 159 then (match x with | .int .i64 n => some (.bool true, H.set id (some (.box [.int .i64 n]))) | _ => none)
      else if t = 134 ∧ tt = 154 then (match x with | .int .i64 _ => some (.bool false, H) | _ => none) else none
    | _ => none)
  | _ => none

theorem at_set_none {H : AH} {i j : Nat} {e x : Ent} (hx : H.at i = some x) (hj : H.at j = none) : AH.at (H.set i (some e)) j = none := by
  have hij : i ≠ j := fun h => by subst h; rw [hx] at hj; cases hj
  unfold AH.at at hj ⊢
  rw [List.getElem?_set_ne hij]
  exact hj

theorem asOut_ok {a : List AV} {H H' : AH} {v : AV} (h : asOut a H = some (v, H')) : CS Tryz.prog envN 71 a H v H' ∧ H.length ≤ H'.length ∧ ∀ id, id < H.length → H.at id = none → H'.at id = none := by
  unfold asOut at h
  split at h
  · split at h
    · rename_i t x tt id y hH
      split at h
      · rename_i ht
        obtain ⟨rfl, rfl⟩ := ht
        split at h
        · injection h with h
          simp only [Prod.mk.injEq] at h
          obtain ⟨rfl, rfl⟩ := h
          exact ⟨asF_cs hH, by simp, fun j _ hj => at_set_none hH hj⟩
        · cases h
      · split at h
        · rename_i ht
          obtain ⟨rfl, rfl⟩ := ht
          split at h
          · injection h with h
            simp only [Prod.mk.injEq] at h
            obtain ⟨rfl, rfl⟩ := h
            exact ⟨asN_cs hH, by simp, fun j _ hj => at_set_none hH hj⟩
          · cases h
        · split at h
          · rename_i ht
            obtain ⟨rfl, rfl⟩ := ht
            split at h
            · injection h with h
              simp only [Prod.mk.injEq] at h
              obtain ⟨rfl, rfl⟩ := h
              exact ⟨asX_cs, Nat.le_refl _, fun _ _ hj => hj⟩
            · cases h
          · cases h
    · cases h
  · cases h

open Classical in
/-- What Tells asks. -/
noncomputable def oTl (l : List (List UInt8 × Int)) (c : Int) : Orc := fun f a H =>
  if f = 70 then (if a = [errAV l c, .iface 134 (.int .i64 c)] then some (.bool true, H) else none) else if f = 71 then asOut a H else none
theorem oTl_sound (l : List (List UInt8 × Int)) (c : Int) : Sound Tryz.prog envN (oTl l c) := by
  intro f a H v H' h
  unfold oTl at h
  split at h
  · rename_i hf
    subst hf
    split at h
    · rename_i ha
      subst ha
      injection h with h
      simp only [Prod.mk.injEq] at h
      obtain ⟨rfl, rfl⟩ := h
      have := Is_cs l c c H
      rw [show (c == c) = true by simp] at this
      exact ⟨this, Nat.le_refl _, fun _ _ hj => hj⟩
    · cases h
  · split at h
    · rename_i hf
      subst hf
      exact asOut_ok h
    · cases h
theorem oTl_cx (l : List (List UInt8 × Int)) (c : Int) : Cx (oTl l c) Tryz.prog envN := ⟨oTl_sound l c, methNOk, mixed⟩
theorem oTl_is (l : List (List UInt8 × Int)) (c : Int) (H : AH) : oTl l c 70 [errAV l c, .iface 134 (.int .i64 c)] H = some (.bool true, H) := by simp [oTl]
theorem oTl_as (l : List (List UInt8 × Int)) (c : Int) (a : List AV) (H : AH) : oTl l c 71 a H = asOut a H := by simp [oTl]

def partCells : List (List UInt8 × Int) → List AV
  | [] => []
  | (w, p) :: l => .str w :: .int .i64 p :: partCells l

@[simp] theorem ids_err : ∀ (l : List (List UInt8 × Int)) (c : Int), idsOf (errAV l c) = []
  | [], c => rfl
  | (w, p) :: l, c => by simp [errAV, idsOf, idsOfL, ids_err l c]
@[simp high] theorem clos0 : clos [some (.box [.nilPtr])] 4 [0] = [0] := by
  have h : boxIdsL [some (.box [.nilPtr])] [0] = [] := by simp [boxIdsL, boxIds, AH.at, idsOf, idsOfL]
  simp [clos, h]
@[simp high] theorem mask0 : mask [some (.box [.nilPtr])] [0] = [some (.box [.nilPtr])] := by simp [mask, maskFrom]
@[simp high] theorem clos1 (w : List UInt8) (p : Int) (l : List (List UInt8 × Int)) (c : Int) : clos [some (.box [.vptr [.str w, .int .i64 p, errAV l c] 0])] 4 [0] = [0] := by
  have h : boxIdsL [some (.box [.vptr [.str w, .int .i64 p, errAV l c] 0])] [0] = [] := by simp [boxIdsL, boxIds, AH.at, idsOf, idsOfL]
  simp [clos, h]
@[simp high] theorem mask1 (x : AV) : mask [some (.box [x])] [0] = [some (.box [x])] := by simp [mask, maskFrom]

theorem partCells_get : ∀ (l : List (List UInt8 × Int)) (i : Nat) {w : List UInt8} {p : Int} {r : List (List UInt8 × Int)}, l.drop i = (w, p) :: r → (partCells l)[i * 2]? = some (.str w) ∧ (partCells l)[i * 2 + 1]? = some (.int .i64 p)
  | [], i, w, p, r, h => by simp at h
  | (a, b) :: l, 0, w, p, r, h => by
    simp only [List.drop_zero, List.cons.injEq, Prod.mk.injEq] at h
    obtain ⟨⟨rfl, rfl⟩, _⟩ := h
    simp [partCells]
  | (a, b) :: l, i + 1, w, p, r, h => by
    have := partCells_get l i (by simpa using h)
    rw [show (i + 1) * 2 = i * 2 + 1 + 1 by omega]
    simpa [partCells] using this

def TlI (l : List (List UInt8 × Int)) (c : Int) (sv : AV) (k : Nat) (t : List AV) (H : AH) : Prop :=
  ∃ i, i + k = l.length ∧ t = mkT 88 [(0, errAV (l.drop i) c), (3, .vptr [sv, .int .i64 c] 0), (5, .int .i64 ((i : Nat) : Int))] ∧ H = []

theorem tells_cs (l : List (List UInt8 × Int)) (c : Int) (hc : c ≠ 0) (hl : l.length < 1000) (ow : Own) (how : ow = .unk ∨ ow = .full) (H : AH) :
    CS Tryz.prog envN 23 [errAV l c, .agg [.slice ow 2 l.length (partCells l), .int .i64 c]] H (.bool true) H := by
  have hplow : lowL 0 (partCells l) = true := by
    clear hl
    induction l with
    | nil => rfl
    | cons x l ih => obtain ⟨w, p⟩ := x; simp [partCells, ih]
  have hsl : low 0 (.slice ow 2 l.length (partCells l)) = true := by rcases how with rfl | rfl <;> simp [hplow]
  clear how
  refine CS.tr0 lowN Tryz.func23 (by kernel_rfl) 0 (by simp [Tryz.f23]) (fun B hB hG => ?_) rfl (by simp [errAV_low, hsl]) H
  refine Tr.go (oTl_cx l c) hG (by kernel_rfl) ?_
  simp [Tryz.f23, hc, oTl_is]
  refine Tr.less (t' := mkT 88 [(0, errAV (l.drop 0) c), (3, .vptr [.slice ow 2 l.length (partCells l), .int .i64 c] 0), (5, .int .i64 ((0 : Nat) : Int))]) (H' := []) (Less.mk0 hB (by simp [errAV_low, hsl])) (Tr.loop (TlI l c (.slice ow 2 l.length (partCells l))) l.length ⟨0, by omega, rfl, rfl⟩ ?_)
  rintro k t H ⟨i, hik, rfl, rfl⟩
  refine Tr.seqD rfl ?_
  refine Tr.go (oTl_cx l c) hG (by kernel_rfl) ?_
  cases k with
  | zero =>
    obtain rfl : i = l.length := by omega
    simp [Blk_exit, errAV, oTl_as, asOut, AH.at]
  | succ k =>
    have e1 : i < l.length := by omega
    have e2 : (i : Int) < l.length := by omega
    obtain ⟨w, p, hd⟩ : ∃ w p, l.drop i = (w, p) :: l.drop (i + 1) := ⟨l[i].1, l[i].2, List.drop_eq_getElem_cons e1⟩
    simp [e2]
    refine Tr.seqD rfl (Tr.blockD rfl (Tr.seqD rfl ?_))
    refine Tr.go (oTl_cx l c) hG (by kernel_rfl) ?_
    simp
    rw [hd]
    refine Tr.seqD rfl (Tr.seqD rfl (Tr.solid (oTl_cx l c) hG 2 (by kernel_rfl) ?_))
    simp [errAV]
    refine ⟨_, .bool true, [(0, .box [.vptr [.str w, .int .i64 p, errAV (l.drop (i + 1)) c] 0])], [0], rfl, ?_, ?_⟩
    · simp [dstep, stepU, callee, oTl_as, asOut, AH.at]
    · obtain ⟨pc0, pc1⟩ := partCells_get l i hd
      simp [applyUps, errAV, e1, pc0, pc1]
      refine Tr.go (oTl_cx l c) hG (by kernel_rfl) ?_
      simp
      refine Tr.go (oTl_cx l c) hG (by kernel_rfl) ?_
      simp
      refine Tr.go (oTl_cx l c) hG (by kernel_rfl) ?_
      have w1 : IntKind.i64.wrap ((i : Int) + 1) = (i : Int) + 1 := wrap_i64 (by omega) (by omega)
      simp [w1]
      exact ⟨k, by omega, _, _, Less.mk0 (l' := [(0, errAV (l.drop (i + 1)) c), (3, .vptr [.slice ow 2 l.length (partCells l), .int .i64 c] 0), (5, .int .i64 ((i + 1 : Nat) : Int))]) hB (by simp [errAV_low, hsl]), ⟨i + 1, by omega, rfl, rfl⟩⟩
end Go.Proofs.YtejjlojfgcgopaaGreatDoor

namespace Go.Proofs.YtejjlojfgcgopaaGreatDoor
set_option maxHeartbeats 1000000

/-- Words that stand in order, from a place to an end. -/
def wdsIn : Nat → Nat → List Wd → Prop
  | p, e, [] => p ≤ e
  | p, e, w :: r => p ≤ w.at_ ∧ wdsIn (w.at_ + w.text.length) e r

theorem wdsIn_le : ∀ {p e : Nat} {l : List Wd}, wdsIn p e l → p ≤ e
  | _, _, [], h => h
  | p, e, w :: r, h => by
    have := wdsIn_le h.2
    have := h.1
    omega

theorem lex_in : ∀ (n : Nat) (s : List UInt8) (p : Nat) (b : Bool) (l : List Wd), s.length < n → lex n s p b = .ok l → wdsIn p (p + s.length) l ∧ l.length ≤ s.length := by
  intro n
  induction n with
  | zero => intro s p b l h; omega
  | succ n ih =>
    intro s p b l hn h
    cases s with
    | nil =>
      simp only [lex] at h
      injection h with h
      subst h
      exact ⟨Nat.le_refl _, Nat.le_refl _⟩
    | cons c r =>
      simp only [List.length_cons] at hn ⊢
      cases hb : isBlank c with
      | true =>
        simp only [lex, hb, if_true] at h
        obtain ⟨h1, h2⟩ := ih r (p + 1) false l (by omega) h
        refine ⟨?_, by omega⟩
        rw [show p + (r.length + 1) = p + 1 + r.length by omega]
        cases l with
        | nil => have : p + 1 ≤ _ := h1; show p ≤ _; omega
        | cons w l => exact ⟨by have := h1.1; omega, h1.2⟩
      | false =>
        rw [lex_word _ _ _ _ _ hb] at h
        split at h
        · cases h
        · rename_i he
          have hp := wordOf_pos (r := r) (wordErr_zero (by simpa using he))
          have hle := wordOf_le c r
          simp only [List.length_cons] at hle
          cases hx : lex n ((c :: r).drop (wordOf (c :: r)).1.2.1.length) (p + (wordOf (c :: r)).1.2.1.length) ((wordOf (c :: r)).1.1 == 2) with
          | error x => rw [hx] at h; cases h
          | ok l' =>
            rw [hx] at h
            simp only [behind, List.singleton_append] at h
            injection h with h
            subst h
            obtain ⟨h1, h2⟩ := ih _ _ _ l' (by rw [List.length_drop, List.length_cons]; omega) hx
            rw [List.length_drop, List.length_cons] at h1 h2
            refine ⟨⟨Nat.le_refl _, ?_⟩, by simp only [List.length_cons]; omega⟩
            rw [show p + (r.length + 1) = p + (wordOf (c :: r)).1.2.1.length + (r.length + 1 - (wordOf (c :: r)).1.2.1.length) by omega]
            exact h1

theorem lex_err : ∀ (n : Nat) (s : List UInt8) (p : Nat) (b : Bool) (q e : Nat), lex n s p b = .error (q, e) → e ≠ 0 := by
  intro n
  induction n with
  | zero => intro s p b q e h; cases h
  | succ n ih =>
    intro s p b q e h
    cases s with
    | nil => cases h
    | cons c r =>
      cases hb : isBlank c with
      | true =>
        simp only [lex, hb, if_true] at h
        exact ih r _ _ _ _ h
      | false =>
        rw [lex_word _ _ _ _ _ hb] at h
        split at h
        · rename_i he
          injection h with h
          simp only [Prod.mk.injEq] at h
          rw [← h.2]; exact he
        · cases hx : lex n ((c :: r).drop (wordOf (c :: r)).1.2.1.length) (p + (wordOf (c :: r)).1.2.1.length) ((wordOf (c :: r)).1.1 == 2) with
          | error x =>
            rw [hx] at h
            simp only [behind] at h
            injection h with h
            subst h
            exact ih _ _ _ _ _ hx
          | ok l' => rw [hx] at h; cases h

end Go.Proofs.YtejjlojfgcgopaaGreatDoor

namespace Go.Proofs.YtejjlojfgcgopaaGreatDoor
open Go.RowKit Go.Proofs.Fw
set_option maxRecDepth 100000
set_option maxHeartbeats 4000000

@[simp] theorem ids_nothing : idsOf AV.nothing = [] := nrfl rfl
/-! Words as an argument. -/
theorem wdCells_inj {a b : Wd} (h : wdCells a = wdCells b) : a = b := by
  obtain ⟨k, s, p, n⟩ := a
  obtain ⟨k', s', p', n'⟩ := b
  simp only [wdCells, List.cons.injEq, AV.int.injEq, AV.str.injEq, true_and, and_true] at h
  obtain ⟨h1, h2, h3, h4⟩ := h
  have e1 : k = k' := by omega
  have e2 : p = p' := by omega
  have e3 : n = n' := by omega
  rw [e1, h2, e2, e3]
theorem wdsCells_inj : ∀ {a b : List Wd}, wdsCells a = wdsCells b → a = b
  | [], [], _ => rfl
  | [], x :: b, h => by
    have hc : wdsCells (x :: b) = wdCells x ++ wdsCells b := rfl
    rw [hc] at h
    simp [wdCells, wdsCells] at h
  | x :: a, [], h => by
    have hc : wdsCells (x :: a) = wdCells x ++ wdsCells a := rfl
    rw [hc] at h
    simp [wdCells, wdsCells] at h
  | x :: a, y :: b, h => by
    have hc : wdsCells (x :: a) = wdCells x ++ wdsCells a := rfl
    have hd : wdsCells (y :: b) = wdCells y ++ wdsCells b := rfl
    rw [hc, hd] at h
    have := List.append_inj h rfl
    rw [wdCells_inj this.1, wdsCells_inj this.2]
theorem wdsAV_inj {a b : List Wd} (h : wdsAV a = wdsAV b) : a = b := by
  unfold wdsAV at h
  split at h
  · split at h
    · rename_i h1 h2; rw [h1, h2]
    · cases h
  · split at h
    · cases h
    · injection h with _ _ _ h
      exact wdsCells_inj h
open Classical in
/-- A function of words. -/
noncomputable def oW (f0 : FuncId) (out : List Wd → AV) : Orc := fun f args H => if h : f = f0 ∧ ∃ ts : List Wd, ts.length < 1000000 ∧ args = [wdsAV ts] then some (out h.2.choose, H) else none
theorem oW_at {f0 : FuncId} {out : List Wd → AV} {ts : List Wd} (h : ts.length < 1000000) (H : AH) : oW f0 out f0 [wdsAV ts] H = some (out ts, H) := by
  have hh : f0 = f0 ∧ ∃ us : List Wd, us.length < 1000000 ∧ [wdsAV ts] = [wdsAV us] := ⟨rfl, ts, h, rfl⟩
  have hc := hh.2.choose_spec.2
  injection hc with hc _
  have he : hh.2.choose = ts := (wdsAV_inj hc).symm
  simp only [oW, dif_pos hh]
  rw [he]
theorem oW_sound {E : Env} {f0 : FuncId} {out : List Wd → AV} (h : ∀ ts : List Wd, ts.length < 1000000 → ∀ H, CS Tryz.prog E f0 [wdsAV ts] H (out ts) H) : Sound Tryz.prog E (oW f0 out) := by
  intro f args H v H' ho
  unfold oW at ho
  split at ho
  · rename_i hx
    injection ho with ho
    simp only [Prod.mk.injEq] at ho
    obtain ⟨rfl, rfl⟩ := ho
    have hs := hx.2.choose_spec
    generalize hx.2.choose = u at *
    obtain ⟨rfl, _⟩ := hx
    rw [hs.2]
    exact ⟨h _ hs.1 _, Nat.le_refl _, fun _ _ h => h⟩
  · cases ho

/-! Readers, by trees. -/
def parseT (x : Ex × Nat × Option (Nat × Nat)) : AV := .tup [.agg (tC x.1.tn), .int .i64 x.2.1, eAV x.2.2]
def rparseT (x : Ex × Nat × Option (Nat × Nat)) : AV := .tup [.agg (tC x.1.tn), .int .i64 x.2.1, wrAV x.2.2]
def condT (c : List UInt8 × Ex × Ex) : AV := .agg (.str c.1 :: (tC c.2.1.tn ++ tC c.2.2.tn))
def parseCT (x : (List UInt8 × Ex × Ex) × Nat × Option (Nat × Nat)) : AV := .tup [condT x.1, .int .i64 x.2.1, eAV x.2.2]
def rparseCT (x : (List UInt8 × Ex × Ex) × Nat × Option (Nat × Nat)) : AV := .tup [condT x.1, .int .i64 x.2.1, wrAV x.2.2]
theorem rep_exAV (g : Gh) (e : Ex) (v : Value) (h : RepV g (exAV e) v) : RepV g (.agg (tC e.tn)) v := by
  unfold exAV at h
  simp only [RepV] at h ⊢
  obtain ⟨vs, rfl, h⟩ := h
  exact ⟨vs, rfl, rep_tn g e vs h⟩
theorem rep_cond (g : Gh) (c : List UInt8 × Ex × Ex) (v : Value) (h : RepV g (condAV c) v) : RepV g (condT c) v := by
  unfold condAV at h
  unfold condT
  simp only [RepV] at h ⊢
  obtain ⟨vs, rfl, u, us, rfl, h1, h2⟩ := h
  obtain ⟨v1, v2, rfl, h3, h4⟩ := repL_append2 h2
  exact ⟨_, rfl, u, _, rfl, h1, (rep_tn g _ v1 h3).append (rep_tn g _ v2 h4)⟩
theorem parseT_cs (ts : List Wd) (hts : ts.length < 1000000) (H : AH) : CS Tryz.prog envF 145 [wdsAV ts] H (parseT (parseX ts)) H := CS.toF (CS.weak (v' := parseT (parseX ts)) (parse_cs ts hts H) fun g cv h => by
  unfold parseAV at h
  unfold parseT
  simp only [RepV] at h ⊢
  obtain ⟨vs, rfl, u, us, rfl, h1, h2⟩ := h
  exact ⟨_, rfl, u, us, rfl, rep_exAV g _ _ h1, h2⟩)
theorem rparseT_cs (ts : List Wd) (hts : ts.length < 1000000) (H : AH) : CS Tryz.prog envF 169 [wdsAV ts] H (rparseT (parseX ts)) H := by
  have := rparse_cs ts hts H
  rw [rparseX_eq] at this
  exact CS.toF (CS.weak (v' := rparseT (parseX ts)) this fun g cv h => by
    unfold rparseAV at h
    unfold rparseT
    simp only [RepV] at h ⊢
    obtain ⟨vs, rfl, u, us, rfl, h1, h2⟩ := h
    exact ⟨_, rfl, u, us, rfl, rep_exAV g _ _ h1, h2⟩)
theorem parseCT_cs (ts : List Wd) (hts : ts.length < 1000000) (H : AH) : CS Tryz.prog envF 141 [wdsAV ts] H (parseCT (parseC ts)) H := CS.toF (CS.weak (v' := parseCT (parseC ts)) (parsec_cs ts hts H) fun g cv h => by
  unfold parseCAV at h
  unfold parseCT
  simp only [RepV] at h ⊢
  obtain ⟨vs, rfl, u, us, rfl, h1, h2⟩ := h
  exact ⟨_, rfl, u, us, rfl, rep_cond g _ _ h1, h2⟩)
theorem rparseCT_cs (ts : List Wd) (hts : ts.length < 1000000) (H : AH) : CS Tryz.prog envF 165 [wdsAV ts] H (rparseCT (parseC ts)) H := by
  have := rparsec_cs ts hts H
  rw [rparseC_eq] at this
  exact CS.toF (CS.weak (v' := rparseCT (parseC ts)) this fun g cv h => by
    unfold rparseCAV at h
    unfold rparseCT
    simp only [RepV] at h ⊢
    obtain ⟨vs, rfl, u, us, rfl, h1, h2⟩ := h
    exact ⟨_, rfl, u, us, rfl, rep_cond g _ _ h1, h2⟩)

/-! Errors told. -/
theorem tellsX_cs (x : Option (Nat × Nat)) (hx : errOk x) (H : AH) : CS Tryz.prog envF 23 [eAV x, wrAV x] H (.bool true) H := by
  cases x with
  | none =>
    refine CS.tr0 lowF Tryz.func23 (by kernel_rfl) 0 (by simp [Tryz.f23]) (fun B hB hG => ?_) rfl (by simp [wrAV, eAV, pAV]) H
    refine Tr.goD oNilF hG (by kernel_rfl) ?_
    have hi : envF.imm 57 = true := by decide
    simp [Tryz.f23, wrAV, pAV_none, cI_none, eAV_none, hi]
  | some y =>
    obtain ⟨p, c⟩ := y
    have hc : (c : Int) ≠ 0 := by
      intro h
      have : c = 0 := by omega
      subst this
      exact hx p rfl
    exact CS.toF (CS.toX (tells_cs [(exprTxt, (p : Int))] c hc (by simp) .full (.inr rfl) H))
open Classical in
noncomputable def oTells : Orc := fun f args H => if f = 23 ∧ ∃ x, errOk x ∧ args = [eAV x, wrAV x] then some (.bool true, H) else none
theorem oTells_at {x : Option (Nat × Nat)} (h : errOk x) (H : AH) : oTells 23 [eAV x, wrAV x] H = some (.bool true, H) := by
  simp only [oTells]
  rw [if_pos ⟨rfl, x, h, rfl⟩]
theorem oTells_sound : Sound Tryz.prog envF oTells := by
  intro f args H v H' ho
  unfold oTells at ho
  split at ho
  · rename_i hx
    obtain ⟨rfl, x, hx, rfl⟩ := hx
    injection ho with ho
    simp only [Prod.mk.injEq] at ho
    obtain ⟨rfl, rfl⟩ := ho
    exact ⟨tellsX_cs x hx _, Nat.le_refl _, fun _ _ h => h⟩
  · cases ho

/-! Comparisons in words. -/
theorem condText_cs {S : Int → Prop} {nt : Int → List UInt8} (hS : NumOk S nt) (op : List UInt8) (a b : Tn) (ha : okT a = true) (hb : okT b = true) (ga : good S a) (gb : good S b) (la : (txt nt a).length < 1099511627776) (lb : (txt nt b).length < 1099511627776)
    (lo : op.length < 1099511627776) (H : AH) : CS Tryz.prog envF 58 [.agg (.str op :: (tC a ++ tC b))] H (.str (txt nt a ++ [32] ++ op ++ [32] ++ txt nt b)) H := by
  have X : Cx (oTn 56 (fun u => u = a ∨ u = b) (fun u => .str (txt nt u))) Tryz.prog envF := ⟨oTn_sound fun u hu H => by
    rcases hu with rfl | rfl
    · exact text_cs hS _ ha ga la H
    · exact text_cs hS _ hb gb lb H, methFOk, mixed⟩
  have h1 := fun H => oTn_at (f0 := 56) (S := fun u => u = a ∨ u = b) (out := fun u => .str (txt nt u)) (t := a) (.inl rfl) H
  have h2 := fun H => oTn_at (f0 := 56) (S := fun u => u = a ∨ u = b) (out := fun u => .str (txt nt u)) (t := b) (.inr rfl) H
  generalize oTn 56 (fun u => u = a ∨ u = b) (fun u => .str (txt nt u)) = O at X h1 h2
  refine CS.tr0 lowF Tryz.func58 (by kernel_rfl) 0 (by simp [Tryz.f58]) (fun B hB hG => ?_) (by simp) (by simp) H
  refine Tr.goD X hG (by kernel_rfl) ?_
  simp only [tC_eq] at h1 h2
  generalize txt nt a = x at *
  generalize txt nt b = y at *
  have e1 : x.length ≤ 9223372036854775806 := by omega
  have e2 : x.length + (op.length + 1) ≤ 9223372036854775807 := by omega
  have e3 : x.length + (op.length + 1) ≤ 9223372036854775806 := by omega
  have e4 : x.length + (op.length + (y.length + 1 + 1)) ≤ 9223372036854775807 := by omega
  have e5 : x.length + (op.length + (y.length + 1) + 1) ≤ 9223372036854775807 := by omega
  have e6 : x.length + (op.length + 1 + 1) ≤ 9223372036854775807 := by omega
  have e7 : x.length + (op.length + 1 + 1) + y.length ≤ 9223372036854775807 := by omega
  have e8 : x.length + 1 + op.length ≤ 9223372036854775807 := by omega
  have e9 : x.length + 1 + op.length + 1 ≤ 9223372036854775807 := by omega
  have e10 : x.length + 1 + op.length ≤ 9223372036854775806 := by omega
  have e11 : x.length + 1 + op.length + 1 + y.length ≤ 9223372036854775807 := by omega
  have e12 : x.length + (op.length + 1) + 1 + y.length ≤ 9223372036854775807 := by omega
  simp [Tryz.f58]
  refine LpD.turns X hG [2, 10] [(2, 4), (2, 5), (2, 8), (2, 9), (3, 10), (4, 10), (5, 10), (6, 10), (7, 10)] (by kernel_rfl) ?_
  simp [h1, h2, e1, e2, e3, e4, e5, e6, e7, e8, e9, e10, e11, e12]

theorem beq_cast (a b : Nat) : ((a : Int) == (b : Int)) = decide (a = b) := by
  rw [Bool.eq_iff_iff]
  simp only [beq_iff_eq, decide_eq_true_eq]
  omega
/-! A text, read. -/
def oLnF : Orc := oPure 51 (fun args => match args with
    | [.str s] => if s.length < maxS then some s else none
    | _ => none) fun s => lineAV (lex (s.length + 1) s 0 false)
theorem oLnF_sound : Sound Tryz.prog envF oLnF := oPure_sound fun args x H h => by
  split at h
  · split at h
    · rename_i s hs
      injection h with h
      subst h
      exact CS.toF (CS.toX (CS.toN (line_cs s hs H)))
    · cases h
  · cases h
theorem oLnF_at {s : List UInt8} (h : s.length < maxS) (H : AH) : oLnF 51 [.str s] H = some (lineAV (lex (s.length + 1) s 0 false), H) := by simp [oLnF, oPure, h]
def readP (s : List UInt8) : Ex × Bool := match lex (s.length + 1) s 0 false with
  | .ok ts => ((parseX ts).1, decide ((parseX ts).2.2 = none) && decide ((parseX ts).2.1 = ts.length))
  | .error _ => (.none, false)
noncomputable def oRead : Orc := oTab [(51, oLnF), (145, oW 145 fun ts => parseT (parseX ts))]
theorem oRead_cx : Cx oRead Tryz.prog envF := ⟨oTab_sound (by
  intro p hp
  simp only [List.mem_cons, List.not_mem_nil, or_false] at hp
  rcases hp with rfl | rfl
  · exact oLnF_sound
  · exact oW_sound parseT_cs), methFOk, mixed⟩
theorem lex_count {s : List UInt8} {l : List Wd} (hs : s.length < 1000000) (h : lex (s.length + 1) s 0 false = .ok l) : l.length < 1000000 := by
  have := (lex_in _ _ _ _ _ (by omega) h).2
  omega
theorem eAV_some_ne (y : Nat × Nat) : eAV (some y) ≠ .nilIface := by
  obtain ⟨p, c⟩ := y
  simp [eAV, errAV]
end Go.Proofs.YtejjlojfgcgopaaGreatDoor

namespace Go.Proofs.YtejjlojfgcgopaaGreatDoor
open Go.RowKit Go.Proofs.Fw
set_option maxRecDepth 100000
set_option maxHeartbeats 4000000
-- 

open Classical in
/-- One fact. -/
noncomputable def oFact (f0 : FuncId) (a0 : List AV) (v : AV) : Orc := fun f args H => if f = f0 ∧ args = a0 then some (v, H) else none
theorem oFact_at {f0 : FuncId} {a0 : List AV} {v : AV} (H : AH) : oFact f0 a0 v f0 a0 H = some (v, H) := by
  unfold oFact
  rw [if_pos (And.intro rfl rfl)]
theorem oFact_sound {E : Env} {f0 : FuncId} {a0 : List AV} {v : AV} (h : ∀ H, CS Tryz.prog E f0 a0 H v H) : Sound Tryz.prog E (oFact f0 a0 v) := by
  intro f args H v' H' ho
  unfold oFact at ho
  split at ho
  · rename_i hx
    obtain ⟨rfl, rfl⟩ := hx
    injection ho with ho
    simp only [Prod.mk.injEq] at ho
    obtain ⟨rfl, rfl⟩ := ho
    exact ⟨h _, Nat.le_refl _, fun _ _ h => h⟩
  · cases ho

def sA : List UInt8 := [45, 40, 120, 32, 43, 32, 50, 41, 42, 97, 40, 105, 44, 32, 40, 106, 41, 41, 47, 40, 51, 42, 52, 41]
def sB : List UInt8 := [49, 32, 45, 32, 40, 50, 32, 45, 32, 45, 51, 41]
def sC : List UInt8 := [120, 32, 43, 32, 41, 32, 50]
def sD : List UInt8 := [120, 42, 50, 32, 47, 61, 32, 121, 41]
def tsOf (s : List UInt8) : List Wd := match lex (s.length + 1) s 0 false with
  | .ok ts => ts
  | .error _ => []
def exA : Ex := (readP sA).1
def exB : Ex := (readP sB).1
theorem rdA : (readP sA).2 = true := by kernel_rfl
theorem rdB : (readP sB).2 = true := by kernel_rfl
theorem txA : txt numG exA.tn = [45, 40, 120, 32, 43, 32, 50, 41, 32, 42, 32, 97, 40, 105, 44, 32, 106, 41, 32, 47, 32, 40, 51, 32, 42, 32, 52, 41] := by kernel_rfl
theorem txB : txt numG exB.tn = [49, 32, 45, 32, 40, 50, 32, 45, 32, 40, 45, 51, 41, 41] := by kernel_rfl
theorem lnC : lex (sC.length + 1) sC 0 false = .ok (tsOf sC) := by kernel_rfl
theorem lnD : lex (sD.length + 1) sD 0 false = .ok (tsOf sD) := by kernel_rfl
theorem prC : (parseX (tsOf sC)).2.2 = some (2, 2) := by kernel_rfl
theorem prD : (parseC (tsOf sD)).2 = (5, none) := by kernel_rfl
def cD : List UInt8 × Ex × Ex := (parseC (tsOf sD)).1
theorem opD : cD.1 = [47, 61] := by kernel_rfl
theorem txD1 : txt numG cD.2.1.tn = [120, 32, 42, 32, 50] := by kernel_rfl
theorem txD2 : txt numG cD.2.2.tn = [121] := by kernel_rfl
def gkB (S : Int → Bool) (k n : Int) (m : Nat) : Bool := (decide (k = 1) && S n) || decide (k = 2) || (decide (k = 3) && decide (0 < m)) || (decide (k = 4) && decide (m = 1)) || ((decide (k < 1) || decide (4 < k)) && decide (m = 2))
mutual
def goodB (S : Int → Bool) : Tn → Bool
  | .lf k n _ => gkB S k n 0
  | .nd k n _ a => gkB S k n a.length && ((decide (k = 1) || decide (k = 2)) || goodsB S a)
def goodsB (S : Int → Bool) : List Tn → Bool
  | [] => true
  | t :: l => goodB S t && goodsB S l
end
theorem gkB_ok {S : Int → Bool} {k n : Int} {m : Nat} (h : gkB S k n m = true) : gk (fun n => S n = true) k n m := by
  simp only [gkB, Bool.or_eq_true, Bool.and_eq_true, decide_eq_true_eq] at h
  unfold gk
  rcases h with (((h | h) | h) | h) | h
  · exact .inl h
  · exact .inr (.inl h)
  · exact .inr (.inr (.inl h))
  · exact .inr (.inr (.inr (.inl h)))
  · exact .inr (.inr (.inr (.inr h)))
mutual
theorem goodB_ok {S : Int → Bool} : ∀ t : Tn, goodB S t = true → good (fun n => S n = true) t
  | .lf k n s, h => gkB_ok h
  | .nd k n s a, h => by
    simp only [goodB, Bool.or_eq_true, Bool.and_eq_true, decide_eq_true_eq] at h
    refine ⟨gkB_ok h.1, ?_⟩
    rcases h.2 with h2 | h2
    · exact .inl h2
    · exact .inr (goodsB_ok a h2)
theorem goodsB_ok {S : Int → Bool} : ∀ l : List Tn, goodsB S l = true → goods (fun n => S n = true) l
  | [], _ => trivial
  | t :: l, h => by
    simp only [goodsB, Bool.and_eq_true] at h
    exact ⟨goodB_ok t h.1, goodsB_ok l h.2⟩
end
def numB (n : Int) : Bool := decide (n = -4) || decide (n = 1) || decide (n = 2) || decide (n = 3) || decide (n = 4)
theorem numB_ok : NumOk (fun n => numB n = true) numG := fun n h H => numS_ok n (by
  simp only [numB, Bool.or_eq_true, decide_eq_true_eq] at h
  unfold numS
  rcases h with (((h | h) | h) | h) | h
  · exact .inl h
  · exact .inr (.inl h)
  · exact .inr (.inr (.inl h))
  · exact .inr (.inr (.inr (.inl h)))
  · exact .inr (.inr (.inr (.inr h)))) H
def exM : Tn := .lf 1 (-4) []

end Go.Proofs.YtejjlojfgcgopaaGreatDoor
