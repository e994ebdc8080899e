/- The program's reader of expressions: its small methods. -/
import Derived.Test.YtejjlojfgcgopaaGreatDoorExB
import Derived.Test.YtejjlojfgcgopaaGreatDoorTnD
import Derived.Test.YtejjlojfgcgopaaGreatDoorTx
import Derived.Test.YtejjlojfgcgopaaGreatDoorFwG5
set_option linter.unusedSimpArgs false
set_option linter.unusedVariables false
namespace Go.Proofs.YtejjlojfgcgopaaGreatDoor
open Go.RowKit Go.Proofs.Fw
set_option maxRecDepth 100000
set_option maxHeartbeats 4000000
-- 

/-- The environment of the laws on expressions: what an expression is boxed in is never written. -/
def envX : Env := ⟨envN.glob, methN, fun t => envN.imm t || t == 27 || t == 42⟩
theorem methXOk : MethOk Tryz.prog envX := methNOk
theorem lowX : ∀ i, low 0 (envX.glob i) = true := lowN
theorem CS.toX {f : FuncId} {args : List AV} {H H' : AH} {v : AV} (h : CS Tryz.prog envN f args H v H') : CS Tryz.prog envX f args H v H' := fun g w cargs R hG hA => h g w cargs R hG hA
theorem Sound.toX {O : Orc} (h : Sound Tryz.prog envN O) : Sound Tryz.prog envX O := fun f args H v H' ho => by
  obtain ⟨h1, h2, h3⟩ := h f args H v H' ho
  exact ⟨CS.toX h1, h2, h3⟩
@[simp] theorem immXF : envX.imm 156 = true := by decide
@[simp] theorem immXE : envX.imm 27 = true := by decide
@[simp] theorem immXR : envX.imm 304 = false := by decide
theorem oNilX : Cx oNil Tryz.prog envX := ⟨oNil_sound, methXOk, mixed⟩

def exprTxt : List UInt8 := [101, 120, 112, 114]
/-- A reader's error. -/
def eAV : Option (Nat × Nat) → AV
  | none => .nilIface
  | some (p, c) => errAV [(exprTxt, (p : Int))] (c : Int)
@[simp ↓ high] theorem eAV_low (x : Option (Nat × Nat)) : low 0 (eAV x) = true := by
  cases x with
  | none => rfl
  | some x => exact errAV_low _ _
@[simp ↓ high] theorem eAV_ids (x : Option (Nat × Nat)) : idsOf (eAV x) = [] := by
  cases x with
  | none => rfl
  | some x => simp [eAV, errAV, idsOf]
@[simp high] theorem eAV_eql (x : Option (Nat × Nat)) : abin Tryz.prog .eql 33 true (eAV x) .nilIface = some (.bool x.isNone) := by
  cases x with
  | none => simp [eAV]
  | some x => simp [eAV]
@[simp high] theorem eAV_neq (x : Option (Nat × Nat)) : abin Tryz.prog .neq 33 true (eAV x) .nilIface = some (.bool x.isSome) := by
  cases x with
  | none => simp [eAV]
  | some x => simp [eAV]
@[simp ↓ high] theorem eAV_known (x : Option (Nat × Nat)) : (eAV x).known = true := by
  cases x <;> simp [eAV, errAV]
@[simp ↓ high] theorem eAV_one (x : Option (Nat × Nat)) : (eAV x).one = true := by
  cases x <;> simp [eAV, errAV]
@[simp ↓ high] theorem eAV_cells (x : Option (Nat × Nat)) : cellsAV (eAV x) = [eAV x] := by
  cases x <;> simp [eAV, errAV]
theorem eAV_inj {x y : Option (Nat × Nat)} (h : eAV x = eAV y) : x = y := by
  cases x with
  | none => cases y with
    | none => rfl
    | some y => simp [eAV, errAV] at h
  | some x => cases y with
    | none => simp [eAV, errAV] at h
    | some y =>
      obtain ⟨p, c⟩ := x
      obtain ⟨q, d⟩ := y
      simp [eAV, errAV] at h
      obtain ⟨h1, h2⟩ := h
      have e1 : p = q := by omega
      have e2 : c = d := by omega
      rw [e1, e2]
@[simp ↓ high] theorem wdsAV_low' (l : List Wd) : low 0 (wdsAV l) = true := by
  unfold wdsAV; split
  · rfl
  · exact wdsCells_low l
theorem idsOfL_wds : ∀ l : List Wd, idsOfL (wdsCells l) = []
  | [] => rfl
  | t :: l => by
    have h : wdsCells (t :: l) = wdCells t ++ wdsCells l := rfl
    rw [h]
    simp [wdCells, idsOf, idsOfL, idsOfL_wds l]
@[simp ↓ high] theorem wdsAV_ids (l : List Wd) : idsOf (wdsAV l) = [] := by
  unfold wdsAV; split <;> rfl
@[simp ↓ high] theorem wdsAV_known (l : List Wd) : (wdsAV l).known = true := by unfold wdsAV; split <;> rfl
@[simp ↓ high] theorem wdsAV_one (l : List Wd) : (wdsAV l).one = true := by unfold wdsAV; split <;> rfl
@[simp ↓ high] theorem wdsAV_cells (l : List Wd) : cellsAV (wdsAV l) = [wdsAV l] := by unfold wdsAV; split <;> rfl
@[simp high] theorem alenX (l : List Wd) : alen Tryz.prog 125 (wdsAV l) = some (.int .i64 l.length) := by
  unfold wdsAV
  split
  · rename_i h; subst h; simp [alen]
  · simp [alen]

theorem cells_atX : ∀ (l : List Wd) (i : Nat) (w : Wd), l[i]? = some w → ((wdsCells l).drop (i * 4)).take 4 = wdCells w ∧ i * 4 + 4 ≤ (wdsCells l).length
  | [], i, w, h => by simp at h
  | x :: l, i, w, h => by
    have hc : wdsCells (x :: l) = wdCells x ++ wdsCells l := rfl
    have hx : (wdCells x).length = 4 := rfl
    cases i with
    | zero =>
      simp only [List.getElem?_cons_zero, Option.some.injEq] at h
      subst h
      rw [hc]
      refine ⟨?_, by simp [hx]⟩
      rw [Nat.zero_mul, List.drop_zero, List.take_append_of_le_length (by omega), List.take_of_length_le (by omega)]
    | succ i =>
      simp only [List.getElem?_cons_succ] at h
      obtain ⟨h1, h2⟩ := cells_atX l i w h
      rw [hc]
      refine ⟨?_, by simp only [List.length_append, hx]; omega⟩
      rw [List.drop_append, List.drop_of_length_le (by omega), hx, List.nil_append, show (i + 1) * 4 - 4 = i * 4 by omega]
      exact h1
@[simp high] theorem aidxX {l : List Wd} {i : Nat} (h : i < l.length) : aindexAddr Tryz.prog 125 (wdsAV l) (.int .i64 (i : Int)) = some (.vptr (wdsCells l) (i * 4)) := by
  have hne : l ≠ [] := by rintro rfl; simp at h
  have : (i : Int) < l.length := by omega
  simp [wdsAV, hne, aindexAddr, h]
theorem cellX {l : List Wd} {i : Nat} {w : Wd} (h : l[i]? = some w) : (wdsCells l)[i * 4]? = some (.int .i64 w.kind) ∧ (wdsCells l)[i * 4 + 1]? = some (.str w.text) ∧ (wdsCells l)[i * 4 + 3]? = some (.int .i64 w.n) := by
  obtain ⟨h1, h2⟩ := cells_atX l i w h
  have key : ∀ k, k < 4 → (wdsCells l)[i * 4 + k]? = (wdCells w)[k]? := by
    intro k hk
    rw [← h1, List.getElem?_take, if_pos hk, List.getElem?_drop]
  exact ⟨by simpa [wdCells] using key 0 (by omega), by simpa [wdCells] using key 1 (by omega), by simpa [wdCells] using key 3 (by omega)⟩

def rdC (ts : List Wd) (a d : Int) (x : Option (Nat × Nat)) : List AV := [wdsAV ts, .int .i64 a, .int .i64 d, eAV x]
@[simp] theorem rdC_eq (ts : List Wd) (a d : Int) (x : Option (Nat × Nat)) : rdC ts a d x = [wdsAV ts, .int .i64 a, .int .i64 d, eAV x] := nrfl rfl
def St.cells (ts : List Wd) (r : St) : List AV := rdC ts r.at_ r.deep r.err
theorem St.cells_low (ts : List Wd) (r : St) : lowL 0 (r.cells ts) = true := by simp [St.cells]
theorem St.cells_inj {ts : List Wd} {r q : St} (h : r.cells ts = q.cells ts) : r = q := by
  obtain ⟨a, d, x⟩ := r
  obtain ⟨b, e, y⟩ := q
  simp only [St.cells, rdC_eq, List.cons.injEq, AV.int.injEq, true_and, and_true] at h
  obtain ⟨h1, h2, h3⟩ := h
  have := eAV_inj h3
  subst this
  simp only [St.mk.injEq, and_true]
  omega

theorem fail_cs (ts : List Wd) (r : St) (p e : Nat) {H : AH} {id : Nat} (hH : H.at id = some (.box (r.cells ts))) :
    CS Tryz.prog envX 181 [.ptr id 0, .int .i64 (p : Int), .int .i64 (e : Int)] H (.tup []) (H.set id (some (.box ((r.fail p e).cells ts)))) := by
  refine CS.rd lowX Tryz.func181 (by kernel_rfl) 0 (by simp [Tryz.f181]) (fun B hB hG => ?_) (by simp) rfl (St.cells_low ts r) (St.cells_low ts _) hH
  refine Tr.goD oNilX hG (by kernel_rfl) ?_
  cases he : r.err with
  | none => simp [Tryz.f181, St.cells, St.fail, he, eAV, errAV, buFault, exprTxt]
  | some x => simp [Tryz.f181, St.cells, St.fail, he]

/-! Expressions as values. -/
def Ex.kd : Ex → Int
  | .none => 0
  | .num _ => 1
  | .var _ => 2
  | .elem _ _ => 3
  | .neg _ => 4
  | .bin k _ _ => k
def Ex.nn : Ex → Int
  | .num n => n
  | _ => 0
def Ex.nm : Ex → List UInt8
  | .var s => s
  | .elem s _ => s
  | _ => []
mutual
def exC : Ex → List AV
  | .none => [.int .i64 0, .int .i64 0, .str [], .nilSlice]
  | .num n => [.int .i64 1, .int .i64 n, .str [], .nilSlice]
  | .var s => [.int .i64 2, .int .i64 0, .str s, .nilSlice]
  | .elem s a => [.int .i64 3, .int .i64 0, .str s, .slice .unk 4 a.length (exsC a)]
  | .neg e => [.int .i64 4, .int .i64 0, .str [], .slice .full 4 1 (exC e)]
  | .bin k a b => [.int .i64 k, .int .i64 0, .str [], .slice .full 4 2 (exC a ++ exC b)]
def exsC : List Ex → List AV
  | [] => []
  | e :: l => exC e ++ exsC l
end
/-- An expression's parts. -/
def Ex.ar (e : Ex) : AV := (exC e).getD 3 .undef
@[simp] theorem exC_eq (e : Ex) : exC e = [.int .i64 e.kd, .int .i64 e.nn, .str e.nm, e.ar] := by
  cases e <;> rfl
theorem ar_none : Ex.none.ar = .nilSlice := nrfl rfl
theorem ar_num (n : Nat) : (Ex.num n).ar = .nilSlice := nrfl rfl
theorem ar_var (s : List UInt8) : (Ex.var s).ar = .nilSlice := nrfl rfl
theorem ar_elem (s : List UInt8) (a : List Ex) : (Ex.elem s a).ar = .slice .unk 4 a.length (exsC a) := nrfl rfl
theorem ar_neg (e : Ex) : (Ex.neg e).ar = .slice .full 4 1 (exC e) := nrfl rfl
theorem ar_bin (k : Nat) (a b : Ex) : (Ex.bin k a b).ar = .slice .full 4 2 (exC a ++ exC b) := nrfl rfl
mutual
theorem exC_low : ∀ e : Ex, lowL 0 (exC e) = true
  | .none => rfl
  | .num _ => rfl
  | .var _ => rfl
  | .elem s a => by rw [exC]; have := exsC_low a; simp [this]
  | .neg e => by rw [exC]; have := exC_low e; simpa using this
  | .bin k a b => by rw [exC]; have h1 := exC_low a; have h2 := exC_low b; simp only [exC_eq] at h1 h2; simp only [lowL, low, Bool.and_eq_true, true_and, and_true, Bool.true_and] at h1 h2; simp [h1, h2]
theorem exsC_low : ∀ l : List Ex, lowL 0 (exsC l) = true
  | [] => rfl
  | e :: l => by rw [exsC, lowL_append, exC_low e, exsC_low l]; rfl
end
theorem exsC_append : ∀ a b : List Ex, exsC (a ++ b) = exsC a ++ exsC b
  | [], b => rfl
  | e :: a, b => by rw [List.cons_append, exsC, exsC, exsC_append a b, List.append_assoc]
@[simp ↓ high] theorem ar_low (e : Ex) : low 0 e.ar = true := by
  have := exC_low e
  rw [exC_eq] at this
  simpa using this
@[simp ↓ high] theorem ar_ids (e : Ex) : idsOf e.ar = [] := by
  cases e <;> rfl
@[simp ↓ high] theorem ar_known (e : Ex) : e.ar.known = true := by cases e <;> rfl
@[simp ↓ high] theorem ar_one (e : Ex) : e.ar.one = true := by cases e <;> rfl
@[simp ↓ high] theorem ar_cells (e : Ex) : cellsAV e.ar = [e.ar] := by cases e <;> rfl
def exAV (e : Ex) : AV := .agg (exC e)
@[simp] theorem exAV_eq (e : Ex) : exAV e = .agg [.int .i64 e.kd, .int .i64 e.nn, .str e.nm, e.ar] := by rw [exAV, exC_eq]
@[simp] theorem buE0 : abuild Tryz.prog 27 [] = some (.agg [.int .i64 0, .int .i64 0, .str [], .nilSlice]) := by kernel_rfl
@[simp] theorem buE1 (k n : Int) : abuild Tryz.prog 27 [(0, .int .i64 k), (1, .int .i64 n)] = some (.agg [.int .i64 k, .int .i64 n, .str [], .nilSlice]) := by kernel_rfl
@[simp] theorem buE2 (k : Int) (s : List UInt8) : abuild Tryz.prog 27 [(0, .int .i64 k), (2, .str s)] = some (.agg [.int .i64 k, .int .i64 0, .str s, .nilSlice]) := by kernel_rfl
@[simp] theorem buE3 (k : Int) (ow : Own) (sz n : Nat) (cs : List AV) : abuild Tryz.prog 27 [(0, .int .i64 k), (3, .slice ow sz n cs)] = some (.agg [.int .i64 k, .int .i64 0, .str [], .slice ow sz n cs]) := by kernel_rfl
@[simp] theorem bsE1 (a b c d : AV) : abuildSlice Tryz.prog 25 1 [(0, .agg [a, b, c, d])] = some (.slice .full 4 1 [a, b, c, d]) := by kernel_rfl
@[simp] theorem bsE2 (a b c d e f g h : AV) : abuildSlice Tryz.prog 25 2 [(0, .agg [a, b, c, d]), (1, .agg [e, f, g, h])] = some (.slice .full 4 2 [a, b, c, d, e, f, g, h]) := by kernel_rfl

theorem next_cs (ts : List Wd) (r : St) (s : List UInt8) {H : AH} {id : Nat} (hH : H.at id = some (.box (r.cells ts))) :
    CS Tryz.prog envX 180 [.ptr id 0, .str s] H (.bool (nextB ts r s)) (H.set id (some (.box (r.cells ts)))) := by
  refine CS.rd lowX Tryz.func180 (by kernel_rfl) 0 (by simp [Tryz.f180]) (fun B hB hG => ?_) (by simp) rfl (St.cells_low ts r) (St.cells_low ts _) hH
  refine Tr.goD oNilX hG (by kernel_rfl) ?_
  simp [Tryz.f180, St.cells]
  refine LpD.turns oNilX hG [] [] (by kernel_rfl) ?_
  cases he : r.err with
  | some x => simp [nextB, he]
  | none =>
    by_cases hl : r.at_ < ts.length
    · have hl' : (r.at_ : Int) < ts.length := by omega
      obtain ⟨w, hw⟩ : ∃ w, ts[r.at_]? = some w := ⟨_, List.getElem?_eq_getElem hl⟩
      obtain ⟨c0, c1, c3⟩ := cellX hw
      have hn : isS ts r.at_ s = (w.kind == 3 && w.text == s) := by simp only [isS, hw]
      by_cases hk : w.kind = 3
      · simp [nextB, hn, he, hl, hl', hk, c0, c1]
      · have hk' : ((w.kind : Int) == 3) = false := by rw [beq_eq_false_iff_ne]; omega
        simp [nextB, hn, he, hl, hl', hk, hk', c0, c1]
    · have hl' : ¬ ((r.at_ : Int) < ts.length) := by omega
      have hw : ts[r.at_]? = none := List.getElem?_eq_none (by omega)
      have hn : isS ts r.at_ s = false := by simp only [isS, hw]
      simp [nextB, hn, he, hl', hw]

end Go.Proofs.YtejjlojfgcgopaaGreatDoor
