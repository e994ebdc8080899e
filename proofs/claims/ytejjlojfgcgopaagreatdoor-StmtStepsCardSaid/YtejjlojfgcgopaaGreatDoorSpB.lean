/- The program's reader of statements: errors as values, its cells; fault, fail, is, takes, must. The program's reader of statements: errors.As; expr.Parse, expr.ParseCond at what is left of words; within, expr. -/
import Derived.Test.YtejjlojfgcgopaaGreatDoorStB
set_option linter.unusedSimpArgs false
set_option linter.unusedVariables false
namespace Go.Proofs.YtejjlojfgcgopaaGreatDoor
open Go.RowKit Go.Proofs.Fw
set_option maxRecDepth 100000
set_option maxHeartbeats 4000000
-- 
-- 

@[simp] theorem immFSr : envF.imm 131 = false := by decide
@[simp] theorem immFFl : envF.imm 156 = true := by decide

theorem errAV_inj : ∀ {a b : List (List UInt8 × Int)} {c d : Int}, errAV a c = errAV b d → a = b ∧ c = d
  | [], [], c, d, h => by
    simp only [errAV, AV.iface.injEq, AV.int.injEq, true_and] at h
    exact ⟨rfl, h⟩
  | [], (w, p) :: b, c, d, h => by simp [errAV] at h
  | (w, p) :: a, [], c, d, h => by simp [errAV] at h
  | (w, p) :: a, (w', p') :: b, c, d, h => by
    simp only [errAV, AV.iface.injEq, AV.vptr.injEq, List.cons.injEq, AV.str.injEq, AV.int.injEq, true_and, and_true] at h
    obtain ⟨h1, h2, h3⟩ := h
    obtain ⟨h4, h5⟩ := errAV_inj h3
    rw [h1, h2, h4, h5]
    exact ⟨rfl, rfl⟩
/-- An error, as the program has it. -/
def erI : Er → AV
  | none => .nilIface
  | some (l, c) => errAV (castP l) (c : Int)
@[simp] theorem erI_none : erI none = .nilIface := nrfl rfl
theorem erI_some (l : List (List UInt8 × Nat)) (c : Nat) : erI (some (l, c)) = errAV (castP l) (c : Int) := rfl
@[simp ↓ high] theorem errAV_lowm (m : Nat) (l : List (List UInt8 × Int)) (c : Int) : low m (errAV l c) = true := low_mono (Nat.zero_le m) _ (errAV_low l c)
@[simp ↓ high] theorem errAV_known (l : List (List UInt8 × Int)) (c : Int) : (errAV l c).known = true := by cases l <;> rfl
@[simp ↓ high] theorem errAV_one (l : List (List UInt8 × Int)) (c : Int) : (errAV l c).one = true := by cases l <;> rfl
@[simp ↓ high] theorem errAV_cells (l : List (List UInt8 × Int)) (c : Int) : cellsAV (errAV l c) = [errAV l c] := by cases l <;> rfl
@[simp ↓ high] theorem erI_low0 (e : Er) : low 0 (erI e) = true := by
  cases e with
  | none => rfl
  | some x => exact errAV_low _ _
@[simp ↓ high] theorem erI_low (m : Nat) (e : Er) : low m (erI e) = true := low_mono (Nat.zero_le m) _ (erI_low0 e)
@[simp ↓ high] theorem erI_ids (e : Er) : idsOf (erI e) = [] := ids_low0 _ (erI_low0 e)
@[simp ↓ high] theorem erI_known (e : Er) : (erI e).known = true := by cases e with
  | none => rfl
  | some x => exact errAV_known _ _
@[simp ↓ high] theorem erI_one (e : Er) : (erI e).one = true := by cases e with
  | none => rfl
  | some x => exact errAV_one _ _
@[simp ↓ high] theorem erI_cells (e : Er) : cellsAV (erI e) = [erI e] := by cases e with
  | none => rfl
  | some x => exact errAV_cells _ _
@[simp high] theorem erI_nil (e : Er) : aeq Tryz.prog 33 (erI e) .nilIface = some e.isNone := by
  cases e with
  | none => simp [erI, aeq]
  | some x => simp [erI]
@[simp high] theorem erI_eql (e : Er) : abin Tryz.prog .eql 33 true (erI e) .nilIface = some (.bool e.isNone) := by
  cases e with
  | none => simp [erI]
  | some x => simp [erI]
@[simp high] theorem erI_neq (e : Er) : abin Tryz.prog .neq 33 true (erI e) .nilIface = some (.bool e.isSome) := by
  cases e with
  | none => simp [erI]
  | some x => simp [erI]
theorem erI_inj {x y : Er} (h : erI x = erI y) : x = y := by
  cases x with
  | none => cases y with
    | none => rfl
    | some y => obtain ⟨l, c⟩ := y; cases l <;> simp [erI, errAV, castP] at h
  | some x => cases y with
    | none => obtain ⟨l, c⟩ := x; cases l <;> simp [erI, errAV, castP] at h
    | some y =>
      obtain ⟨l, c⟩ := x
      obtain ⟨m, d⟩ := y
      obtain ⟨h1, h2⟩ := errAV_inj h
      have e2 : c = d := by omega
      rw [castP_inj h1, e2]

/-- The program's reader of statements, as it lies. -/
def Sr.pc (ts : List Wd) (r : Sr) : List AV := [wdsAV ts, .int .i64 r.at_, erI r.err]
theorem spc_low (ts : List Wd) (r : Sr) : lowL 0 (r.pc ts) = true := by simp [Sr.pc]
theorem spc_inj (ts : List Wd) (r s : Sr) (h : r.pc ts = s.pc ts) : r = s := by
  obtain ⟨a, x⟩ := r
  obtain ⟨b, y⟩ := s
  simp only [Sr.pc, List.cons.injEq, AV.int.injEq, true_and, and_true] at h
  have := erI_inj h.2
  subst this
  have : a = b := by omega
  subst this
  rfl
abbrev pbx (ts : List Wd) (r : Sr) : Option Ent := some (.box [wdsAV ts, .int .i64 (r.at_ : Int), erI r.err])

@[simp] theorem buFaultE (w : List UInt8) (p : Int) (l : List (List UInt8 × Int)) (c : Int) : abuild Tryz.prog 156 [(0, .str w), (1, .int .i64 p), (2, errAV l c)] = some (.agg [.str w, .int .i64 p, errAV l c]) := by
  cases l <;> kernel_rfl
theorem spfault_cs (p : Int) (l : List (List UInt8 × Int)) (c : Int) (H : AH) : CS Tryz.prog envF 52 [.int .i64 p, errAV l c] H (errAV ((stmtTxt, p) :: l) c) H := by
  refine CS.tr0 lowF Tryz.func52 (by kernel_rfl) 0 (by simp [Tryz.f52]) (fun B hB hG => ?_) (by simp) (by simp) H
  refine Tr.goD oNilF hG (by kernel_rfl) ?_
  simp [Tryz.f52, errAV, stmtTxt]
noncomputable def fSfault : Fact Tryz.prog envF := Fact.pure 52 (fun _ : Int × List (List UInt8 × Int) × Int => True) (fun x => [.int .i64 x.1, errAV x.2.1 x.2.2]) (fun x => errAV ((stmtTxt, x.1) :: x.2.1) x.2.2)
  (fun x _ H => spfault_cs x.1 x.2.1 x.2.2 H) (fun x y _ _ h => by
    obtain ⟨a, b, c⟩ := x
    obtain ⟨a', b', c'⟩ := y
    simp only [List.cons.injEq, AV.int.injEq, true_and, and_true] at h
    obtain ⟨h1, h2⟩ := errAV_inj h.2
    simp only
    rw [h.1, h1, h2])

theorem spfail_cs (ts : List Wd) (r : Sr) (p c : Nat) {H : AH} {id : Nat} (hH : H.at id = some (.box (r.pc ts))) :
    CS Tryz.prog envF 54 [.ptr id 0, .int .i64 (p : Int), .int .i64 (c : Int)] H (.tup []) (H.set id (some (.box ((r.fail p c).pc ts)))) := by
  obtain ⟨a, e⟩ := r
  refine CS.rd lowF Tryz.func54 (by kernel_rfl) 0 (by simp [Tryz.f54]) (fun B hB hG => ?_) (by simp) rfl (spc_low _ _) (spc_low _ _) hH
  have hL : ([fSfault].map (·.f)).Nodup := show ([52] : List Nat).Nodup by decide
  have X := oOf_cx [fSfault] methFOk mixed
  have h1 := fun H => oOf_pure hL (show fSfault ∈ [fSfault] by simp) ((p : Int), [], (c : Int)) trivial H
  generalize oOf [fSfault] = O at X h1
  refine Tr.goD X hG (by kernel_rfl) ?_
  simp [errAV, stmtTxt] at h1
  cases e with
  | none => simp [Tryz.f54, Sr.pc, Sr.fail, h1, erI, errAV, castP, stmtTxt]
  | some y => simp [Tryz.f54, Sr.pc, Sr.fail]
noncomputable def fPfail (ts : List Wd) : Fact Tryz.prog envF := Fact.meth 54 (Sr.pc ts) (spc_inj ts) (fun (_ : Nat × Nat) _ => True) (fun _ x => [.int .i64 (x.1 : Int), .int .i64 (x.2 : Int)]) (fun _ _ => .tup []) (fun x r => r.fail x.1 x.2)
  (fun x r _ H id hH => spfail_cs ts r x.1 x.2 hH) (fun id x y r _ _ h => by
    obtain ⟨a, b⟩ := x
    obtain ⟨c, d⟩ := y
    simp only [List.cons.injEq, AV.int.injEq, true_and, and_true] at h
    have e1 : a = c := by omega
    have e2 : b = d := by omega
    rw [e1, e2]
    exact ⟨rfl, rfl⟩)

theorem spis_cs (ts : List Wd) (r : Sr) (k : Nat) (s : List UInt8) {H : AH} {id : Nat} (hH : H.at id = some (.box (r.pc ts))) :
    CS Tryz.prog envF 142 [.ptr id 0, .int .i64 (k : Int), .str s] H (.bool (isW ts r k s)) (H.set id (some (.box (r.pc ts)))) := by
  obtain ⟨a, e⟩ := r
  refine CS.rd lowF Tryz.func142 (by kernel_rfl) 0 (by simp [Tryz.f142]) (fun B hB hG => ?_) (by simp) rfl (spc_low _ _) (spc_low _ _) hH
  refine Tr.goD oNilF hG (by kernel_rfl) ?_
  simp [Tryz.f142, Sr.pc]
  refine LpD.turns oNilF hG [] [] (by kernel_rfl) ?_
  cases e with
  | some y => simp [isW]
  | none =>
    by_cases hl : a < ts.length
    · have hl' : (a : Int) < ts.length := by omega
      obtain ⟨w, hw⟩ : ∃ w, ts[a]? = some w := ⟨_, List.getElem?_eq_getElem hl⟩
      obtain ⟨c0, c1, c3⟩ := cellX hw
      have hwe : ts[a] = w := by rw [List.getElem?_eq_getElem hl] at hw; injection hw
      by_cases hk : w.kind = k
      · cases s with
        | nil => simp [isW, isK, hw, hwe, hl, hl', hk, c0, c1]
        | cons b s => simp [isW, isK, hw, hwe, hl, hl', hk, c0, c1]
      · have hk' : ((w.kind : Int) == (k : Int)) = false := by rw [beq_eq_false_iff_ne]; omega
        simp [isW, isK, hw, hwe, hl, hl', hk, hk', c0, c1]
    · have hl' : ¬ ((a : Int) < ts.length) := by omega
      have hw : ts[a]? = none := List.getElem?_eq_none (by omega)
      simp [isW, isK, hl', hw]
noncomputable def fPis (ts : List Wd) : Fact Tryz.prog envF := Fact.meth 142 (Sr.pc ts) (spc_inj ts) (fun (_ : Nat × List UInt8) _ => True) (fun _ x => [.int .i64 (x.1 : Int), .str x.2]) (fun x r => .bool (isW ts r x.1 x.2)) (fun _ r => r)
  (fun x r _ H id hH => spis_cs ts r x.1 x.2 hH) (fun id x y r _ _ h => by
    obtain ⟨a, b⟩ := x
    obtain ⟨c, d⟩ := y
    simp only [List.cons.injEq, AV.int.injEq, AV.str.injEq, true_and, and_true] at h
    have e1 : a = c := by omega
    rw [e1, h.2]
    exact ⟨rfl, rfl⟩)
section
variable {L : List (Fact Tryz.prog envF)} {ts : List Wd}
theorem pfail_s (hL : (L.map (·.f)).Nodup) (hF : fPfail ts ∈ L) (r : Sr) (p c : Nat) (H : AH) : oOf L 54 [.ptr 0 0, .int .i64 (p : Int), .int .i64 (c : Int)] (pbx ts r :: H) = some (.tup [], pbx ts (r.fail p c) :: H) := oOf_meth hL hF (p, c) r (H := pbx ts r :: H) (id := 0) rfl trivial
theorem pis_s (hL : (L.map (·.f)).Nodup) (hF : fPis ts ∈ L) (r : Sr) (k : Nat) (s : List UInt8) (H : AH) : oOf L 142 [.ptr 0 0, .int .i64 (k : Int), .str s] (pbx ts r :: H) = some (.bool (isW ts r k s), pbx ts r :: H) := oOf_meth hL hF (k, s) r (H := pbx ts r :: H) (id := 0) rfl trivial
end

theorem sptakes_cs (ts : List Wd) (hts : ts.length < 1000000) (r : Sr) (k : Nat) (s : List UInt8) {H : AH} {id : Nat} (hH : H.at id = some (.box (r.pc ts))) :
    CS Tryz.prog envF 139 [.ptr id 0, .int .i64 (k : Int), .str s] H (.bool (isW ts r k s)) (H.set id (some (.box ((takesW ts r k s).pc ts)))) := by
  refine CS.rd lowF Tryz.func139 (by kernel_rfl) 0 (by simp [Tryz.f139]) (fun B hB hG => ?_) (by simp) rfl (spc_low _ _) (spc_low _ _) hH
  have hL : ([fPis ts].map (·.f)).Nodup := show ([142] : List Nat).Nodup by decide
  have X := oOf_cx [fPis ts] methFOk mixed
  have h2 := fun H => pis_s (ts := ts) hL (by simp) r k s H
  generalize oOf [fPis ts] = O at X h2
  refine Tr.goD X hG (by kernel_rfl) ?_
  cases hw : isW ts r k s with
  | true =>
    have hl := (isW_lt hw).1
    have w1 : IntKind.i64.wrap ((r.at_ : Int) + 1) = (r.at_ : Int) + 1 := wrap_i64 (by omega) (by omega)
    rw [hw] at h2
    rw [takesW_t hw]
    simp [Tryz.f139, Sr.pc, h2, w1, Sr.step]
  | false =>
    rw [hw] at h2
    rw [takesW_f hw]
    simp [Tryz.f139, Sr.pc, h2]
noncomputable def fPtakes (ts : List Wd) (hts : ts.length < 1000000) : Fact Tryz.prog envF := Fact.meth 139 (Sr.pc ts) (spc_inj ts) (fun (_ : Nat × List UInt8) _ => True) (fun _ x => [.int .i64 (x.1 : Int), .str x.2]) (fun x r => .bool (isW ts r x.1 x.2)) (fun x r => takesW ts r x.1 x.2)
  (fun x r _ H id hH => sptakes_cs ts hts r x.1 x.2 hH) (fun id x y r _ _ h => by
    obtain ⟨a, b⟩ := x
    obtain ⟨c, d⟩ := y
    simp only [List.cons.injEq, AV.int.injEq, AV.str.injEq, true_and, and_true] at h
    have e1 : a = c := by omega
    rw [e1, h.2]
    exact ⟨rfl, rfl⟩)
section
variable {L : List (Fact Tryz.prog envF)} {ts : List Wd}
theorem ptakes_s (hts : ts.length < 1000000) (hL : (L.map (·.f)).Nodup) (hF : fPtakes ts hts ∈ L) (r : Sr) (k : Nat) (s : List UInt8) (H : AH) : oOf L 139 [.ptr 0 0, .int .i64 (k : Int), .str s] (pbx ts r :: H) = some (.bool (isW ts r k s), pbx ts (takesW ts r k s) :: H) := oOf_meth hL hF (k, s) r (H := pbx ts r :: H) (id := 0) rfl trivial
end

@[simp] theorem buTok0 : abuild Tryz.prog 192 [] = some (.agg [.int .i64 0, .str [], .int .i64 0, .int .i64 0]) := by kernel_rfl
theorem spmust_cs (ts : List Wd) (hts : ts.length < 1000000) (r : Sr) (k : Nat) (s : List UInt8) {H : AH} {id : Nat} (hH : H.at id = some (.box (r.pc ts))) :
    CS Tryz.prog envF 91 [.ptr id 0, .int .i64 (k : Int), .str s] H (.agg (wdCells (mustW ts r k s).1)) (H.set id (some (.box ((mustW ts r k s).2.pc ts)))) := by
  refine CS.rd lowF Tryz.func91 (by kernel_rfl) 0 (by simp [Tryz.f91]) (fun B hB hG => ?_) (by simp) rfl (spc_low _ _) (spc_low _ _) hH
  have hL : ([fPfail ts, fPtakes ts hts].map (·.f)).Nodup := show ([54, 139] : List Nat).Nodup by decide
  have X := oOf_cx [fPfail ts, fPtakes ts hts] methFOk mixed
  have h1 := fun H => pfail_s (ts := ts) hL (by simp) r r.at_ 2 H
  have h2 := fun H => ptakes_s (ts := ts) hts hL (by simp) r k s H
  generalize oOf [fPfail ts, fPtakes ts hts] = O at X h1 h2
  refine Tr.goD X hG (by kernel_rfl) ?_
  cases hw : isW ts r k s with
  | true =>
    obtain ⟨hl, he⟩ := isW_lt hw
    have w1 : IntKind.i64.wrap (r.at_ : Int) = (r.at_ : Int) := wrap_i64 (by omega) (by omega)
    rw [hw, takesW_t hw] at h2
    obtain ⟨w, hx⟩ : ∃ w, ts[r.at_]? = some w := ⟨_, List.getElem?_eq_getElem hl⟩
    obtain ⟨d1, d2⟩ := cells_atX _ _ _ hx
    have hm : mustW ts r k s = (w, r.step) := by simp [mustW, hw, hx]
    rw [hm]
    simp [pbx, Sr.step] at h2
    simp [Tryz.f91, Sr.pc, h2, Sr.step]
    refine LpD.turns X hG [11] [] (by kernel_rfl) ?_
    simp [hl, w1, d1, d2, wdCells]
  | false =>
    rw [hw, takesW_f hw] at h2
    have hm : mustW ts r k s = (wd0, r.fail r.at_ 2) := by simp [mustW, hw]
    rw [hm]
    simp [pbx] at h1 h2
    simp [Tryz.f91, Sr.pc, h1, h2, wdCells, wd0]
noncomputable def fPmust (ts : List Wd) (hts : ts.length < 1000000) : Fact Tryz.prog envF := Fact.meth 91 (Sr.pc ts) (spc_inj ts) (fun (_ : Nat × List UInt8) _ => True) (fun _ x => [.int .i64 (x.1 : Int), .str x.2]) (fun x r => .agg (wdCells (mustW ts r x.1 x.2).1)) (fun x r => (mustW ts r x.1 x.2).2)
  (fun x r _ H id hH => spmust_cs ts hts r x.1 x.2 hH) (fun id x y r _ _ h => by
    obtain ⟨a, b⟩ := x
    obtain ⟨c, d⟩ := y
    simp only [List.cons.injEq, AV.int.injEq, AV.str.injEq, true_and, and_true] at h
    have e1 : a = c := by omega
    rw [e1, h.2]
    exact ⟨rfl, rfl⟩)
section
variable {L : List (Fact Tryz.prog envF)} {ts : List Wd}
theorem pmust_s (hts : ts.length < 1000000) (hL : (L.map (·.f)).Nodup) (hF : fPmust ts hts ∈ L) (r : Sr) (k : Nat) (s : List UInt8) (H : AH) : oOf L 91 [.ptr 0 0, .int .i64 (k : Int), .str s] (pbx ts r :: H) = some (.agg (wdCells (mustW ts r k s).1), pbx ts (mustW ts r k s).2 :: H) := oOf_meth hL hF (k, s) r (H := pbx ts r :: H) (id := 0) rfl trivial
end
end Go.Proofs.YtejjlojfgcgopaaGreatDoor

namespace Go.Proofs.YtejjlojfgcgopaaGreatDoor
open Go.RowKit Go.Proofs.Fw
set_option maxRecDepth 100000
set_option maxHeartbeats 4000000
-- 

theorem asNil_cs {id : Nat} {x : AV} (hx : low 0 x = true) {H : AH} (hH : H.at id = some (.box [x])) : CS Tryz.prog envF 71 [.nilIface, .iface 154 (.ptr id 0)] H (.bool false) H := by
  have h := CS.rd1 (P := Tryz.prog) (E := envF) (f := 71) (args := [.nilIface, .iface 154 (.ptr 0 0)]) (cs := [x]) (cs' := [x]) (v := .bool false) (H := H) (id := id) lowF Tryz.func71 (by kernel_rfl) 0 (by simp [Tryz.f71]) (fun B hB hG => by
    refine Tr.goD oNilF hG (by kernel_rfl) ?_
    simp [Tryz.f71]) rfl rfl (by simp [hx]) (by simp [hx]) hH
  rw [AH.set_at hH] at h
  exact h
/-- errors.As at a Fault, or at no error, as a fact. -/
noncomputable def fAs : Fact Tryz.prog envF where
  f := 71
  α := Option (List AV) × Nat
  ok := fun x H => ∃ y, low 0 y = true ∧ H.at x.2 = some (.box [y])
  args := fun x => [match x.1 with
    | none => .nilIface
    | some cs => .iface 152 (.vptr cs 0), .iface 154 (.ptr x.2 0)]
  out := fun x => .bool x.1.isSome
  up := fun x H => match x.1 with
    | none => H
    | some cs => H.set x.2 (some (.box [.vptr cs 0]))
  cs := fun x H ⟨y, hy, h⟩ => by
    obtain ⟨o, id⟩ := x
    cases o with
    | none => exact ⟨asNil_cs hy h, Keeps.refl H⟩
    | some cs => exact ⟨CS.toF (CS.toX (asF_cs h)), Keeps.set h⟩
  same := fun x y H _ _ h => by
    obtain ⟨o, id⟩ := x
    obtain ⟨o', id'⟩ := y
    cases o <;> cases o' <;> simp at h ⊢
    · obtain ⟨rfl, rfl⟩ := h
      rfl
section
variable {L : List (Fact Tryz.prog envF)}
theorem as_at (hL : (L.map (·.f)).Nodup) (hF : fAs ∈ L) (o : Option (List AV)) (id : Nat) (y : AV) (hy : low 0 y = true) (H : AH) (hH : H.at id = some (.box [y])) :
    oOf L 71 [match o with | none => .nilIface | some cs => .iface 152 (.vptr cs 0), .iface 154 (.ptr id 0)] H = some (.bool o.isSome, match o with | none => H | some cs => H.set id (some (.box [.vptr cs 0]))) := oOf_mem hL fAs hF (x := (o, id)) ⟨y, hy, hH⟩
end

/-! What is left of words. -/
def tailAV (ts : List Wd) (a : Nat) : AV := if a = ts.length ∧ ts ≠ [] then .slice .unk 4 0 [] else wdsAV (ts.drop a)
theorem wdsCells_drop : ∀ (l : List Wd) (a : Nat), (wdsCells l).drop (a * 4) = wdsCells (l.drop a)
  | [], a => by simp [wdsCells]
  | w :: l, 0 => by simp
  | w :: l, a + 1 => by
    have hc : wdsCells (w :: l) = wdCells w ++ wdsCells l := rfl
    have hw : (wdCells w).length = 4 := rfl
    rw [hc, List.drop_append, List.drop_of_length_le (by omega), hw, List.nil_append, show (a + 1) * 4 - 4 = a * 4 by omega, wdsCells_drop l a, List.drop_succ_cons]
theorem wdsCells_take : ∀ (l : List Wd) (a : Nat), (wdsCells l).take (a * 4) = wdsCells (l.take a)
  | [], a => by simp [wdsCells]
  | w :: l, 0 => by simp [wdsCells]
  | w :: l, a + 1 => by
    have hc : wdsCells (w :: l) = wdCells w ++ wdsCells l := rfl
    have hd : wdsCells (w :: l.take a) = wdCells w ++ wdsCells (l.take a) := rfl
    have hw : (wdCells w).length = 4 := rfl
    rw [hc, List.take_append, List.take_of_length_le (by omega), hw, show (a + 1) * 4 - 4 = a * 4 by omega, wdsCells_take l a, List.take_succ_cons, hd]
@[simp high] theorem aslTail {ts : List Wd} {a : Nat} (h : a ≤ ts.length) : aslice Tryz.prog 125 (wdsAV ts) (some (.int .i64 (a : Int))) none none = some (tailAV ts a) := by
  unfold tailAV wdsAV
  have h1 : (a : Int) ≤ ts.length := by omega
  by_cases hts : ts = []
  · subst hts
    have : a = 0 := by simpa using h
    subst this
    simp [aslice]
  · by_cases ha : a = ts.length
    · subst ha
      simp [hts, aslice, wdsCells_length]
    · have hd : ts.drop a ≠ [] := by
        intro h2
        have := congrArg List.length h2
        rw [List.length_drop] at this
        simp at this
        omega
      have hl := List.length_drop (i := a) (l := ts)
      simp [hts, ha, hd, aslice, h1, hl]
      rw [wdsCells_drop, List.take_of_length_le (by rw [wdsCells_length, hl]; exact Nat.le_refl _)]
@[simp ↓ high] theorem tailAV_low (m : Nat) (ts : List Wd) (a : Nat) : low m (tailAV ts a) = true := by
  unfold tailAV
  split
  · rfl
  · exact low_mono (Nat.zero_le m) _ (wdsAV_low' _)
@[simp ↓ high] theorem tailAV_ids (ts : List Wd) (a : Nat) : idsOf (tailAV ts a) = [] := by
  unfold tailAV
  split
  · rfl
  · exact wdsAV_ids _

def nowds : AV := .slice .unk 4 0 []
set_option maxRecDepth 100000 in
theorem parse_run : run fzN oNil Tryz.prog envF 100 20 145 [nowds] [] = some (parseT (parseX []), []) := by kernel_rfl
set_option maxRecDepth 100000 in
theorem parsec_run : run fzN oNil Tryz.prog envF 100 20 141 [nowds] [] = some (parseCT (parseC []), []) := by kernel_rfl
theorem tail_inj {ts us : List Wd} {a b : Nat} (ha : a ≤ ts.length) (hb : b ≤ us.length) (h : tailAV ts a = tailAV us b) : ts.drop a = us.drop b := by
  unfold tailAV at h
  have key : ∀ l : List Wd, wdsAV l ≠ .slice .unk 4 0 [] := by
    intro l h
    unfold wdsAV at h
    split at h
    · cases h
    · rename_i hl
      injection h with _ _ h
      exact hl (List.length_eq_zero_iff.1 h)
  split at h
  · rename_i h1
    split at h
    · rename_i h2
      rw [h1.1, h2.1, List.drop_length, List.drop_length]
    · exact absurd h.symm (key _)
  · split at h
    · exact absurd h (key _)
    · exact wdsAV_inj h
noncomputable def fParse : Fact Tryz.prog envF := Fact.pure 145 (fun x : List Wd × Nat => x.1.length < 1000000 ∧ x.2 ≤ x.1.length) (fun x => [tailAV x.1 x.2]) (fun x => parseT (parseX (x.1.drop x.2)))
  (fun x h H => by
    unfold tailAV
    split
    · rename_i hx
      rw [hx.1, List.drop_length]
      exact (run_sound (base := oNil) oNil_sound methFOk mixed 100 20 _ _ _ _ _ parse_run).1.frame lowF rfl H
    · exact parseT_cs _ (by rw [List.length_drop]; omega) H) (fun x y hx hy h => by
    simp only [List.cons.injEq, and_true] at h
    rw [tail_inj hx.2 hy.2 h])
noncomputable def fParseC : Fact Tryz.prog envF := Fact.pure 141 (fun x : List Wd × Nat => x.1.length < 1000000 ∧ x.2 ≤ x.1.length) (fun x => [tailAV x.1 x.2]) (fun x => parseCT (parseC (x.1.drop x.2)))
  (fun x h H => by
    unfold tailAV
    split
    · rename_i hx
      rw [hx.1, List.drop_length]
      exact (run_sound (base := oNil) oNil_sound methFOk mixed 100 20 _ _ _ _ _ parsec_run).1.frame lowF rfl H
    · exact parseCT_cs _ (by rw [List.length_drop]; omega) H) (fun x y hx hy h => by
    simp only [List.cons.injEq, and_true] at h
    rw [tail_inj hx.2 hy.2 h])

theorem spwE_cs (ts : List Wd) (hts : ts.length < 1000000) (r : Sr) (hr : r.at_ ≤ ts.length) {H : AH} {id : Nat} (hH : H.at id = some (.box (r.pc ts))) :
    CS Tryz.prog envF 143 [.ptr id 0, .func (.func 145) [] []] H (.agg (tC (exprW ts r).1.tn)) (H.set id (some (.box ((exprW ts r).2.pc ts)))) := by
  refine CS.rd lowF Tryz.func143 (by kernel_rfl) 0 (by simp [Tryz.f143]) (fun B hB hG => ?_) (by simp) (by simp) (spc_low _ _) (spc_low _ _) hH
  have hL : ([fSfault, fAs, fParse].map (·.f)).Nodup := show ([52, 71, 145] : List Nat).Nodup by decide
  have X := oOf_cx [fSfault, fAs, fParse] methFOk mixed
  have h1 := fun p l c H => oOf_pure hL (show fSfault ∈ [fSfault, fAs, fParse] by simp) (p, l, c) trivial H
  have h2 := fun o e0 e1 e2 e3 H => as_at hL (show fAs ∈ [fSfault, fAs, fParse] by simp) o 4 .nilPtr rfl (e0 :: e1 :: e2 :: e3 :: some (.box [.nilPtr]) :: H) rfl
  have h3 := fun H => oOf_pure hL (show fParse ∈ [fSfault, fAs, fParse] by simp) (ts, r.at_) ⟨hts, hr⟩ H
  generalize oOf [fSfault, fAs, fParse] = O at X h1 h2 h3
  refine Tr.goD X hG (by kernel_rfl) ?_
  obtain ⟨a, e⟩ := r
  obtain ⟨hb1, hb2⟩ := parseX_b (ts.drop a)
  rw [List.length_drop] at hb1 hb2
  simp only at hr
  cases e with
  | some y => simp [Tryz.f143, Sr.pc, exprW, withinW, exnone_tn]
  | none =>
    simp only [parseT] at h3
    generalize hq : parseX (ts.drop a) = q at *
    obtain ⟨ex, n, x⟩ := q
    simp only at hb1 hb2 h3
    simp only [tC_eq] at h3
    have hx : exprW ts ⟨a, none⟩ = match x with
      | some (p, c) => (.none, ⟨a, some ([(stmtTxt, a + p), (exprTx, p)], c)⟩)
      | none => (ex, ⟨a + n, none⟩) := by
      simp only [exprW, withinW, hq]
      cases x <;> rfl
    rw [hx]
    simp [Tryz.f143, Sr.pc]
    refine LpD.turns X hG [10, 15, 16] [(0, 15), (1, 15), (2, 15), (3, 15), (4, 15), (5, 15), (6, 15), (7, 15), (8, 15), (9, 15), (10, 15), (11, 15), (12, 15), (13, 15), (13, 16), (14, 15), (14, 16)] (by kernel_rfl) ?_
    simp [hr, h3]
    cases x with
    | none =>
      have h2 := h2 none
      simp at h2
      have w1 : IntKind.i64.wrap ((a : Int) + (n : Int)) = (a : Int) + (n : Int) := wrap_i64 (by omega) (by omega)
      simp [eAV, h2, w1]
    | some y =>
      obtain ⟨p, c⟩ := y
      have hp := hb2 p c rfl
      have w1 : IntKind.i64.wrap ((a : Int) + (p : Int)) = (a : Int) + (p : Int) := wrap_i64 (by omega) (by omega)
      have h2 := h2 (some [.str exprTxt, .int .i64 (p : Int), errAV [] (c : Int)])
      have h1 := h1 ((a : Int) + (p : Int)) [(exprTxt, (p : Int))] (c : Int)
      simp [errAV, exprTxt, stmtTxt] at h1 h2
      simp [eAV, errAV, exprTxt, h2]
      refine LpD.turns X hG [11, 14] [(0, 11)] (by kernel_rfl) ?_
      simp [w1, h1, erI, errAV, castP, stmtTxt, exprTx, exprTxt, exnone_tn]
end Go.Proofs.YtejjlojfgcgopaaGreatDoor
