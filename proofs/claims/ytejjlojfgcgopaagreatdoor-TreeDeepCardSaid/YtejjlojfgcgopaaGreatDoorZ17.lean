/- The program's reader of statements: errors as values, its ce .. The program's reader of statements: expr, what stands in an  -/
import Derived.Test.YtejjlojfgcgopaaGreatDoorZ14
set_option linter.unusedSimpArgs false
set_option linter.unusedVariables false
namespace Go.Proofs.YtejjlojfgcgopaaGreatDoor
open Go.RowKit Go.Proofs.Fw
set_option maxRecDepth 100000
set_option maxHeartbeats 4000000
@[simp] theorem immFSr : envF.imm 131 = false := by decide
@[simp] theorem immFFl : envF.imm 156 = true := by decide
theorem errAV_inj : ∀ {a b : List (List UInt8 × Int)} {c d : Int}, errAV a c = errAV b d → a = b ∧ c = d
  | [], [], c, d, h => by
    simp only [errAV, AV.iface.injEq, AV.int.injEq, true_and] at h
    exact ⟨rfl, h⟩
  | [], (w, p) :: b, c, d, h => by simp [errAV] at h
  | (w, p) :: a, [], c, d, h => by simp [errAV] at h
  | (w, p) :: a, (w', p') :: b, c, d, h => by
    simp only [errAV, AV.iface.injEq, AV.vptr.injEq, List.cons.injEq, AV.str.injEq, AV.int.injEq, true_and, and_true] at h
    obtain ⟨h1, h2, h3⟩ := h
    obtain ⟨h4, h5⟩ := errAV_inj h3
    rw [h1, h2, h4, h5]
    exact ⟨rfl, rfl⟩
def erI : Er → AV
  | none => .nilIface
  | some (l, c) => errAV (castP l) (c : Int)
@[simp] theorem erI_none : erI none = .nilIface := nrfl rfl
theorem erI_some (l : List (List UInt8 × Nat)) (c : Nat) : erI (some (l, c)) = errAV (castP l) (c : Int) := rfl
@[simp ↓ high] theorem errAV_lowm (m : Nat) (l : List (List UInt8 × Int)) (c : Int) : low m (errAV l c) = true := low_mono (Nat.zero_le m) _ (errAV_low l c)
@[simp ↓ high] theorem errAV_known (l : List (List UInt8 × Int)) (c : Int) : (errAV l c).known = true := by cases l <;> rfl
@[simp ↓ high] theorem errAV_one (l : List (List UInt8 × Int)) (c : Int) : (errAV l c).one = true := by cases l <;> rfl
@[simp ↓ high] theorem errAV_cells (l : List (List UInt8 × Int)) (c : Int) : cellsAV (errAV l c) = [errAV l c] := by cases l <;> rfl
@[simp ↓ high] theorem erI_low0 (e : Er) : low 0 (erI e) = true := by
  cases e with
  | none => rfl
  | some x => exact errAV_low _ _
@[simp ↓ high] theorem erI_low (m : Nat) (e : Er) : low m (erI e) = true := low_mono (Nat.zero_le m) _ (erI_low0 e)
@[simp ↓ high] theorem erI_ids (e : Er) : idsOf (erI e) = [] := ids_low0 _ (erI_low0 e)
@[simp ↓ high] theorem erI_known (e : Er) : (erI e).known = true := by cases e with
  | none => rfl
  | some x => exact errAV_known _ _
@[simp ↓ high] theorem erI_one (e : Er) : (erI e).one = true := by cases e with
  | none => rfl
  | some x => exact errAV_one _ _
@[simp ↓ high] theorem erI_cells (e : Er) : cellsAV (erI e) = [erI e] := by cases e with
  | none => rfl
  | some x => exact errAV_cells _ _
@[simp high] theorem erI_nil (e : Er) : aeq Tryz.prog 33 (erI e) .nilIface = some e.isNone := by
  cases e with
  | none => simp [erI, aeq]
  | some x => simp [erI]
@[simp high] theorem erI_eql (e : Er) : abin Tryz.prog .eql 33 true (erI e) .nilIface = some (.bool e.isNone) := by
  cases e with
  | none => simp [erI]
  | some x => simp [erI]
@[simp high] theorem erI_neq (e : Er) : abin Tryz.prog .neq 33 true (erI e) .nilIface = some (.bool e.isSome) := by
  cases e with
  | none => simp [erI]
  | some x => simp [erI]
theorem erI_inj {x y : Er} (h : erI x = erI y) : x = y := by
  cases x with
  | none => cases y with
    | none => rfl
    | some y => obtain ⟨l, c⟩ := y; cases l <;> simp [erI, errAV, castP] at h
  | some x => cases y with
    | none => obtain ⟨l, c⟩ := x; cases l <;> simp [erI, errAV, castP] at h
    | some y =>
      obtain ⟨l, c⟩ := x
      obtain ⟨m, d⟩ := y
      obtain ⟨h1, h2⟩ := errAV_inj h
      have e2 : c = d := by omega
      rw [castP_inj h1, e2]
def Sr.pc (ts : List Wd) (r : Sr) : List AV := [wdsAV ts, .int .i64 r.at_, erI r.err]
theorem spc_low (ts : List Wd) (r : Sr) : lowL 0 (r.pc ts) = true := by simp [Sr.pc]
theorem spc_inj (ts : List Wd) (r s : Sr) (h : r.pc ts = s.pc ts) : r = s := by
  obtain ⟨a, x⟩ := r
  obtain ⟨b, y⟩ := s
  simp only [Sr.pc, List.cons.injEq, AV.int.injEq, true_and, and_true] at h
  have := erI_inj h.2
  subst this
  have : a = b := by omega
  subst this
  rfl
abbrev pbx (ts : List Wd) (r : Sr) : Option Ent := some (.box [wdsAV ts, .int .i64 (r.at_ : Int), erI r.err])
@[simp] theorem buFaultE (w : List UInt8) (p : Int) (l : List (List UInt8 × Int)) (c : Int) : abuild Tryz.prog 156 [(0, .str w), (1, .int .i64 p), (2, errAV l c)] = some (.agg [.str w, .int .i64 p, errAV l c]) := by
  cases l <;> kernel_rfl
theorem spfault_cs (p : Int) (l : List (List UInt8 × Int)) (c : Int) (H : AH) : CS Tryz.prog envF 52 [.int .i64 p, errAV l c] H (errAV ((stmtTxt, p) :: l) c) H := by
  refine CS.tr0 lowF Tryz.func52 (by kernel_rfl) 0 (by simp [Tryz.f52]) (fun B hB hG => ?_) (by simp) (by simp) H
  refine Tr.goD oNilF hG (by kernel_rfl) ?_
  simp [Tryz.f52, errAV, stmtTxt]
noncomputable def fSfault : Fact Tryz.prog envF := Fact.pure 52 (fun _ : Int × List (List UInt8 × Int) × Int => True) (fun x => [.int .i64 x.1, errAV x.2.1 x.2.2]) (fun x => errAV ((stmtTxt, x.1) :: x.2.1) x.2.2)
  (fun x _ H => spfault_cs x.1 x.2.1 x.2.2 H) (fun x y _ _ h => by
    obtain ⟨a, b, c⟩ := x
    obtain ⟨a', b', c'⟩ := y
    simp only [List.cons.injEq, AV.int.injEq, true_and, and_true] at h
    obtain ⟨h1, h2⟩ := errAV_inj h.2
    simp only
    rw [h.1, h1, h2])
theorem spfail_cs (ts : List Wd) (r : Sr) (p c : Nat) {H : AH} {id : Nat} (hH : H.at id = some (.box (r.pc ts))) :
    CS Tryz.prog envF 54 [.ptr id 0, .int .i64 (p : Int), .int .i64 (c : Int)] H (.tup []) (H.set id (some (.box ((r.fail p c).pc ts)))) := by
  obtain ⟨a, e⟩ := r
  refine CS.rd lowF Tryz.func54 (by kernel_rfl) 0 (by simp [Tryz.f54]) (fun B hB hG => ?_) (by simp) rfl (spc_low _ _) (spc_low _ _) hH
  have hL : ([fSfault].map (·.f)).Nodup := show ([52] : List Nat).Nodup by decide
  have X := oOf_cx [fSfault] methFOk mixed
  have h1 := fun H => oOf_pure hL (show fSfault ∈ [fSfault] by simp) ((p : Int), [], (c : Int)) trivial H
  generalize oOf [fSfault] = O at X h1
  refine Tr.goD X hG (by kernel_rfl) ?_
  simp [errAV, stmtTxt] at h1
  cases e with
  | none => simp [Tryz.f54, Sr.pc, Sr.fail, h1, erI, errAV, castP, stmtTxt]
  | some y => simp [Tryz.f54, Sr.pc, Sr.fail]
noncomputable def fPfail (ts : List Wd) : Fact Tryz.prog envF := Fact.meth 54 (Sr.pc ts) (spc_inj ts) (fun (_ : Nat × Nat) _ => True) (fun _ x => [.int .i64 (x.1 : Int), .int .i64 (x.2 : Int)]) (fun _ _ => .tup []) (fun x r => r.fail x.1 x.2)
  (fun x r _ H id hH => spfail_cs ts r x.1 x.2 hH) (fun id x y r _ _ h => by
    obtain ⟨a, b⟩ := x
    obtain ⟨c, d⟩ := y
    simp only [List.cons.injEq, AV.int.injEq, true_and, and_true] at h
    have e1 : a = c := by omega
    have e2 : b = d := by omega
    rw [e1, e2]
    exact ⟨rfl, rfl⟩)
theorem spis_cs (ts : List Wd) (r : Sr) (k : Nat) (s : List UInt8) {H : AH} {id : Nat} (hH : H.at id = some (.box (r.pc ts))) :
    CS Tryz.prog envF 142 [.ptr id 0, .int .i64 (k : Int), .str s] H (.bool (isW ts r k s)) (H.set id (some (.box (r.pc ts)))) := by
  obtain ⟨a, e⟩ := r
  refine CS.rd lowF Tryz.func142 (by kernel_rfl) 0 (by simp [Tryz.f142]) (fun B hB hG => ?_) (by simp) rfl (spc_low _ _) (spc_low _ _) hH
  refine Tr.goD oNilF hG (by kernel_rfl) ?_
  simp [Tryz.f142, Sr.pc]
  refine LpD.turns oNilF hG [] [] (by kernel_rfl) ?_
  cases e with
  | some y => simp [isW]
  | none =>
    by_cases hl : a < ts.length
    · have hl' : (a : Int) < ts.length := by omega
      obtain ⟨w, hw⟩ : ∃ w, ts[a]? = some w := ⟨_, List.getElem?_eq_getElem hl⟩
      obtain ⟨c0, c1, c3⟩ := cellX hw
      have hwe : ts[a] = w := by rw [List.getElem?_eq_getElem hl] at hw; injection hw
      by_cases hk : w.kind = k
      · cases s with
        | nil => simp [isW, isK, hw, hwe, hl, hl', hk, c0, c1]
        | cons b s => simp [isW, isK, hw, hwe, hl, hl', hk, c0, c1]
      · have hk' : ((w.kind : Int) == (k : Int)) = false := by rw [beq_eq_false_iff_ne]; omega
        simp [isW, isK, hw, hwe, hl, hl', hk, hk', c0, c1]
    · have hl' : ¬ ((a : Int) < ts.length) := by omega
      have hw : ts[a]? = none := List.getElem?_eq_none (by omega)
      simp [isW, isK, hl', hw]
noncomputable def fPis (ts : List Wd) : Fact Tryz.prog envF := Fact.meth 142 (Sr.pc ts) (spc_inj ts) (fun (_ : Nat × List UInt8) _ => True) (fun _ x => [.int .i64 (x.1 : Int), .str x.2]) (fun x r => .bool (isW ts r x.1 x.2)) (fun _ r => r)
  (fun x r _ H id hH => spis_cs ts r x.1 x.2 hH) (fun id x y r _ _ h => by
    obtain ⟨a, b⟩ := x
    obtain ⟨c, d⟩ := y
    simp only [List.cons.injEq, AV.int.injEq, AV.str.injEq, true_and, and_true] at h
    have e1 : a = c := by omega
    rw [e1, h.2]
    exact ⟨rfl, rfl⟩)
section
variable {L : List (Fact Tryz.prog envF)} {ts : List Wd}
theorem pfail_s (hL : (L.map (·.f)).Nodup) (hF : fPfail ts ∈ L) (r : Sr) (p c : Nat) (H : AH) : oOf L 54 [.ptr 0 0, .int .i64 (p : Int), .int .i64 (c : Int)] (pbx ts r :: H) = some (.tup [], pbx ts (r.fail p c) :: H) := oOf_meth hL hF (p, c) r (H := pbx ts r :: H) (id := 0) rfl trivial
theorem pis_s (hL : (L.map (·.f)).Nodup) (hF : fPis ts ∈ L) (r : Sr) (k : Nat) (s : List UInt8) (H : AH) : oOf L 142 [.ptr 0 0, .int .i64 (k : Int), .str s] (pbx ts r :: H) = some (.bool (isW ts r k s), pbx ts r :: H) := oOf_meth hL hF (k, s) r (H := pbx ts r :: H) (id := 0) rfl trivial
end
theorem sptakes_cs (ts : List Wd) (hts : ts.length < 1000000) (r : Sr) (k : Nat) (s : List UInt8) {H : AH} {id : Nat} (hH : H.at id = some (.box (r.pc ts))) :
    CS Tryz.prog envF 139 [.ptr id 0, .int .i64 (k : Int), .str s] H (.bool (isW ts r k s)) (H.set id (some (.box ((takesW ts r k s).pc ts)))) := by
  refine CS.rd lowF Tryz.func139 (by kernel_rfl) 0 (by simp [Tryz.f139]) (fun B hB hG => ?_) (by simp) rfl (spc_low _ _) (spc_low _ _) hH
  have hL : ([fPis ts].map (·.f)).Nodup := show ([142] : List Nat).Nodup by decide
  have X := oOf_cx [fPis ts] methFOk mixed
  have h2 := fun H => pis_s (ts := ts) hL (by simp) r k s H
  generalize oOf [fPis ts] = O at X h2
  refine Tr.goD X hG (by kernel_rfl) ?_
  cases hw : isW ts r k s with
  | true =>
    have hl := (isW_lt hw).1
    have w1 : IntKind.i64.wrap ((r.at_ : Int) + 1) = (r.at_ : Int) + 1 := wrap_i64 (by omega) (by omega)
    rw [hw] at h2
    rw [takesW_t hw]
    simp [Tryz.f139, Sr.pc, h2, w1, Sr.step]
  | false =>
    rw [hw] at h2
    rw [takesW_f hw]
    simp [Tryz.f139, Sr.pc, h2]
noncomputable def fPtakes (ts : List Wd) (hts : ts.length < 1000000) : Fact Tryz.prog envF := Fact.meth 139 (Sr.pc ts) (spc_inj ts) (fun (_ : Nat × List UInt8) _ => True) (fun _ x => [.int .i64 (x.1 : Int), .str x.2]) (fun x r => .bool (isW ts r x.1 x.2)) (fun x r => takesW ts r x.1 x.2)
  (fun x r _ H id hH => sptakes_cs ts hts r x.1 x.2 hH) (fun id x y r _ _ h => by
    obtain ⟨a, b⟩ := x
    obtain ⟨c, d⟩ := y
    simp only [List.cons.injEq, AV.int.injEq, AV.str.injEq, true_and, and_true] at h
    have e1 : a = c := by omega
    rw [e1, h.2]
    exact ⟨rfl, rfl⟩)
section
variable {L : List (Fact Tryz.prog envF)} {ts : List Wd}
theorem ptakes_s (hts : ts.length < 1000000) (hL : (L.map (·.f)).Nodup) (hF : fPtakes ts hts ∈ L) (r : Sr) (k : Nat) (s : List UInt8) (H : AH) : oOf L 139 [.ptr 0 0, .int .i64 (k : Int), .str s] (pbx ts r :: H) = some (.bool (isW ts r k s), pbx ts (takesW ts r k s) :: H) := oOf_meth hL hF (k, s) r (H := pbx ts r :: H) (id := 0) rfl trivial
end
@[simp] theorem buTok0 : abuild Tryz.prog 192 [] = some (.agg [.int .i64 0, .str [], .int .i64 0, .int .i64 0]) := by kernel_rfl
theorem spmust_cs (ts : List Wd) (hts : ts.length < 1000000) (r : Sr) (k : Nat) (s : List UInt8) {H : AH} {id : Nat} (hH : H.at id = some (.box (r.pc ts))) :
    CS Tryz.prog envF 91 [.ptr id 0, .int .i64 (k : Int), .str s] H (.agg (wdCells (mustW ts r k s).1)) (H.set id (some (.box ((mustW ts r k s).2.pc ts)))) := by
  refine CS.rd lowF Tryz.func91 (by kernel_rfl) 0 (by simp [Tryz.f91]) (fun B hB hG => ?_) (by simp) rfl (spc_low _ _) (spc_low _ _) hH
  have hL : ([fPfail ts, fPtakes ts hts].map (·.f)).Nodup := show ([54, 139] : List Nat).Nodup by decide
  have X := oOf_cx [fPfail ts, fPtakes ts hts] methFOk mixed
  have h1 := fun H => pfail_s (ts := ts) hL (by simp) r r.at_ 2 H
  have h2 := fun H => ptakes_s (ts := ts) hts hL (by simp) r k s H
  generalize oOf [fPfail ts, fPtakes ts hts] = O at X h1 h2
  refine Tr.goD X hG (by kernel_rfl) ?_
  cases hw : isW ts r k s with
  | true =>
    obtain ⟨hl, he⟩ := isW_lt hw
    have w1 : IntKind.i64.wrap (r.at_ : Int) = (r.at_ : Int) := wrap_i64 (by omega) (by omega)
    rw [hw, takesW_t hw] at h2
    obtain ⟨w, hx⟩ : ∃ w, ts[r.at_]? = some w := ⟨_, List.getElem?_eq_getElem hl⟩
    obtain ⟨d1, d2⟩ := cells_atX _ _ _ hx
    have hm : mustW ts r k s = (w, r.step) := by simp [mustW, hw, hx]
    rw [hm]
    simp [pbx, Sr.step] at h2
    simp [Tryz.f91, Sr.pc, h2, Sr.step]
    refine LpD.turns X hG [11] [] (by kernel_rfl) ?_
    simp [hl, w1, d1, d2, wdCells]
  | false =>
    rw [hw, takesW_f hw] at h2
    have hm : mustW ts r k s = (wd0, r.fail r.at_ 2) := by simp [mustW, hw]
    rw [hm]
    simp [pbx] at h1 h2
    simp [Tryz.f91, Sr.pc, h1, h2, wdCells, wd0]
noncomputable def fPmust (ts : List Wd) (hts : ts.length < 1000000) : Fact Tryz.prog envF := Fact.meth 91 (Sr.pc ts) (spc_inj ts) (fun (_ : Nat × List UInt8) _ => True) (fun _ x => [.int .i64 (x.1 : Int), .str x.2]) (fun x r => .agg (wdCells (mustW ts r x.1 x.2).1)) (fun x r => (mustW ts r x.1 x.2).2)
  (fun x r _ H id hH => spmust_cs ts hts r x.1 x.2 hH) (fun id x y r _ _ h => by
    obtain ⟨a, b⟩ := x
    obtain ⟨c, d⟩ := y
    simp only [List.cons.injEq, AV.int.injEq, AV.str.injEq, true_and, and_true] at h
    have e1 : a = c := by omega
    rw [e1, h.2]
    exact ⟨rfl, rfl⟩)
section
variable {L : List (Fact Tryz.prog envF)} {ts : List Wd}
theorem pmust_s (hts : ts.length < 1000000) (hL : (L.map (·.f)).Nodup) (hF : fPmust ts hts ∈ L) (r : Sr) (k : Nat) (s : List UInt8) (H : AH) : oOf L 91 [.ptr 0 0, .int .i64 (k : Int), .str s] (pbx ts r :: H) = some (.agg (wdCells (mustW ts r k s).1), pbx ts (mustW ts r k s).2 :: H) := oOf_meth hL hF (k, s) r (H := pbx ts r :: H) (id := 0) rfl trivial
end
end Go.Proofs.YtejjlojfgcgopaaGreatDoor
namespace Go.Proofs.YtejjlojfgcgopaaGreatDoor
open Go.RowKit Go.Proofs.Fw
set_option maxRecDepth 100000
set_option maxHeartbeats 4000000
theorem asNil_cs {id : Nat} {x : AV} (hx : low 0 x = true) {H : AH} (hH : H.at id = some (.box [x])) : CS Tryz.prog envF 71 [.nilIface, .iface 154 (.ptr id 0)] H (.bool false) H := by
  have h := CS.rd1 (P := Tryz.prog) (E := envF) (f := 71) (args := [.nilIface, .iface 154 (.ptr 0 0)]) (cs := [x]) (cs' := [x]) (v := .bool false) (H := H) (id := id) lowF Tryz.func71 (by kernel_rfl) 0 (by simp [Tryz.f71]) (fun B hB hG => by
    refine Tr.goD oNilF hG (by kernel_rfl) ?_
    simp [Tryz.f71]) rfl rfl (by simp [hx]) (by simp [hx]) hH
  rw [AH.set_at hH] at h
  exact h
noncomputable def fAs : Fact Tryz.prog envF where
  f := 71
  α := Option (List AV) × Nat
  ok := fun x H => ∃ y, low 0 y = true ∧ H.at x.2 = some (.box [y])
  args := fun x => [match x.1 with
    | none => .nilIface
    | some cs => .iface 152 (.vptr cs 0), .iface 154 (.ptr x.2 0)]
  out := fun x => .bool x.1.isSome
  up := fun x H => match x.1 with
    | none => H
    | some cs => H.set x.2 (some (.box [.vptr cs 0]))
  cs := fun x H ⟨y, hy, h⟩ => by
    obtain ⟨o, id⟩ := x
    cases o with
    | none => exact ⟨asNil_cs hy h, Keeps.refl H⟩
    | some cs => exact ⟨CS.toF (CS.toX (asF_cs h)), Keeps.set h⟩
  same := fun x y H _ _ h => by
    obtain ⟨o, id⟩ := x
    obtain ⟨o', id'⟩ := y
    cases o <;> cases o' <;> simp at h ⊢
    · obtain ⟨rfl, rfl⟩ := h
      rfl
section
variable {L : List (Fact Tryz.prog envF)}
theorem as_at (hL : (L.map (·.f)).Nodup) (hF : fAs ∈ L) (o : Option (List AV)) (id : Nat) (y : AV) (hy : low 0 y = true) (H : AH) (hH : H.at id = some (.box [y])) :
    oOf L 71 [match o with | none => .nilIface | some cs => .iface 152 (.vptr cs 0), .iface 154 (.ptr id 0)] H = some (.bool o.isSome, match o with | none => H | some cs => H.set id (some (.box [.vptr cs 0]))) := oOf_mem hL fAs hF (x := (o, id)) ⟨y, hy, hH⟩
end
def tailAV (ts : List Wd) (a : Nat) : AV := if a = ts.length ∧ ts ≠ [] then .slice .unk 4 0 [] else wdsAV (ts.drop a)
theorem wdsCells_drop : ∀ (l : List Wd) (a : Nat), (wdsCells l).drop (a * 4) = wdsCells (l.drop a)
  | [], a => by simp [wdsCells]
  | w :: l, 0 => by simp
  | w :: l, a + 1 => by
    have hc : wdsCells (w :: l) = wdCells w ++ wdsCells l := rfl
    have hw : (wdCells w).length = 4 := rfl
    rw [hc, List.drop_append, List.drop_of_length_le (by omega), hw, List.nil_append, show (a + 1) * 4 - 4 = a * 4 by omega, wdsCells_drop l a, List.drop_succ_cons]
theorem wdsCells_take : ∀ (l : List Wd) (a : Nat), (wdsCells l).take (a * 4) = wdsCells (l.take a)
  | [], a => by simp [wdsCells]
  | w :: l, 0 => by simp [wdsCells]
  | w :: l, a + 1 => by
    have hc : wdsCells (w :: l) = wdCells w ++ wdsCells l := rfl
    have hd : wdsCells (w :: l.take a) = wdCells w ++ wdsCells (l.take a) := rfl
    have hw : (wdCells w).length = 4 := rfl
    rw [hc, List.take_append, List.take_of_length_le (by omega), hw, show (a + 1) * 4 - 4 = a * 4 by omega, wdsCells_take l a, List.take_succ_cons, hd]
@[simp high] theorem aslTail {ts : List Wd} {a : Nat} (h : a ≤ ts.length) : aslice Tryz.prog 125 (wdsAV ts) (some (.int .i64 (a : Int))) none none = some (tailAV ts a) := by
  unfold tailAV wdsAV
  have h1 : (a : Int) ≤ ts.length := by omega
  by_cases hts : ts = []
  · subst hts
    have : a = 0 := by simpa using h
    subst this
    simp [aslice]
  · by_cases ha : a = ts.length
    · subst ha
      simp [hts, aslice, wdsCells_length]
    · have hd : ts.drop a ≠ [] := by
        intro h2
        have := congrArg List.length h2
        rw [List.length_drop] at this
        simp at this
        omega
      have hl := List.length_drop (i := a) (l := ts)
      simp [hts, ha, hd, aslice, h1, hl]
      rw [wdsCells_drop, List.take_of_length_le (by rw [wdsCells_length, hl]; exact Nat.le_refl _)]
@[simp ↓ high] theorem tailAV_low (m : Nat) (ts : List Wd) (a : Nat) : low m (tailAV ts a) = true := by
  unfold tailAV
  split
  · rfl
  · exact low_mono (Nat.zero_le m) _ (wdsAV_low' _)
@[simp ↓ high] theorem tailAV_ids (ts : List Wd) (a : Nat) : idsOf (tailAV ts a) = [] := by
  unfold tailAV
  split
  · rfl
  · exact wdsAV_ids _
def nowds : AV := .slice .unk 4 0 []
set_option maxRecDepth 100000 in
theorem parse_run : run fzN oNil Tryz.prog envF 100 20 145 [nowds] [] = some (parseT (parseX []), []) := by kernel_rfl
set_option maxRecDepth 100000 in
theorem parsec_run : run fzN oNil Tryz.prog envF 100 20 141 [nowds] [] = some (parseCT (parseC []), []) := by kernel_rfl
theorem tail_inj {ts us : List Wd} {a b : Nat} (ha : a ≤ ts.length) (hb : b ≤ us.length) (h : tailAV ts a = tailAV us b) : ts.drop a = us.drop b := by
  unfold tailAV at h
  have key : ∀ l : List Wd, wdsAV l ≠ .slice .unk 4 0 [] := by
    intro l h
    unfold wdsAV at h
    split at h
    · cases h
    · rename_i hl
      injection h with _ _ h
      exact hl (List.length_eq_zero_iff.1 h)
  split at h
  · rename_i h1
    split at h
    · rename_i h2
      rw [h1.1, h2.1, List.drop_length, List.drop_length]
    · exact absurd h.symm (key _)
  · split at h
    · exact absurd h (key _)
    · exact wdsAV_inj h
noncomputable def fParse : Fact Tryz.prog envF := Fact.pure 145 (fun x : List Wd × Nat => x.1.length < 1000000 ∧ x.2 ≤ x.1.length) (fun x => [tailAV x.1 x.2]) (fun x => parseT (parseX (x.1.drop x.2)))
  (fun x h H => by
    unfold tailAV
    split
    · rename_i hx
      rw [hx.1, List.drop_length]
      exact (run_sound (base := oNil) oNil_sound methFOk mixed 100 20 _ _ _ _ _ parse_run).1.frame lowF rfl H
    · exact parseT_cs _ (by rw [List.length_drop]; omega) H) (fun x y hx hy h => by
    simp only [List.cons.injEq, and_true] at h
    rw [tail_inj hx.2 hy.2 h])
noncomputable def fParseC : Fact Tryz.prog envF := Fact.pure 141 (fun x : List Wd × Nat => x.1.length < 1000000 ∧ x.2 ≤ x.1.length) (fun x => [tailAV x.1 x.2]) (fun x => parseCT (parseC (x.1.drop x.2)))
  (fun x h H => by
    unfold tailAV
    split
    · rename_i hx
      rw [hx.1, List.drop_length]
      exact (run_sound (base := oNil) oNil_sound methFOk mixed 100 20 _ _ _ _ _ parsec_run).1.frame lowF rfl H
    · exact parseCT_cs _ (by rw [List.length_drop]; omega) H) (fun x y hx hy h => by
    simp only [List.cons.injEq, and_true] at h
    rw [tail_inj hx.2 hy.2 h])
theorem spwE_cs (ts : List Wd) (hts : ts.length < 1000000) (r : Sr) (hr : r.at_ ≤ ts.length) {H : AH} {id : Nat} (hH : H.at id = some (.box (r.pc ts))) :
    CS Tryz.prog envF 143 [.ptr id 0, .func (.func 145) [] []] H (.agg (tC (exprW ts r).1.tn)) (H.set id (some (.box ((exprW ts r).2.pc ts)))) := by
  refine CS.rd lowF Tryz.func143 (by kernel_rfl) 0 (by simp [Tryz.f143]) (fun B hB hG => ?_) (by simp) (by simp) (spc_low _ _) (spc_low _ _) hH
  have hL : ([fSfault, fAs, fParse].map (·.f)).Nodup := show ([52, 71, 145] : List Nat).Nodup by decide
  have X := oOf_cx [fSfault, fAs, fParse] methFOk mixed
  have h1 := fun p l c H => oOf_pure hL (show fSfault ∈ [fSfault, fAs, fParse] by simp) (p, l, c) trivial H
  have h2 := fun o e0 e1 e2 e3 H => as_at hL (show fAs ∈ [fSfault, fAs, fParse] by simp) o 4 .nilPtr rfl (e0 :: e1 :: e2 :: e3 :: some (.box [.nilPtr]) :: H) rfl
  have h3 := fun H => oOf_pure hL (show fParse ∈ [fSfault, fAs, fParse] by simp) (ts, r.at_) ⟨hts, hr⟩ H
  generalize oOf [fSfault, fAs, fParse] = O at X h1 h2 h3
  refine Tr.goD X hG (by kernel_rfl) ?_
  obtain ⟨a, e⟩ := r
  obtain ⟨hb1, hb2⟩ := parseX_b (ts.drop a)
  rw [List.length_drop] at hb1 hb2
  simp only at hr
  cases e with
  | some y => simp [Tryz.f143, Sr.pc, exprW, withinW, exnone_tn]
  | none =>
    simp only [parseT] at h3
    generalize hq : parseX (ts.drop a) = q at *
    obtain ⟨ex, n, x⟩ := q
    simp only at hb1 hb2 h3
    simp only [tC_eq] at h3
    have hx : exprW ts ⟨a, none⟩ = match x with
      | some (p, c) => (.none, ⟨a, some ([(stmtTxt, a + p), (exprTx, p)], c)⟩)
      | none => (ex, ⟨a + n, none⟩) := by
      simp only [exprW, withinW, hq]
      cases x <;> rfl
    rw [hx]
    simp [Tryz.f143, Sr.pc]
    refine LpD.turns X hG [10, 15, 16] [(0, 15), (1, 15), (2, 15), (3, 15), (4, 15), (5, 15), (6, 15), (7, 15), (8, 15), (9, 15), (10, 15), (11, 15), (12, 15), (13, 15), (13, 16), (14, 15), (14, 16)] (by kernel_rfl) ?_
    simp [hr, h3]
    cases x with
    | none =>
      have h2 := h2 none
      simp at h2
      have w1 : IntKind.i64.wrap ((a : Int) + (n : Int)) = (a : Int) + (n : Int) := wrap_i64 (by omega) (by omega)
      simp [eAV, h2, w1]
    | some y =>
      obtain ⟨p, c⟩ := y
      have hp := hb2 p c rfl
      have w1 : IntKind.i64.wrap ((a : Int) + (p : Int)) = (a : Int) + (p : Int) := wrap_i64 (by omega) (by omega)
      have h2 := h2 (some [.str exprTxt, .int .i64 (p : Int), errAV [] (c : Int)])
      have h1 := h1 ((a : Int) + (p : Int)) [(exprTxt, (p : Int))] (c : Int)
      simp [errAV, exprTxt, stmtTxt] at h1 h2
      simp [eAV, errAV, exprTxt, h2]
      refine LpD.turns X hG [11, 14] [(0, 11)] (by kernel_rfl) ?_
      simp [w1, h1, erI, errAV, castP, stmtTxt, exprTx, exprTxt, exnone_tn]
end Go.Proofs.YtejjlojfgcgopaaGreatDoor

namespace Go.Proofs.YtejjlojfgcgopaaGreatDoor
open Go.RowKit Go.Proofs.Fw
set_option maxRecDepth 100000
set_option maxHeartbeats 4000000
theorem spwQ_cs (ts : List Wd) (hts : ts.length < 1000000) (r : Sr) (hr : r.at_ ≤ ts.length) {H : AH} {id : Nat} (hH : H.at id = some (.box (r.pc ts))) :
    CS Tryz.prog envF 140 [.ptr id 0, .func (.func 141) [] []] H (condT (condW ts r).1) (H.set id (some (.box ((condW ts r).2.pc ts)))) := by
  refine CS.rd lowF Tryz.func140 (by kernel_rfl) 0 (by simp [Tryz.f140]) (fun B hB hG => ?_) (by simp) (by simp [condT]) (spc_low _ _) (spc_low _ _) hH
  have hL : ([fSfault, fAs, fParseC].map (·.f)).Nodup := show ([52, 71, 141] : List Nat).Nodup by decide
  have X := oOf_cx [fSfault, fAs, fParseC] methFOk mixed
  have h1 := fun p l c H => oOf_pure hL (show fSfault ∈ [fSfault, fAs, fParseC] by simp) (p, l, c) trivial H
  have h2 := fun o e0 e1 e2 e3 H => as_at hL (show fAs ∈ [fSfault, fAs, fParseC] by simp) o 4 .nilPtr rfl (e0 :: e1 :: e2 :: e3 :: some (.box [.nilPtr]) :: H) rfl
  have h3 := fun H => oOf_pure hL (show fParseC ∈ [fSfault, fAs, fParseC] by simp) (ts, r.at_) ⟨hts, hr⟩ H
  generalize oOf [fSfault, fAs, fParseC] = O at X h1 h2 h3
  refine Tr.goD X hG (by kernel_rfl) ?_
  obtain ⟨a, e⟩ := r
  obtain ⟨hb1, hb2⟩ := parseC_b (ts.drop a)
  rw [List.length_drop] at hb1 hb2
  simp only at hr
  cases e with
  | some y => simp [Tryz.f140, Sr.pc, condW, withinW, condT, exnone_tn]
  | none =>
    simp only [parseCT] at h3
    generalize hq : parseC (ts.drop a) = q at *
    obtain ⟨⟨op, ea, eb⟩, n, x⟩ := q
    simp only at hb1 hb2 h3
    simp only [condT, tC_eq, List.cons_append, List.nil_append] at h3
    have hx : condW ts ⟨a, none⟩ = match x with
      | some (p, c) => (([], .none, .none), ⟨a, some ([(stmtTxt, a + p), (exprTx, p)], c)⟩)
      | none => ((op, ea, eb), ⟨a + n, none⟩) := by
      simp only [condW, withinW, hq]
      cases x <;> rfl
    rw [hx]
    simp [Tryz.f140, Sr.pc]
    refine LpD.turns X hG [10, 15, 16] [(0, 15), (1, 15), (2, 15), (3, 15), (4, 15), (5, 15), (6, 15), (7, 15), (8, 15), (9, 15), (10, 15), (11, 15), (12, 15), (13, 15), (13, 16), (14, 15), (14, 16)] (by kernel_rfl) ?_
    simp [hr, h3]
    cases x with
    | none =>
      have h2 := h2 none
      simp at h2
      have w1 : IntKind.i64.wrap ((a : Int) + (n : Int)) = (a : Int) + (n : Int) := wrap_i64 (by omega) (by omega)
      simp [eAV, h2, w1, condT]
    | some y =>
      obtain ⟨p, c⟩ := y
      have hp := hb2 p c rfl
      have w1 : IntKind.i64.wrap ((a : Int) + (p : Int)) = (a : Int) + (p : Int) := wrap_i64 (by omega) (by omega)
      have h2 := h2 (some [.str exprTxt, .int .i64 (p : Int), errAV [] (c : Int)])
      have h1 := h1 ((a : Int) + (p : Int)) [(exprTxt, (p : Int))] (c : Int)
      simp [errAV, exprTxt, stmtTxt] at h1 h2
      simp [eAV, errAV, exprTxt, h2]
      refine LpD.turns X hG [11, 14] [(0, 11)] (by kernel_rfl) ?_
      simp [w1, h1, erI, errAV, castP, stmtTxt, exprTx, exprTxt, condT, exnone_tn]
noncomputable def fPwQ (ts : List Wd) (hts : ts.length < 1000000) : Fact Tryz.prog envF := Fact.meth 140 (Sr.pc ts) (spc_inj ts) (fun (_ : Unit) r => r.at_ ≤ ts.length) (fun _ _ => [.func (.func 141) [] []]) (fun _ r => condT (condW ts r).1) (fun _ r => (condW ts r).2)
  (fun _ r h H id hH => spwQ_cs ts hts r h hH) (fun id x y r _ _ h => ⟨rfl, rfl⟩)
noncomputable def fPwE (ts : List Wd) (hts : ts.length < 1000000) : Fact Tryz.prog envF := Fact.meth 143 (Sr.pc ts) (spc_inj ts) (fun (_ : Unit) r => r.at_ ≤ ts.length) (fun _ _ => [.func (.func 145) [] []]) (fun _ r => .agg (tC (exprW ts r).1.tn)) (fun _ r => (exprW ts r).2)
  (fun _ r h H id hH => spwE_cs ts hts r h hH) (fun id x y r _ _ h => ⟨rfl, rfl⟩)
theorem spexpr_cs (ts : List Wd) (hts : ts.length < 1000000) (r : Sr) (hr : r.at_ ≤ ts.length) {H : AH} {id : Nat} (hH : H.at id = some (.box (r.pc ts))) :
    CS Tryz.prog envF 92 [.ptr id 0] H (.agg (tC (exprW ts r).1.tn)) (H.set id (some (.box ((exprW ts r).2.pc ts)))) := by
  refine CS.rd lowF Tryz.func92 (by kernel_rfl) 0 (by simp [Tryz.f92]) (fun B hB hG => ?_) (by simp) (by simp) (spc_low _ _) (spc_low _ _) hH
  have hL : ([fPwE ts hts].map (·.f)).Nodup := show ([143] : List Nat).Nodup by decide
  have X := oOf_cx [fPwE ts hts] methFOk mixed
  have h1 := fun e0 H => oOf_meth hL (show fPwE ts hts ∈ [fPwE ts hts] by simp) () r (H := some (.box (r.pc ts)) :: e0 :: H) (id := 0) rfl hr
  generalize oOf [fPwE ts hts] = O at X h1
  refine Tr.goD X hG (by kernel_rfl) ?_
  simp only [tC_eq, Sr.pc] at h1
  simp at h1
  simp [Tryz.f92, Sr.pc, h1]
theorem tailAV_0 (us : List Wd) : tailAV us 0 = wdsAV us := by
  unfold tailAV
  rw [if_neg (by rintro ⟨h1, h2⟩; exact h2 (List.length_eq_zero_iff.1 h1.symm)), List.drop_zero]
@[simp high] theorem aslTake {ts : List Wd} {a e : Nat} (ha : a < ts.length) (h : a ≤ e) (he : e ≤ ts.length) : aslice Tryz.prog 125 (tailAV ts a) none (some (.int .i64 ((e - a : Nat) : Int))) none = some (if e = a then .slice .unk 4 0 [] else wdsAV ((ts.drop a).take (e - a))) := by
  have hd : ts.drop a ≠ [] := by
    intro h2
    have := congrArg List.length h2
    rw [List.length_drop] at this
    simp at this
    omega
  have hl := List.length_drop (i := a) (l := ts)
  have h1 : ((e - a : Nat) : Int) ≤ ((ts.length - a : Nat) : Int) := by omega
  unfold tailAV
  rw [if_neg (by omega)]
  unfold wdsAV
  rw [if_neg hd]
  by_cases hea : e = a
  · subst hea
    simp [aslice, hl]
  · have ht : (ts.drop a).take (e - a) ≠ [] := by
      intro h2
      have := congrArg List.length h2
      rw [List.length_take, hl] at this
      simp at this
      omega
    have hlt : ((ts.drop a).take (e - a)).length = e - a := by rw [List.length_take, hl]; omega
    rw [if_neg hea, if_neg ht, hlt]
    simp [aslice, hl, h1]
    rw [← wdsCells_take]
def upW (ts : List Wd) (r : Sr) (e : Nat) : Ex × Sr := withinW ts .none (fun l => parseX (l.take (e - r.at_))) r
structure CloOk (ts : List Wd) (H : AH) (r : Sr) (e i0 i1 i2 : Nat) : Prop where
  d01 : i0 ≠ i1
  d02 : i0 ≠ i2
  d12 : i1 ≠ i2
  h0 : H.at i0 = some (.box (r.pc ts))
  h1 : H.at i1 = some (.box [.ptr i0 0])
  h2 : H.at i2 = some (.box [.int .i64 (e : Int)])
  lt : r.at_ < ts.length
  le : r.at_ < e
  up : e ≤ ts.length
def φ3 (i0 i1 i2 : Nat) : Nat → Nat := fun i => if i = 0 then i0 else if i = 1 then i1 else i2
theorem φ3_inj {i0 i1 i2 : Nat} (h1 : i0 ≠ i1) (h2 : i0 ≠ i2) (h3 : i1 ≠ i2) : ∀ i j, i < 3 → j < 3 → φ3 i0 i1 i2 i = φ3 i0 i1 i2 j → i = j := by
  intro i j hi hj h
  rcases (by omega : i = 0 ∨ i = 1 ∨ i = 2) with rfl | rfl | rfl <;> rcases (by omega : j = 0 ∨ j = 1 ∨ j = 2) with rfl | rfl | rfl <;> simp [φ3] at h ⊢ <;> omega
theorem clo_same {ts : List Wd} {H : AH} {r r' : Sr} {e e' i0 i0' i1 i2 : Nat} (h : CloOk ts H r e i0 i1 i2) (k : CloOk ts H r' e' i0' i1 i2) : r = r' ∧ e = e' ∧ i0 = i0' := by
  have e1 := h.h1.symm.trans k.h1
  simp only [Option.some.injEq, Ent.box.injEq, List.cons.injEq, AV.ptr.injEq, and_true] at e1
  subst e1
  have e0 := h.h0.symm.trans k.h0
  simp only [Option.some.injEq, Ent.box.injEq] at e0
  have e2 := h.h2.symm.trans k.h2
  simp only [Option.some.injEq, Ent.box.injEq, List.cons.injEq, AV.int.injEq, true_and, and_true] at e2
  exact ⟨spc_inj ts _ _ e0, by omega, rfl⟩
theorem pc_ren (ψ : Nat → Nat) (ts : List Wd) (r : Sr) : renL ψ (r.pc ts) = r.pc ts := renL_low ψ _ (spc_low ts r)
theorem spclo_cs (ts : List Wd) (hts : ts.length < 1000000) {r : Sr} {e i0 i1 i2 : Nat} {H : AH} (h : CloOk ts H r e i0 i1 i2) :
    CS Tryz.prog envF 144 [tailAV ts r.at_, .ptr i2 0, .ptr i1 0] H (parseT (parseX ((ts.drop r.at_).take (e - r.at_)))) H := by
  obtain ⟨d01, d02, d12, h0, h1, h2, hlt, hle, hup⟩ := h
  have hL : ([fParse].map (·.f)).Nodup := show ([145] : List Nat).Nodup by decide
  have X := oOf_cx [fParse] methFOk mixed
  have hl : ((ts.drop r.at_).take (e - r.at_)).length < 1000000 := by rw [List.length_take, List.length_drop]; omega
  have h3 := fun H => oOf_pure hL (show fParse ∈ [fParse] by simp) ((ts.drop r.at_).take (e - r.at_), 0) ⟨hl, Nat.zero_le _⟩ H
  simp only [tailAV_0, List.drop_zero] at h3
  generalize oOf [fParse] = O at X h3
  have key := CS.of_Tr (P := Tryz.prog) (E := envF) (f := 144) (c := bodyOf Tryz.f144) (args := [tailAV ts r.at_, .ptr 2 0, .ptr 1 0]) (H0 := [some (.box (r.pc ts)), some (.box [.ptr 0 0]), some (.box [.int .i64 (e : Int)])]) (H1 := [some (.box (r.pc ts)), some (.box [.ptr 0 0]), some (.box [.int .i64 (e : Int)])])
    (v := parseT (parseX ((ts.drop r.at_).take (e - r.at_)))) Tryz.func144 (by kernel_rfl) 0 (by simp [Tryz.f144]) (fun B hB hG => by
      refine Tr.goD X hG (by kernel_rfl) ?_
      have w1 : IntKind.i64.wrap ((e : Int) - (r.at_ : Int)) = ((e - r.at_ : Nat) : Int) := by rw [wrap_i64 (by omega) (by omega)]; omega
      have hne : ¬ e = r.at_ := by omega
      have hle' : r.at_ ≤ e := by omega
      simp only [parseT, tC_eq] at h3
      generalize hus : (ts.drop r.at_).take (e - r.at_) = us at *
      generalize parseX us = q at *
      simp [Tryz.f144, Sr.pc]
      refine LpD.turns X hG [8, 12] [] (by kernel_rfl) ?_
      simp [w1, hlt, hle', hup, hne, hus, h3, parseT]) (by simp [parseT]) (by simp [Sr.pc])
  have := CS.embed (φ3 i0 i1 i2) (k := 3) (H := H) (H' := H) key rfl rfl (φ3_inj d01 d02 d12) lowF (by simp) (by simp [parseT]) (by simp [Sr.pc]) (by simp [Sr.pc]) (by
    intro i hi
    rcases (by omega : i = 0 ∨ i = 1 ∨ i = 2) with rfl | rfl | rfl
    · simp [φ3, AH.at, renE, pc_ren]; exact h0
    · simp [φ3, AH.at, renE, renL, ren]; exact h1
    · simp [φ3, AH.at, renE, renL, ren]; exact h2) (by
    intro i hi
    rcases (by omega : i = 0 ∨ i = 1 ∨ i = 2) with rfl | rfl | rfl
    · simp [φ3, AH.at, renE, pc_ren]; exact h0
    · simp [φ3, AH.at, renE, renL, ren]; exact h1
    · simp [φ3, AH.at, renE, renL, ren]; exact h2) (fun j hj => rfl)
  rw [ren_low _ _ (by simp [parseT] : low 0 (parseT (parseX ((ts.drop r.at_).take (e - r.at_)))) = true)] at this
  simpa [renL, ren, φ3, ren_low _ (tailAV ts r.at_) (tailAV_low 0 ts r.at_)] using this
noncomputable def fClo (ts : List Wd) (hts : ts.length < 1000000) : Fact Tryz.prog envF where
  f := 144
  α := Sr × Nat × Nat × Nat × Nat
  ok := fun x H => CloOk ts H x.1 x.2.1 x.2.2.1 x.2.2.2.1 x.2.2.2.2
  args := fun x => [tailAV ts x.1.at_, .ptr x.2.2.2.2 0, .ptr x.2.2.2.1 0]
  out := fun x => parseT (parseX ((ts.drop x.1.at_).take (x.2.1 - x.1.at_)))
  up := fun _ H => H
  cs := fun x H h => ⟨spclo_cs ts hts h, Keeps.refl H⟩
  same := fun x y H hx hy h => by
    obtain ⟨r, e, i0, i1, i2⟩ := x
    obtain ⟨r', e', i0', i1', i2'⟩ := y
    simp only [List.cons.injEq, AV.ptr.injEq, and_true] at h hx hy
    obtain ⟨_, rfl, rfl⟩ := h
    obtain ⟨rfl, rfl, _⟩ := clo_same hx hy
    exact ⟨rfl, rfl⟩
theorem spwC_cs (ts : List Wd) (hts : ts.length < 1000000) {r : Sr} {e i0 i1 i2 : Nat} {H : AH} (h : CloOk ts H r e i0 i1 i2) :
    CS Tryz.prog envF 143 [.ptr i0 0, .func (.func 144) [] [.ptr i2 0, .ptr i1 0]] H (.agg (tC (upW ts r e).1.tn)) (H.set i0 (some (.box ((upW ts r e).2.pc ts)))) := by
  obtain ⟨d01, d02, d12, h0, hb1, hb2, hlt, hle, hup⟩ := h
  have hL : ([fSfault, fAs, fClo ts hts].map (·.f)).Nodup := show ([52, 71, 144] : List Nat).Nodup by decide
  have X := oOf_cx [fSfault, fAs, fClo ts hts] methFOk mixed
  have h1 := fun p l c H => oOf_pure hL (show fSfault ∈ [fSfault, fAs, fClo ts hts] by simp) (p, l, c) trivial H
  have h2 := fun o e0 e1 e2 e3 e4 e5 H => as_at hL (show fAs ∈ [fSfault, fAs, fClo ts hts] by simp) o 6 .nilPtr rfl (e0 :: e1 :: e2 :: e3 :: e4 :: e5 :: some (.box [.nilPtr]) :: H) rfl
  have h3 := fun H => oOf_mem hL (fClo ts hts) (show fClo ts hts ∈ [fSfault, fAs, fClo ts hts] by simp) (x := (r, e, 0, 1, 2)) (H := some (.box (r.pc ts)) :: some (.box [.ptr 0 0]) :: some (.box [.int .i64 (e : Int)]) :: H) ⟨Nat.zero_ne_one, (by simp), (by simp), rfl, rfl, rfl, hlt, hle, hup⟩
  generalize oOf [fSfault, fAs, fClo ts hts] = O at X h1 h2 h3
  have key := CS.of_Tr (P := Tryz.prog) (E := envF) (f := 143) (c := bodyOf Tryz.f143) (args := [.ptr 0 0, .func (.func 144) [] [.ptr 2 0, .ptr 1 0]]) (H0 := [some (.box (r.pc ts)), some (.box [.ptr 0 0]), some (.box [.int .i64 (e : Int)])]) (H1 := [some (.box ((upW ts r e).2.pc ts)), some (.box [.ptr 0 0]), some (.box [.int .i64 (e : Int)])])
    (v := .agg (tC (upW ts r e).1.tn)) Tryz.func143 (by kernel_rfl) 0 (by simp [Tryz.f143]) (fun B hB hG => by
      refine Tr.goD X hG (by kernel_rfl) ?_
      obtain ⟨a, er⟩ := r
      obtain ⟨hb1, hb2⟩ := parseX_b ((ts.drop a).take (e - a))
      rw [List.length_take, List.length_drop] at hb1 hb2
      simp only at hlt hle
      have hr : a ≤ ts.length := by omega
      cases er with
      | some y => simp [Tryz.f143, Sr.pc, upW, withinW, exnone_tn]
      | none =>
        simp only [fClo, parseT] at h3
        generalize hq : parseX ((ts.drop a).take (e - a)) = q at *
        obtain ⟨ex, n, x⟩ := q
        simp only at hb1 hb2 h3
        simp only [tC_eq, Sr.pc, erI_none] at h3
        have hx : upW ts ⟨a, none⟩ e = match x with
          | some (p, c) => (.none, ⟨a, some ([(stmtTxt, a + p), (exprTx, p)], c)⟩)
          | none => (ex, ⟨a + n, none⟩) := by
          simp only [upW, withinW, hq]
          cases x <;> rfl
        rw [hx]
        simp [Tryz.f143, Sr.pc]
        refine LpD.turns X hG [10, 15, 16] [(0, 15), (1, 15), (2, 15), (3, 15), (4, 15), (5, 15), (6, 15), (7, 15), (8, 15), (9, 15), (10, 15), (11, 15), (12, 15), (13, 15), (13, 16), (14, 15), (14, 16)] (by kernel_rfl) ?_
        simp [hr, h3]
        cases x with
        | none =>
          have h2 := h2 none
          simp at h2
          have w1 : IntKind.i64.wrap ((a : Int) + (n : Int)) = (a : Int) + (n : Int) := wrap_i64 (by omega) (by omega)
          simp [eAV, h2, w1]
        | some y =>
          obtain ⟨p, c⟩ := y
          have hp := hb2 p c rfl
          have w1 : IntKind.i64.wrap ((a : Int) + (p : Int)) = (a : Int) + (p : Int) := wrap_i64 (by omega) (by omega)
          have h2 := h2 (some [.str exprTxt, .int .i64 (p : Int), errAV [] (c : Int)])
          have h1 := h1 ((a : Int) + (p : Int)) [(exprTxt, (p : Int))] (c : Int)
          simp [errAV, exprTxt, stmtTxt] at h1 h2
          simp [eAV, errAV, exprTxt, h2]
          refine LpD.turns X hG [11, 14] [(0, 11)] (by kernel_rfl) ?_
          simp [w1, h1, erI, errAV, castP, stmtTxt, exprTx, exprTxt, exnone_tn]) (by simp) (by simp [Sr.pc])
  have := CS.embed (φ3 i0 i1 i2) (k := 3) (H := H) (H' := H.set i0 (some (.box ((upW ts r e).2.pc ts)))) key rfl rfl (φ3_inj d01 d02 d12) lowF (by simp) (by simp) (by simp [Sr.pc]) (by simp [Sr.pc]) (by
    intro i hi
    rcases (by omega : i = 0 ∨ i = 1 ∨ i = 2) with rfl | rfl | rfl
    · simp [φ3, AH.at, renE, pc_ren]; exact h0
    · simp [φ3, AH.at, renE, renL, ren]; exact hb1
    · simp [φ3, AH.at, renE, renL, ren]; exact hb2) (by
    intro i hi
    rcases (by omega : i = 0 ∨ i = 1 ∨ i = 2) with rfl | rfl | rfl
    · have : φ3 i0 i1 i2 0 = i0 := rfl
      rw [this, at_set_self h0]
      simp [AH.at, renE, pc_ren]
    · have : φ3 i0 i1 i2 1 = i1 := rfl
      rw [this, at_set_ne d01]
      simp [φ3, AH.at, renE, renL, ren]; exact hb1
    · have : φ3 i0 i1 i2 2 = i2 := rfl
      rw [this, at_set_ne d02]
      simp [φ3, AH.at, renE, renL, ren]; exact hb2) (fun j hj => at_set_ne (hj 0 (by omega)))
  rw [ren_low _ _ (by simp : low 0 (.agg (tC (upW ts r e).1.tn)) = true)] at this
  simpa [renL, ren, φ3] using this
noncomputable def fPwC (ts : List Wd) (hts : ts.length < 1000000) : Fact Tryz.prog envF where
  f := 143
  α := Sr × Nat × Nat × Nat × Nat
  ok := fun x H => CloOk ts H x.1 x.2.1 x.2.2.1 x.2.2.2.1 x.2.2.2.2
  args := fun x => [.ptr x.2.2.1 0, .func (.func 144) [] [.ptr x.2.2.2.2 0, .ptr x.2.2.2.1 0]]
  out := fun x => .agg (tC (upW ts x.1 x.2.1).1.tn)
  up := fun x H => H.set x.2.2.1 (some (.box ((upW ts x.1 x.2.1).2.pc ts)))
  cs := fun x H h => ⟨spwC_cs ts hts h, Keeps.set h.h0⟩
  same := fun x y H hx hy h => by
    obtain ⟨r, e, i0, i1, i2⟩ := x
    obtain ⟨r', e', i0', i1', i2'⟩ := y
    simp only [List.cons.injEq, AV.ptr.injEq, AV.func.injEq, and_true, true_and] at h hx hy
    obtain ⟨rfl, rfl, rfl⟩ := h
    obtain ⟨rfl, rfl, _⟩ := clo_same hx hy
    exact ⟨rfl, rfl⟩
end Go.Proofs.YtejjlojfgcgopaaGreatDoor
namespace Go.Proofs.YtejjlojfgcgopaaGreatDoor
open Go.RowKit Go.Proofs.Fw
set_option maxRecDepth 100000
set_option maxHeartbeats 4000000
@[simp] theorem immFSp : envF.imm 129 = false := by decide
@[simp] theorem immFSs : envF.imm 31 = false := by decide
theorem drop_cons_at {ts : List Wd} {e : Nat} {w : Wd} (h : ts[e]? = some w) : ts.drop e = w :: ts.drop (e + 1) := by
  obtain ⟨hl, he⟩ := List.getElem?_eq_some_iff.1 h
  rw [← he]
  exact List.drop_eq_getElem_cons hl
def TopI (ts : List Wd) (r : Sr) (E : Nat) (k : Nat) (t : List AV) (H : AH) : Prop :=
  ∃ (e d : Nat), e + k = ts.length ∧ r.at_ < e ∧ e + closeN (ts.drop e) d = E ∧ (d = 0 → isK ts e 3 openT = true) ∧ d ≤ e ∧
    t = mkT 90 [(1, .ptr 1 0), (2, .ptr 2 0), (3, .ptr 3 0), (4, .int .i64 (d : Int))] ∧ H = [pbx ts r, some (.box [.ptr 0 0]), some (.box [.int .i64 0, .int .i64 0, .str [], .nilSlice]), some (.box [.int .i64 (e : Int)])]
theorem closeN_le : ∀ (l : List Wd) (d : Nat), closeN l d ≤ l.length
  | [], d => Nat.le_refl _
  | w :: l, d => by
    have h1 := closeN_le l
    have h2 := closeN_le l d
    simp only [closeN, List.length_cons]
    generalize (if w.text = openT then d + 1 else if w.text = shutT then d - 1 else d) = d2
    have h3 := h1 d2
    split
    · split <;> omega
    · omega
theorem endW_b {ts : List Wd} {i : Nat} (h : i < ts.length) : i < endW ts i ∧ endW ts i ≤ ts.length := by
  unfold endW
  split
  · have h1 := closeN_le (ts.drop (i + 1)) 0
    rw [List.length_drop] at h1
    omega
  · omega
theorem toW_eq {ts : List Wd} {r : Sr} (h : isW ts r 1 [] = true) : toW ts r = upW ts r (endW ts r.at_) := by
  simp [toW, upW, h]
theorem isK_some {ts : List Wd} {i : Nat} {w : Wd} (h : ts[i]? = some w) (k : Nat) (s : List UInt8) : isK ts i k s = (w.kind == k && (s == [] || w.text == s)) := by simp only [isK, h]
theorem spto_cs (ts : List Wd) (hts : ts.length < 1000000) (r : Sr) (hr : r.at_ ≤ ts.length) {H : AH} {id : Nat} (hH : H.at id = some (.box (r.pc ts))) :
    CS Tryz.prog envF 90 [.ptr id 0] H (.agg (tC (toW ts r).1.tn)) (H.set id (some (.box ((toW ts r).2.pc ts)))) := by
  refine CS.rd lowF Tryz.func90 (by kernel_rfl) 0 (by simp [Tryz.f90]) (fun B hB hG => ?_) (by simp) (by simp) (spc_low _ _) (spc_low _ _) hH
  have hL : ([fPfail ts, fPis ts, fPwC ts hts].map (·.f)).Nodup := show ([54, 142, 143] : List Nat).Nodup by decide
  have X := oOf_cx [fPfail ts, fPis ts, fPwC ts hts] methFOk mixed
  have h0 := fun H => pfail_s (ts := ts) hL (by simp) r r.at_ 2 H
  have h1 := fun H => pis_s (ts := ts) hL (by simp) r 1 [] H
  have h2 := fun (e : Nat) (e2 : Option Ent) (h : r.at_ < ts.length) (h' : r.at_ < e) (h'' : e ≤ ts.length) H => oOf_mem hL (fPwC ts hts) (show fPwC ts hts ∈ [fPfail ts, fPis ts, fPwC ts hts] by simp) (x := (r, e, 0, 1, 3)) (H := pbx ts r :: some (.box [.ptr 0 0]) :: e2 :: some (.box [.int .i64 (e : Int)]) :: H) ⟨Nat.zero_ne_one, (by simp), (by simp), rfl, rfl, rfl, h, h', h''⟩
  generalize oOf [fPfail ts, fPis ts, fPwC ts hts] = O at X h0 h1 h2
  refine Tr.goD X hG (by kernel_rfl) ?_
  simp [pbx] at h0 h1
  cases hw : isW ts r 1 [] with
  | false =>
    rw [hw] at h1
    have hx : toW ts r = (.none, r.fail r.at_ 2) := by simp [toW, hw]
    rw [hx]
    simp [Tryz.f90, Sr.pc, h1]
    refine LpD.turns X hG [5] [] (by kernel_rfl) ?_
    simp [h0, exnone_tn]
  | true =>
    rw [hw] at h1
    obtain ⟨hlt, he⟩ := isW_lt hw
    rw [toW_eq hw]
    obtain ⟨b1, b2⟩ := endW_b hlt
    have h2' := h2 (endW ts r.at_) (some (.box [.int .i64 0, .int .i64 0, .str [], .nilSlice])) hlt b1 b2
    simp only [fPwC, tC_eq, Sr.pc] at h2'
    obtain ⟨E1, hE1⟩ : ∃ E1, E1 = r.at_ + 1 := ⟨_, rfl⟩
    have hE : endW ts r.at_ = if isK ts E1 3 openT then E1 + closeN (ts.drop E1) 0 else E1 := by rw [hE1]; rfl
    have w1 : IntKind.i64.wrap ((r.at_ : Int) + 1) = (E1 : Int) := by rw [wrap_i64 (by omega) (by omega)]; omega
    simp [Tryz.f90, Sr.pc, h1, w1]
    generalize upW ts r (endW ts r.at_) = res at *
    refine LpD.turns X hG [] [] (by kernel_rfl) ?_
    by_cases hl : E1 < ts.length
    · have hl' : (E1 : Int) < ts.length := by omega
      obtain ⟨w, hx⟩ : ∃ w, ts[E1]? = some w := ⟨_, List.getElem?_eq_getElem hl⟩
      obtain ⟨c0, c1, c3⟩ := cellX hx
      have hk := isK_some hx 3 openT
      by_cases hk3 : w.kind = 3
      · by_cases hkt : w.text = [40]
        · have hkk : isK ts E1 3 openT = true := by rw [hk]; simp [hk3, hkt, openT]
          rw [hkk] at hE
          simp only [if_true] at hE
          simp [hl, hl', c0, c1, hk3, hkt]
          generalize hEn : endW ts r.at_ = En at *
          refine LpD.loopN X hG (by kernel_rfl) (TopI ts r En) (ts.length - E1) (t' := mkT 90 [(1, .ptr 1 0), (2, .ptr 2 0), (3, .ptr 3 0), (4, .int .i64 ((0 : Nat) : Int))])
            (H' := [pbx ts r, some (.box [.ptr 0 0]), some (.box [.int .i64 0, .int .i64 0, .str [], .nilSlice]), some (.box [.int .i64 (E1 : Int)])])
            (Less.mkK 4 (by simp [hB]) (by simp) (by simp [pbx]) (by simp [pbx])) ⟨E1, 0, by omega, by omega, hE.symm, fun _ => hkk, by omega, rfl, rfl⟩ ?_
          clear hk hk3 hkt hkk c0 c1 c3 hx hl hl' hE w
          rintro k t H ⟨e, d, hek, hre, hcl, hd0, hdb, rfl, rfl⟩
          cases k with
          | zero =>
            have hn : ¬ (e : Int) < ts.length := by omega
            rw [List.drop_of_length_le (by omega)] at hcl
            have hcl : e = En := hcl
            subst hcl
            simp at h2'
            simp [pbx]
            refine LpD.turns X hG [] [] (by kernel_rfl) ?_
            simp [Blk_exit, hn, h2']
          | succ k =>
            have hl : e < ts.length := by omega
            have hl' : (e : Int) < ts.length := by omega
            obtain ⟨w, hx⟩ : ∃ w, ts[e]? = some w := ⟨_, List.getElem?_eq_getElem hl⟩
            obtain ⟨c0, c1, c3⟩ := cellX hx
            have hk := isK_some hx 3 openT
            have we : IntKind.i64.wrap ((e : Int) + 1) = ((e + 1 : Nat) : Int) := by rw [wrap_i64 (by omega) (by omega)]; omega
            rw [drop_cons_at hx] at hcl
            simp [pbx]
            refine LpD.turns X hG [] [] (by kernel_rfl) ?_
            simp [hl, hl']
            refine LpD.turns X hG [] [] (by kernel_rfl) ?_
            by_cases hk3 : w.kind = 3
            · simp only [closeN, hk3, if_true] at hcl
              simp [hl, c0, hk3]
              refine LpD.turns X hG [] [] (by kernel_rfl) ?_
              by_cases hkt : w.text = [40]
              · have hkt' : w.text = openT := hkt
                rw [if_pos hkt', if_neg (by omega)] at hcl
                have wd : IntKind.i64.wrap ((d : Int) + 1) = ((d + 1 : Nat) : Int) := by rw [wrap_i64 (by omega) (by omega)]; omega
                have hd1 : ¬ ((d + 1 : Nat) : Int) = 0 := by omega
                have hd2 : (((d + 1 : Nat) : Int) == 0) = false := by rw [beq_eq_false_iff_ne]; exact hd1
                simp [hl, c1, hkt, wd, we, hd1, hd2, Blk_exit, -Int.natCast_add]
                exact Nxt.mk k (by omega) (Less.mkK 4 (by simp [hB]) (by simp) (by simp [pbx]) (by simp [pbx])) ⟨e + 1, d + 1, by omega, by omega, by omega, fun h => by omega, by omega, rfl, rfl⟩
              · have hkt' : ¬ w.text = openT := hkt
                have hd : d ≠ 0 := fun h => by
                  have := hd0 h
                  rw [hk] at this
                  simp [openT, hkt] at this
                rw [if_neg hkt'] at hcl
                by_cases hks : w.text = [41]
                · have hks' : w.text = shutT := hks
                  rw [if_pos hks'] at hcl
                  have wd : IntKind.i64.wrap ((d : Int) - 1) = ((d - 1 : Nat) : Int) := by rw [wrap_i64 (by omega) (by omega)]; omega
                  by_cases hz : d - 1 = 0
                  · rw [if_pos hz] at hcl
                    subst hcl
                    have hz' : ((d - 1 : Nat) : Int) = 0 := by omega
                    simp [hl, c1, hkt, hks, wd, hz', we, Blk_exit, h2', -Int.natCast_add]
                  · rw [if_neg hz] at hcl
                    have hd1 : ¬ ((d - 1 : Nat) : Int) = 0 := by omega
                    have hd2 : (((d - 1 : Nat) : Int) == 0) = false := by rw [beq_eq_false_iff_ne]; exact hd1
                    simp [hl, c1, hkt, hks, wd, we, hd1, hd2, Blk_exit, -Int.natCast_add]
                    exact Nxt.mk k (by omega) (Less.mkK 4 (by simp [hB]) (by simp) (by simp [pbx]) (by simp [pbx])) ⟨e + 1, d - 1, by omega, by omega, by omega, fun h => by omega, by omega, rfl, rfl⟩
                · have hks' : ¬ w.text = shutT := hks
                  rw [if_neg hks', if_neg hd] at hcl
                  have hd1 : ¬ ((d : Nat) : Int) = 0 := by omega
                  have hd2 : (((d : Nat) : Int) == 0) = false := by rw [beq_eq_false_iff_ne]; exact hd1
                  simp [hl, c1, hkt, hks, we, hd1, hd2, hd, Blk_exit, -Int.natCast_add]
                  exact Nxt.mk k (by omega) (Less.mkK 4 (by simp [hB]) (by simp) (by simp [pbx]) (by simp [pbx])) ⟨e + 1, d, by omega, by omega, by omega, fun h => by omega, by omega, rfl, rfl⟩
            · simp only [closeN, hk3, if_false] at hcl
              have hd : d ≠ 0 := fun h => by
                have := hd0 h
                rw [hk] at this
                simp [hk3] at this
              have hk3' : ((w.kind : Int) == 3) = false := by rw [beq_eq_false_iff_ne]; omega
              have hk4 : ¬ (w.kind : Int) = 3 := by omega
              simp [hl, c0, hk3, hk3', hk4, we, Blk_exit, -Int.natCast_add]
              exact Nxt.mk k (by omega) (Less.mkK 4 (by simp [hB]) (by simp) (by simp [pbx]) (by simp [pbx])) ⟨e + 1, d, by omega, by omega, by omega, fun h => by omega, by omega, rfl, rfl⟩
        · have hkk : isK ts E1 3 openT = false := by rw [hk]; simp [hkt, openT]
          rw [hkk] at hE
          simp only [Bool.false_eq_true, if_false] at hE
          rw [hE] at h2'
          simp at h2'
          simp [hl, hl', c0, c1, hk3, hkt, h2']
      · have hkk : isK ts E1 3 openT = false := by rw [hk]; simp [hk3]
        have hk3' : ((w.kind : Int) == 3) = false := by rw [beq_eq_false_iff_ne]; omega
        have hk4 : ¬ (w.kind : Int) = 3 := by omega
        rw [hkk] at hE
        simp only [Bool.false_eq_true, if_false] at hE
        rw [hE] at h2'
        simp at h2'
        simp [hl, hl', c0, c1, hk3, hk3', hk4, h2']
    · have hl' : ¬ (E1 : Int) < ts.length := by omega
      have hx : ts[E1]? = none := List.getElem?_eq_none (by omega)
      have hkk : isK ts E1 3 openT = false := by simp only [isK, hx]
      rw [hkk] at hE
      simp only [Bool.false_eq_true, if_false] at hE
      rw [hE] at h2'
      simp at h2'
      simp [hl, hl', h2']
end Go.Proofs.YtejjlojfgcgopaaGreatDoor
