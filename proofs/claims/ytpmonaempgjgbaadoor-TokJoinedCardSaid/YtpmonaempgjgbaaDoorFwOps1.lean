/- What an operation is told to do, it does: values, memory. -/
import Derived.Test.YtpmonaempgjgbaaDoorFwDefs
namespace Go.Proofs.Fw
open Go.RowKit
variable {P : Program} {g : Gh} {H : AH} {w : World}

theorem ofVal_ok {v : Value} {a : AV} (h : ofVal v = some a) : RepV g a v := by
  unfold ofVal at h
  split at h <;> first | (injection h with h; subst h; simp [RepV]) | (cases h)

theorem ofVals_ok : ∀ {vs : List Value} {as : List AV}, ofVals vs = some as → RepL g as vs
  | [], _, h => by simp only [ofVals] at h; injection h with h; subst h; simp [RepL]
  | v :: vs, as, h => by
    simp only [ofVals] at h
    split at h
    · rename_i a as' h1 h2
      injection h with h
      subst h
      simp only [RepL]
      exact ⟨v, vs, rfl, ofVal_ok h1, ofVals_ok h2⟩
    · cases h

theorem ofValC_ok {v : Value} {a : AV} (h : ofValC v = some a) : RepV g a v := by
  unfold ofValC at h
  split at h
  · rename_i cs
    cases hc : ofVals cs.toList with
    | none => rw [hc] at h; cases h
    | some as =>
      rw [hc] at h
      simp only [Option.map_some] at h
      injection h with h
      subst h
      simp only [RepV]
      exact ⟨cs.toList, by simp, ofVals_ok hc⟩
  · exact ofVal_ok h

/-- The environment's word on package-level variables. -/
def GlobOk (E : Env) (g : Gh) : Prop := ∀ i, RepV g (E.glob i) (.pointer (some ⟨i, 0, none⟩))

theorem GlobOk.mono {E : Env} {g g' : Gh} (h : GlobOk E g) (hl : g.le g') : GlobOk E g' := fun i => RepV.mono hl _ _ (h i)

theorem aeval_ok {E : Env} (hG : GlobOk E g) {tmps : List AV} {a : Act} (h : RepL g tmps a.tmps.toList) (x : Operand) : RepV g (aeval E tmps x) (a.eval x) := by
  cases x with
  | tmp t =>
    simp only [aeval, Act.eval]
    have := h.getD t undef
    rw [List.getD_eq_getElem?_getD, List.getD_eq_getElem?_getD] at *
    rw [Array.getD_eq_getD_getElem?]
    rw [← Array.getElem?_toList]
    cases hi : tmps[t]? with
    | none =>
      have hl := h.length
      have : a.tmps.toList[t]? = none := by
        rw [List.getElem?_eq_none_iff] at hi ⊢
        omega
      rw [this]
      simp [AV.nothing, RepV, undef, RepL]
    | some v =>
      obtain ⟨u, hu, hr⟩ := h.get hi
      rw [hu]
      exact hr
  | const v =>
    simp only [aeval, Act.eval]
    cases hc : ofValC v with
    | none => simp [RepV]
    | some u => exact ofValC_ok hc
  | global i => exact hG i
  | func f => simp [aeval, Act.eval, RepV, RepL]

theorem cellsAV_ok {a : AV} {v : Value} (h : RepV g a v) (hk : a.known = true) : RepL g (cellsAV a) v.cells.toList := by
  cases a with
  | undef => simp [AV.known] at hk
  | agg cs =>
    simp only [RepV] at h
    obtain ⟨vs, rfl, h⟩ := h
    simpa [cellsAV, Value.cells] using h
  | bool b => simp only [RepV] at h; subst h; simp [cellsAV, Value.cells, RepL, RepV]
  | int k n => simp only [RepV] at h; subst h; simp [cellsAV, Value.cells, RepL, RepV]
  | str s => simp only [RepV] at h; subst h; simp [cellsAV, Value.cells, RepL, RepV]
  | nilPtr => simp only [RepV] at h; subst h; simp [cellsAV, Value.cells, RepL, RepV]
  | nilSlice => simp only [RepV] at h; subst h; simp [cellsAV, Value.cells, RepL, RepV]
  | nilMap => simp only [RepV] at h; subst h; simp [cellsAV, Value.cells, RepL, RepV]
  | nilFunc => simp only [RepV] at h; subst h; simp [cellsAV, Value.cells, RepL, RepV]
  | nilIface => simp only [RepV] at h; subst h; simp [cellsAV, Value.cells, RepL, RepV]
  | ptr id off =>
    have h' := h
    simp only [RepV] at h
    obtain ⟨b, _, rfl⟩ := h
    simp only [cellsAV, Value.cells, RepL]
    exact ⟨_, _, rfl, h', rfl⟩
  | bsl id off sz n cap =>
    have h' := h
    simp only [RepV] at h
    obtain ⟨b, _, rfl, _⟩ := h
    simp only [cellsAV, Value.cells, RepL]
    exact ⟨_, _, rfl, h', rfl⟩
  | vptr cs off =>
    have h' := h
    simp only [RepV] at h
    obtain ⟨b, o, vs, rfl, _⟩ := h
    simp only [cellsAV, Value.cells, RepL]
    exact ⟨_, _, rfl, h', rfl⟩
  | slice ow sz n cs =>
    have h' := h
    simp only [RepV] at h
    obtain ⟨b, o, cap, vs, rfl, _⟩ := h
    simp only [cellsAV, Value.cells, RepL]
    exact ⟨_, _, rfl, h', rfl⟩
  | func fn fi ca =>
    have h' := h
    simp only [RepV] at h
    obtain ⟨fs, cs, rfl, _⟩ := h
    simp only [cellsAV, Value.cells, RepL]
    exact ⟨_, _, rfl, h', rfl⟩
  | iface t x =>
    have h' := h
    simp only [RepV] at h
    obtain ⟨y, rfl, _⟩ := h
    simp only [cellsAV, Value.cells, RepL]
    exact ⟨_, _, rfl, h', rfl⟩
  | tup vs =>
    have h' := h
    simp only [RepV] at h
    obtain ⟨y, rfl, _⟩ := h
    simp only [cellsAV, Value.cells, RepL]
    exact ⟨_, _, rfl, h', rfl⟩

theorem one_ok {a : AV} {v : Value} (h : RepV g a v) (hk : a.one = true) : v.oneCell' = true := by
  cases a with
  | undef => simp [AV.one] at hk
  | agg cs => simp [AV.one] at hk
  | tup cs => simp [AV.one] at hk
  | ptr id off => simp only [RepV] at h; obtain ⟨b, _, rfl⟩ := h; rfl
  | bsl id off sz n cap => simp only [RepV] at h; obtain ⟨b, _, rfl, _⟩ := h; rfl
  | vptr cs off => simp only [RepV] at h; obtain ⟨b, o, vs, rfl, _⟩ := h; rfl
  | slice ow sz n cs => simp only [RepV] at h; obtain ⟨b, o, cap, vs, rfl, _⟩ := h; rfl
  | func fn fi ca => simp only [RepV] at h; obtain ⟨fs, cs, rfl, _⟩ := h; rfl
  | iface t x => simp only [RepV] at h; obtain ⟨y, rfl, _⟩ := h; rfl
  | bool b => simp only [RepV] at h; subst h; rfl
  | int k n => simp only [RepV] at h; subst h; rfl
  | str s => simp only [RepV] at h; subst h; rfl
  | nilPtr => simp only [RepV] at h; subst h; rfl
  | nilSlice => simp only [RepV] at h; subst h; rfl
  | nilMap => simp only [RepV] at h; subst h; rfl
  | nilFunc => simp only [RepV] at h; subst h; rfl
  | nilIface => simp only [RepV] at h; subst h; rfl

theorem ones_ok : ∀ {as : List AV} {vs : List Value}, RepL g as vs → as.all AV.one = true → ∀ v ∈ vs, v.oneCell' = true
  | [], vs, h, _ => by simp only [RepL] at h; subst h; simp
  | a :: as, vs, h, ho => by
    simp only [RepL] at h
    obtain ⟨v, ws, rfl, h1, h2⟩ := h
    simp only [List.all_cons, Bool.and_eq_true] at ho
    intro u hu
    rcases List.mem_cons.1 hu with rfl | hu
    · exact one_ok h1 ho.1
    · exact ones_ok h2 ho.2 u hu

theorem zeroAV_ok {t : TypeId} {z : AV} (h : zeroAV P t = some z) : ∃ i zv, P.info? t = some i ∧ i.zero = some zv ∧ ∀ g, RepV g z zv := by
  unfold zeroAV at h
  split at h
  · rename_i i hi
    split at h
    · rename_i zv hz
      exact ⟨i, zv, hi, hz, fun g => ofValC_ok h⟩
    · cases h
  · cases h

theorem run_info {t : TypeId} {i : TypeInfo} (h : P.info? t = some i) : (typeInfo t).run P w = .ok i w := by
  simp [typeInfo, h]

theorem run_size {t : TypeId} {n : Nat} (h : szOf P t = some n) : (sizeOf t).run P w = .ok n w := by
  unfold szOf at h
  cases hi : P.info? t with
  | none => rw [hi] at h; cases h
  | some i =>
    rw [hi] at h
    simp only [Option.map_some] at h
    injection h with h
    simp [sizeOf, run_info hi, h]

theorem run_isAgg {t : TypeId} {b : Bool} (h : aggB P t = some b) : (isAgg t).run P w = .ok b w := by
  unfold aggB at h
  unfold isAgg
  split at h
  · rename_i f hu; injection h with h; subst h; simp [run_underlying hu]
  · rename_i f hu; injection h with h; subst h; simp [run_underlying hu]
  · rename_i d h1 h2 hu
    injection h with h
    subst h
    simp only [Sem.run_bind, run_underlying hu, Result.andThen_ok]
    rfl
  · cases h

/-- What is loaded, of cells that are known. -/
theorem ldAt_ok {t : TypeId} {cs : List AV} {off : Nat} {r : AV} (h : ldAt P t cs off = some r) {b o : Nat} {vs : List Value} (hr : RepL g cs vs)
    (hc : ∀ i v, vs[i]? = some v → w.cell? ⟨b, o + i, none⟩ = some v) :
    ∃ rv, (loadVar t ⟨b, o + off, none⟩).run P w = .ok rv w ∧ RepV g r rv := by
  unfold ldAt at h
  split at h
  · rename_i ha
    split at h
    · rename_i n hn
      split at h
      · rename_i hl
        injection h with h
        subst h
        have hlen : ((vs.drop off).take n).length = n := by simp [hr.length]; omega
        have hcells := run_loadCells_list (P := P) w ⟨b, o + off, none⟩ ((vs.drop off).take n) (fun j v hj => by
          rw [List.getElem?_take] at hj
          split at hj
          · rw [List.getElem?_drop] at hj
            rw [Addr.add_lit, Nat.add_assoc]
            exact hc _ _ hj
          · cases hj)
        rw [hlen] at hcells
        refine ⟨.agg ((vs.drop off).take n).toArray, ?_, ?_⟩
        · simp [loadVar, run_isAgg ha, run_size hn, hcells]
        · simp only [RepV]
          exact ⟨_, rfl, (hr.drop off).take n⟩
      · cases h
    · cases h
  · rename_i ha
    obtain ⟨v, hv, hrep⟩ := hr.get h
    refine ⟨v, ?_, hrep⟩
    simp [loadVar, run_isAgg ha, hc _ _ hv]
  · cases h

theorem box_cells (R : Rel g H w) {id b : Nat} {cs : List AV} (h : H.at id = some (.box cs)) (hM : g.M id = some (.box b)) :
    ∃ vs el, w.heap[b]? = some (.cells (List.toArray vs) el (0, 0)) ∧ RepL g cs vs ∧ ∀ i v, vs[i]? = some v → w.cell? ⟨b, 0 + i, none⟩ = some v := by
  obtain ⟨ge, hM', hrep⟩ := R.ent id _ h (by simp)
  rw [hM] at hM'
  injection hM' with hM'
  subst hM'
  obtain ⟨vs, el, h1, h2, _⟩ := hrep
  refine ⟨vs, el, h1, h2, fun i v hv => ?_⟩
  simp [World.cell?, h1, hv]

theorem aload_ok (R : Rel g H w) {t : TypeId} {x r : AV} (h : aload P H t x = some r) {xv : Value} (hx : RepV g x xv) :
    ∃ rv, (Instr.loadAt t xv).run P w = .ok rv w ∧ RepV g r rv := by
  unfold aload at h
  split at h
  · rename_i id off
    split at h
    · rename_i cs hH
      simp only [RepV] at hx
      obtain ⟨b, hM, rfl⟩ := hx
      obtain ⟨vs, el, _, h2, h3⟩ := box_cells R hH hM
      obtain ⟨rv, h4, h5⟩ := ldAt_ok (w := w) h h2 h3
      rw [Nat.zero_add] at h4
      exact ⟨rv, by simp [Instr.loadAt, Instr.sureAddr, h4], h5⟩
    · cases h
  · rename_i cs off
    simp only [RepV] at hx
    obtain ⟨b, o, vs, rfl, h2, h3⟩ := hx
    obtain ⟨rv, h4, h5⟩ := ldAt_ok (w := w) h h2 (fun i v hv => R.imm _ _ _ (h3 i v hv))
    exact ⟨rv, by simp [Instr.loadAt, Instr.sureAddr, h4], h5⟩
  · cases h

theorem putAt_ok {cs vs : List AV} {us ws : List Value} (h : RepL g cs us) (k : RepL g vs ws) (off : Nat) : RepL g (putAt cs off vs) (us.take off ++ ws ++ us.drop (off + ws.length)) := by
  unfold putAt
  rw [k.length]
  exact ((h.take off).append k).append (h.drop _)

def applyUps (H : AH) : Ups → AH
  | [] => H
  | (i, e) :: r => applyUps (H.set i (some e)) r

theorem astore_ok (R : Rel g H w) {t : TypeId} {x v r : AV} {u : Ups} (h : astore P H t x v = some (r, u)) {xv vv : Value} (hx : RepV g x xv) (hv : RepV g v vv) :
    r = .nothing ∧ ∃ w', (Instr.storeAt t xv vv).run P w = .ok () w' ∧ Rel g (applyUps H u) w' ∧ Post g H w g (applyUps H u) w' := by
  unfold astore at h
  split at h
  · rename_i id off
    split at h
    · rename_i cs n hH hn
      split at h
      · rename_i hc
        obtain ⟨hk, hlen, hone, hfit⟩ := hc
        injection h with h
        simp only [Prod.mk.injEq] at h
        obtain ⟨rfl, rfl⟩ := h
        simp only [RepV] at hx
        obtain ⟨b, hM, rfl⟩ := hx
        obtain ⟨vs, el, h1, h2, _⟩ := box_cells R hH hM
        have hcv := cellsAV_ok hv hk
        have hsz : vv.cells.size = n := by
          have := hcv.length
          rw [Array.length_toList] at this
          omega
        have hst := run_storeCells_at P b off el vv.cells.toList 0 (List.toArray vs) w h1 (by
          have := h2.length
          simp [hsz]; omega) (ones_ok hcv hone)
        simp only [Nat.add_zero] at hst
        refine ⟨rfl, w.setRow b (List.take off vs ++ vv.cells.toList ++ List.drop (off + vv.cells.toList.length) vs).toArray, ?_, ?_⟩
        · simp only [Instr.storeAt, Instr.sureAddr, storeVar, Sem.run_bind, Sem.run_pure, Result.andThen_ok, run_size hn, hsz, ne_eq, not_true_eq_false, if_false]
          exact hst
        · exact R.write_box (cs := putAt cs off (cellsAV v)) hH hM (setRow_heap w b _ _ el _ h1)
            (by simpa using putAt_ok h2 hcv off) (fun k hk => setRow_other w b k _ hk) (by simp [World.setRow]) rfl rfl rfl
      · cases h
    · cases h
  · cases h

theorem aalloc_ok (R : Rel g H w) {t : TypeId} {z : AV} (hz : zeroAV P t = some z) (hk : z.known = true) {fid : Nat} (hl : fid < H.length) (hf : H.at fid = none) :
    ∃ g' v w', (Instr.alloc t true (.tuple #[])).run P w = .ok v w' ∧ Rel g' (H.set fid (some (.box (cellsAV z)))) w' ∧ Post g H w g' (H.set fid (some (.box (cellsAV z)))) w' ∧ RepV g' (.ptr fid 0) v := by
  obtain ⟨i, zv, hi, hzz, hr⟩ := zeroAV_ok hz
  obtain ⟨g', h1, h2, h3⟩ := R.alloc_box zv.cells.toList (cellsAV z) t fid hl hf (cellsAV_ok (hr g) hk)
  refine ⟨g', .pointer (some ⟨w.heap.size, 0, none⟩), w.alloc (.cells (List.toArray zv.cells.toList) t), ?_, h1, h2, ?_⟩
  · simp [Instr.alloc, zeroValue, run_info hi, hzz, newVar, newRow]
  · simp only [RepV]
    exact ⟨_, h3, rfl⟩

theorem abox_ok (R : Rel g H w) {t : TypeId} {x : AV} {xv : Value} (hx : RepV g x xv) (hk : x.known = true) {fid : Nat} (hl : fid < H.length) (hf : H.at fid = none) :
    ∃ g' v w', (Instr.box t xv).run P w = .ok v w' ∧ Rel g' (H.set fid (some (.box (cellsAV x)))) w' ∧ Post g H w g' (H.set fid (some (.box (cellsAV x)))) w' ∧ RepV g' (.ptr fid 0) v := by
  obtain ⟨g', h1, h2, h3⟩ := R.alloc_box xv.cells.toList (cellsAV x) t fid hl hf (cellsAV_ok hx hk)
  refine ⟨g', .pointer (some ⟨w.heap.size, 0, none⟩), w.alloc (.cells (List.toArray xv.cells.toList) t), ?_, h1, h2, ?_⟩
  · simp [Instr.box, newVar, newRow]
  · simp only [RepV]
    exact ⟨_, h3, rfl⟩

theorem aboxImm_ok (R : Rel g H w) {t : TypeId} {x : AV} {xv : Value} (hx : RepV g x xv) (hk : x.known = true) :
    ∃ g' v w', (Instr.box t xv).run P w = .ok v w' ∧ Rel g' H w' ∧ Post g H w g' H w' ∧ RepV g' (.vptr (cellsAV x) 0) v := by
  obtain ⟨h1, h2, h3⟩ := R.alloc_row xv.cells t (0, 0) xv.cells.toList (fun i v h => by simpa using h)
  refine ⟨_, .pointer (some ⟨w.heap.size, 0, none⟩), _, ?_, h1, h2, ?_⟩
  · simp [Instr.box, newVar, newRow]
  · simp only [RepV]
    exact ⟨w.heap.size, 0, _, rfl, RepL.mono h2.le _ _ (cellsAV_ok hx hk), h3⟩

end Go.Proofs.Fw
