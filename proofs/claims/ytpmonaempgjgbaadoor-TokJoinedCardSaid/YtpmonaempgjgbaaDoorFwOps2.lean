/- What an operation is told to do, it does: struct and slice literals, numbers, texts. -/
import Derived.Test.YtpmonaempgjgbaaDoorFwOps1
namespace Go.Proofs.Fw
open Go.RowKit
variable {P : Program} {g : Gh} {H : AH} {w : World}

theorem foldl_set (off : Nat) : ∀ (ws : List Value) (k : Nat) (cs : Array Value), off + k + ws.length ≤ cs.size →
    (ws.zipIdx k).foldl (fun cs (x : Value × Nat) => cs.setIfInBounds (off + x.2) x.1) cs = (cs.toList.take (off + k) ++ ws ++ cs.toList.drop (off + k + ws.length)).toArray
  | [], k, cs, h => by simp
  | v :: ws, k, cs, h => by
    simp only [List.zipIdx_cons, List.foldl_cons]
    rw [foldl_set off ws (k + 1) _ (by simp at h ⊢; omega)]
    apply Array.ext'
    simp only [Array.toList_setIfInBounds]
    apply List.ext_getElem?
    intro i
    simp only [List.length_cons] at h
    have hsz : cs.toList.length = cs.size := by simp
    have hlt : (List.take (off + k) cs.toList).length = off + k := by rw [List.length_take, hsz]; omega
    have hlt' : (List.take (off + (k + 1)) (cs.toList.set (off + k) v)).length = off + (k + 1) := by rw [List.length_take, List.length_set, hsz]; omega
    rcases Nat.lt_or_ge i (off + k) with hi | hi
    · rw [List.append_assoc, List.append_assoc, List.getElem?_append_left (by omega), List.getElem?_append_left (by omega), List.getElem?_take, List.getElem?_take, if_pos (by omega), if_pos hi, List.getElem?_set_ne (by omega)]
    · rcases Nat.eq_or_lt_of_le hi with hi | hi
      · subst hi
        rw [List.append_assoc, List.append_assoc, List.getElem?_append_left (by omega), List.getElem?_append_right (by omega), hlt, List.getElem?_take, if_pos (by omega), List.getElem?_set_self (by omega)]
        simp
      · rw [List.append_assoc, List.append_assoc, List.getElem?_append_right (l₁ := List.take (off + (k + 1)) _) (by omega), List.getElem?_append_right (l₁ := List.take (off + k) _) (by omega), hlt, hlt']
        rw [show i - (off + k) = (i - (off + (k + 1))) + 1 by omega]
        rw [List.cons_append, List.getElem?_cons_succ]
        rw [List.getElem?_append, List.getElem?_append]
        split
        · rfl
        · rw [List.getElem?_drop, List.getElem?_drop, List.getElem?_set_ne (by omega)]
          simp only [List.length_cons]
          congr 1
          omega

theorem fillAV_ok (place : Nat → Option (Nat × Nat)) : ∀ (parts : List (Nat × AV)) (pvs : List (Nat × Value)) (cells r : List AV) (cvs : List Value),
    fillAV place cells parts = some r → RepL g cells cvs → parts.map (·.1) = pvs.map (·.1) → RepL g (parts.map (·.2)) (pvs.map (·.2)) →
    ∃ rvs, Instr.fill place (List.toArray cvs) pvs = some (List.toArray rvs) ∧ RepL g r rvs
  | [], pvs, cells, r, cvs, h, hc, h1, _ => by
    simp only [fillAV] at h
    injection h with h
    subst h
    cases pvs with
    | nil => exact ⟨cvs, rfl, hc⟩
    | cons p ps => simp at h1
  | (i, v) :: rest, pvs, cells, r, cvs, h, hc, h1, h2 => by
    cases pvs with
    | nil => simp at h1
    | cons p ps =>
      obtain ⟨j, u⟩ := p
      simp only [List.map_cons, List.cons.injEq] at h1
      obtain ⟨rfl, h1⟩ := h1
      simp only [List.map_cons, RepL] at h2
      obtain ⟨u', ps', he, h2, h3⟩ := h2
      injection he with he1 he2
      subst he1
      subst he2
      simp only [fillAV] at h
      split at h
      · cases h
      · rename_i off size hp
        split at h
        · rename_i hcond
          obtain ⟨hk, hl, hfit⟩ := hcond
          have hcu := cellsAV_ok h2 hk
          have hcul : u.cells.toList.length = (cellsAV v).length := hcu.length
          have hcl := hc.length
          obtain ⟨rvs, hr1, hr2⟩ := fillAV_ok place rest ps (putAt cells off (cellsAV v)) r _ h (putAt_ok hc hcu off) h1 h3
          refine ⟨rvs, ?_, hr2⟩
          simp only [Instr.fill, hp]
          rw [if_neg]
          · have hf := foldl_set off u.cells.toList 0 (List.toArray cvs) (by simp at hcul ⊢; omega)
            simp only [Nat.add_zero] at hf
            rw [← hr1, ← Array.foldl_toList, Array.toList_zipIdx, hf]
          · simp at hcul ⊢
            omega
        · cases h

theorem fieldPlaces_ok : ∀ (fs : List Field) (l : List (Nat × Nat)), fieldPlaces P fs = some l →
    (fs.mapM fun f => do pure (f.offset, ← sizeOf f.type) : Sem (List (Nat × Nat))).run P w = .ok l w
  | [], l, h => by simp only [fieldPlaces] at h; injection h with h; subst h; simp
  | f :: fs, l, h => by
    simp only [fieldPlaces] at h
    split at h
    · rename_i n l' h1 h2
      injection h with h
      subst h
      have := fieldPlaces_ok fs l' h2
      simp only [List.mapM_cons, Sem.run_bind, run_size h1, Result.andThen_ok, Sem.run_pure, this]
    · cases h

theorem abuild_ok {t : TypeId} {parts : List (Nat × AV)} {pvs : List (Nat × Value)} {r : AV} (h : abuild P t parts = some r) (h1 : parts.map (·.1) = pvs.map (·.1)) (h2 : RepL g (parts.map (·.2)) (pvs.map (·.2)))
    (hz0 : ∀ z, zeroAV P t = some z → z.known = true) :
    ∃ rv, (Instr.build t (List.toArray pvs)).run P w = .ok rv w ∧ RepV g r rv := by
  unfold abuild at h
  split at h
  · rename_i z fields hz hu
    obtain ⟨i, zv, hi, hzz, hr⟩ := zeroAV_ok hz
    split at h
    · rename_i l hl
      cases hf : fillAV (fun (i : Nat) => l[i]?) (cellsAV z) parts with
      | none => rw [hf] at h; cases h
      | some rc =>
        rw [hf] at h
        simp only [Option.map_some] at h
        injection h with h
        subst h
        obtain ⟨rvs, hr1, hr2⟩ := fillAV_ok (g := g) _ parts pvs _ rc _ hf (cellsAV_ok (hr g) (hz0 z hz)) h1 h2
        have hm := fieldPlaces_ok (w := w) _ _ hl
        refine ⟨.agg (List.toArray rvs), ?_, by simp only [RepV]; exact ⟨rvs, rfl, hr2⟩⟩
        have hmA : (fields.mapM fun f => do pure (f.offset, ← sizeOf f.type) : Sem (Array (Nat × Nat))).run P w = .ok (List.toArray l) w := by
          rw [Array.mapM_eq_mapM_toList]
          simp only [Sem.run_map, hm, Result.andThen_ok]
        simp only [Instr.build, zeroValue, Sem.run_bind, run_info hi, Result.andThen_ok, hzz, Sem.run_pure, run_underlying hu, hmA]
        have : (fun (i : Nat) => (List.toArray l)[i]?) = fun (i : Nat) => l[i]? := by funext i; simp
        simp only [this]
        have hcells : (List.toArray zv.cells.toList) = zv.cells := by simp
        rw [hcells] at hr1
        rw [hr1]
        rfl
    · cases h
  · rename_i z n elem hz hu
    obtain ⟨i, zv, hi, hzz, hr⟩ := zeroAV_ok hz
    split at h
    · rename_i sz hsz
      cases hf : fillAV (fun i => some (i * sz, sz)) (cellsAV z) parts with
      | none => rw [hf] at h; cases h
      | some rc =>
        rw [hf] at h
        simp only [Option.map_some] at h
        injection h with h
        subst h
        obtain ⟨rvs, hr1, hr2⟩ := fillAV_ok (g := g) _ parts pvs _ rc _ hf (cellsAV_ok (hr g) (hz0 z hz)) h1 h2
        refine ⟨.agg (List.toArray rvs), ?_, by simp only [RepV]; exact ⟨rvs, rfl, hr2⟩⟩
        simp only [Instr.build, zeroValue, Sem.run_bind, run_info hi, Result.andThen_ok, hzz, Sem.run_pure, run_underlying hu, run_size hsz]
        have hcells : (List.toArray zv.cells.toList) = zv.cells := by simp
        rw [hcells] at hr1
        rw [hr1]
        rfl
    · cases h
  · cases h

theorem reps_ok {zs : List AV} {zvs : List Value} (h : RepL g zs zvs) (n : Nat) :
    RepL g (reps zs n) ((List.range (n * zvs.length)).map fun i => zvs[i % zvs.length]!) := by
  induction n with
  | zero => simp [reps, RepL]
  | succ n ih =>
    have he : (List.range ((n + 1) * zvs.length)).map (fun i => zvs[i % zvs.length]!) = zvs ++ (List.range (n * zvs.length)).map fun i => zvs[i % zvs.length]! := by
      apply List.ext_getElem?
      intro i
      rw [List.getElem?_append]
      simp only [List.getElem?_map]
      split
      · rename_i hi
        rw [List.getElem?_range (by rw [Nat.add_mul]; omega)]
        simp [Nat.mod_eq_of_lt hi, hi]
      · rename_i hi
        rcases Nat.lt_or_ge i ((n + 1) * zvs.length) with hlt | hge
        · rw [List.getElem?_range hlt, List.getElem?_range (by rw [Nat.add_mul] at hlt; omega)]
          simp only [Option.map_some]
          have : i % zvs.length = (i - zvs.length) % zvs.length := by
            rw [Nat.mod_eq_sub_mod (by omega)]
          rw [this]
        · rw [List.getElem?_eq_none (by simpa using hge), List.getElem?_eq_none (by simp; rw [Nat.add_mul] at hge; omega)]
    rw [he]
    exact h.append ih

theorem abuildSlice_ok (R : Rel g H w) {t : TypeId} {len : Nat} {parts : List (Nat × AV)} {pvs : List (Nat × Value)} {r : AV} (h : abuildSlice P t len parts = some r) (h1 : parts.map (·.1) = pvs.map (·.1))
    (h2 : RepL g (parts.map (·.2)) (pvs.map (·.2))) (hz0 : ∀ t z, zeroAV P t = some z → z.known = true) :
    ∃ g' rv w', (Instr.buildSlice t len (List.toArray pvs)).run P w = .ok rv w' ∧ Rel g' H w' ∧ Post g H w g' H w' ∧ RepV g' r rv := by
  unfold abuildSlice at h
  split at h
  · rename_i elem hu
    split at h
    · rename_i n z hn hz
      split at h
      · rename_i hcond
        obtain ⟨hzn, hnp, hlim⟩ := hcond
        obtain ⟨i, zv, hi, hzz, hr⟩ := zeroAV_ok hz
        have hcz := cellsAV_ok (hr g) (hz0 _ z hz)
        have hczl : zv.cells.toList.length = n := hcz.length.trans hzn
        cases hf : fillAV (fun i => some (i * n, n)) (reps (cellsAV z) len) parts with
        | none => rw [hf] at h; cases h
        | some rc =>
          rw [hf] at h
          simp only [Option.map_some] at h
          injection h with h
          subst h
          have hreps := reps_ok hcz len
          obtain ⟨rvs, hr1, hr2⟩ := fillAV_ok (g := g) _ parts pvs _ rc _ hf hreps h1 h2
          rw [hczl] at hr1
          have hrl : rvs.length = len * n := by
            have : ∀ (pl : Nat → Option (Nat × Nat)) (ps : List (Nat × AV)) (cs rs : List AV), fillAV pl cs ps = some rs → rs.length = cs.length := by
              intro pl ps
              induction ps with
              | nil => intro cs rs h; simp only [fillAV] at h; injection h with h; rw [h]
              | cons p ps ih =>
                intro cs rs h
                obtain ⟨i, v⟩ := p
                simp only [fillAV] at h
                split at h
                · cases h
                · split at h
                  · rename_i hc
                    rw [ih _ _ h]
                    simp [putAt]
                    omega
                  · cases h
            have h3 := this _ _ _ _ hf
            have h4 := hreps.length
            have h5 := hr2.length
            simp [hczl] at h4
            omega
          obtain ⟨hR, hP, hH⟩ := R.alloc_row (List.toArray rvs) elem (0, 0) rvs (fun i v h => by simpa using h)
          refine ⟨_, .slice (some ⟨w.heap.size, 0, none⟩) len len, _, ?_, hR, hP, ?_⟩
          · have hsz : zv.cells.size = n := by simpa using hczl
            have hloop : (Array.range (len * n)).map (fun x => zv.cells[x % zv.cells.size]!) = List.toArray ((List.range (len * n)).map fun x => zv.cells.toList[x % n]!) := by
              apply Array.ext'
              simp [hsz]
              intro a _
              rw [getElem!_def]
              cases zv.cells[a % n]? <;> rfl
            simp only [Instr.buildSlice, Sem.run_bind, run_underlying hu, Result.andThen_ok, run_size hn]
            rw [if_neg (by omega)]
            by_cases hl0 : len * n = 0
            · rw [if_pos hl0]
              simp only [Sem.run_bind, Sem.run_pure, Result.andThen_ok]
              rw [hl0] at hr1 ⊢
              simp only [List.range_zero, List.map_nil] at hr1
              have hz0' : ∀ f : Nat → Value, (Array.range 0).map f = List.toArray [] := fun f => by apply Array.ext'; simp
              rw [hz0', hr1]
              simp [newRow]
            · rw [if_neg hl0]
              simp only [Sem.run_bind, zeroValue, run_info hi, Result.andThen_ok, hzz, Sem.run_pure]
              rw [hloop, hr1]
              simp [newRow]
          · simp only [RepV]
            exact ⟨w.heap.size, 0, len, rvs, rfl, RepL.mono hP.le _ _ hr2, hH, by rw [← hr2.length]; exact hrl, Nat.le_refl _, rfl⟩
      · cases h
    · cases h
  · cases h

end Go.Proofs.Fw
