/- The reference's reader of expressions: fail, sign, took. -/
import Derived.Test.YtpmonaempgjgbaaGreatDoorExI
import Derived.Test.YtpmonaempgjgbaaGreatDoorTrD
set_option linter.unusedSimpArgs false
set_option linter.unusedVariables false
namespace Go.Proofs.YtpmonaempgjgbaaGreatDoor
open Go.RowKit Go.Proofs.Fw
set_option maxRecDepth 100000
set_option maxHeartbeats 4000000
-- 

@[simp] theorem immXRR : envX.imm 128 = false := by decide
@[simp] theorem immXRE : envX.imm 55 = true := by decide
@[simp high] theorem alenXR (l : List Wd) : alen Tryz.prog 38 (wdsAV l) = some (.int .i64 l.length) := by
  unfold wdsAV
  split
  · rename_i h; subst h; simp [alen]
  · simp [alen]
@[simp high] theorem aidxXR {l : List Wd} {i : Nat} (h : i < l.length) : aindexAddr Tryz.prog 38 (wdsAV l) (.int .i64 (i : Int)) = some (.vptr (wdsCells l) (i * 4)) := by
  have hne : l ≠ [] := by rintro rfl; simp at h
  have : (i : Int) < l.length := by omega
  simp [wdsAV, hne, aindexAddr, h]

/-- No error bears the number 0. -/
def errOk (x : Option (Nat × Nat)) : Prop := ∀ p, x ≠ some (p, 0)
theorem errOk_none : errOk none := fun _ h => by cases h
def pAV : Option (Nat × Nat) → AV
  | none => .nilSlice
  | some (p, _) => .slice .full 2 1 [.str exprTxt, .int .i64 (p : Int)]
def cI : Option (Nat × Nat) → Int
  | none => 0
  | some (_, c) => (c : Int)
theorem cI_zero {x : Option (Nat × Nat)} (h : errOk x) : (cI x = 0) ↔ x = none := by
  cases x with
  | none => simp [cI]
  | some y =>
    obtain ⟨p, c⟩ := y
    have : c ≠ 0 := fun hc => h p (by rw [hc])
    simp [cI]
    omega
@[simp ↓ high] theorem pAV_low (m : Nat) (x : Option (Nat × Nat)) : low m (pAV x) = true := by
  cases x with
  | none => rfl
  | some x => rfl
@[simp ↓ high] theorem pAV_ids (x : Option (Nat × Nat)) : idsOf (pAV x) = [] := by cases x <;> rfl
@[simp ↓ high] theorem pAV_known (x : Option (Nat × Nat)) : (pAV x).known = true := by cases x <;> rfl
@[simp ↓ high] theorem pAV_one (x : Option (Nat × Nat)) : (pAV x).one = true := by cases x <;> rfl
@[simp ↓ high] theorem pAV_cells (x : Option (Nat × Nat)) : cellsAV (pAV x) = [pAV x] := by cases x <;> rfl
theorem pc_inj {x y : Option (Nat × Nat)} (h1 : pAV x = pAV y) (h2 : cI x = cI y) : x = y := by
  cases x with
  | none => cases y with
    | none => rfl
    | some y => simp [pAV] at h1
  | some x => cases y with
    | none => simp [pAV] at h1
    | some y =>
      obtain ⟨p, c⟩ := x
      obtain ⟨q, d⟩ := y
      simp [pAV] at h1
      simp [cI] at h2
      have e1 : p = q := by omega
      have e2 : c = d := by omega
      rw [e1, e2]
/-- The reference's reader, as it lies. -/
def rrC (ts : List Wd) (a : Int) (x : Option (Nat × Nat)) : List AV := [wdsAV ts, .int .i64 a, pAV x, .int .i64 (cI x)]
@[simp] theorem rrC_eq (ts : List Wd) (a : Int) (x : Option (Nat × Nat)) : rrC ts a x = [wdsAV ts, .int .i64 a, pAV x, .int .i64 (cI x)] := nrfl rfl
theorem rrC_low (ts : List Wd) (a : Int) (x : Option (Nat × Nat)) : lowL 0 (rrC ts a x) = true := by simp
theorem rrC_inj {ts : List Wd} {a b : Nat} {x y : Option (Nat × Nat)} (h : rrC ts (a : Int) x = rrC ts (b : Int) y) : a = b ∧ x = y := by
  simp only [rrC_eq, List.cons.injEq, AV.int.injEq, true_and, and_true] at h
  exact ⟨by omega, pc_inj h.2.1 h.2.2⟩

noncomputable def oRatX : Orc := oRat
theorem oRatX_cx : Cx oRat Tryz.prog envX := ⟨Sound.toX (Sound.toN oRat_sound), methXOk, mixed⟩
theorem oRat_at (w : List UInt8) (p e : Int) (H : AH) : oRat 31 [.str w, .int .i64 p, .int .i64 e] H = some (.agg [.slice .full 2 1 [.str w, .int .i64 p], .int .i64 e], H) := by simp [oRat, oPure]

theorem yfail_cs (ts : List Wd) (a : Nat) (x : Option (Nat × Nat)) (hx : errOk x) (p e : Nat) {H : AH} {id : Nat} (hH : H.at id = some (.box (rrC ts a x))) :
    CS Tryz.prog envX 60 [.ptr id 0, .int .i64 (p : Int), .int .i64 (e : Int)] H (.tup []) (H.set id (some (.box (rrC ts a (some (x.getD (p, e))))))) := by
  refine CS.rd lowX Tryz.func60 (by kernel_rfl) 0 (by simp [Tryz.f60]) (fun B hB hG => ?_) (by simp) rfl (rrC_low _ _ _) (rrC_low _ _ _) hH
  refine Tr.goD oRatX_cx hG (by kernel_rfl) ?_
  cases x with
  | none => simp [Tryz.f60, cI, pAV, oRat_at, exprTxt]
  | some y =>
    have h0 : ¬ cI (some y) = 0 := fun h => by have := (cI_zero hx).1 h; cases this
    simp [Tryz.f60, h0]

theorem ysign_cs (ts : List Wd) (a : Nat) (x : Option (Nat × Nat)) (hx : errOk x) (s : List UInt8) {H : AH} {id : Nat} (hH : H.at id = some (.box (rrC ts a x))) :
    CS Tryz.prog envX 121 [.ptr id 0, .str s] H (.bool (nextB ts ⟨a, 0, x⟩ s)) (H.set id (some (.box (rrC ts a x)))) := by
  refine CS.rd lowX Tryz.func121 (by kernel_rfl) 0 (by simp [Tryz.f121]) (fun B hB hG => ?_) (by simp) rfl (rrC_low _ _ _) (rrC_low _ _ _) hH
  refine Tr.goD oNilX hG (by kernel_rfl) ?_
  simp [Tryz.f121]
  refine LpD.turns oNilX hG [] [] (by kernel_rfl) ?_
  cases x with
  | some y =>
    have h0 : (cI (some y) == 0) = false := by rw [beq_eq_false_iff_ne]; intro h; have := (cI_zero hx).1 h; cases this
    simp [nextB, h0]
  | none =>
    by_cases hl : a < ts.length
    · have hl' : (a : Int) < ts.length := by omega
      obtain ⟨w, hw⟩ : ∃ w, ts[a]? = some w := ⟨_, List.getElem?_eq_getElem hl⟩
      obtain ⟨c0, c1, c3⟩ := cellX hw
      have hn : isS ts a s = (w.kind == 3 && w.text == s) := by simp only [isS, hw]
      by_cases hk : w.kind = 3
      · simp [nextB, hn, cI, hl, hl', hk, c0, c1]
      · have hk' : ((w.kind : Int) == 3) = false := by rw [beq_eq_false_iff_ne]; omega
        simp [nextB, hn, cI, hl, hl', hk, hk', c0, c1]
    · have hl' : ¬ ((a : Int) < ts.length) := by omega
      have hw : ts[a]? = none := List.getElem?_eq_none (by omega)
      have hn : isS ts a s = false := by simp only [isS, hw]
      simp [nextB, hn, cI, hl', hw]
end Go.Proofs.YtpmonaempgjgbaaGreatDoor
