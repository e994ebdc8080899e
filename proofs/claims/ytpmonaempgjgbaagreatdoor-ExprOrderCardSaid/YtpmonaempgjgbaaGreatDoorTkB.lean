/- tok.sign; whether a text is a key. -/
import Derived.Test.YtpmonaempgjgbaaGreatDoorTkA
set_option linter.unusedSimpArgs false
set_option linter.unusedVariables false
namespace Go.Proofs.YtpmonaempgjgbaaGreatDoor
open Go.RowKit Go.Proofs.Fw
set_option maxRecDepth 100000
set_option maxHeartbeats 4000000

/-- How long a sign is that a text begins with. -/
def signLen : List UInt8 → Nat
  | [] => 0
  | c :: r => if c.toNat = 60 ∨ c.toNat = 62 ∨ c.toNat = 61 ∨ c.toNat = 47 then (match r with
      | d :: _ => if d.toNat = 61 then 2 else 1
      | [] => 1)
    else if c.toNat = 43 ∨ c.toNat = 45 ∨ c.toNat = 42 ∨ c.toNat = 40 ∨ c.toNat = 41 ∨ c.toNat = 44 then 1 else 0

theorem sz9 : szOf Tryz.prog 9 = some 1 := by kernel_rfl
theorem ag9 : aggB Tryz.prog 9 = some false := by kernel_rfl

theorem index_none (O : Orc) (s : List UInt8) (H : AH) (h0 : (s == [105,110,116,101,103,101,114]) = false) (h1 : (s == [100,111]) = false) (h2 : (s == [101,110,100]) = false) (h3 : (s == [105,102]) = false)
    (h4 : (s == [116,104,101,110]) = false) (h5 : (s == [101,108,115,101]) = false) (h6 : (s == [114,101,97,100]) = false) (h7 : (s == [112,114,105,110,116]) = false) :
    evFunc O Tryz.prog envT 9 83 [keysAV, .str s] H = some (.int .i64 (-1), H) := by
  simp [Tryz.func83, Tryz.f83, evFunc, evCode, evRegion, withIds, needsId, idCount, grow, evOps, wantedA, stepO, callee, aop, putT, aeval, ofValC, ofVal, ofVals, applyUps, evResults, oneOrTup, alen, abin, abinInt, abinStr, aun, aindex, aslice, optInt, aextract, anilCheck, aconvert, aindexAddr, afieldAddr, afield, aload, ldAt, isConstO, aeq, iter, keysAV, keysL, sz9, ag9, h0, h1, h2, h3, h4, h5, h6, h7, IntKind.wrap, IntKind.bits, IntKind.signed]

theorem key_none (s : List UInt8) (h : keysL.contains s = false) : run fzT base1 Tryz.prog envT 9 3 80 [.str s] [] = some (.bool false, []) := by
  simp only [keysL, List.contains_cons, List.contains_nil, Bool.or_false, Bool.or_eq_false_iff] at h
  obtain ⟨h0, h1, h2, h3, h4, h5, h6, h7⟩ := h
  have b43 : base1 83 [keysAV, .str s] [] = none := rfl
  have b28 : base1 42 [keysAV, .str s] [] = none := rfl
  have b14 : base1 80 [.str s] [] = none := rfl
  have b29 : base1 115 [.str keyTxt] [] = some (keysAV, []) := by kernel_rfl
  have g43 : goFn Tryz.prog 83 = true := goFn_all _ (by simp)
  have g28 : goFn Tryz.prog 42 = true := goFn_all _ (by simp)
  have g29 : goFn Tryz.prog 115 = true := goFn_all _ (by simp)
  have e43 : run fzT base1 Tryz.prog envT 9 1 83 [keysAV, .str s] [] = some (.int .i64 (-1), []) := by
    have := index_none base1 s [] h0 h1 h2 h3 h4 h5 h6 h7
    simp [run, b43, this, tidy, fzT, frz, strip, low, lowH]
  have e28 : run fzT base1 Tryz.prog envT 9 2 42 [keysAV, .str s] [] = some (.bool false, []) := by
    have : evFunc (run fzT base1 Tryz.prog envT 9 1) Tryz.prog envT 9 42 [keysAV, .str s] [] = some (.bool false, []) := by
      simp [Tryz.func42, Tryz.f42, evFunc, evCode, evRegion, withIds, needsId, idCount, grow, evOps, wantedA, stepO, callee, aop, putT, aeval, ofValC, ofVal, ofVals, applyUps, evResults, oneOrTup, alen, abin, abinInt, abinStr, aun, aindex, aslice, optInt, aextract, anilCheck, aconvert, aindexAddr, afieldAddr, afield, aload, ldAt, isConstO, aeq, e43, g43]
    rw [run]
    simp [b28, this, tidy, fzT, frz, strip, low, lowH]
  have e29 : run fzT base1 Tryz.prog envT 9 2 115 [.str keyTxt] [] = some (keysAV, []) := by
    rw [run]
    simp [b29]
  have : evFunc (run fzT base1 Tryz.prog envT 9 2) Tryz.prog envT 9 80 [.str s] [] = some (.bool false, []) := by
    unfold keyTxt at e29
    simp [Tryz.func80, Tryz.f80, evFunc, evCode, evRegion, withIds, needsId, idCount, grow, evOps, wantedA, stepO, callee, aop, putT, aeval, ofValC, ofVal, ofVals, applyUps, evResults, oneOrTup, alen, abin, abinInt, abinStr, aun, aindex, aslice, optInt, aextract, anilCheck, aconvert, aindexAddr, afieldAddr, afield, aload, ldAt, isConstO, aeq, e28, e29, g28, g29]
  rw [run]
  simp [b14, this, tidy, fzT, frz, strip, low, lowH]
theorem key_0 : run fzT base1 Tryz.prog envT 9 3 80 [.str [105,110,116,101,103,101,114]] [] = some (.bool true, []) := by kernel_rfl
theorem key_1 : run fzT base1 Tryz.prog envT 9 3 80 [.str [100,111]] [] = some (.bool true, []) := by kernel_rfl
theorem key_2 : run fzT base1 Tryz.prog envT 9 3 80 [.str [101,110,100]] [] = some (.bool true, []) := by kernel_rfl
theorem key_3 : run fzT base1 Tryz.prog envT 9 3 80 [.str [105,102]] [] = some (.bool true, []) := by kernel_rfl
theorem key_4 : run fzT base1 Tryz.prog envT 9 3 80 [.str [116,104,101,110]] [] = some (.bool true, []) := by kernel_rfl
theorem key_5 : run fzT base1 Tryz.prog envT 9 3 80 [.str [101,108,115,101]] [] = some (.bool true, []) := by kernel_rfl
theorem key_6 : run fzT base1 Tryz.prog envT 9 3 80 [.str [114,101,97,100]] [] = some (.bool true, []) := by kernel_rfl
theorem key_7 : run fzT base1 Tryz.prog envT 9 3 80 [.str [112,114,105,110,116]] [] = some (.bool true, []) := by kernel_rfl
/-- Whether a text is a key. -/
def isKey (s : List UInt8) : Bool := keysL.contains s
theorem key_run' (s : List UInt8) : run fzT base1 Tryz.prog envT 9 3 80 [.str s] [] = some (.bool (isKey s), []) := by
  cases h : isKey s with
  | false => exact key_none s h
  | true =>
    unfold isKey at h
    simp only [keysL, List.contains_cons, List.contains_nil, Bool.or_false, Bool.or_eq_true, beq_iff_eq] at h
    rcases h with rfl | rfl | rfl | rfl | rfl | rfl | rfl | rfl
    · exact key_0
    · exact key_1
    · exact key_2
    · exact key_3
    · exact key_4
    · exact key_5
    · exact key_6
    · exact key_7

def oKeyF : Orc := callS 80 fun s => some (.bool (isKey s))
theorem oKeyF_sound : Sound Tryz.prog envT oKeyF := Sound.callS lowT fun s v h => by
  injection h with h
  subst h
  exact (run_sound base1_sound methT mixed 9 3 _ _ _ _ _ (key_run' s)).1

theorem sign_ev (O : Orc) (c : UInt8) (r : List UInt8) (H : AH) : evFunc O Tryz.prog envT 1 118 [.str (c :: r)] H = some (.int .i64 (signLen (c :: r)), H) := by
  by_cases h : c.toNat = 60 ∨ c.toNat = 62 ∨ c.toNat = 61 ∨ c.toNat = 47 ∨ c.toNat = 43 ∨ c.toNat = 45 ∨ c.toNat = 42 ∨ c.toNat = 40 ∨ c.toNat = 41 ∨ c.toNat = 44
  · cases r with
    | nil =>
      rcases h with h | h | h | h | h | h | h | h | h | h <;>
        simp [Tryz.func118, Tryz.f118, evFunc, evCode, evRegion, withIds, needsId, idCount, grow, evOps, wantedA, stepO, callee, aop, putT, aeval, ofValC, ofVal, ofVals, applyUps, evResults, oneOrTup, alen, abin, abinInt, abinStr, aun, aindex, aslice, optInt, aextract, anilCheck, aconvert, aindexAddr, afieldAddr, afield, aload, ldAt, isConstO, aeq, signLen, h]
    | cons d r =>
      have hl : (1 : Int) < (r.length : Int) + 1 + 1 := by omega
      by_cases hd : d.toNat = 61
      · rcases h with h | h | h | h | h | h | h | h | h | h <;>
          simp [Tryz.func118, Tryz.f118, evFunc, evCode, evRegion, withIds, needsId, idCount, grow, evOps, wantedA, stepO, callee, aop, putT, aeval, ofValC, ofVal, ofVals, applyUps, evResults, oneOrTup, alen, abin, abinInt, abinStr, aun, aindex, aslice, optInt, aextract, anilCheck, aconvert, aindexAddr, afieldAddr, afield, aload, ldAt, isConstO, aeq, signLen, h, hd, hl]
      · have hd' : ((d.toNat : Int) == 61) = false := by simp only [beq_eq_false_iff_ne]; omega
        rcases h with h | h | h | h | h | h | h | h | h | h <;>
          simp [Tryz.func118, Tryz.f118, evFunc, evCode, evRegion, withIds, needsId, idCount, grow, evOps, wantedA, stepO, callee, aop, putT, aeval, ofValC, ofVal, ofVals, applyUps, evResults, oneOrTup, alen, abin, abinInt, abinStr, aun, aindex, aslice, optInt, aextract, anilCheck, aconvert, aindexAddr, afieldAddr, afield, aload, ldAt, isConstO, aeq, signLen, h, hd, hd', hl]
  · simp only [not_or] at h
    obtain ⟨a0, a1, a2, a3, a4, a5, a6, a7, a8, a9⟩ := h
    have b0 : ((c.toNat : Int) == 60) = false := by simp only [beq_eq_false_iff_ne]; omega
    have b1 : ((c.toNat : Int) == 62) = false := by simp only [beq_eq_false_iff_ne]; omega
    have b2 : ((c.toNat : Int) == 61) = false := by simp only [beq_eq_false_iff_ne]; omega
    have b3 : ((c.toNat : Int) == 47) = false := by simp only [beq_eq_false_iff_ne]; omega
    have b4 : ((c.toNat : Int) == 43) = false := by simp only [beq_eq_false_iff_ne]; omega
    have b5 : ((c.toNat : Int) == 45) = false := by simp only [beq_eq_false_iff_ne]; omega
    have b6 : ((c.toNat : Int) == 42) = false := by simp only [beq_eq_false_iff_ne]; omega
    have b7 : ((c.toNat : Int) == 40) = false := by simp only [beq_eq_false_iff_ne]; omega
    have b8 : ((c.toNat : Int) == 41) = false := by simp only [beq_eq_false_iff_ne]; omega
    have b9 : ((c.toNat : Int) == 44) = false := by simp only [beq_eq_false_iff_ne]; omega
    cases r with
    | nil => simp [Tryz.func118, Tryz.f118, evFunc, evCode, evRegion, withIds, needsId, idCount, grow, evOps, wantedA, stepO, callee, aop, putT, aeval, ofValC, ofVal, ofVals, applyUps, evResults, oneOrTup, alen, abin, abinInt, abinStr, aun, aindex, aslice, optInt, aextract, anilCheck, aconvert, aindexAddr, afieldAddr, afield, aload, ldAt, isConstO, aeq, signLen, a0, a1, a2, a3, a4, a5, a6, a7, a8, a9, b0, b1, b2, b3, b4, b5, b6, b7, b8, b9]
    | cons d r =>
      have hl : (1 : Int) < (r.length : Int) + 1 + 1 := by omega
      simp [Tryz.func118, Tryz.f118, evFunc, evCode, evRegion, withIds, needsId, idCount, grow, evOps, wantedA, stepO, callee, aop, putT, aeval, ofValC, ofVal, ofVals, applyUps, evResults, oneOrTup, alen, abin, abinInt, abinStr, aun, aindex, aslice, optInt, aextract, anilCheck, aconvert, aindexAddr, afieldAddr, afield, aload, ldAt, isConstO, aeq, signLen, a0, a1, a2, a3, a4, a5, a6, a7, a8, a9, b0, b1, b2, b3, b4, b5, b6, b7, b8, b9, hl]
end Go.Proofs.YtpmonaempgjgbaaGreatDoor
