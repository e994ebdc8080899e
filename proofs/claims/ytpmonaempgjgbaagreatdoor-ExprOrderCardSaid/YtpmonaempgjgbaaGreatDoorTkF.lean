/- tok.word. -/
import Derived.Test.YtpmonaempgjgbaaGreatDoorTkE
set_option linter.unusedSimpArgs false
set_option linter.unusedVariables false
namespace Go.Proofs.YtpmonaempgjgbaaGreatDoor
open Go.RowKit Go.Proofs.Fw
set_option maxRecDepth 100000
set_option maxHeartbeats 4000000

def tokAV (k : Int) (s : List UInt8) (a n : Int) : AV := .agg [.int .i64 k, .str s, .int .i64 a, .int .i64 n]
theorem z40 : zeroAV Tryz.prog 121 = some (.agg [.int .i64 0, .str [], .int .i64 0, .int .i64 0]) := by kernel_rfl
theorem build40 (k : IntKind) (m : Int) (s : List UInt8) : abuild Tryz.prog 121 [(0, .int k m), (1, .str s)] = some (.agg [.int k m, .str s, .int .i64 0, .int .i64 0]) := by kernel_rfl
theorem build40n : abuild Tryz.prog 121 [] = some (.agg [.int .i64 0, .str [], .int .i64 0, .int .i64 0]) := by kernel_rfl
theorem sz40 : szOf Tryz.prog 121 = some 4 := by kernel_rfl
theorem ag40 : aggB Tryz.prog 121 = some true := by kernel_rfl
theorem sz3 : szOf Tryz.prog 3 = some 1 := by kernel_rfl
theorem ag3 : aggB Tryz.prog 3 = some false := by kernel_rfl
theorem sz2 : szOf Tryz.prog 2 = some 1 := by kernel_rfl
theorem ag2 : aggB Tryz.prog 2 = some false := by kernel_rfl
theorem fa40_0 (id : Nat) : afieldAddr Tryz.prog 121 (.ptr id 0) 0 = some (.ptr id 0) := by kernel_rfl
theorem fa40_1 (id : Nat) : afieldAddr Tryz.prog 121 (.ptr id 0) 1 = some (.ptr id 1) := by kernel_rfl
theorem fa40_2 (id : Nat) : afieldAddr Tryz.prog 121 (.ptr id 0) 2 = some (.ptr id 2) := by kernel_rfl
theorem fa40_3 (id : Nat) : afieldAddr Tryz.prog 121 (.ptr id 0) 3 = some (.ptr id 3) := by kernel_rfl

theorem word_name (O : Orc) (c : UInt8) (r : List UInt8) (key : Bool) (N : Nat) (h25 : ∀ H, O 77 [.int .u8 (c.toNat : Int)] H = some (.bool true, H))
    (h30 : ∀ H, O 78 [.str (c :: r), .func (.func 79) [] []] H = some (.int .i64 (frontLen isInner (c :: r)), H)) (h14 : ∀ H, O 80 [.str ((c :: r).take (frontLen isInner (c :: r)))] H = some (.bool key, H))
    (hlen : (frontLen isInner (c :: r) : Int) ≤ (r.length : Int) + 1) (hmin : min (frontLen isInner (c :: r)) (r.length + 1) = frontLen isInner (c :: r)) :
    ∃ H', evFunc O Tryz.prog envT N 87 [.str (c :: r)] [] = some (.tup [tokAV (if key then 4 else 1) ((c :: r).take (frontLen isInner (c :: r))) 0 0, .int .i64 (if frontLen isInner (c :: r) > 31 then 4 else 0)], H') := by
  generalize frontLen isInner (c :: r) = m at h30 h14 hlen hmin
  have g30 : goFn Tryz.prog 78 = true := goFn_all _ (by simp)
  have g14 : goFn Tryz.prog 80 = true := goFn_all _ (by simp)
  cases key
  · by_cases hm : m > 31
    · have hm' : (31 : Int) < (m : Int) := by omega
      simp [Tryz.func87, Tryz.f87, evFunc, evCode, evRegion, withIds, needsId, idCount, grow, evOps, wantedA, stepO, callee, aop, putT, aeval, ofValC, ofVal, ofVals, applyUps, evResults, oneOrTup, alen, abin, abinInt, abinStr, aun, aindex, aslice, optInt, aextract, anilCheck, aconvert, aindexAddr, afieldAddr, afield, aload, ldAt, isConstO, aeq, z40, build40, build40n, sz40, ag40, sz3, ag3, sz9, ag9, sz2, ag2, fa40_0, fa40_1, fa40_2, fa40_3, cellsAV, astore, putAt, AV.known, AV.one, AH.at, h25, h30, h14, go25, g30, g14, hm, hm', hlen, hmin, tokAV]
    · have hm' : ¬ (31 : Int) < (m : Int) := by omega
      simp [Tryz.func87, Tryz.f87, evFunc, evCode, evRegion, withIds, needsId, idCount, grow, evOps, wantedA, stepO, callee, aop, putT, aeval, ofValC, ofVal, ofVals, applyUps, evResults, oneOrTup, alen, abin, abinInt, abinStr, aun, aindex, aslice, optInt, aextract, anilCheck, aconvert, aindexAddr, afieldAddr, afield, aload, ldAt, isConstO, aeq, z40, build40, build40n, sz40, ag40, sz3, ag3, sz9, ag9, sz2, ag2, fa40_0, fa40_1, fa40_2, fa40_3, cellsAV, astore, putAt, AV.known, AV.one, AH.at, h25, h30, h14, go25, g30, g14, hm, hm', hlen, hmin, tokAV]
  · by_cases hm : m > 31
    · have hm' : (31 : Int) < (m : Int) := by omega
      simp [Tryz.func87, Tryz.f87, evFunc, evCode, evRegion, withIds, needsId, idCount, grow, evOps, wantedA, stepO, callee, aop, putT, aeval, ofValC, ofVal, ofVals, applyUps, evResults, oneOrTup, alen, abin, abinInt, abinStr, aun, aindex, aslice, optInt, aextract, anilCheck, aconvert, aindexAddr, afieldAddr, afield, aload, ldAt, isConstO, aeq, z40, build40, build40n, sz40, ag40, sz3, ag3, sz9, ag9, sz2, ag2, fa40_0, fa40_1, fa40_2, fa40_3, cellsAV, astore, putAt, AV.known, AV.one, AH.at, h25, h30, h14, go25, g30, g14, hm, hm', hlen, hmin, tokAV]
    · have hm' : ¬ (31 : Int) < (m : Int) := by omega
      simp [Tryz.func87, Tryz.f87, evFunc, evCode, evRegion, withIds, needsId, idCount, grow, evOps, wantedA, stepO, callee, aop, putT, aeval, ofValC, ofVal, ofVals, applyUps, evResults, oneOrTup, alen, abin, abinInt, abinStr, aun, aindex, aslice, optInt, aextract, anilCheck, aconvert, aindexAddr, afieldAddr, afield, aload, ldAt, isConstO, aeq, z40, build40, build40n, sz40, ag40, sz3, ag3, sz9, ag9, sz2, ag2, fa40_0, fa40_1, fa40_2, fa40_3, cellsAV, astore, putAt, AV.known, AV.one, AH.at, h25, h30, h14, go25, g30, g14, hm, hm', hlen, hmin, tokAV]

theorem word_number (O : Orc) (c : UInt8) (r : List UInt8) (n : Int) (e : AV) (ov : Bool) (he : if ov then ∃ t v, e = .iface t v else e = .nilIface) (N : Nat) (h25 : ∀ H, O 77 [.int .u8 (c.toNat : Int)] H = some (.bool false, H)) (h34 : ∀ H, O 114 [.int .u8 (c.toNat : Int)] H = some (.bool true, H))
    (h30 : ∀ H, O 78 [.str (c :: r), .func (.func 114) [] []] H = some (.int .i64 (frontLen isDigit (c :: r)), H)) (h35 : ∀ H, O 117 [.str ((c :: r).take (frontLen isDigit (c :: r))), .int .i64 10, .int .i64 64] H = some (.tup [.int .i64 n, e], H))
    (hlen : (frontLen isDigit (c :: r) : Int) ≤ (r.length : Int) + 1) (hmin : min (frontLen isDigit (c :: r)) (r.length + 1) = frontLen isDigit (c :: r)) :
    ∃ H', evFunc O Tryz.prog envT N 87 [.str (c :: r)] [] = some (.tup [tokAV 2 ((c :: r).take (frontLen isDigit (c :: r))) 0 (if ov then 0 else n), .int .i64 (if ov then 5 else 0)], H') := by
  generalize frontLen isDigit (c :: r) = m at h30 h35 hlen hmin
  have g30 : goFn Tryz.prog 78 = true := goFn_all _ (by simp)
  have g35 : goFn Tryz.prog 117 = true := goFn_all _ (by simp)
  cases ov
  · simp only [Bool.false_eq_true, if_false] at he
    subst he
    simp [Tryz.func87, Tryz.f87, evFunc, evCode, evRegion, withIds, needsId, idCount, grow, evOps, wantedA, stepO, callee, aop, putT, aeval, ofValC, ofVal, ofVals, applyUps, evResults, oneOrTup, alen, abin, abinInt, abinStr, aun, aindex, aslice, optInt, aextract, anilCheck, aconvert, aindexAddr, afieldAddr, afield, aload, ldAt, isConstO, aeq, z40, build40, build40n, sz40, ag40, sz3, ag3, sz9, ag9, sz2, ag2, fa40_0, fa40_1, fa40_2, fa40_3, cellsAV, astore, putAt, AV.known, AV.one, AH.at, h25, h34, h30, h35, go25, go34, g30, g35, hlen, hmin, Tryz.underlying50, tokAV]
  · simp only [if_true] at he
    obtain ⟨te, ve, rfl⟩ := he
    simp [Tryz.func87, Tryz.f87, evFunc, evCode, evRegion, withIds, needsId, idCount, grow, evOps, wantedA, stepO, callee, aop, putT, aeval, ofValC, ofVal, ofVals, applyUps, evResults, oneOrTup, alen, abin, abinInt, abinStr, aun, aindex, aslice, optInt, aextract, anilCheck, aconvert, aindexAddr, afieldAddr, afield, aload, ldAt, isConstO, aeq, z40, build40, build40n, sz40, ag40, sz3, ag3, sz9, ag9, sz2, ag2, fa40_0, fa40_1, fa40_2, fa40_3, cellsAV, astore, putAt, AV.known, AV.one, AH.at, h25, h34, h30, h35, go25, go34, g30, g35, hlen, hmin, Tryz.underlying50, tokAV]

theorem word_sign (O : Orc) (c : UInt8) (r : List UInt8) (N : Nat) (h25 : ∀ H, O 77 [.int .u8 (c.toNat : Int)] H = some (.bool false, H)) (h34 : ∀ H, O 114 [.int .u8 (c.toNat : Int)] H = some (.bool false, H))
    (h36 : ∀ H, O 118 [.str (c :: r)] H = some (.int .i64 (signLen (c :: r)), H)) (hlen : (signLen (c :: r) : Int) ≤ (r.length : Int) + 1) :
    ∃ H', evFunc O Tryz.prog envT N 87 [.str (c :: r)] [] = some (if signLen (c :: r) = 0 then .tup [tokAV 0 [] 0 0, .int .i64 3] else .tup [tokAV 3 ((c :: r).take (signLen (c :: r))) 0 0, .int .i64 0], H') := by
  generalize signLen (c :: r) = m at h36 hlen
  have g36 : goFn Tryz.prog 118 = true := goFn_all _ (by simp)
  by_cases hm : m = 0
  · subst hm
    simp [Tryz.func87, Tryz.f87, evFunc, evCode, evRegion, withIds, needsId, idCount, grow, evOps, wantedA, stepO, callee, aop, putT, aeval, ofValC, ofVal, ofVals, applyUps, evResults, oneOrTup, alen, abin, abinInt, abinStr, aun, aindex, aslice, optInt, aextract, anilCheck, aconvert, aindexAddr, afieldAddr, afield, aload, ldAt, isConstO, aeq, z40, build40, build40n, sz40, ag40, sz3, ag3, sz9, ag9, sz2, ag2, fa40_0, fa40_1, fa40_2, fa40_3, cellsAV, astore, putAt, AV.known, AV.one, AH.at, h25, h34, h36, go25, go34, g36, hlen, tokAV]
  · have hm' : ((m : Int) == 0) = false := by simp only [beq_eq_false_iff_ne]; omega
    simp [Tryz.func87, Tryz.f87, evFunc, evCode, evRegion, withIds, needsId, idCount, grow, evOps, wantedA, stepO, callee, aop, putT, aeval, ofValC, ofVal, ofVals, applyUps, evResults, oneOrTup, alen, abin, abinInt, abinStr, aun, aindex, aslice, optInt, aextract, anilCheck, aconvert, aindexAddr, afieldAddr, afield, aload, ldAt, isConstO, aeq, z40, build40, build40n, sz40, ag40, sz3, ag3, sz9, ag9, sz2, ag2, fa40_0, fa40_1, fa40_2, fa40_3, cellsAV, astore, putAt, AV.known, AV.one, AH.at, h25, h34, h36, go25, go34, g36, hlen, hm, hm', tokAV]
end Go.Proofs.YtpmonaempgjgbaaGreatDoor
