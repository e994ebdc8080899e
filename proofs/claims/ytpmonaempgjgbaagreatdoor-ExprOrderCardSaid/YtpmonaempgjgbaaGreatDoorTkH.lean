/- strconv.ParseInt at digits that fit. -/
import Derived.Test.YtpmonaempgjgbaaGreatDoorTkE
set_option linter.unusedSimpArgs false
set_option linter.unusedVariables false
namespace Go.Proofs.YtpmonaempgjgbaaGreatDoor
open Go.RowKit Go.Proofs.Fw
set_option maxRecDepth 100000
set_option maxHeartbeats 4000000
theorem go48 : goFn Tryz.prog 145 = true := by kernel_rfl
theorem par_small (O : Orc) (s : List UInt8) (H : AH) (N : Nat) (m : Int) (ho : O 145 [.str s, .int .i64 10, .int .i64 64] H = some (.tup [.int .i64 m, .nilIface], H)) :
    evFunc O Tryz.prog envT N 117 [.str s, .int .i64 10, .int .i64 64] H = some (.tup [.int .i64 m, .nilIface], H) := by
  simp [Tryz.func117, Tryz.f117, evFunc, evCode, evRegion, withIds, needsId, idCount, grow, evOps, wantedA, stepO, callee, aop, putT, aeval, ofValC, ofVal, ofVals, applyUps, evResults, oneOrTup, alen, abin, abinInt, abinStr, aun, aindex, aslice, optInt, aextract, anilCheck, aconvert, aindexAddr, afieldAddr, afield, aload, ldAt, isConstO, aeq, go48, ho, Tryz.underlying50]
end Go.Proofs.YtpmonaempgjgbaaGreatDoor
