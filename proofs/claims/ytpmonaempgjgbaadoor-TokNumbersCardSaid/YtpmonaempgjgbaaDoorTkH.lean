/- strconv.ParseInt at digits that fit. -/
import Derived.Test.YtpmonaempgjgbaaDoorTkE
set_option linter.unusedSimpArgs false
set_option linter.unusedVariables false
namespace Go.Proofs.YtpmonaempgjgbaaDoor
open Go.RowKit Go.Proofs.Fw
set_option maxRecDepth 100000
set_option maxHeartbeats 4000000
theorem go48 : goFn Tryd.prog 48 = true := by kernel_rfl
theorem par_small (O : Orc) (s : List UInt8) (H : AH) (N : Nat) (m : Int) (ho : O 48 [.str s, .int .i64 10, .int .i64 64] H = some (.tup [.int .i64 m, .nilIface], H)) :
    evFunc O Tryd.prog envT N 35 [.str s, .int .i64 10, .int .i64 64] H = some (.tup [.int .i64 m, .nilIface], H) := by
  simp [Tryd.func35, Tryd.f35, evFunc, evCode, evRegion, withIds, needsId, idCount, grow, evOps, wantedA, stepO, callee, aop, putT, aeval, ofValC, ofVal, ofVals, applyUps, evResults, oneOrTup, alen, abin, abinInt, abinStr, aun, aindex, aslice, optInt, aextract, anilCheck, aconvert, aindexAddr, afieldAddr, afield, aload, ldAt, isConstO, aeq, go48, ho, Tryd.underlying37]
end Go.Proofs.YtpmonaempgjgbaaDoor
