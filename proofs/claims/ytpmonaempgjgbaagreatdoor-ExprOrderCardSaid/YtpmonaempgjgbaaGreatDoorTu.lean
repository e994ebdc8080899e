/- Facts on the types of this program, and which functions are its own text. -/
import Derived.Test.YtpmonaempgjgbaaGreatDoorTx
set_option linter.unusedSimpArgs false
set_option linter.unusedVariables false
namespace Go.Proofs.YtpmonaempgjgbaaGreatDoor.Tu
open Go.RowKit Go.Proofs.Fw
set_option maxRecDepth 100000
theorem sz27 : szOf Tryz.prog 27 = some 2 := by kernel_rfl
theorem ag27 : aggB Tryz.prog 27 = some true := by kernel_rfl
theorem zv27 : zeroAV Tryz.prog 27 = some (.agg [.nilSlice, .int .i64 0]) := by kernel_rfl
theorem fa27_0 (id off : Nat) : afieldAddr Tryz.prog 27 (.ptr id off) 0 = some (.ptr id (off + 0)) := by kernel_rfl
theorem fv27_0 (cs : List AV) (off : Nat) : afieldAddr Tryz.prog 27 (.vptr cs off) 0 = some (.vptr cs (off + 0)) := by kernel_rfl
theorem fl27_0 (cs : List AV) : afield Tryz.prog 27 (.agg cs) 0 = ldAt Tryz.prog 25 cs 0 := by kernel_rfl
theorem fa27_1 (id off : Nat) : afieldAddr Tryz.prog 27 (.ptr id off) 1 = some (.ptr id (off + 1)) := by kernel_rfl
theorem fv27_1 (cs : List AV) (off : Nat) : afieldAddr Tryz.prog 27 (.vptr cs off) 1 = some (.vptr cs (off + 1)) := by kernel_rfl
theorem fl27_1 (cs : List AV) : afield Tryz.prog 27 (.agg cs) 1 = ldAt Tryz.prog 2 cs 1 := by kernel_rfl
theorem sz75 : szOf Tryz.prog 75 = some 1 := by kernel_rfl
theorem ag75 : aggB Tryz.prog 75 = some false := by kernel_rfl
theorem zv75 : zeroAV Tryz.prog 75 = some (.nilSlice) := by kernel_rfl
theorem ec75 : elemChk Tryz.prog 75 1 = true := by kernel_rfl
theorem sz82 : szOf Tryz.prog 82 = some 1 := by kernel_rfl
theorem ag82 : aggB Tryz.prog 82 = some false := by kernel_rfl
theorem zv82 : zeroAV Tryz.prog 82 = some (.int .u64 0) := by kernel_rfl
theorem sz90 : szOf Tryz.prog 90 = some 1 := by kernel_rfl
theorem ag90 : aggB Tryz.prog 90 = some false := by kernel_rfl
theorem zv90 : zeroAV Tryz.prog 90 = some (.nilSlice) := by kernel_rfl
theorem ec90 : elemChk Tryz.prog 90 1 = true := by kernel_rfl
theorem sz110 : szOf Tryz.prog 110 = some 4 := by kernel_rfl
theorem ag110 : aggB Tryz.prog 110 = some true := by kernel_rfl
theorem zv110 : zeroAV Tryz.prog 110 = some (.agg [.str [], .nilSlice, .int .i64 0, .int .i64 0]) := by kernel_rfl
theorem fa110_0 (id off : Nat) : afieldAddr Tryz.prog 110 (.ptr id off) 0 = some (.ptr id (off + 0)) := by kernel_rfl
theorem fv110_0 (cs : List AV) (off : Nat) : afieldAddr Tryz.prog 110 (.vptr cs off) 0 = some (.vptr cs (off + 0)) := by kernel_rfl
theorem fl110_0 (cs : List AV) : afield Tryz.prog 110 (.agg cs) 0 = ldAt Tryz.prog 9 cs 0 := by kernel_rfl
theorem fa110_1 (id off : Nat) : afieldAddr Tryz.prog 110 (.ptr id off) 1 = some (.ptr id (off + 1)) := by kernel_rfl
theorem fv110_1 (cs : List AV) (off : Nat) : afieldAddr Tryz.prog 110 (.vptr cs off) 1 = some (.vptr cs (off + 1)) := by kernel_rfl
theorem fl110_1 (cs : List AV) : afield Tryz.prog 110 (.agg cs) 1 = ldAt Tryz.prog 90 cs 1 := by kernel_rfl
theorem fa110_2 (id off : Nat) : afieldAddr Tryz.prog 110 (.ptr id off) 2 = some (.ptr id (off + 2)) := by kernel_rfl
theorem fv110_2 (cs : List AV) (off : Nat) : afieldAddr Tryz.prog 110 (.vptr cs off) 2 = some (.vptr cs (off + 2)) := by kernel_rfl
theorem fl110_2 (cs : List AV) : afield Tryz.prog 110 (.agg cs) 2 = ldAt Tryz.prog 3 cs 2 := by kernel_rfl
theorem fa110_3 (id off : Nat) : afieldAddr Tryz.prog 110 (.ptr id off) 3 = some (.ptr id (off + 3)) := by kernel_rfl
theorem fv110_3 (cs : List AV) (off : Nat) : afieldAddr Tryz.prog 110 (.vptr cs off) 3 = some (.vptr cs (off + 3)) := by kernel_rfl
theorem fl110_3 (cs : List AV) : afield Tryz.prog 110 (.agg cs) 3 = ldAt Tryz.prog 2 cs 3 := by kernel_rfl
theorem sz147 : szOf Tryz.prog 147 = some 1 := by kernel_rfl
theorem ag147 : aggB Tryz.prog 147 = some false := by kernel_rfl
theorem zv147 : zeroAV Tryz.prog 147 = some (.nilMap) := by kernel_rfl
theorem go9 : goFn Tryz.prog 9 = true := by kernel_rfl
theorem go14 : goFn Tryz.prog 14 = true := by kernel_rfl
theorem go16 : goFn Tryz.prog 16 = true := by kernel_rfl
theorem go21 : goFn Tryz.prog 21 = true := by kernel_rfl
theorem go22 : goFn Tryz.prog 22 = true := by kernel_rfl
theorem go23 : goFn Tryz.prog 23 = true := by kernel_rfl
theorem go24 : goFn Tryz.prog 24 = true := by kernel_rfl
theorem go25 : goFn Tryz.prog 25 = true := by kernel_rfl
theorem go26 : goFn Tryz.prog 26 = true := by kernel_rfl
theorem go27 : goFn Tryz.prog 27 = true := by kernel_rfl
theorem go28 : goFn Tryz.prog 28 = true := by kernel_rfl
theorem go29 : goFn Tryz.prog 29 = true := by kernel_rfl
theorem go30 : goFn Tryz.prog 30 = true := by kernel_rfl
theorem go46 : goFn Tryz.prog 46 = true := by kernel_rfl
theorem go47 : goFn Tryz.prog 47 = true := by kernel_rfl
theorem go63 : goFn Tryz.prog 63 = true := by kernel_rfl
theorem go64 : goFn Tryz.prog 64 = true := by kernel_rfl
theorem go65 : goFn Tryz.prog 65 = true := by kernel_rfl
theorem go66 : goFn Tryz.prog 66 = true := by kernel_rfl
theorem go67 : goFn Tryz.prog 67 = true := by kernel_rfl
theorem go68 : goFn Tryz.prog 68 = true := by kernel_rfl
theorem go69 : goFn Tryz.prog 69 = true := by kernel_rfl
theorem go70 : goFn Tryz.prog 70 = true := by kernel_rfl
theorem go71 : goFn Tryz.prog 71 = true := by kernel_rfl
theorem go72 : goFn Tryz.prog 72 = true := by kernel_rfl
attribute [simp] sz27 ag27 zv27 fa27_0 fv27_0 fl27_0 fa27_1 fv27_1 fl27_1 Tryz.underlying27 sz75 ag75 zv75 ec75 Tryz.underlying75 sz82 ag82 zv82 Tryz.underlying82 sz90
attribute [simp] ag90 zv90 ec90 Tryz.underlying90 sz110 ag110 zv110 fa110_0 fv110_0 fl110_0 fa110_1 fv110_1 fl110_1 fa110_2 fv110_2 fl110_2 fa110_3 fv110_3 fl110_3 Tryz.underlying110
attribute [simp] sz147 ag147 zv147 Tryz.underlying147 go9 go14 go16 go21 go22 go23 go24 go25 go26 go27 go28 go29 go30 go46 go47 go63
attribute [simp] go64 go65 go66 go67 go68 go69 go70 go71 go72
end Go.Proofs.YtpmonaempgjgbaaGreatDoor.Tu
