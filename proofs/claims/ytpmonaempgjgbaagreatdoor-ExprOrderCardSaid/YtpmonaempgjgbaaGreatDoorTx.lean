/- Facts on the types of this program, and which functions are its own text. -/
import Derived.Test.YtpmonaempgjgbaaGreatDoorTw
set_option linter.unusedSimpArgs false
set_option linter.unusedVariables false
namespace Go.Proofs.YtpmonaempgjgbaaGreatDoor.Tx
open Go.RowKit Go.Proofs.Fw
set_option maxRecDepth 100000
theorem sz46 : szOf Tryz.prog 46 = some 1 := by kernel_rfl
theorem ag46 : aggB Tryz.prog 46 = some false := by kernel_rfl
theorem zv46 : zeroAV Tryz.prog 46 = some (.nilSlice) := by kernel_rfl
theorem ec46 : elemChk Tryz.prog 46 4 = true := by kernel_rfl
theorem sz48 : szOf Tryz.prog 48 = some 4 := by kernel_rfl
theorem ag48 : aggB Tryz.prog 48 = some true := by kernel_rfl
theorem zv48 : zeroAV Tryz.prog 48 = some (.agg [.int .i64 0, .int .i64 0, .str [], .nilSlice]) := by kernel_rfl
theorem fa48_0 (id off : Nat) : afieldAddr Tryz.prog 48 (.ptr id off) 0 = some (.ptr id (off + 0)) := by kernel_rfl
theorem fv48_0 (cs : List AV) (off : Nat) : afieldAddr Tryz.prog 48 (.vptr cs off) 0 = some (.vptr cs (off + 0)) := by kernel_rfl
theorem fl48_0 (cs : List AV) : afield Tryz.prog 48 (.agg cs) 0 = ldAt Tryz.prog 3 cs 0 := by kernel_rfl
theorem fa48_1 (id off : Nat) : afieldAddr Tryz.prog 48 (.ptr id off) 1 = some (.ptr id (off + 1)) := by kernel_rfl
theorem fv48_1 (cs : List AV) (off : Nat) : afieldAddr Tryz.prog 48 (.vptr cs off) 1 = some (.vptr cs (off + 1)) := by kernel_rfl
theorem fl48_1 (cs : List AV) : afield Tryz.prog 48 (.agg cs) 1 = ldAt Tryz.prog 2 cs 1 := by kernel_rfl
theorem fa48_2 (id off : Nat) : afieldAddr Tryz.prog 48 (.ptr id off) 2 = some (.ptr id (off + 2)) := by kernel_rfl
theorem fv48_2 (cs : List AV) (off : Nat) : afieldAddr Tryz.prog 48 (.vptr cs off) 2 = some (.vptr cs (off + 2)) := by kernel_rfl
theorem fl48_2 (cs : List AV) : afield Tryz.prog 48 (.agg cs) 2 = ldAt Tryz.prog 9 cs 2 := by kernel_rfl
theorem fa48_3 (id off : Nat) : afieldAddr Tryz.prog 48 (.ptr id off) 3 = some (.ptr id (off + 3)) := by kernel_rfl
theorem fv48_3 (cs : List AV) (off : Nat) : afieldAddr Tryz.prog 48 (.vptr cs off) 3 = some (.vptr cs (off + 3)) := by kernel_rfl
theorem fl48_3 (cs : List AV) : afield Tryz.prog 48 (.agg cs) 3 = ldAt Tryz.prog 46 cs 3 := by kernel_rfl
theorem sz53 : szOf Tryz.prog 53 = some 1 := by kernel_rfl
theorem ag53 : aggB Tryz.prog 53 = some false := by kernel_rfl
theorem zv53 : zeroAV Tryz.prog 53 = some (.nilSlice) := by kernel_rfl
theorem ec53 : elemChk Tryz.prog 53 4 = true := by kernel_rfl
theorem sz55 : szOf Tryz.prog 55 = some 4 := by kernel_rfl
theorem ag55 : aggB Tryz.prog 55 = some true := by kernel_rfl
theorem zv55 : zeroAV Tryz.prog 55 = some (.agg [.int .i64 0, .int .i64 0, .str [], .nilSlice]) := by kernel_rfl
theorem fa55_0 (id off : Nat) : afieldAddr Tryz.prog 55 (.ptr id off) 0 = some (.ptr id (off + 0)) := by kernel_rfl
theorem fv55_0 (cs : List AV) (off : Nat) : afieldAddr Tryz.prog 55 (.vptr cs off) 0 = some (.vptr cs (off + 0)) := by kernel_rfl
theorem fl55_0 (cs : List AV) : afield Tryz.prog 55 (.agg cs) 0 = ldAt Tryz.prog 3 cs 0 := by kernel_rfl
theorem fa55_1 (id off : Nat) : afieldAddr Tryz.prog 55 (.ptr id off) 1 = some (.ptr id (off + 1)) := by kernel_rfl
theorem fv55_1 (cs : List AV) (off : Nat) : afieldAddr Tryz.prog 55 (.vptr cs off) 1 = some (.vptr cs (off + 1)) := by kernel_rfl
theorem fl55_1 (cs : List AV) : afield Tryz.prog 55 (.agg cs) 1 = ldAt Tryz.prog 2 cs 1 := by kernel_rfl
theorem fa55_2 (id off : Nat) : afieldAddr Tryz.prog 55 (.ptr id off) 2 = some (.ptr id (off + 2)) := by kernel_rfl
theorem fv55_2 (cs : List AV) (off : Nat) : afieldAddr Tryz.prog 55 (.vptr cs off) 2 = some (.vptr cs (off + 2)) := by kernel_rfl
theorem fl55_2 (cs : List AV) : afield Tryz.prog 55 (.agg cs) 2 = ldAt Tryz.prog 9 cs 2 := by kernel_rfl
theorem fa55_3 (id off : Nat) : afieldAddr Tryz.prog 55 (.ptr id off) 3 = some (.ptr id (off + 3)) := by kernel_rfl
theorem fv55_3 (cs : List AV) (off : Nat) : afieldAddr Tryz.prog 55 (.vptr cs off) 3 = some (.vptr cs (off + 3)) := by kernel_rfl
theorem fl55_3 (cs : List AV) : afield Tryz.prog 55 (.agg cs) 3 = ldAt Tryz.prog 53 cs 3 := by kernel_rfl
theorem sz59 : szOf Tryz.prog 59 = some 9 := by kernel_rfl
theorem ag59 : aggB Tryz.prog 59 = some true := by kernel_rfl
theorem zv59 : zeroAV Tryz.prog 59 = some (.agg [.str [], .int .i64 0, .int .i64 0, .str [], .nilSlice, .int .i64 0, .int .i64 0, .str [], .nilSlice]) := by kernel_rfl
theorem fa59_0 (id off : Nat) : afieldAddr Tryz.prog 59 (.ptr id off) 0 = some (.ptr id (off + 0)) := by kernel_rfl
theorem fv59_0 (cs : List AV) (off : Nat) : afieldAddr Tryz.prog 59 (.vptr cs off) 0 = some (.vptr cs (off + 0)) := by kernel_rfl
theorem fl59_0 (cs : List AV) : afield Tryz.prog 59 (.agg cs) 0 = ldAt Tryz.prog 9 cs 0 := by kernel_rfl
theorem fa59_1 (id off : Nat) : afieldAddr Tryz.prog 59 (.ptr id off) 1 = some (.ptr id (off + 1)) := by kernel_rfl
theorem fv59_1 (cs : List AV) (off : Nat) : afieldAddr Tryz.prog 59 (.vptr cs off) 1 = some (.vptr cs (off + 1)) := by kernel_rfl
theorem fl59_1 (cs : List AV) : afield Tryz.prog 59 (.agg cs) 1 = ldAt Tryz.prog 48 cs 1 := by kernel_rfl
theorem fa59_2 (id off : Nat) : afieldAddr Tryz.prog 59 (.ptr id off) 2 = some (.ptr id (off + 5)) := by kernel_rfl
theorem fv59_2 (cs : List AV) (off : Nat) : afieldAddr Tryz.prog 59 (.vptr cs off) 2 = some (.vptr cs (off + 5)) := by kernel_rfl
theorem fl59_2 (cs : List AV) : afield Tryz.prog 59 (.agg cs) 2 = ldAt Tryz.prog 48 cs 5 := by kernel_rfl
theorem sz63 : szOf Tryz.prog 63 = some 9 := by kernel_rfl
theorem ag63 : aggB Tryz.prog 63 = some true := by kernel_rfl
theorem zv63 : zeroAV Tryz.prog 63 = some (.agg [.str [], .int .i64 0, .int .i64 0, .str [], .nilSlice, .int .i64 0, .int .i64 0, .str [], .nilSlice]) := by kernel_rfl
theorem fa63_0 (id off : Nat) : afieldAddr Tryz.prog 63 (.ptr id off) 0 = some (.ptr id (off + 0)) := by kernel_rfl
theorem fv63_0 (cs : List AV) (off : Nat) : afieldAddr Tryz.prog 63 (.vptr cs off) 0 = some (.vptr cs (off + 0)) := by kernel_rfl
theorem fl63_0 (cs : List AV) : afield Tryz.prog 63 (.agg cs) 0 = ldAt Tryz.prog 9 cs 0 := by kernel_rfl
theorem fa63_1 (id off : Nat) : afieldAddr Tryz.prog 63 (.ptr id off) 1 = some (.ptr id (off + 1)) := by kernel_rfl
theorem fv63_1 (cs : List AV) (off : Nat) : afieldAddr Tryz.prog 63 (.vptr cs off) 1 = some (.vptr cs (off + 1)) := by kernel_rfl
theorem fl63_1 (cs : List AV) : afield Tryz.prog 63 (.agg cs) 1 = ldAt Tryz.prog 55 cs 1 := by kernel_rfl
theorem fa63_2 (id off : Nat) : afieldAddr Tryz.prog 63 (.ptr id off) 2 = some (.ptr id (off + 5)) := by kernel_rfl
theorem fv63_2 (cs : List AV) (off : Nat) : afieldAddr Tryz.prog 63 (.vptr cs off) 2 = some (.vptr cs (off + 5)) := by kernel_rfl
theorem fl63_2 (cs : List AV) : afield Tryz.prog 63 (.agg cs) 2 = ldAt Tryz.prog 55 cs 5 := by kernel_rfl
theorem sz122 : szOf Tryz.prog 122 = some 1 := by kernel_rfl
theorem ag122 : aggB Tryz.prog 122 = some false := by kernel_rfl
theorem zv122 : zeroAV Tryz.prog 122 = some (.nilPtr) := by kernel_rfl
theorem sz124 : szOf Tryz.prog 124 = some 4 := by kernel_rfl
theorem ag124 : aggB Tryz.prog 124 = some true := by kernel_rfl
theorem zv124 : zeroAV Tryz.prog 124 = some (.agg [.nilSlice, .int .i64 0, .int .i64 0, .nilIface]) := by kernel_rfl
theorem fa124_0 (id off : Nat) : afieldAddr Tryz.prog 124 (.ptr id off) 0 = some (.ptr id (off + 0)) := by kernel_rfl
theorem fv124_0 (cs : List AV) (off : Nat) : afieldAddr Tryz.prog 124 (.vptr cs off) 0 = some (.vptr cs (off + 0)) := by kernel_rfl
theorem fl124_0 (cs : List AV) : afield Tryz.prog 124 (.agg cs) 0 = ldAt Tryz.prog 44 cs 0 := by kernel_rfl
theorem fa124_1 (id off : Nat) : afieldAddr Tryz.prog 124 (.ptr id off) 1 = some (.ptr id (off + 1)) := by kernel_rfl
theorem fv124_1 (cs : List AV) (off : Nat) : afieldAddr Tryz.prog 124 (.vptr cs off) 1 = some (.vptr cs (off + 1)) := by kernel_rfl
theorem fl124_1 (cs : List AV) : afield Tryz.prog 124 (.agg cs) 1 = ldAt Tryz.prog 3 cs 1 := by kernel_rfl
theorem fa124_2 (id off : Nat) : afieldAddr Tryz.prog 124 (.ptr id off) 2 = some (.ptr id (off + 2)) := by kernel_rfl
theorem fv124_2 (cs : List AV) (off : Nat) : afieldAddr Tryz.prog 124 (.vptr cs off) 2 = some (.vptr cs (off + 2)) := by kernel_rfl
theorem fl124_2 (cs : List AV) : afield Tryz.prog 124 (.agg cs) 2 = ldAt Tryz.prog 3 cs 2 := by kernel_rfl
theorem fa124_3 (id off : Nat) : afieldAddr Tryz.prog 124 (.ptr id off) 3 = some (.ptr id (off + 3)) := by kernel_rfl
theorem fv124_3 (cs : List AV) (off : Nat) : afieldAddr Tryz.prog 124 (.vptr cs off) 3 = some (.vptr cs (off + 3)) := by kernel_rfl
theorem fl124_3 (cs : List AV) : afield Tryz.prog 124 (.agg cs) 3 = ldAt Tryz.prog 50 cs 3 := by kernel_rfl
theorem sz126 : szOf Tryz.prog 126 = some 1 := by kernel_rfl
theorem ag126 : aggB Tryz.prog 126 = some false := by kernel_rfl
theorem zv126 : zeroAV Tryz.prog 126 = some (.nilPtr) := by kernel_rfl
theorem sz128 : szOf Tryz.prog 128 = some 4 := by kernel_rfl
theorem ag128 : aggB Tryz.prog 128 = some true := by kernel_rfl
theorem zv128 : zeroAV Tryz.prog 128 = some (.agg [.nilSlice, .int .i64 0, .nilSlice, .int .i64 0]) := by kernel_rfl
theorem fa128_0 (id off : Nat) : afieldAddr Tryz.prog 128 (.ptr id off) 0 = some (.ptr id (off + 0)) := by kernel_rfl
theorem fv128_0 (cs : List AV) (off : Nat) : afieldAddr Tryz.prog 128 (.vptr cs off) 0 = some (.vptr cs (off + 0)) := by kernel_rfl
theorem fl128_0 (cs : List AV) : afield Tryz.prog 128 (.agg cs) 0 = ldAt Tryz.prog 38 cs 0 := by kernel_rfl
theorem fa128_1 (id off : Nat) : afieldAddr Tryz.prog 128 (.ptr id off) 1 = some (.ptr id (off + 1)) := by kernel_rfl
theorem fv128_1 (cs : List AV) (off : Nat) : afieldAddr Tryz.prog 128 (.vptr cs off) 1 = some (.vptr cs (off + 1)) := by kernel_rfl
theorem fl128_1 (cs : List AV) : afield Tryz.prog 128 (.agg cs) 1 = ldAt Tryz.prog 3 cs 1 := by kernel_rfl
theorem fa128_2 (id off : Nat) : afieldAddr Tryz.prog 128 (.ptr id off) 2 = some (.ptr id (off + 2)) := by kernel_rfl
theorem fv128_2 (cs : List AV) (off : Nat) : afieldAddr Tryz.prog 128 (.vptr cs off) 2 = some (.vptr cs (off + 2)) := by kernel_rfl
theorem fl128_2 (cs : List AV) : afield Tryz.prog 128 (.agg cs) 2 = ldAt Tryz.prog 41 cs 2 := by kernel_rfl
theorem go17 : goFn Tryz.prog 17 = true := by kernel_rfl
theorem go18 : goFn Tryz.prog 18 = true := by kernel_rfl
theorem go19 : goFn Tryz.prog 19 = true := by kernel_rfl
theorem go20 : goFn Tryz.prog 20 = true := by kernel_rfl
theorem go54 : goFn Tryz.prog 54 = true := by kernel_rfl
theorem go55 : goFn Tryz.prog 55 = true := by kernel_rfl
theorem go56 : goFn Tryz.prog 56 = true := by kernel_rfl
theorem go57 : goFn Tryz.prog 57 = true := by kernel_rfl
theorem go58 : goFn Tryz.prog 58 = true := by kernel_rfl
theorem go59 : goFn Tryz.prog 59 = true := by kernel_rfl
theorem go60 : goFn Tryz.prog 60 = true := by kernel_rfl
theorem go89 : goFn Tryz.prog 89 = true := by kernel_rfl
theorem go90 : goFn Tryz.prog 90 = true := by kernel_rfl
theorem go91 : goFn Tryz.prog 91 = true := by kernel_rfl
theorem go92 : goFn Tryz.prog 92 = true := by kernel_rfl
theorem go119 : goFn Tryz.prog 119 = true := by kernel_rfl
theorem go120 : goFn Tryz.prog 120 = true := by kernel_rfl
theorem go121 : goFn Tryz.prog 121 = true := by kernel_rfl
theorem go147 : goFn Tryz.prog 147 = true := by kernel_rfl
theorem go148 : goFn Tryz.prog 148 = true := by kernel_rfl
theorem go149 : goFn Tryz.prog 149 = true := by kernel_rfl
theorem go150 : goFn Tryz.prog 150 = true := by kernel_rfl
theorem go151 : goFn Tryz.prog 151 = true := by kernel_rfl
attribute [simp] sz46 ag46 zv46 ec46 Tryz.underlying46 sz48 ag48 zv48 fa48_0 fv48_0 fl48_0 fa48_1 fv48_1 fl48_1 fa48_2 fv48_2 fl48_2 fa48_3 fv48_3 fl48_3
attribute [simp] Tryz.underlying48 sz53 ag53 zv53 ec53 Tryz.underlying53 sz55 ag55 zv55 fa55_0 fv55_0 fl55_0 fa55_1 fv55_1 fl55_1 fa55_2 fv55_2 fl55_2 fa55_3 fv55_3
attribute [simp] fl55_3 Tryz.underlying55 sz59 ag59 zv59 fa59_0 fv59_0 fl59_0 fa59_1 fv59_1 fl59_1 fa59_2 fv59_2 fl59_2 Tryz.underlying59 sz63 ag63 zv63 fa63_0 fv63_0
attribute [simp] fl63_0 fa63_1 fv63_1 fl63_1 fa63_2 fv63_2 fl63_2 Tryz.underlying63 sz122 ag122 zv122 Tryz.underlying122 sz124 ag124 zv124 fa124_0 fv124_0 fl124_0 fa124_1 fv124_1
attribute [simp] fl124_1 fa124_2 fv124_2 fl124_2 fa124_3 fv124_3 fl124_3 Tryz.underlying124 sz126 ag126 zv126 Tryz.underlying126 sz128 ag128 zv128 fa128_0 fv128_0 fl128_0 fa128_1 fv128_1
attribute [simp] fl128_1 fa128_2 fv128_2 fl128_2 Tryz.underlying128 go17 go18 go19 go20 go54 go55 go56 go57 go58 go59 go60 go89 go90 go91 go92
attribute [simp] go119 go120 go121 go147 go148 go149 go150 go151
end Go.Proofs.YtpmonaempgjgbaaGreatDoor.Tx
