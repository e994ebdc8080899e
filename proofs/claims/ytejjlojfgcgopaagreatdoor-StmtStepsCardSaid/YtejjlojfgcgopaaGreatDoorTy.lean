/- Facts on the types of this program, and which functions are its own text. -/
import Derived.Test.YtejjlojfgcgopaaGreatDoorChecked
import Derived.Test.YtejjlojfgcgopaaGreatDoorFwG4
import Derived.KernelRfl
set_option linter.unusedSimpArgs false
set_option linter.unusedVariables false
namespace Go.Proofs.YtejjlojfgcgopaaGreatDoor.Ty
open Go.RowKit Go.Proofs.Fw
set_option maxRecDepth 100000
theorem sz2 : szOf Tryz.prog 2 = some 1 := by kernel_rfl
theorem ag2 : aggB Tryz.prog 2 = some false := by kernel_rfl
theorem zv2 : zeroAV Tryz.prog 2 = some (.int .i64 0) := by kernel_rfl
theorem sz3 : szOf Tryz.prog 3 = some 1 := by kernel_rfl
theorem ag3 : aggB Tryz.prog 3 = some false := by kernel_rfl
theorem zv3 : zeroAV Tryz.prog 3 = some (.int .i64 0) := by kernel_rfl
theorem sz4 : szOf Tryz.prog 4 = some 1 := by kernel_rfl
theorem ag4 : aggB Tryz.prog 4 = some false := by kernel_rfl
theorem zv4 : zeroAV Tryz.prog 4 = some (.bool false) := by kernel_rfl
theorem sz5 : szOf Tryz.prog 5 = some 1 := by kernel_rfl
theorem ag5 : aggB Tryz.prog 5 = some false := by kernel_rfl
theorem zv5 : zeroAV Tryz.prog 5 = some (.int .u8 0) := by kernel_rfl
theorem sz9 : szOf Tryz.prog 9 = some 1 := by kernel_rfl
theorem ag9 : aggB Tryz.prog 9 = some false := by kernel_rfl
theorem zv9 : zeroAV Tryz.prog 9 = some (.str []) := by kernel_rfl
theorem sz23 : szOf Tryz.prog 23 = some 1 := by kernel_rfl
theorem ag23 : aggB Tryz.prog 23 = some false := by kernel_rfl
theorem zv23 : zeroAV Tryz.prog 23 = some (.nilSlice) := by kernel_rfl
theorem ec23 : elemChk Tryz.prog 23 1 = true := by kernel_rfl
theorem sz33 : szOf Tryz.prog 33 = some 1 := by kernel_rfl
theorem ag33 : aggB Tryz.prog 33 = some false := by kernel_rfl
theorem zv33 : zeroAV Tryz.prog 33 = some (.nilIface) := by kernel_rfl
theorem sz54 : szOf Tryz.prog 54 = some 1 := by kernel_rfl
theorem ag54 : aggB Tryz.prog 54 = some false := by kernel_rfl
theorem zv54 : zeroAV Tryz.prog 54 = some (.nilSlice) := by kernel_rfl
theorem ec54 : elemChk Tryz.prog 54 4 = true := by kernel_rfl
theorem sz55 : szOf Tryz.prog 55 = some 1 := by kernel_rfl
theorem ag55 : aggB Tryz.prog 55 = some false := by kernel_rfl
theorem zv55 : zeroAV Tryz.prog 55 = some (.nilSlice) := by kernel_rfl
theorem ec55 : elemChk Tryz.prog 55 2 = true := by kernel_rfl
theorem sz57 : szOf Tryz.prog 57 = some 2 := by kernel_rfl
theorem ag57 : aggB Tryz.prog 57 = some true := by kernel_rfl
theorem zv57 : zeroAV Tryz.prog 57 = some (.agg [.nilSlice, .int .i64 0]) := by kernel_rfl
theorem fa57_0 (id off : Nat) : afieldAddr Tryz.prog 57 (.ptr id off) 0 = some (.ptr id (off + 0)) := by kernel_rfl
theorem fv57_0 (cs : List AV) (off : Nat) : afieldAddr Tryz.prog 57 (.vptr cs off) 0 = some (.vptr cs (off + 0)) := by kernel_rfl
theorem fl57_0 (cs : List AV) : afield Tryz.prog 57 (.agg cs) 0 = ldAt Tryz.prog 55 cs 0 := by kernel_rfl
theorem fa57_1 (id off : Nat) : afieldAddr Tryz.prog 57 (.ptr id off) 1 = some (.ptr id (off + 1)) := by kernel_rfl
theorem fv57_1 (cs : List AV) (off : Nat) : afieldAddr Tryz.prog 57 (.vptr cs off) 1 = some (.vptr cs (off + 1)) := by kernel_rfl
theorem fl57_1 (cs : List AV) : afield Tryz.prog 57 (.agg cs) 1 = ldAt Tryz.prog 3 cs 1 := by kernel_rfl
theorem sz125 : szOf Tryz.prog 125 = some 1 := by kernel_rfl
theorem ag125 : aggB Tryz.prog 125 = some false := by kernel_rfl
theorem zv125 : zeroAV Tryz.prog 125 = some (.nilSlice) := by kernel_rfl
theorem ec125 : elemChk Tryz.prog 125 4 = true := by kernel_rfl
theorem sz134 : szOf Tryz.prog 134 = some 1 := by kernel_rfl
theorem ag134 : aggB Tryz.prog 134 = some false := by kernel_rfl
theorem zv134 : zeroAV Tryz.prog 134 = some (.int .i64 0) := by kernel_rfl
theorem sz144 : szOf Tryz.prog 144 = some 4 := by kernel_rfl
theorem ag144 : aggB Tryz.prog 144 = some true := by kernel_rfl
theorem zv144 : zeroAV Tryz.prog 144 = some (.agg [.int .i64 0, .str [], .int .i64 0, .int .i64 0]) := by kernel_rfl
theorem fa144_0 (id off : Nat) : afieldAddr Tryz.prog 144 (.ptr id off) 0 = some (.ptr id (off + 0)) := by kernel_rfl
theorem fv144_0 (cs : List AV) (off : Nat) : afieldAddr Tryz.prog 144 (.vptr cs off) 0 = some (.vptr cs (off + 0)) := by kernel_rfl
theorem fl144_0 (cs : List AV) : afield Tryz.prog 144 (.agg cs) 0 = ldAt Tryz.prog 3 cs 0 := by kernel_rfl
theorem fa144_1 (id off : Nat) : afieldAddr Tryz.prog 144 (.ptr id off) 1 = some (.ptr id (off + 1)) := by kernel_rfl
theorem fv144_1 (cs : List AV) (off : Nat) : afieldAddr Tryz.prog 144 (.vptr cs off) 1 = some (.vptr cs (off + 1)) := by kernel_rfl
theorem fl144_1 (cs : List AV) : afield Tryz.prog 144 (.agg cs) 1 = ldAt Tryz.prog 9 cs 1 := by kernel_rfl
theorem fa144_2 (id off : Nat) : afieldAddr Tryz.prog 144 (.ptr id off) 2 = some (.ptr id (off + 2)) := by kernel_rfl
theorem fv144_2 (cs : List AV) (off : Nat) : afieldAddr Tryz.prog 144 (.vptr cs off) 2 = some (.vptr cs (off + 2)) := by kernel_rfl
theorem fl144_2 (cs : List AV) : afield Tryz.prog 144 (.agg cs) 2 = ldAt Tryz.prog 3 cs 2 := by kernel_rfl
theorem fa144_3 (id off : Nat) : afieldAddr Tryz.prog 144 (.ptr id off) 3 = some (.ptr id (off + 3)) := by kernel_rfl
theorem fv144_3 (cs : List AV) (off : Nat) : afieldAddr Tryz.prog 144 (.vptr cs off) 3 = some (.vptr cs (off + 3)) := by kernel_rfl
theorem fl144_3 (cs : List AV) : afield Tryz.prog 144 (.agg cs) 3 = ldAt Tryz.prog 2 cs 3 := by kernel_rfl
theorem sz152 : szOf Tryz.prog 152 = some 1 := by kernel_rfl
theorem ag152 : aggB Tryz.prog 152 = some false := by kernel_rfl
theorem zv152 : zeroAV Tryz.prog 152 = some (.nilPtr) := by kernel_rfl
theorem sz156 : szOf Tryz.prog 156 = some 3 := by kernel_rfl
theorem ag156 : aggB Tryz.prog 156 = some true := by kernel_rfl
theorem zv156 : zeroAV Tryz.prog 156 = some (.agg [.str [], .int .i64 0, .nilIface]) := by kernel_rfl
theorem fa156_0 (id off : Nat) : afieldAddr Tryz.prog 156 (.ptr id off) 0 = some (.ptr id (off + 0)) := by kernel_rfl
theorem fv156_0 (cs : List AV) (off : Nat) : afieldAddr Tryz.prog 156 (.vptr cs off) 0 = some (.vptr cs (off + 0)) := by kernel_rfl
theorem fl156_0 (cs : List AV) : afield Tryz.prog 156 (.agg cs) 0 = ldAt Tryz.prog 9 cs 0 := by kernel_rfl
theorem fa156_1 (id off : Nat) : afieldAddr Tryz.prog 156 (.ptr id off) 1 = some (.ptr id (off + 1)) := by kernel_rfl
theorem fv156_1 (cs : List AV) (off : Nat) : afieldAddr Tryz.prog 156 (.vptr cs off) 1 = some (.vptr cs (off + 1)) := by kernel_rfl
theorem fl156_1 (cs : List AV) : afield Tryz.prog 156 (.agg cs) 1 = ldAt Tryz.prog 3 cs 1 := by kernel_rfl
theorem fa156_2 (id off : Nat) : afieldAddr Tryz.prog 156 (.ptr id off) 2 = some (.ptr id (off + 2)) := by kernel_rfl
theorem fv156_2 (cs : List AV) (off : Nat) : afieldAddr Tryz.prog 156 (.vptr cs off) 2 = some (.vptr cs (off + 2)) := by kernel_rfl
theorem fl156_2 (cs : List AV) : afield Tryz.prog 156 (.agg cs) 2 = ldAt Tryz.prog 33 cs 2 := by kernel_rfl
theorem sz158 : szOf Tryz.prog 158 = some 2 := by kernel_rfl
theorem ag158 : aggB Tryz.prog 158 = some true := by kernel_rfl
theorem zv158 : zeroAV Tryz.prog 158 = some (.agg [.str [], .int .i64 0]) := by kernel_rfl
theorem fa158_0 (id off : Nat) : afieldAddr Tryz.prog 158 (.ptr id off) 0 = some (.ptr id (off + 0)) := by kernel_rfl
theorem fv158_0 (cs : List AV) (off : Nat) : afieldAddr Tryz.prog 158 (.vptr cs off) 0 = some (.vptr cs (off + 0)) := by kernel_rfl
theorem fl158_0 (cs : List AV) : afield Tryz.prog 158 (.agg cs) 0 = ldAt Tryz.prog 9 cs 0 := by kernel_rfl
theorem fa158_1 (id off : Nat) : afieldAddr Tryz.prog 158 (.ptr id off) 1 = some (.ptr id (off + 1)) := by kernel_rfl
theorem fv158_1 (cs : List AV) (off : Nat) : afieldAddr Tryz.prog 158 (.vptr cs off) 1 = some (.vptr cs (off + 1)) := by kernel_rfl
theorem fl158_1 (cs : List AV) : afield Tryz.prog 158 (.agg cs) 1 = ldAt Tryz.prog 3 cs 1 := by kernel_rfl
theorem sz192 : szOf Tryz.prog 192 = some 4 := by kernel_rfl
theorem ag192 : aggB Tryz.prog 192 = some true := by kernel_rfl
theorem zv192 : zeroAV Tryz.prog 192 = some (.agg [.int .i64 0, .str [], .int .i64 0, .int .i64 0]) := by kernel_rfl
theorem fa192_0 (id off : Nat) : afieldAddr Tryz.prog 192 (.ptr id off) 0 = some (.ptr id (off + 0)) := by kernel_rfl
theorem fv192_0 (cs : List AV) (off : Nat) : afieldAddr Tryz.prog 192 (.vptr cs off) 0 = some (.vptr cs (off + 0)) := by kernel_rfl
theorem fl192_0 (cs : List AV) : afield Tryz.prog 192 (.agg cs) 0 = ldAt Tryz.prog 3 cs 0 := by kernel_rfl
theorem fa192_1 (id off : Nat) : afieldAddr Tryz.prog 192 (.ptr id off) 1 = some (.ptr id (off + 1)) := by kernel_rfl
theorem fv192_1 (cs : List AV) (off : Nat) : afieldAddr Tryz.prog 192 (.vptr cs off) 1 = some (.vptr cs (off + 1)) := by kernel_rfl
theorem fl192_1 (cs : List AV) : afield Tryz.prog 192 (.agg cs) 1 = ldAt Tryz.prog 9 cs 1 := by kernel_rfl
theorem fa192_2 (id off : Nat) : afieldAddr Tryz.prog 192 (.ptr id off) 2 = some (.ptr id (off + 2)) := by kernel_rfl
theorem fv192_2 (cs : List AV) (off : Nat) : afieldAddr Tryz.prog 192 (.vptr cs off) 2 = some (.vptr cs (off + 2)) := by kernel_rfl
theorem fl192_2 (cs : List AV) : afield Tryz.prog 192 (.agg cs) 2 = ldAt Tryz.prog 3 cs 2 := by kernel_rfl
theorem fa192_3 (id off : Nat) : afieldAddr Tryz.prog 192 (.ptr id off) 3 = some (.ptr id (off + 3)) := by kernel_rfl
theorem fv192_3 (cs : List AV) (off : Nat) : afieldAddr Tryz.prog 192 (.vptr cs off) 3 = some (.vptr cs (off + 3)) := by kernel_rfl
theorem fl192_3 (cs : List AV) : afield Tryz.prog 192 (.agg cs) 3 = ldAt Tryz.prog 2 cs 3 := by kernel_rfl
theorem sz203 : szOf Tryz.prog 203 = some 1 := by kernel_rfl
theorem ag203 : aggB Tryz.prog 203 = some false := by kernel_rfl
theorem zv203 : zeroAV Tryz.prog 203 = some (.int .u64 0) := by kernel_rfl
theorem sz326 : szOf Tryz.prog 326 = some 1 := by kernel_rfl
theorem ag326 : aggB Tryz.prog 326 = some false := by kernel_rfl
theorem zv326 : zeroAV Tryz.prog 326 = some (.nilPtr) := by kernel_rfl
theorem sz341 : szOf Tryz.prog 341 = some 3 := by kernel_rfl
theorem ag341 : aggB Tryz.prog 341 = some true := by kernel_rfl
theorem zv341 : zeroAV Tryz.prog 341 = some (.agg [.str [], .str [], .nilIface]) := by kernel_rfl
theorem fa341_0 (id off : Nat) : afieldAddr Tryz.prog 341 (.ptr id off) 0 = some (.ptr id (off + 0)) := by kernel_rfl
theorem fv341_0 (cs : List AV) (off : Nat) : afieldAddr Tryz.prog 341 (.vptr cs off) 0 = some (.vptr cs (off + 0)) := by kernel_rfl
theorem fl341_0 (cs : List AV) : afield Tryz.prog 341 (.agg cs) 0 = ldAt Tryz.prog 9 cs 0 := by kernel_rfl
theorem fa341_1 (id off : Nat) : afieldAddr Tryz.prog 341 (.ptr id off) 1 = some (.ptr id (off + 1)) := by kernel_rfl
theorem fv341_1 (cs : List AV) (off : Nat) : afieldAddr Tryz.prog 341 (.vptr cs off) 1 = some (.vptr cs (off + 1)) := by kernel_rfl
theorem fl341_1 (cs : List AV) : afield Tryz.prog 341 (.agg cs) 1 = ldAt Tryz.prog 9 cs 1 := by kernel_rfl
theorem fa341_2 (id off : Nat) : afieldAddr Tryz.prog 341 (.ptr id off) 2 = some (.ptr id (off + 2)) := by kernel_rfl
theorem fv341_2 (cs : List AV) (off : Nat) : afieldAddr Tryz.prog 341 (.vptr cs off) 2 = some (.vptr cs (off + 2)) := by kernel_rfl
theorem fl341_2 (cs : List AV) : afield Tryz.prog 341 (.agg cs) 2 = ldAt Tryz.prog 33 cs 2 := by kernel_rfl
theorem go20 : goFn Tryz.prog 20 = true := by kernel_rfl
theorem go24 : goFn Tryz.prog 24 = true := by kernel_rfl
theorem go51 : goFn Tryz.prog 51 = true := by kernel_rfl
theorem go61 : goFn Tryz.prog 61 = true := by kernel_rfl
theorem go62 : goFn Tryz.prog 62 = true := by kernel_rfl
theorem go63 : goFn Tryz.prog 63 = true := by kernel_rfl
theorem go64 : goFn Tryz.prog 64 = true := by kernel_rfl
theorem go65 : goFn Tryz.prog 65 = true := by kernel_rfl
theorem go66 : goFn Tryz.prog 66 = true := by kernel_rfl
theorem go87 : goFn Tryz.prog 87 = true := by kernel_rfl
theorem go88 : goFn Tryz.prog 88 = true := by kernel_rfl
theorem go135 : goFn Tryz.prog 135 = true := by kernel_rfl
theorem go175 : goFn Tryz.prog 175 = true := by kernel_rfl
theorem go176 : goFn Tryz.prog 176 = true := by kernel_rfl
theorem go206 : goFn Tryz.prog 206 = true := by kernel_rfl
theorem go221 : goFn Tryz.prog 221 = true := by kernel_rfl
attribute [simp] sz2 ag2 zv2 Tryz.underlying2 sz3 ag3 zv3 Tryz.underlying3 sz4 ag4 zv4 Tryz.underlying4 sz5 ag5 zv5 Tryz.underlying5 sz9 ag9 zv9 Tryz.underlying9
attribute [simp] sz23 ag23 zv23 ec23 Tryz.underlying23 sz33 ag33 zv33 Tryz.underlying33 sz54 ag54 zv54 ec54 Tryz.underlying54 sz55 ag55 zv55 ec55 Tryz.underlying55 sz57
attribute [simp] ag57 zv57 fa57_0 fv57_0 fl57_0 fa57_1 fv57_1 fl57_1 Tryz.underlying57 sz125 ag125 zv125 ec125 Tryz.underlying125 sz134 ag134 zv134 Tryz.underlying134 sz144 ag144
attribute [simp] zv144 fa144_0 fv144_0 fl144_0 fa144_1 fv144_1 fl144_1 fa144_2 fv144_2 fl144_2 fa144_3 fv144_3 fl144_3 Tryz.underlying144 sz152 ag152 zv152 Tryz.underlying152 sz156 ag156
attribute [simp] zv156 fa156_0 fv156_0 fl156_0 fa156_1 fv156_1 fl156_1 fa156_2 fv156_2 fl156_2 Tryz.underlying156 sz158 ag158 zv158 fa158_0 fv158_0 fl158_0 fa158_1 fv158_1 fl158_1
attribute [simp] Tryz.underlying158 sz192 ag192 zv192 fa192_0 fv192_0 fl192_0 fa192_1 fv192_1 fl192_1 fa192_2 fv192_2 fl192_2 fa192_3 fv192_3 fl192_3 Tryz.underlying192 sz203 ag203 zv203
attribute [simp] Tryz.underlying203 sz326 ag326 zv326 Tryz.underlying326 sz341 ag341 zv341 fa341_0 fv341_0 fl341_0 fa341_1 fv341_1 fl341_1 fa341_2 fv341_2 fl341_2 Tryz.underlying341 go20 go24
attribute [simp] go51 go61 go62 go63 go64 go65 go66 go87 go88 go135 go175 go176 go206 go221
end Go.Proofs.YtejjlojfgcgopaaGreatDoor.Ty
