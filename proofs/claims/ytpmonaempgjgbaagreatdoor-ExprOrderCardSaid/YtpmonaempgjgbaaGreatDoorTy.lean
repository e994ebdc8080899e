/- Facts on the types of this program, and which functions are its own text. -/
import Derived.Test.YtpmonaempgjgbaaGreatDoorChecked
import Derived.Test.YtpmonaempgjgbaaGreatDoorFwG4
import Derived.KernelRfl
set_option linter.unusedSimpArgs false
set_option linter.unusedVariables false
namespace Go.Proofs.YtpmonaempgjgbaaGreatDoor.Ty
open Go.RowKit Go.Proofs.Fw
set_option maxRecDepth 100000
theorem sz2 : szOf Tryz.prog 2 = some 1 := by kernel_rfl
theorem ag2 : aggB Tryz.prog 2 = some false := by kernel_rfl
theorem zv2 : zeroAV Tryz.prog 2 = some (.int .i64 0) := by kernel_rfl
theorem sz3 : szOf Tryz.prog 3 = some 1 := by kernel_rfl
theorem ag3 : aggB Tryz.prog 3 = some false := by kernel_rfl
theorem zv3 : zeroAV Tryz.prog 3 = some (.int .i64 0) := by kernel_rfl
theorem sz4 : szOf Tryz.prog 4 = some 1 := by kernel_rfl
theorem ag4 : aggB Tryz.prog 4 = some false := by kernel_rfl
theorem zv4 : zeroAV Tryz.prog 4 = some (.bool false) := by kernel_rfl
theorem sz5 : szOf Tryz.prog 5 = some 1 := by kernel_rfl
theorem ag5 : aggB Tryz.prog 5 = some false := by kernel_rfl
theorem zv5 : zeroAV Tryz.prog 5 = some (.int .u8 0) := by kernel_rfl
theorem sz9 : szOf Tryz.prog 9 = some 1 := by kernel_rfl
theorem ag9 : aggB Tryz.prog 9 = some false := by kernel_rfl
theorem zv9 : zeroAV Tryz.prog 9 = some (.str []) := by kernel_rfl
theorem sz38 : szOf Tryz.prog 38 = some 1 := by kernel_rfl
theorem ag38 : aggB Tryz.prog 38 = some false := by kernel_rfl
theorem zv38 : zeroAV Tryz.prog 38 = some (.nilSlice) := by kernel_rfl
theorem ec38 : elemChk Tryz.prog 38 4 = true := by kernel_rfl
theorem sz39 : szOf Tryz.prog 39 = some 1 := by kernel_rfl
theorem ag39 : aggB Tryz.prog 39 = some false := by kernel_rfl
theorem zv39 : zeroAV Tryz.prog 39 = some (.nilSlice) := by kernel_rfl
theorem ec39 : elemChk Tryz.prog 39 2 = true := by kernel_rfl
theorem sz41 : szOf Tryz.prog 41 = some 2 := by kernel_rfl
theorem ag41 : aggB Tryz.prog 41 = some true := by kernel_rfl
theorem zv41 : zeroAV Tryz.prog 41 = some (.agg [.nilSlice, .int .i64 0]) := by kernel_rfl
theorem fa41_0 (id off : Nat) : afieldAddr Tryz.prog 41 (.ptr id off) 0 = some (.ptr id (off + 0)) := by kernel_rfl
theorem fv41_0 (cs : List AV) (off : Nat) : afieldAddr Tryz.prog 41 (.vptr cs off) 0 = some (.vptr cs (off + 0)) := by kernel_rfl
theorem fl41_0 (cs : List AV) : afield Tryz.prog 41 (.agg cs) 0 = ldAt Tryz.prog 39 cs 0 := by kernel_rfl
theorem fa41_1 (id off : Nat) : afieldAddr Tryz.prog 41 (.ptr id off) 1 = some (.ptr id (off + 1)) := by kernel_rfl
theorem fv41_1 (cs : List AV) (off : Nat) : afieldAddr Tryz.prog 41 (.vptr cs off) 1 = some (.vptr cs (off + 1)) := by kernel_rfl
theorem fl41_1 (cs : List AV) : afield Tryz.prog 41 (.agg cs) 1 = ldAt Tryz.prog 3 cs 1 := by kernel_rfl
theorem sz44 : szOf Tryz.prog 44 = some 1 := by kernel_rfl
theorem ag44 : aggB Tryz.prog 44 = some false := by kernel_rfl
theorem zv44 : zeroAV Tryz.prog 44 = some (.nilSlice) := by kernel_rfl
theorem ec44 : elemChk Tryz.prog 44 4 = true := by kernel_rfl
theorem sz50 : szOf Tryz.prog 50 = some 1 := by kernel_rfl
theorem ag50 : aggB Tryz.prog 50 = some false := by kernel_rfl
theorem zv50 : zeroAV Tryz.prog 50 = some (.nilIface) := by kernel_rfl
theorem sz76 : szOf Tryz.prog 76 = some 1 := by kernel_rfl
theorem ag76 : aggB Tryz.prog 76 = some false := by kernel_rfl
theorem zv76 : zeroAV Tryz.prog 76 = some (.nilSlice) := by kernel_rfl
theorem ec76 : elemChk Tryz.prog 76 1 = true := by kernel_rfl
theorem sz117 : szOf Tryz.prog 117 = some 4 := by kernel_rfl
theorem ag117 : aggB Tryz.prog 117 = some true := by kernel_rfl
theorem zv117 : zeroAV Tryz.prog 117 = some (.agg [.int .i64 0, .str [], .int .i64 0, .int .i64 0]) := by kernel_rfl
theorem fa117_0 (id off : Nat) : afieldAddr Tryz.prog 117 (.ptr id off) 0 = some (.ptr id (off + 0)) := by kernel_rfl
theorem fv117_0 (cs : List AV) (off : Nat) : afieldAddr Tryz.prog 117 (.vptr cs off) 0 = some (.vptr cs (off + 0)) := by kernel_rfl
theorem fl117_0 (cs : List AV) : afield Tryz.prog 117 (.agg cs) 0 = ldAt Tryz.prog 3 cs 0 := by kernel_rfl
theorem fa117_1 (id off : Nat) : afieldAddr Tryz.prog 117 (.ptr id off) 1 = some (.ptr id (off + 1)) := by kernel_rfl
theorem fv117_1 (cs : List AV) (off : Nat) : afieldAddr Tryz.prog 117 (.vptr cs off) 1 = some (.vptr cs (off + 1)) := by kernel_rfl
theorem fl117_1 (cs : List AV) : afield Tryz.prog 117 (.agg cs) 1 = ldAt Tryz.prog 9 cs 1 := by kernel_rfl
theorem fa117_2 (id off : Nat) : afieldAddr Tryz.prog 117 (.ptr id off) 2 = some (.ptr id (off + 2)) := by kernel_rfl
theorem fv117_2 (cs : List AV) (off : Nat) : afieldAddr Tryz.prog 117 (.vptr cs off) 2 = some (.vptr cs (off + 2)) := by kernel_rfl
theorem fl117_2 (cs : List AV) : afield Tryz.prog 117 (.agg cs) 2 = ldAt Tryz.prog 3 cs 2 := by kernel_rfl
theorem fa117_3 (id off : Nat) : afieldAddr Tryz.prog 117 (.ptr id off) 3 = some (.ptr id (off + 3)) := by kernel_rfl
theorem fv117_3 (cs : List AV) (off : Nat) : afieldAddr Tryz.prog 117 (.vptr cs off) 3 = some (.vptr cs (off + 3)) := by kernel_rfl
theorem fl117_3 (cs : List AV) : afield Tryz.prog 117 (.agg cs) 3 = ldAt Tryz.prog 2 cs 3 := by kernel_rfl
theorem sz121 : szOf Tryz.prog 121 = some 4 := by kernel_rfl
theorem ag121 : aggB Tryz.prog 121 = some true := by kernel_rfl
theorem zv121 : zeroAV Tryz.prog 121 = some (.agg [.int .i64 0, .str [], .int .i64 0, .int .i64 0]) := by kernel_rfl
theorem fa121_0 (id off : Nat) : afieldAddr Tryz.prog 121 (.ptr id off) 0 = some (.ptr id (off + 0)) := by kernel_rfl
theorem fv121_0 (cs : List AV) (off : Nat) : afieldAddr Tryz.prog 121 (.vptr cs off) 0 = some (.vptr cs (off + 0)) := by kernel_rfl
theorem fl121_0 (cs : List AV) : afield Tryz.prog 121 (.agg cs) 0 = ldAt Tryz.prog 3 cs 0 := by kernel_rfl
theorem fa121_1 (id off : Nat) : afieldAddr Tryz.prog 121 (.ptr id off) 1 = some (.ptr id (off + 1)) := by kernel_rfl
theorem fv121_1 (cs : List AV) (off : Nat) : afieldAddr Tryz.prog 121 (.vptr cs off) 1 = some (.vptr cs (off + 1)) := by kernel_rfl
theorem fl121_1 (cs : List AV) : afield Tryz.prog 121 (.agg cs) 1 = ldAt Tryz.prog 9 cs 1 := by kernel_rfl
theorem fa121_2 (id off : Nat) : afieldAddr Tryz.prog 121 (.ptr id off) 2 = some (.ptr id (off + 2)) := by kernel_rfl
theorem fv121_2 (cs : List AV) (off : Nat) : afieldAddr Tryz.prog 121 (.vptr cs off) 2 = some (.vptr cs (off + 2)) := by kernel_rfl
theorem fl121_2 (cs : List AV) : afield Tryz.prog 121 (.agg cs) 2 = ldAt Tryz.prog 3 cs 2 := by kernel_rfl
theorem fa121_3 (id off : Nat) : afieldAddr Tryz.prog 121 (.ptr id off) 3 = some (.ptr id (off + 3)) := by kernel_rfl
theorem fv121_3 (cs : List AV) (off : Nat) : afieldAddr Tryz.prog 121 (.vptr cs off) 3 = some (.vptr cs (off + 3)) := by kernel_rfl
theorem fl121_3 (cs : List AV) : afield Tryz.prog 121 (.agg cs) 3 = ldAt Tryz.prog 2 cs 3 := by kernel_rfl
theorem sz132 : szOf Tryz.prog 132 = some 1 := by kernel_rfl
theorem ag132 : aggB Tryz.prog 132 = some false := by kernel_rfl
theorem zv132 : zeroAV Tryz.prog 132 = some (.int .i64 0) := by kernel_rfl
theorem sz135 : szOf Tryz.prog 135 = some 1 := by kernel_rfl
theorem ag135 : aggB Tryz.prog 135 = some false := by kernel_rfl
theorem zv135 : zeroAV Tryz.prog 135 = some (.nilPtr) := by kernel_rfl
theorem sz139 : szOf Tryz.prog 139 = some 3 := by kernel_rfl
theorem ag139 : aggB Tryz.prog 139 = some true := by kernel_rfl
theorem zv139 : zeroAV Tryz.prog 139 = some (.agg [.str [], .int .i64 0, .nilIface]) := by kernel_rfl
theorem fa139_0 (id off : Nat) : afieldAddr Tryz.prog 139 (.ptr id off) 0 = some (.ptr id (off + 0)) := by kernel_rfl
theorem fv139_0 (cs : List AV) (off : Nat) : afieldAddr Tryz.prog 139 (.vptr cs off) 0 = some (.vptr cs (off + 0)) := by kernel_rfl
theorem fl139_0 (cs : List AV) : afield Tryz.prog 139 (.agg cs) 0 = ldAt Tryz.prog 9 cs 0 := by kernel_rfl
theorem fa139_1 (id off : Nat) : afieldAddr Tryz.prog 139 (.ptr id off) 1 = some (.ptr id (off + 1)) := by kernel_rfl
theorem fv139_1 (cs : List AV) (off : Nat) : afieldAddr Tryz.prog 139 (.vptr cs off) 1 = some (.vptr cs (off + 1)) := by kernel_rfl
theorem fl139_1 (cs : List AV) : afield Tryz.prog 139 (.agg cs) 1 = ldAt Tryz.prog 3 cs 1 := by kernel_rfl
theorem fa139_2 (id off : Nat) : afieldAddr Tryz.prog 139 (.ptr id off) 2 = some (.ptr id (off + 2)) := by kernel_rfl
theorem fv139_2 (cs : List AV) (off : Nat) : afieldAddr Tryz.prog 139 (.vptr cs off) 2 = some (.vptr cs (off + 2)) := by kernel_rfl
theorem fl139_2 (cs : List AV) : afield Tryz.prog 139 (.agg cs) 2 = ldAt Tryz.prog 50 cs 2 := by kernel_rfl
theorem sz141 : szOf Tryz.prog 141 = some 2 := by kernel_rfl
theorem ag141 : aggB Tryz.prog 141 = some true := by kernel_rfl
theorem zv141 : zeroAV Tryz.prog 141 = some (.agg [.str [], .int .i64 0]) := by kernel_rfl
theorem fa141_0 (id off : Nat) : afieldAddr Tryz.prog 141 (.ptr id off) 0 = some (.ptr id (off + 0)) := by kernel_rfl
theorem fv141_0 (cs : List AV) (off : Nat) : afieldAddr Tryz.prog 141 (.vptr cs off) 0 = some (.vptr cs (off + 0)) := by kernel_rfl
theorem fl141_0 (cs : List AV) : afield Tryz.prog 141 (.agg cs) 0 = ldAt Tryz.prog 9 cs 0 := by kernel_rfl
theorem fa141_1 (id off : Nat) : afieldAddr Tryz.prog 141 (.ptr id off) 1 = some (.ptr id (off + 1)) := by kernel_rfl
theorem fv141_1 (cs : List AV) (off : Nat) : afieldAddr Tryz.prog 141 (.vptr cs off) 1 = some (.vptr cs (off + 1)) := by kernel_rfl
theorem fl141_1 (cs : List AV) : afield Tryz.prog 141 (.agg cs) 1 = ldAt Tryz.prog 3 cs 1 := by kernel_rfl
theorem sz169 : szOf Tryz.prog 169 = some 1 := by kernel_rfl
theorem ag169 : aggB Tryz.prog 169 = some false := by kernel_rfl
theorem zv169 : zeroAV Tryz.prog 169 = some (.int .u64 0) := by kernel_rfl
theorem sz276 : szOf Tryz.prog 276 = some 1 := by kernel_rfl
theorem ag276 : aggB Tryz.prog 276 = some false := by kernel_rfl
theorem zv276 : zeroAV Tryz.prog 276 = some (.nilPtr) := by kernel_rfl
theorem sz296 : szOf Tryz.prog 296 = some 3 := by kernel_rfl
theorem ag296 : aggB Tryz.prog 296 = some true := by kernel_rfl
theorem zv296 : zeroAV Tryz.prog 296 = some (.agg [.str [], .str [], .nilIface]) := by kernel_rfl
theorem fa296_0 (id off : Nat) : afieldAddr Tryz.prog 296 (.ptr id off) 0 = some (.ptr id (off + 0)) := by kernel_rfl
theorem fv296_0 (cs : List AV) (off : Nat) : afieldAddr Tryz.prog 296 (.vptr cs off) 0 = some (.vptr cs (off + 0)) := by kernel_rfl
theorem fl296_0 (cs : List AV) : afield Tryz.prog 296 (.agg cs) 0 = ldAt Tryz.prog 9 cs 0 := by kernel_rfl
theorem fa296_1 (id off : Nat) : afieldAddr Tryz.prog 296 (.ptr id off) 1 = some (.ptr id (off + 1)) := by kernel_rfl
theorem fv296_1 (cs : List AV) (off : Nat) : afieldAddr Tryz.prog 296 (.vptr cs off) 1 = some (.vptr cs (off + 1)) := by kernel_rfl
theorem fl296_1 (cs : List AV) : afield Tryz.prog 296 (.agg cs) 1 = ldAt Tryz.prog 9 cs 1 := by kernel_rfl
theorem fa296_2 (id off : Nat) : afieldAddr Tryz.prog 296 (.ptr id off) 2 = some (.ptr id (off + 2)) := by kernel_rfl
theorem fv296_2 (cs : List AV) (off : Nat) : afieldAddr Tryz.prog 296 (.vptr cs off) 2 = some (.vptr cs (off + 2)) := by kernel_rfl
theorem fl296_2 (cs : List AV) : afield Tryz.prog 296 (.agg cs) 2 = ldAt Tryz.prog 50 cs 2 := by kernel_rfl
theorem go15 : goFn Tryz.prog 15 = true := by kernel_rfl
theorem go31 : goFn Tryz.prog 31 = true := by kernel_rfl
theorem go45 : goFn Tryz.prog 45 = true := by kernel_rfl
theorem go48 : goFn Tryz.prog 48 = true := by kernel_rfl
theorem go49 : goFn Tryz.prog 49 = true := by kernel_rfl
theorem go50 : goFn Tryz.prog 50 = true := by kernel_rfl
theorem go51 : goFn Tryz.prog 51 = true := by kernel_rfl
theorem go52 : goFn Tryz.prog 52 = true := by kernel_rfl
theorem go53 : goFn Tryz.prog 53 = true := by kernel_rfl
theorem go77 : goFn Tryz.prog 77 = true := by kernel_rfl
theorem go87 : goFn Tryz.prog 87 = true := by kernel_rfl
theorem go117 : goFn Tryz.prog 117 = true := by kernel_rfl
theorem go145 : goFn Tryz.prog 145 = true := by kernel_rfl
theorem go146 : goFn Tryz.prog 146 = true := by kernel_rfl
theorem go169 : goFn Tryz.prog 169 = true := by kernel_rfl
theorem go183 : goFn Tryz.prog 183 = true := by kernel_rfl
attribute [simp] sz2 ag2 zv2 Tryz.underlying2 sz3 ag3 zv3 Tryz.underlying3 sz4 ag4 zv4 Tryz.underlying4 sz5 ag5 zv5 Tryz.underlying5 sz9 ag9 zv9 Tryz.underlying9
attribute [simp] sz38 ag38 zv38 ec38 Tryz.underlying38 sz39 ag39 zv39 ec39 Tryz.underlying39 sz41 ag41 zv41 fa41_0 fv41_0 fl41_0 fa41_1 fv41_1 fl41_1 Tryz.underlying41
attribute [simp] sz44 ag44 zv44 ec44 Tryz.underlying44 sz50 ag50 zv50 Tryz.underlying50 sz76 ag76 zv76 ec76 Tryz.underlying76 sz117 ag117 zv117 fa117_0 fv117_0 fl117_0
attribute [simp] fa117_1 fv117_1 fl117_1 fa117_2 fv117_2 fl117_2 fa117_3 fv117_3 fl117_3 Tryz.underlying117 sz121 ag121 zv121 fa121_0 fv121_0 fl121_0 fa121_1 fv121_1 fl121_1 fa121_2
attribute [simp] fv121_2 fl121_2 fa121_3 fv121_3 fl121_3 Tryz.underlying121 sz132 ag132 zv132 Tryz.underlying132 sz135 ag135 zv135 Tryz.underlying135 sz139 ag139 zv139 fa139_0 fv139_0 fl139_0
attribute [simp] fa139_1 fv139_1 fl139_1 fa139_2 fv139_2 fl139_2 Tryz.underlying139 sz141 ag141 zv141 fa141_0 fv141_0 fl141_0 fa141_1 fv141_1 fl141_1 Tryz.underlying141 sz169 ag169 zv169
attribute [simp] Tryz.underlying169 sz276 ag276 zv276 Tryz.underlying276 sz296 ag296 zv296 fa296_0 fv296_0 fl296_0 fa296_1 fv296_1 fl296_1 fa296_2 fv296_2 fl296_2 Tryz.underlying296 go15 go31
attribute [simp] go45 go48 go49 go50 go51 go52 go53 go77 go87 go117 go145 go146 go169 go183
end Go.Proofs.YtpmonaempgjgbaaGreatDoor.Ty
