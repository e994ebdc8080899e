/- Facts on the types of this program, and which functions are its own text. Facts on the types of this program, and which functions are its own text. -/
import Derived.Test.YtejjlojfgcgopaaGreatDoorStB
set_option linter.unusedSimpArgs false
set_option linter.unusedVariables false
namespace Go.Proofs.YtejjlojfgcgopaaGreatDoor.Tq
open Go.RowKit Go.Proofs.Fw
set_option maxRecDepth 100000
theorem sz65 : szOf Tryz.prog 65 = some 1 := by kernel_rfl
theorem ag65 : aggB Tryz.prog 65 = some false := by kernel_rfl
theorem zv65 : zeroAV Tryz.prog 65 = some (.int .u32 0) := by kernel_rfl
theorem go3 : goFn Tryz.prog 3 = true := by kernel_rfl
theorem go5 : goFn Tryz.prog 5 = true := by kernel_rfl
theorem go15 : goFn Tryz.prog 15 = true := by kernel_rfl
theorem go49 : goFn Tryz.prog 49 = true := by kernel_rfl
attribute [simp] sz65 ag65 zv65 Tryz.underlying65 go3 go5 go15 go49
end Go.Proofs.YtejjlojfgcgopaaGreatDoor.Tq

namespace Go.Proofs.YtejjlojfgcgopaaGreatDoor.Tv
open Go.RowKit Go.Proofs.Fw
set_option maxRecDepth 100000
theorem sz39 : szOf Tryz.prog 39 = some 1 := by kernel_rfl
theorem ag39 : aggB Tryz.prog 39 = some false := by kernel_rfl
theorem zv39 : zeroAV Tryz.prog 39 = some (.nilSlice) := by kernel_rfl
theorem ec39 : elemChk Tryz.prog 39 2 = true := by kernel_rfl
theorem sz46 : szOf Tryz.prog 46 = some 29 := by kernel_rfl
theorem ag46 : aggB Tryz.prog 46 = some true := by kernel_rfl
theorem zv46 : zeroAV Tryz.prog 46 = some (.agg [.int .i64 0, .nilSlice, .int .i64 0, .int .i64 0, .str [], .nilSlice, .int .i64 0, .int .i64 0, .str [], .nilSlice, .str [], .int .i64 0, .int .i64 0, .str [], .nilSlice, .int .i64 0, .int .i64 0, .str [], .nilSlice, .str [], .int .i64 0, .int .i64 0, .str [], .nilSlice, .int .i64 0, .int .i64 0, .str [], .nilSlice, .int .i64 0]) := by kernel_rfl
theorem fa46_0 (id off : Nat) : afieldAddr Tryz.prog 46 (.ptr id off) 0 = some (.ptr id (off + 0)) := by kernel_rfl
theorem fv46_0 (cs : List AV) (off : Nat) : afieldAddr Tryz.prog 46 (.vptr cs off) 0 = some (.vptr cs (off + 0)) := by kernel_rfl
theorem fl46_0 (cs : List AV) : afield Tryz.prog 46 (.agg cs) 0 = ldAt Tryz.prog 3 cs 0 := by kernel_rfl
theorem fa46_1 (id off : Nat) : afieldAddr Tryz.prog 46 (.ptr id off) 1 = some (.ptr id (off + 1)) := by kernel_rfl
theorem fv46_1 (cs : List AV) (off : Nat) : afieldAddr Tryz.prog 46 (.vptr cs off) 1 = some (.vptr cs (off + 1)) := by kernel_rfl
theorem fl46_1 (cs : List AV) : afield Tryz.prog 46 (.agg cs) 1 = ldAt Tryz.prog 39 cs 1 := by kernel_rfl
theorem fa46_2 (id off : Nat) : afieldAddr Tryz.prog 46 (.ptr id off) 2 = some (.ptr id (off + 2)) := by kernel_rfl
theorem fv46_2 (cs : List AV) (off : Nat) : afieldAddr Tryz.prog 46 (.vptr cs off) 2 = some (.vptr cs (off + 2)) := by kernel_rfl
theorem fl46_2 (cs : List AV) : afield Tryz.prog 46 (.agg cs) 2 = ldAt Tryz.prog 42 cs 2 := by kernel_rfl
theorem fa46_3 (id off : Nat) : afieldAddr Tryz.prog 46 (.ptr id off) 3 = some (.ptr id (off + 6)) := by kernel_rfl
theorem fv46_3 (cs : List AV) (off : Nat) : afieldAddr Tryz.prog 46 (.vptr cs off) 3 = some (.vptr cs (off + 6)) := by kernel_rfl
theorem fl46_3 (cs : List AV) : afield Tryz.prog 46 (.agg cs) 3 = ldAt Tryz.prog 42 cs 6 := by kernel_rfl
theorem fa46_4 (id off : Nat) : afieldAddr Tryz.prog 46 (.ptr id off) 4 = some (.ptr id (off + 10)) := by kernel_rfl
theorem fv46_4 (cs : List AV) (off : Nat) : afieldAddr Tryz.prog 46 (.vptr cs off) 4 = some (.vptr cs (off + 10)) := by kernel_rfl
theorem fl46_4 (cs : List AV) : afield Tryz.prog 46 (.agg cs) 4 = ldAt Tryz.prog 44 cs 10 := by kernel_rfl
theorem fa46_5 (id off : Nat) : afieldAddr Tryz.prog 46 (.ptr id off) 5 = some (.ptr id (off + 19)) := by kernel_rfl
theorem fv46_5 (cs : List AV) (off : Nat) : afieldAddr Tryz.prog 46 (.vptr cs off) 5 = some (.vptr cs (off + 19)) := by kernel_rfl
theorem fl46_5 (cs : List AV) : afield Tryz.prog 46 (.agg cs) 5 = ldAt Tryz.prog 9 cs 19 := by kernel_rfl
theorem fa46_6 (id off : Nat) : afieldAddr Tryz.prog 46 (.ptr id off) 6 = some (.ptr id (off + 20)) := by kernel_rfl
theorem fv46_6 (cs : List AV) (off : Nat) : afieldAddr Tryz.prog 46 (.vptr cs off) 6 = some (.vptr cs (off + 20)) := by kernel_rfl
theorem fl46_6 (cs : List AV) : afield Tryz.prog 46 (.agg cs) 6 = ldAt Tryz.prog 42 cs 20 := by kernel_rfl
theorem fa46_7 (id off : Nat) : afieldAddr Tryz.prog 46 (.ptr id off) 7 = some (.ptr id (off + 24)) := by kernel_rfl
theorem fv46_7 (cs : List AV) (off : Nat) : afieldAddr Tryz.prog 46 (.vptr cs off) 7 = some (.vptr cs (off + 24)) := by kernel_rfl
theorem fl46_7 (cs : List AV) : afield Tryz.prog 46 (.agg cs) 7 = ldAt Tryz.prog 42 cs 24 := by kernel_rfl
theorem fa46_8 (id off : Nat) : afieldAddr Tryz.prog 46 (.ptr id off) 8 = some (.ptr id (off + 28)) := by kernel_rfl
theorem fv46_8 (cs : List AV) (off : Nat) : afieldAddr Tryz.prog 46 (.vptr cs off) 8 = some (.vptr cs (off + 28)) := by kernel_rfl
theorem fl46_8 (cs : List AV) : afield Tryz.prog 46 (.agg cs) 8 = ldAt Tryz.prog 2 cs 28 := by kernel_rfl
theorem sz51 : szOf Tryz.prog 51 = some 2 := by kernel_rfl
theorem ag51 : aggB Tryz.prog 51 = some true := by kernel_rfl
theorem zv51 : zeroAV Tryz.prog 51 = some (.agg [.str [], .nilSlice]) := by kernel_rfl
theorem fa51_0 (id off : Nat) : afieldAddr Tryz.prog 51 (.ptr id off) 0 = some (.ptr id (off + 0)) := by kernel_rfl
theorem fv51_0 (cs : List AV) (off : Nat) : afieldAddr Tryz.prog 51 (.vptr cs off) 0 = some (.vptr cs (off + 0)) := by kernel_rfl
theorem fl51_0 (cs : List AV) : afield Tryz.prog 51 (.agg cs) 0 = ldAt Tryz.prog 9 cs 0 := by kernel_rfl
theorem fa51_1 (id off : Nat) : afieldAddr Tryz.prog 51 (.ptr id off) 1 = some (.ptr id (off + 1)) := by kernel_rfl
theorem fv51_1 (cs : List AV) (off : Nat) : afieldAddr Tryz.prog 51 (.vptr cs off) 1 = some (.vptr cs (off + 1)) := by kernel_rfl
theorem fl51_1 (cs : List AV) : afield Tryz.prog 51 (.agg cs) 1 = ldAt Tryz.prog 49 cs 1 := by kernel_rfl
theorem sz227 : szOf Tryz.prog 227 = some 1 := by kernel_rfl
theorem ag227 : aggB Tryz.prog 227 = some false := by kernel_rfl
theorem zv227 : zeroAV Tryz.prog 227 = some (.nilPtr) := by kernel_rfl
theorem sz229 : szOf Tryz.prog 229 = some 4 := by kernel_rfl
theorem ag229 : aggB Tryz.prog 229 = some true := by kernel_rfl
theorem zv229 : zeroAV Tryz.prog 229 = some (.agg [.nilSlice, .int .i64 0, .nilSlice, .int .i64 0]) := by kernel_rfl
theorem fa229_0 (id off : Nat) : afieldAddr Tryz.prog 229 (.ptr id off) 0 = some (.ptr id (off + 0)) := by kernel_rfl
theorem fv229_0 (cs : List AV) (off : Nat) : afieldAddr Tryz.prog 229 (.vptr cs off) 0 = some (.vptr cs (off + 0)) := by kernel_rfl
theorem fl229_0 (cs : List AV) : afield Tryz.prog 229 (.agg cs) 0 = ldAt Tryz.prog 54 cs 0 := by kernel_rfl
theorem fa229_1 (id off : Nat) : afieldAddr Tryz.prog 229 (.ptr id off) 1 = some (.ptr id (off + 1)) := by kernel_rfl
theorem fv229_1 (cs : List AV) (off : Nat) : afieldAddr Tryz.prog 229 (.vptr cs off) 1 = some (.vptr cs (off + 1)) := by kernel_rfl
theorem fl229_1 (cs : List AV) : afield Tryz.prog 229 (.agg cs) 1 = ldAt Tryz.prog 3 cs 1 := by kernel_rfl
theorem fa229_2 (id off : Nat) : afieldAddr Tryz.prog 229 (.ptr id off) 2 = some (.ptr id (off + 2)) := by kernel_rfl
theorem fv229_2 (cs : List AV) (off : Nat) : afieldAddr Tryz.prog 229 (.vptr cs off) 2 = some (.vptr cs (off + 2)) := by kernel_rfl
theorem fl229_2 (cs : List AV) : afield Tryz.prog 229 (.agg cs) 2 = ldAt Tryz.prog 57 cs 2 := by kernel_rfl
theorem go76 : goFn Tryz.prog 76 = true := by kernel_rfl
theorem go85 : goFn Tryz.prog 85 = true := by kernel_rfl
theorem go86 : goFn Tryz.prog 86 = true := by kernel_rfl
theorem go116 : goFn Tryz.prog 116 = true := by kernel_rfl
theorem go117 : goFn Tryz.prog 117 = true := by kernel_rfl
theorem go118 : goFn Tryz.prog 118 = true := by kernel_rfl
theorem go119 : goFn Tryz.prog 119 = true := by kernel_rfl
theorem go120 : goFn Tryz.prog 120 = true := by kernel_rfl
theorem go121 : goFn Tryz.prog 121 = true := by kernel_rfl
theorem go129 : goFn Tryz.prog 129 = true := by kernel_rfl
theorem go130 : goFn Tryz.prog 130 = true := by kernel_rfl
theorem go162 : goFn Tryz.prog 162 = true := by kernel_rfl
theorem go163 : goFn Tryz.prog 163 = true := by kernel_rfl
theorem go164 : goFn Tryz.prog 164 = true := by kernel_rfl
theorem go166 : goFn Tryz.prog 166 = true := by kernel_rfl
theorem go167 : goFn Tryz.prog 167 = true := by kernel_rfl
theorem go171 : goFn Tryz.prog 171 = true := by kernel_rfl
theorem go190 : goFn Tryz.prog 190 = true := by kernel_rfl
theorem go191 : goFn Tryz.prog 191 = true := by kernel_rfl
theorem go192 : goFn Tryz.prog 192 = true := by kernel_rfl
attribute [simp] sz39 ag39 zv39 ec39 Tryz.underlying39 sz46 ag46 zv46 fa46_0 fv46_0 fl46_0 fa46_1 fv46_1 fl46_1 fa46_2 fv46_2 fl46_2 fa46_3 fv46_3 fl46_3
attribute [simp] fa46_4 fv46_4 fl46_4 fa46_5 fv46_5 fl46_5 fa46_6 fv46_6 fl46_6 fa46_7 fv46_7 fl46_7 fa46_8 fv46_8 fl46_8 Tryz.underlying46 sz51 ag51 zv51 fa51_0
attribute [simp] fv51_0 fl51_0 fa51_1 fv51_1 fl51_1 Tryz.underlying51 sz227 ag227 zv227 Tryz.underlying227 sz229 ag229 zv229 fa229_0 fv229_0 fl229_0 fa229_1 fv229_1 fl229_1 fa229_2
attribute [simp] fv229_2 fl229_2 Tryz.underlying229 go76 go85 go86 go116 go117 go118 go119 go120 go121 go129 go130 go162 go163 go164 go166 go167 go171
attribute [simp] go190 go191 go192
end Go.Proofs.YtejjlojfgcgopaaGreatDoor.Tv
