/- Facts on the types of this program, and which functions are its own text. -/
import Derived.Test.YtejjlojfgcgopaaGreatDoorTx
set_option linter.unusedSimpArgs false
set_option linter.unusedVariables false
namespace Go.Proofs.YtejjlojfgcgopaaGreatDoor.Tu
open Go.RowKit Go.Proofs.Fw
set_option maxRecDepth 100000
theorem sz49 : szOf Tryz.prog 49 = some 1 := by kernel_rfl
theorem ag49 : aggB Tryz.prog 49 = some false := by kernel_rfl
theorem zv49 : zeroAV Tryz.prog 49 = some (.nilSlice) := by kernel_rfl
theorem ec49 : elemChk Tryz.prog 49 1 = true := by kernel_rfl
theorem sz80 : szOf Tryz.prog 80 = some 2 := by kernel_rfl
theorem ag80 : aggB Tryz.prog 80 = some true := by kernel_rfl
theorem zv80 : zeroAV Tryz.prog 80 = some (.agg [.nilSlice, .int .i64 0]) := by kernel_rfl
theorem fa80_0 (id off : Nat) : afieldAddr Tryz.prog 80 (.ptr id off) 0 = some (.ptr id (off + 0)) := by kernel_rfl
theorem fv80_0 (cs : List AV) (off : Nat) : afieldAddr Tryz.prog 80 (.vptr cs off) 0 = some (.vptr cs (off + 0)) := by kernel_rfl
theorem fl80_0 (cs : List AV) : afield Tryz.prog 80 (.agg cs) 0 = ldAt Tryz.prog 78 cs 0 := by kernel_rfl
theorem fa80_1 (id off : Nat) : afieldAddr Tryz.prog 80 (.ptr id off) 1 = some (.ptr id (off + 1)) := by kernel_rfl
theorem fv80_1 (cs : List AV) (off : Nat) : afieldAddr Tryz.prog 80 (.vptr cs off) 1 = some (.vptr cs (off + 1)) := by kernel_rfl
theorem fl80_1 (cs : List AV) : afield Tryz.prog 80 (.agg cs) 1 = ldAt Tryz.prog 2 cs 1 := by kernel_rfl
theorem sz89 : szOf Tryz.prog 89 = some 4 := by kernel_rfl
theorem ag89 : aggB Tryz.prog 89 = some true := by kernel_rfl
theorem zv89 : zeroAV Tryz.prog 89 = some (.agg [.str [], .nilSlice, .int .i64 0, .int .i64 0]) := by kernel_rfl
theorem fa89_0 (id off : Nat) : afieldAddr Tryz.prog 89 (.ptr id off) 0 = some (.ptr id (off + 0)) := by kernel_rfl
theorem fv89_0 (cs : List AV) (off : Nat) : afieldAddr Tryz.prog 89 (.vptr cs off) 0 = some (.vptr cs (off + 0)) := by kernel_rfl
theorem fl89_0 (cs : List AV) : afield Tryz.prog 89 (.agg cs) 0 = ldAt Tryz.prog 9 cs 0 := by kernel_rfl
theorem fa89_1 (id off : Nat) : afieldAddr Tryz.prog 89 (.ptr id off) 1 = some (.ptr id (off + 1)) := by kernel_rfl
theorem fv89_1 (cs : List AV) (off : Nat) : afieldAddr Tryz.prog 89 (.vptr cs off) 1 = some (.vptr cs (off + 1)) := by kernel_rfl
theorem fl89_1 (cs : List AV) : afield Tryz.prog 89 (.agg cs) 1 = ldAt Tryz.prog 49 cs 1 := by kernel_rfl
theorem fa89_2 (id off : Nat) : afieldAddr Tryz.prog 89 (.ptr id off) 2 = some (.ptr id (off + 2)) := by kernel_rfl
theorem fv89_2 (cs : List AV) (off : Nat) : afieldAddr Tryz.prog 89 (.vptr cs off) 2 = some (.vptr cs (off + 2)) := by kernel_rfl
theorem fl89_2 (cs : List AV) : afield Tryz.prog 89 (.agg cs) 2 = ldAt Tryz.prog 3 cs 2 := by kernel_rfl
theorem fa89_3 (id off : Nat) : afieldAddr Tryz.prog 89 (.ptr id off) 3 = some (.ptr id (off + 3)) := by kernel_rfl
theorem fv89_3 (cs : List AV) (off : Nat) : afieldAddr Tryz.prog 89 (.vptr cs off) 3 = some (.vptr cs (off + 3)) := by kernel_rfl
theorem fl89_3 (cs : List AV) : afield Tryz.prog 89 (.agg cs) 3 = ldAt Tryz.prog 2 cs 3 := by kernel_rfl
theorem sz96 : szOf Tryz.prog 96 = some 1 := by kernel_rfl
theorem ag96 : aggB Tryz.prog 96 = some false := by kernel_rfl
theorem zv96 : zeroAV Tryz.prog 96 = some (.int .u64 0) := by kernel_rfl
theorem sz139 : szOf Tryz.prog 139 = some 1 := by kernel_rfl
theorem ag139 : aggB Tryz.prog 139 = some false := by kernel_rfl
theorem zv139 : zeroAV Tryz.prog 139 = some (.nilSlice) := by kernel_rfl
theorem ec139 : elemChk Tryz.prog 139 1 = true := by kernel_rfl
theorem sz201 : szOf Tryz.prog 201 = some 1 := by kernel_rfl
theorem ag201 : aggB Tryz.prog 201 = some false := by kernel_rfl
theorem zv201 : zeroAV Tryz.prog 201 = some (.nilMap) := by kernel_rfl
theorem go18 : goFn Tryz.prog 18 = true := by kernel_rfl
theorem go23 : goFn Tryz.prog 23 = true := by kernel_rfl
theorem go56 : goFn Tryz.prog 56 = true := by kernel_rfl
theorem go58 : goFn Tryz.prog 58 = true := by kernel_rfl
theorem go59 : goFn Tryz.prog 59 = true := by kernel_rfl
theorem go67 : goFn Tryz.prog 67 = true := by kernel_rfl
theorem go69 : goFn Tryz.prog 69 = true := by kernel_rfl
theorem go93 : goFn Tryz.prog 93 = true := by kernel_rfl
theorem go94 : goFn Tryz.prog 94 = true := by kernel_rfl
theorem go95 : goFn Tryz.prog 95 = true := by kernel_rfl
theorem go96 : goFn Tryz.prog 96 = true := by kernel_rfl
theorem go98 : goFn Tryz.prog 98 = true := by kernel_rfl
theorem go99 : goFn Tryz.prog 99 = true := by kernel_rfl
theorem go100 : goFn Tryz.prog 100 = true := by kernel_rfl
attribute [simp] sz49 ag49 zv49 ec49 Tryz.underlying49 sz80 ag80 zv80 fa80_0 fv80_0 fl80_0 fa80_1 fv80_1 fl80_1 Tryz.underlying80 sz89 ag89 zv89 fa89_0 fv89_0
attribute [simp] fl89_0 fa89_1 fv89_1 fl89_1 fa89_2 fv89_2 fl89_2 fa89_3 fv89_3 fl89_3 Tryz.underlying89 sz96 ag96 zv96 Tryz.underlying96 sz139 ag139 zv139 ec139 Tryz.underlying139
attribute [simp] sz201 ag201 zv201 Tryz.underlying201 go18 go23 go56 go58 go59 go67 go69 go93 go94 go95 go96 go98 go99 go100
end Go.Proofs.YtejjlojfgcgopaaGreatDoor.Tu
