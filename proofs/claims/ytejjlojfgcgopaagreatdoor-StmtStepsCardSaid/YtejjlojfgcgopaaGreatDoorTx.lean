/- Facts on the types of this program, and which functions are its own text. -/
import Derived.Test.YtejjlojfgcgopaaGreatDoorTw
set_option linter.unusedSimpArgs false
set_option linter.unusedVariables false
namespace Go.Proofs.YtejjlojfgcgopaaGreatDoor.Tx
open Go.RowKit Go.Proofs.Fw
set_option maxRecDepth 100000
theorem sz25 : szOf Tryz.prog 25 = some 1 := by kernel_rfl
theorem ag25 : aggB Tryz.prog 25 = some false := by kernel_rfl
theorem zv25 : zeroAV Tryz.prog 25 = some (.nilSlice) := by kernel_rfl
theorem ec25 : elemChk Tryz.prog 25 4 = true := by kernel_rfl
theorem sz27 : szOf Tryz.prog 27 = some 4 := by kernel_rfl
theorem ag27 : aggB Tryz.prog 27 = some true := by kernel_rfl
theorem zv27 : zeroAV Tryz.prog 27 = some (.agg [.int .i64 0, .int .i64 0, .str [], .nilSlice]) := by kernel_rfl
theorem fa27_0 (id off : Nat) : afieldAddr Tryz.prog 27 (.ptr id off) 0 = some (.ptr id (off + 0)) := by kernel_rfl
theorem fv27_0 (cs : List AV) (off : Nat) : afieldAddr Tryz.prog 27 (.vptr cs off) 0 = some (.vptr cs (off + 0)) := by kernel_rfl
theorem fl27_0 (cs : List AV) : afield Tryz.prog 27 (.agg cs) 0 = ldAt Tryz.prog 3 cs 0 := by kernel_rfl
theorem fa27_1 (id off : Nat) : afieldAddr Tryz.prog 27 (.ptr id off) 1 = some (.ptr id (off + 1)) := by kernel_rfl
theorem fv27_1 (cs : List AV) (off : Nat) : afieldAddr Tryz.prog 27 (.vptr cs off) 1 = some (.vptr cs (off + 1)) := by kernel_rfl
theorem fl27_1 (cs : List AV) : afield Tryz.prog 27 (.agg cs) 1 = ldAt Tryz.prog 2 cs 1 := by kernel_rfl
theorem fa27_2 (id off : Nat) : afieldAddr Tryz.prog 27 (.ptr id off) 2 = some (.ptr id (off + 2)) := by kernel_rfl
theorem fv27_2 (cs : List AV) (off : Nat) : afieldAddr Tryz.prog 27 (.vptr cs off) 2 = some (.vptr cs (off + 2)) := by kernel_rfl
theorem fl27_2 (cs : List AV) : afield Tryz.prog 27 (.agg cs) 2 = ldAt Tryz.prog 9 cs 2 := by kernel_rfl
theorem fa27_3 (id off : Nat) : afieldAddr Tryz.prog 27 (.ptr id off) 3 = some (.ptr id (off + 3)) := by kernel_rfl
theorem fv27_3 (cs : List AV) (off : Nat) : afieldAddr Tryz.prog 27 (.vptr cs off) 3 = some (.vptr cs (off + 3)) := by kernel_rfl
theorem fl27_3 (cs : List AV) : afield Tryz.prog 27 (.agg cs) 3 = ldAt Tryz.prog 25 cs 3 := by kernel_rfl
theorem sz29 : szOf Tryz.prog 29 = some 9 := by kernel_rfl
theorem ag29 : aggB Tryz.prog 29 = some true := by kernel_rfl
theorem zv29 : zeroAV Tryz.prog 29 = some (.agg [.str [], .int .i64 0, .int .i64 0, .str [], .nilSlice, .int .i64 0, .int .i64 0, .str [], .nilSlice]) := by kernel_rfl
theorem fa29_0 (id off : Nat) : afieldAddr Tryz.prog 29 (.ptr id off) 0 = some (.ptr id (off + 0)) := by kernel_rfl
theorem fv29_0 (cs : List AV) (off : Nat) : afieldAddr Tryz.prog 29 (.vptr cs off) 0 = some (.vptr cs (off + 0)) := by kernel_rfl
theorem fl29_0 (cs : List AV) : afield Tryz.prog 29 (.agg cs) 0 = ldAt Tryz.prog 9 cs 0 := by kernel_rfl
theorem fa29_1 (id off : Nat) : afieldAddr Tryz.prog 29 (.ptr id off) 1 = some (.ptr id (off + 1)) := by kernel_rfl
theorem fv29_1 (cs : List AV) (off : Nat) : afieldAddr Tryz.prog 29 (.vptr cs off) 1 = some (.vptr cs (off + 1)) := by kernel_rfl
theorem fl29_1 (cs : List AV) : afield Tryz.prog 29 (.agg cs) 1 = ldAt Tryz.prog 27 cs 1 := by kernel_rfl
theorem fa29_2 (id off : Nat) : afieldAddr Tryz.prog 29 (.ptr id off) 2 = some (.ptr id (off + 5)) := by kernel_rfl
theorem fv29_2 (cs : List AV) (off : Nat) : afieldAddr Tryz.prog 29 (.vptr cs off) 2 = some (.vptr cs (off + 5)) := by kernel_rfl
theorem fl29_2 (cs : List AV) : afield Tryz.prog 29 (.agg cs) 2 = ldAt Tryz.prog 27 cs 5 := by kernel_rfl
theorem sz40 : szOf Tryz.prog 40 = some 1 := by kernel_rfl
theorem ag40 : aggB Tryz.prog 40 = some false := by kernel_rfl
theorem zv40 : zeroAV Tryz.prog 40 = some (.nilSlice) := by kernel_rfl
theorem ec40 : elemChk Tryz.prog 40 4 = true := by kernel_rfl
theorem sz42 : szOf Tryz.prog 42 = some 4 := by kernel_rfl
theorem ag42 : aggB Tryz.prog 42 = some true := by kernel_rfl
theorem zv42 : zeroAV Tryz.prog 42 = some (.agg [.int .i64 0, .int .i64 0, .str [], .nilSlice]) := by kernel_rfl
theorem fa42_0 (id off : Nat) : afieldAddr Tryz.prog 42 (.ptr id off) 0 = some (.ptr id (off + 0)) := by kernel_rfl
theorem fv42_0 (cs : List AV) (off : Nat) : afieldAddr Tryz.prog 42 (.vptr cs off) 0 = some (.vptr cs (off + 0)) := by kernel_rfl
theorem fl42_0 (cs : List AV) : afield Tryz.prog 42 (.agg cs) 0 = ldAt Tryz.prog 3 cs 0 := by kernel_rfl
theorem fa42_1 (id off : Nat) : afieldAddr Tryz.prog 42 (.ptr id off) 1 = some (.ptr id (off + 1)) := by kernel_rfl
theorem fv42_1 (cs : List AV) (off : Nat) : afieldAddr Tryz.prog 42 (.vptr cs off) 1 = some (.vptr cs (off + 1)) := by kernel_rfl
theorem fl42_1 (cs : List AV) : afield Tryz.prog 42 (.agg cs) 1 = ldAt Tryz.prog 2 cs 1 := by kernel_rfl
theorem fa42_2 (id off : Nat) : afieldAddr Tryz.prog 42 (.ptr id off) 2 = some (.ptr id (off + 2)) := by kernel_rfl
theorem fv42_2 (cs : List AV) (off : Nat) : afieldAddr Tryz.prog 42 (.vptr cs off) 2 = some (.vptr cs (off + 2)) := by kernel_rfl
theorem fl42_2 (cs : List AV) : afield Tryz.prog 42 (.agg cs) 2 = ldAt Tryz.prog 9 cs 2 := by kernel_rfl
theorem fa42_3 (id off : Nat) : afieldAddr Tryz.prog 42 (.ptr id off) 3 = some (.ptr id (off + 3)) := by kernel_rfl
theorem fv42_3 (cs : List AV) (off : Nat) : afieldAddr Tryz.prog 42 (.vptr cs off) 3 = some (.vptr cs (off + 3)) := by kernel_rfl
theorem fl42_3 (cs : List AV) : afield Tryz.prog 42 (.agg cs) 3 = ldAt Tryz.prog 40 cs 3 := by kernel_rfl
theorem sz44 : szOf Tryz.prog 44 = some 9 := by kernel_rfl
theorem ag44 : aggB Tryz.prog 44 = some true := by kernel_rfl
theorem zv44 : zeroAV Tryz.prog 44 = some (.agg [.str [], .int .i64 0, .int .i64 0, .str [], .nilSlice, .int .i64 0, .int .i64 0, .str [], .nilSlice]) := by kernel_rfl
theorem fa44_0 (id off : Nat) : afieldAddr Tryz.prog 44 (.ptr id off) 0 = some (.ptr id (off + 0)) := by kernel_rfl
theorem fv44_0 (cs : List AV) (off : Nat) : afieldAddr Tryz.prog 44 (.vptr cs off) 0 = some (.vptr cs (off + 0)) := by kernel_rfl
theorem fl44_0 (cs : List AV) : afield Tryz.prog 44 (.agg cs) 0 = ldAt Tryz.prog 9 cs 0 := by kernel_rfl
theorem fa44_1 (id off : Nat) : afieldAddr Tryz.prog 44 (.ptr id off) 1 = some (.ptr id (off + 1)) := by kernel_rfl
theorem fv44_1 (cs : List AV) (off : Nat) : afieldAddr Tryz.prog 44 (.vptr cs off) 1 = some (.vptr cs (off + 1)) := by kernel_rfl
theorem fl44_1 (cs : List AV) : afield Tryz.prog 44 (.agg cs) 1 = ldAt Tryz.prog 42 cs 1 := by kernel_rfl
theorem fa44_2 (id off : Nat) : afieldAddr Tryz.prog 44 (.ptr id off) 2 = some (.ptr id (off + 5)) := by kernel_rfl
theorem fv44_2 (cs : List AV) (off : Nat) : afieldAddr Tryz.prog 44 (.vptr cs off) 2 = some (.vptr cs (off + 5)) := by kernel_rfl
theorem fl44_2 (cs : List AV) : afield Tryz.prog 44 (.agg cs) 2 = ldAt Tryz.prog 42 cs 5 := by kernel_rfl
theorem sz292 : szOf Tryz.prog 292 = some 1 := by kernel_rfl
theorem ag292 : aggB Tryz.prog 292 = some false := by kernel_rfl
theorem zv292 : zeroAV Tryz.prog 292 = some (.nilPtr) := by kernel_rfl
theorem sz293 : szOf Tryz.prog 293 = some 4 := by kernel_rfl
theorem ag293 : aggB Tryz.prog 293 = some true := by kernel_rfl
theorem zv293 : zeroAV Tryz.prog 293 = some (.agg [.nilSlice, .int .i64 0, .nilSlice, .int .i64 0]) := by kernel_rfl
theorem fa293_0 (id off : Nat) : afieldAddr Tryz.prog 293 (.ptr id off) 0 = some (.ptr id (off + 0)) := by kernel_rfl
theorem fv293_0 (cs : List AV) (off : Nat) : afieldAddr Tryz.prog 293 (.vptr cs off) 0 = some (.vptr cs (off + 0)) := by kernel_rfl
theorem fl293_0 (cs : List AV) : afield Tryz.prog 293 (.agg cs) 0 = ldAt Tryz.prog 54 cs 0 := by kernel_rfl
theorem fa293_1 (id off : Nat) : afieldAddr Tryz.prog 293 (.ptr id off) 1 = some (.ptr id (off + 1)) := by kernel_rfl
theorem fv293_1 (cs : List AV) (off : Nat) : afieldAddr Tryz.prog 293 (.vptr cs off) 1 = some (.vptr cs (off + 1)) := by kernel_rfl
theorem fl293_1 (cs : List AV) : afield Tryz.prog 293 (.agg cs) 1 = ldAt Tryz.prog 3 cs 1 := by kernel_rfl
theorem fa293_2 (id off : Nat) : afieldAddr Tryz.prog 293 (.ptr id off) 2 = some (.ptr id (off + 2)) := by kernel_rfl
theorem fv293_2 (cs : List AV) (off : Nat) : afieldAddr Tryz.prog 293 (.vptr cs off) 2 = some (.vptr cs (off + 2)) := by kernel_rfl
theorem fl293_2 (cs : List AV) : afield Tryz.prog 293 (.agg cs) 2 = ldAt Tryz.prog 57 cs 2 := by kernel_rfl
theorem sz302 : szOf Tryz.prog 302 = some 1 := by kernel_rfl
theorem ag302 : aggB Tryz.prog 302 = some false := by kernel_rfl
theorem zv302 : zeroAV Tryz.prog 302 = some (.nilPtr) := by kernel_rfl
theorem sz304 : szOf Tryz.prog 304 = some 4 := by kernel_rfl
theorem ag304 : aggB Tryz.prog 304 = some true := by kernel_rfl
theorem zv304 : zeroAV Tryz.prog 304 = some (.agg [.nilSlice, .int .i64 0, .int .i64 0, .nilIface]) := by kernel_rfl
theorem fa304_0 (id off : Nat) : afieldAddr Tryz.prog 304 (.ptr id off) 0 = some (.ptr id (off + 0)) := by kernel_rfl
theorem fv304_0 (cs : List AV) (off : Nat) : afieldAddr Tryz.prog 304 (.vptr cs off) 0 = some (.vptr cs (off + 0)) := by kernel_rfl
theorem fl304_0 (cs : List AV) : afield Tryz.prog 304 (.agg cs) 0 = ldAt Tryz.prog 125 cs 0 := by kernel_rfl
theorem fa304_1 (id off : Nat) : afieldAddr Tryz.prog 304 (.ptr id off) 1 = some (.ptr id (off + 1)) := by kernel_rfl
theorem fv304_1 (cs : List AV) (off : Nat) : afieldAddr Tryz.prog 304 (.vptr cs off) 1 = some (.vptr cs (off + 1)) := by kernel_rfl
theorem fl304_1 (cs : List AV) : afield Tryz.prog 304 (.agg cs) 1 = ldAt Tryz.prog 3 cs 1 := by kernel_rfl
theorem fa304_2 (id off : Nat) : afieldAddr Tryz.prog 304 (.ptr id off) 2 = some (.ptr id (off + 2)) := by kernel_rfl
theorem fv304_2 (cs : List AV) (off : Nat) : afieldAddr Tryz.prog 304 (.vptr cs off) 2 = some (.vptr cs (off + 2)) := by kernel_rfl
theorem fl304_2 (cs : List AV) : afield Tryz.prog 304 (.agg cs) 2 = ldAt Tryz.prog 3 cs 2 := by kernel_rfl
theorem fa304_3 (id off : Nat) : afieldAddr Tryz.prog 304 (.ptr id off) 3 = some (.ptr id (off + 3)) := by kernel_rfl
theorem fv304_3 (cs : List AV) (off : Nat) : afieldAddr Tryz.prog 304 (.vptr cs off) 3 = some (.vptr cs (off + 3)) := by kernel_rfl
theorem fl304_3 (cs : List AV) : afield Tryz.prog 304 (.agg cs) 3 = ldAt Tryz.prog 33 cs 3 := by kernel_rfl
theorem go141 : goFn Tryz.prog 141 = true := by kernel_rfl
theorem go145 : goFn Tryz.prog 145 = true := by kernel_rfl
theorem go165 : goFn Tryz.prog 165 = true := by kernel_rfl
theorem go168 : goFn Tryz.prog 168 = true := by kernel_rfl
theorem go169 : goFn Tryz.prog 169 = true := by kernel_rfl
theorem go178 : goFn Tryz.prog 178 = true := by kernel_rfl
theorem go179 : goFn Tryz.prog 179 = true := by kernel_rfl
theorem go180 : goFn Tryz.prog 180 = true := by kernel_rfl
theorem go181 : goFn Tryz.prog 181 = true := by kernel_rfl
theorem go193 : goFn Tryz.prog 193 = true := by kernel_rfl
theorem go194 : goFn Tryz.prog 194 = true := by kernel_rfl
theorem go195 : goFn Tryz.prog 195 = true := by kernel_rfl
theorem go196 : goFn Tryz.prog 196 = true := by kernel_rfl
theorem go197 : goFn Tryz.prog 197 = true := by kernel_rfl
theorem go209 : goFn Tryz.prog 209 = true := by kernel_rfl
theorem go210 : goFn Tryz.prog 210 = true := by kernel_rfl
theorem go215 : goFn Tryz.prog 215 = true := by kernel_rfl
theorem go224 : goFn Tryz.prog 224 = true := by kernel_rfl
theorem go225 : goFn Tryz.prog 225 = true := by kernel_rfl
theorem go232 : goFn Tryz.prog 232 = true := by kernel_rfl
theorem go233 : goFn Tryz.prog 233 = true := by kernel_rfl
theorem go234 : goFn Tryz.prog 234 = true := by kernel_rfl
theorem go235 : goFn Tryz.prog 235 = true := by kernel_rfl
attribute [simp] sz25 ag25 zv25 ec25 Tryz.underlying25 sz27 ag27 zv27 fa27_0 fv27_0 fl27_0 fa27_1 fv27_1 fl27_1 fa27_2 fv27_2 fl27_2 fa27_3 fv27_3 fl27_3
attribute [simp] Tryz.underlying27 sz29 ag29 zv29 fa29_0 fv29_0 fl29_0 fa29_1 fv29_1 fl29_1 fa29_2 fv29_2 fl29_2 Tryz.underlying29 sz40 ag40 zv40 ec40 Tryz.underlying40 sz42
attribute [simp] ag42 zv42 fa42_0 fv42_0 fl42_0 fa42_1 fv42_1 fl42_1 fa42_2 fv42_2 fl42_2 fa42_3 fv42_3 fl42_3 Tryz.underlying42 sz44 ag44 zv44 fa44_0 fv44_0
attribute [simp] fl44_0 fa44_1 fv44_1 fl44_1 fa44_2 fv44_2 fl44_2 Tryz.underlying44 sz292 ag292 zv292 Tryz.underlying292 sz293 ag293 zv293 fa293_0 fv293_0 fl293_0 fa293_1 fv293_1
attribute [simp] fl293_1 fa293_2 fv293_2 fl293_2 Tryz.underlying293 sz302 ag302 zv302 Tryz.underlying302 sz304 ag304 zv304 fa304_0 fv304_0 fl304_0 fa304_1 fv304_1 fl304_1 fa304_2 fv304_2
attribute [simp] fl304_2 fa304_3 fv304_3 fl304_3 Tryz.underlying304 go141 go145 go165 go168 go169 go178 go179 go180 go181 go193 go194 go195 go196 go197 go209
attribute [simp] go210 go215 go224 go225 go232 go233 go234 go235
end Go.Proofs.YtejjlojfgcgopaaGreatDoor.Tx
