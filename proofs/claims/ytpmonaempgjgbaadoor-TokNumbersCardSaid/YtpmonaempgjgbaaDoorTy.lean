/- Facts on the types of this program, and which functions are its own text. -/
import Derived.Test.YtpmonaempgjgbaaDoorChecked
import Derived.Test.YtpmonaempgjgbaaDoorFwG4
import Derived.KernelRfl
set_option linter.unusedSimpArgs false
set_option linter.unusedVariables false
namespace Go.Proofs.YtpmonaempgjgbaaDoor.Ty
open Go.RowKit Go.Proofs.Fw
set_option maxRecDepth 100000
theorem sz2 : szOf Tryd.prog 2 = some 1 := by kernel_rfl
theorem ag2 : aggB Tryd.prog 2 = some false := by kernel_rfl
theorem zv2 : zeroAV Tryd.prog 2 = some (.int .i64 0) := by kernel_rfl
theorem sz3 : szOf Tryd.prog 3 = some 1 := by kernel_rfl
theorem ag3 : aggB Tryd.prog 3 = some false := by kernel_rfl
theorem zv3 : zeroAV Tryd.prog 3 = some (.int .i64 0) := by kernel_rfl
theorem sz4 : szOf Tryd.prog 4 = some 1 := by kernel_rfl
theorem ag4 : aggB Tryd.prog 4 = some false := by kernel_rfl
theorem zv4 : zeroAV Tryd.prog 4 = some (.bool false) := by kernel_rfl
theorem sz5 : szOf Tryd.prog 5 = some 1 := by kernel_rfl
theorem ag5 : aggB Tryd.prog 5 = some false := by kernel_rfl
theorem zv5 : zeroAV Tryd.prog 5 = some (.int .u8 0) := by kernel_rfl
theorem sz9 : szOf Tryd.prog 9 = some 1 := by kernel_rfl
theorem ag9 : aggB Tryd.prog 9 = some false := by kernel_rfl
theorem zv9 : zeroAV Tryd.prog 9 = some (.str []) := by kernel_rfl
theorem sz26 : szOf Tryd.prog 26 = some 1 := by kernel_rfl
theorem ag26 : aggB Tryd.prog 26 = some false := by kernel_rfl
theorem zv26 : zeroAV Tryd.prog 26 = some (.nilSlice) := by kernel_rfl
theorem ec26 : elemChk Tryd.prog 26 4 = true := by kernel_rfl
theorem sz27 : szOf Tryd.prog 27 = some 1 := by kernel_rfl
theorem ag27 : aggB Tryd.prog 27 = some false := by kernel_rfl
theorem zv27 : zeroAV Tryd.prog 27 = some (.nilSlice) := by kernel_rfl
theorem ec27 : elemChk Tryd.prog 27 2 = true := by kernel_rfl
theorem sz29 : szOf Tryd.prog 29 = some 2 := by kernel_rfl
theorem ag29 : aggB Tryd.prog 29 = some true := by kernel_rfl
theorem zv29 : zeroAV Tryd.prog 29 = some (.agg [.nilSlice, .int .i64 0]) := by kernel_rfl
theorem fa29_0 (id off : Nat) : afieldAddr Tryd.prog 29 (.ptr id off) 0 = some (.ptr id (off + 0)) := by kernel_rfl
theorem fv29_0 (cs : List AV) (off : Nat) : afieldAddr Tryd.prog 29 (.vptr cs off) 0 = some (.vptr cs (off + 0)) := by kernel_rfl
theorem fl29_0 (cs : List AV) : afield Tryd.prog 29 (.agg cs) 0 = ldAt Tryd.prog 27 cs 0 := by kernel_rfl
theorem fa29_1 (id off : Nat) : afieldAddr Tryd.prog 29 (.ptr id off) 1 = some (.ptr id (off + 1)) := by kernel_rfl
theorem fv29_1 (cs : List AV) (off : Nat) : afieldAddr Tryd.prog 29 (.vptr cs off) 1 = some (.vptr cs (off + 1)) := by kernel_rfl
theorem fl29_1 (cs : List AV) : afield Tryd.prog 29 (.agg cs) 1 = ldAt Tryd.prog 3 cs 1 := by kernel_rfl
theorem sz32 : szOf Tryd.prog 32 = some 1 := by kernel_rfl
theorem ag32 : aggB Tryd.prog 32 = some false := by kernel_rfl
theorem zv32 : zeroAV Tryd.prog 32 = some (.nilSlice) := by kernel_rfl
theorem ec32 : elemChk Tryd.prog 32 1 = true := by kernel_rfl
theorem sz34 : szOf Tryd.prog 34 = some 4 := by kernel_rfl
theorem ag34 : aggB Tryd.prog 34 = some true := by kernel_rfl
theorem zv34 : zeroAV Tryd.prog 34 = some (.agg [.int .i64 0, .str [], .int .i64 0, .int .i64 0]) := by kernel_rfl
theorem fa34_0 (id off : Nat) : afieldAddr Tryd.prog 34 (.ptr id off) 0 = some (.ptr id (off + 0)) := by kernel_rfl
theorem fv34_0 (cs : List AV) (off : Nat) : afieldAddr Tryd.prog 34 (.vptr cs off) 0 = some (.vptr cs (off + 0)) := by kernel_rfl
theorem fl34_0 (cs : List AV) : afield Tryd.prog 34 (.agg cs) 0 = ldAt Tryd.prog 3 cs 0 := by kernel_rfl
theorem fa34_1 (id off : Nat) : afieldAddr Tryd.prog 34 (.ptr id off) 1 = some (.ptr id (off + 1)) := by kernel_rfl
theorem fv34_1 (cs : List AV) (off : Nat) : afieldAddr Tryd.prog 34 (.vptr cs off) 1 = some (.vptr cs (off + 1)) := by kernel_rfl
theorem fl34_1 (cs : List AV) : afield Tryd.prog 34 (.agg cs) 1 = ldAt Tryd.prog 9 cs 1 := by kernel_rfl
theorem fa34_2 (id off : Nat) : afieldAddr Tryd.prog 34 (.ptr id off) 2 = some (.ptr id (off + 2)) := by kernel_rfl
theorem fv34_2 (cs : List AV) (off : Nat) : afieldAddr Tryd.prog 34 (.vptr cs off) 2 = some (.vptr cs (off + 2)) := by kernel_rfl
theorem fl34_2 (cs : List AV) : afield Tryd.prog 34 (.agg cs) 2 = ldAt Tryd.prog 3 cs 2 := by kernel_rfl
theorem fa34_3 (id off : Nat) : afieldAddr Tryd.prog 34 (.ptr id off) 3 = some (.ptr id (off + 3)) := by kernel_rfl
theorem fv34_3 (cs : List AV) (off : Nat) : afieldAddr Tryd.prog 34 (.vptr cs off) 3 = some (.vptr cs (off + 3)) := by kernel_rfl
theorem fl34_3 (cs : List AV) : afield Tryd.prog 34 (.agg cs) 3 = ldAt Tryd.prog 2 cs 3 := by kernel_rfl
theorem sz35 : szOf Tryd.prog 35 = some 1 := by kernel_rfl
theorem ag35 : aggB Tryd.prog 35 = some false := by kernel_rfl
theorem zv35 : zeroAV Tryd.prog 35 = some (.nilSlice) := by kernel_rfl
theorem ec35 : elemChk Tryd.prog 35 4 = true := by kernel_rfl
theorem sz37 : szOf Tryd.prog 37 = some 1 := by kernel_rfl
theorem ag37 : aggB Tryd.prog 37 = some false := by kernel_rfl
theorem zv37 : zeroAV Tryd.prog 37 = some (.nilIface) := by kernel_rfl
theorem sz40 : szOf Tryd.prog 40 = some 4 := by kernel_rfl
theorem ag40 : aggB Tryd.prog 40 = some true := by kernel_rfl
theorem zv40 : zeroAV Tryd.prog 40 = some (.agg [.int .i64 0, .str [], .int .i64 0, .int .i64 0]) := by kernel_rfl
theorem fa40_0 (id off : Nat) : afieldAddr Tryd.prog 40 (.ptr id off) 0 = some (.ptr id (off + 0)) := by kernel_rfl
theorem fv40_0 (cs : List AV) (off : Nat) : afieldAddr Tryd.prog 40 (.vptr cs off) 0 = some (.vptr cs (off + 0)) := by kernel_rfl
theorem fl40_0 (cs : List AV) : afield Tryd.prog 40 (.agg cs) 0 = ldAt Tryd.prog 3 cs 0 := by kernel_rfl
theorem fa40_1 (id off : Nat) : afieldAddr Tryd.prog 40 (.ptr id off) 1 = some (.ptr id (off + 1)) := by kernel_rfl
theorem fv40_1 (cs : List AV) (off : Nat) : afieldAddr Tryd.prog 40 (.vptr cs off) 1 = some (.vptr cs (off + 1)) := by kernel_rfl
theorem fl40_1 (cs : List AV) : afield Tryd.prog 40 (.agg cs) 1 = ldAt Tryd.prog 9 cs 1 := by kernel_rfl
theorem fa40_2 (id off : Nat) : afieldAddr Tryd.prog 40 (.ptr id off) 2 = some (.ptr id (off + 2)) := by kernel_rfl
theorem fv40_2 (cs : List AV) (off : Nat) : afieldAddr Tryd.prog 40 (.vptr cs off) 2 = some (.vptr cs (off + 2)) := by kernel_rfl
theorem fl40_2 (cs : List AV) : afield Tryd.prog 40 (.agg cs) 2 = ldAt Tryd.prog 3 cs 2 := by kernel_rfl
theorem fa40_3 (id off : Nat) : afieldAddr Tryd.prog 40 (.ptr id off) 3 = some (.ptr id (off + 3)) := by kernel_rfl
theorem fv40_3 (cs : List AV) (off : Nat) : afieldAddr Tryd.prog 40 (.vptr cs off) 3 = some (.vptr cs (off + 3)) := by kernel_rfl
theorem fl40_3 (cs : List AV) : afield Tryd.prog 40 (.agg cs) 3 = ldAt Tryd.prog 2 cs 3 := by kernel_rfl
theorem sz43 : szOf Tryd.prog 43 = some 1 := by kernel_rfl
theorem ag43 : aggB Tryd.prog 43 = some false := by kernel_rfl
theorem zv43 : zeroAV Tryd.prog 43 = some (.int .u64 0) := by kernel_rfl
theorem sz54 : szOf Tryd.prog 54 = some 1 := by kernel_rfl
theorem ag54 : aggB Tryd.prog 54 = some false := by kernel_rfl
theorem zv54 : zeroAV Tryd.prog 54 = some (.int .i64 0) := by kernel_rfl
theorem sz57 : szOf Tryd.prog 57 = some 1 := by kernel_rfl
theorem ag57 : aggB Tryd.prog 57 = some false := by kernel_rfl
theorem zv57 : zeroAV Tryd.prog 57 = some (.nilPtr) := by kernel_rfl
theorem sz59 : szOf Tryd.prog 59 = some 3 := by kernel_rfl
theorem ag59 : aggB Tryd.prog 59 = some true := by kernel_rfl
theorem zv59 : zeroAV Tryd.prog 59 = some (.agg [.str [], .int .i64 0, .nilIface]) := by kernel_rfl
theorem fa59_0 (id off : Nat) : afieldAddr Tryd.prog 59 (.ptr id off) 0 = some (.ptr id (off + 0)) := by kernel_rfl
theorem fv59_0 (cs : List AV) (off : Nat) : afieldAddr Tryd.prog 59 (.vptr cs off) 0 = some (.vptr cs (off + 0)) := by kernel_rfl
theorem fl59_0 (cs : List AV) : afield Tryd.prog 59 (.agg cs) 0 = ldAt Tryd.prog 9 cs 0 := by kernel_rfl
theorem fa59_1 (id off : Nat) : afieldAddr Tryd.prog 59 (.ptr id off) 1 = some (.ptr id (off + 1)) := by kernel_rfl
theorem fv59_1 (cs : List AV) (off : Nat) : afieldAddr Tryd.prog 59 (.vptr cs off) 1 = some (.vptr cs (off + 1)) := by kernel_rfl
theorem fl59_1 (cs : List AV) : afield Tryd.prog 59 (.agg cs) 1 = ldAt Tryd.prog 3 cs 1 := by kernel_rfl
theorem fa59_2 (id off : Nat) : afieldAddr Tryd.prog 59 (.ptr id off) 2 = some (.ptr id (off + 2)) := by kernel_rfl
theorem fv59_2 (cs : List AV) (off : Nat) : afieldAddr Tryd.prog 59 (.vptr cs off) 2 = some (.vptr cs (off + 2)) := by kernel_rfl
theorem fl59_2 (cs : List AV) : afield Tryd.prog 59 (.agg cs) 2 = ldAt Tryd.prog 37 cs 2 := by kernel_rfl
theorem sz64 : szOf Tryd.prog 64 = some 2 := by kernel_rfl
theorem ag64 : aggB Tryd.prog 64 = some true := by kernel_rfl
theorem zv64 : zeroAV Tryd.prog 64 = some (.agg [.str [], .int .i64 0]) := by kernel_rfl
theorem fa64_0 (id off : Nat) : afieldAddr Tryd.prog 64 (.ptr id off) 0 = some (.ptr id (off + 0)) := by kernel_rfl
theorem fv64_0 (cs : List AV) (off : Nat) : afieldAddr Tryd.prog 64 (.vptr cs off) 0 = some (.vptr cs (off + 0)) := by kernel_rfl
theorem fl64_0 (cs : List AV) : afield Tryd.prog 64 (.agg cs) 0 = ldAt Tryd.prog 9 cs 0 := by kernel_rfl
theorem fa64_1 (id off : Nat) : afieldAddr Tryd.prog 64 (.ptr id off) 1 = some (.ptr id (off + 1)) := by kernel_rfl
theorem fv64_1 (cs : List AV) (off : Nat) : afieldAddr Tryd.prog 64 (.vptr cs off) 1 = some (.vptr cs (off + 1)) := by kernel_rfl
theorem fl64_1 (cs : List AV) : afield Tryd.prog 64 (.agg cs) 1 = ldAt Tryd.prog 3 cs 1 := by kernel_rfl
theorem sz121 : szOf Tryd.prog 121 = some 1 := by kernel_rfl
theorem ag121 : aggB Tryd.prog 121 = some false := by kernel_rfl
theorem zv121 : zeroAV Tryd.prog 121 = some (.nilPtr) := by kernel_rfl
theorem sz138 : szOf Tryd.prog 138 = some 3 := by kernel_rfl
theorem ag138 : aggB Tryd.prog 138 = some true := by kernel_rfl
theorem zv138 : zeroAV Tryd.prog 138 = some (.agg [.str [], .str [], .nilIface]) := by kernel_rfl
theorem fa138_0 (id off : Nat) : afieldAddr Tryd.prog 138 (.ptr id off) 0 = some (.ptr id (off + 0)) := by kernel_rfl
theorem fv138_0 (cs : List AV) (off : Nat) : afieldAddr Tryd.prog 138 (.vptr cs off) 0 = some (.vptr cs (off + 0)) := by kernel_rfl
theorem fl138_0 (cs : List AV) : afield Tryd.prog 138 (.agg cs) 0 = ldAt Tryd.prog 9 cs 0 := by kernel_rfl
theorem fa138_1 (id off : Nat) : afieldAddr Tryd.prog 138 (.ptr id off) 1 = some (.ptr id (off + 1)) := by kernel_rfl
theorem fv138_1 (cs : List AV) (off : Nat) : afieldAddr Tryd.prog 138 (.vptr cs off) 1 = some (.vptr cs (off + 1)) := by kernel_rfl
theorem fl138_1 (cs : List AV) : afield Tryd.prog 138 (.agg cs) 1 = ldAt Tryd.prog 9 cs 1 := by kernel_rfl
theorem fa138_2 (id off : Nat) : afieldAddr Tryd.prog 138 (.ptr id off) 2 = some (.ptr id (off + 2)) := by kernel_rfl
theorem fv138_2 (cs : List AV) (off : Nat) : afieldAddr Tryd.prog 138 (.vptr cs off) 2 = some (.vptr cs (off + 2)) := by kernel_rfl
theorem fl138_2 (cs : List AV) : afield Tryd.prog 138 (.agg cs) 2 = ldAt Tryd.prog 37 cs 2 := by kernel_rfl
theorem go3 : goFn Tryd.prog 3 = true := by kernel_rfl
theorem go7 : goFn Tryd.prog 7 = true := by kernel_rfl
theorem go8 : goFn Tryd.prog 8 = true := by kernel_rfl
theorem go9 : goFn Tryd.prog 9 = true := by kernel_rfl
theorem go10 : goFn Tryd.prog 10 = true := by kernel_rfl
theorem go11 : goFn Tryd.prog 11 = true := by kernel_rfl
theorem go13 : goFn Tryd.prog 13 = true := by kernel_rfl
theorem go16 : goFn Tryd.prog 16 = true := by kernel_rfl
theorem go17 : goFn Tryd.prog 17 = true := by kernel_rfl
theorem go18 : goFn Tryd.prog 18 = true := by kernel_rfl
theorem go19 : goFn Tryd.prog 19 = true := by kernel_rfl
theorem go20 : goFn Tryd.prog 20 = true := by kernel_rfl
theorem go21 : goFn Tryd.prog 21 = true := by kernel_rfl
theorem go22 : goFn Tryd.prog 22 = true := by kernel_rfl
theorem go23 : goFn Tryd.prog 23 = true := by kernel_rfl
theorem go24 : goFn Tryd.prog 24 = true := by kernel_rfl
theorem go25 : goFn Tryd.prog 25 = true := by kernel_rfl
theorem go32 : goFn Tryd.prog 32 = true := by kernel_rfl
theorem go33 : goFn Tryd.prog 33 = true := by kernel_rfl
theorem go35 : goFn Tryd.prog 35 = true := by kernel_rfl
theorem go46 : goFn Tryd.prog 46 = true := by kernel_rfl
theorem go47 : goFn Tryd.prog 47 = true := by kernel_rfl
theorem go48 : goFn Tryd.prog 48 = true := by kernel_rfl
theorem go49 : goFn Tryd.prog 49 = true := by kernel_rfl
theorem go53 : goFn Tryd.prog 53 = true := by kernel_rfl
theorem go57 : goFn Tryd.prog 57 = true := by kernel_rfl
theorem go64 : goFn Tryd.prog 64 = true := by kernel_rfl
attribute [simp] sz2 ag2 zv2 Tryd.underlying2 sz3 ag3 zv3 Tryd.underlying3 sz4 ag4 zv4 Tryd.underlying4 sz5 ag5 zv5 Tryd.underlying5 sz9 ag9 zv9 Tryd.underlying9
attribute [simp] sz26 ag26 zv26 ec26 Tryd.underlying26 sz27 ag27 zv27 ec27 Tryd.underlying27 sz29 ag29 zv29 fa29_0 fv29_0 fl29_0 fa29_1 fv29_1 fl29_1 Tryd.underlying29
attribute [simp] sz32 ag32 zv32 ec32 Tryd.underlying32 sz34 ag34 zv34 fa34_0 fv34_0 fl34_0 fa34_1 fv34_1 fl34_1 fa34_2 fv34_2 fl34_2 fa34_3 fv34_3 fl34_3
attribute [simp] Tryd.underlying34 sz35 ag35 zv35 ec35 Tryd.underlying35 sz37 ag37 zv37 Tryd.underlying37 sz40 ag40 zv40 fa40_0 fv40_0 fl40_0 fa40_1 fv40_1 fl40_1 fa40_2
attribute [simp] fv40_2 fl40_2 fa40_3 fv40_3 fl40_3 Tryd.underlying40 sz43 ag43 zv43 Tryd.underlying43 sz54 ag54 zv54 Tryd.underlying54 sz57 ag57 zv57 Tryd.underlying57 sz59 ag59
attribute [simp] zv59 fa59_0 fv59_0 fl59_0 fa59_1 fv59_1 fl59_1 fa59_2 fv59_2 fl59_2 Tryd.underlying59 sz64 ag64 zv64 fa64_0 fv64_0 fl64_0 fa64_1 fv64_1 fl64_1
attribute [simp] Tryd.underlying64 sz121 ag121 zv121 Tryd.underlying121 sz138 ag138 zv138 fa138_0 fv138_0 fl138_0 fa138_1 fv138_1 fl138_1 fa138_2 fv138_2 fl138_2 Tryd.underlying138 go3 go7
attribute [simp] go8 go9 go10 go11 go13 go16 go17 go18 go19 go20 go21 go22 go23 go24 go25 go32 go33 go35 go46 go47
attribute [simp] go48 go49 go53 go57 go64
end Go.Proofs.YtpmonaempgjgbaaDoor.Ty
