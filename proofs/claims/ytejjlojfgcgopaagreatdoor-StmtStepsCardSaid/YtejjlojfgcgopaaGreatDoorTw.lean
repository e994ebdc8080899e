/- Facts on the types of this program, and which functions are its own text. -/
import Derived.Test.YtejjlojfgcgopaaGreatDoorTy
set_option linter.unusedSimpArgs false
set_option linter.unusedVariables false
namespace Go.Proofs.YtejjlojfgcgopaaGreatDoor.Tw
open Go.RowKit Go.Proofs.Fw
set_option maxRecDepth 100000
theorem sz154 : szOf Tryz.prog 154 = some 1 := by kernel_rfl
theorem ag154 : aggB Tryz.prog 154 = some false := by kernel_rfl
theorem zv154 : zeroAV Tryz.prog 154 = some (.nilPtr) := by kernel_rfl
theorem sz159 : szOf Tryz.prog 159 = some 1 := by kernel_rfl
theorem ag159 : aggB Tryz.prog 159 = some false := by kernel_rfl
theorem zv159 : zeroAV Tryz.prog 159 = some (.nilPtr) := by kernel_rfl
theorem go70 : goFn Tryz.prog 70 = true := by kernel_rfl
theorem go71 : goFn Tryz.prog 71 = true := by kernel_rfl
theorem go102 : goFn Tryz.prog 102 = true := by kernel_rfl
theorem go256 : goFn Tryz.prog 256 = true := by kernel_rfl
attribute [simp] sz154 ag154 zv154 Tryz.underlying154 sz159 ag159 zv159 Tryz.underlying159 go70 go71 go102 go256
end Go.Proofs.YtejjlojfgcgopaaGreatDoor.Tw
