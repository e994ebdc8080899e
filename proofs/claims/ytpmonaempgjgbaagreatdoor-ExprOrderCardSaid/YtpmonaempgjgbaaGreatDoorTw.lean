/- Facts on the types of this program, and which functions are its own text. -/
import Derived.Test.YtpmonaempgjgbaaGreatDoorTy
set_option linter.unusedSimpArgs false
set_option linter.unusedVariables false
namespace Go.Proofs.YtpmonaempgjgbaaGreatDoor.Tw
open Go.RowKit Go.Proofs.Fw
set_option maxRecDepth 100000
theorem sz137 : szOf Tryz.prog 137 = some 1 := by kernel_rfl
theorem ag137 : aggB Tryz.prog 137 = some false := by kernel_rfl
theorem zv137 : zeroAV Tryz.prog 137 = some (.nilPtr) := by kernel_rfl
theorem sz142 : szOf Tryz.prog 142 = some 1 := by kernel_rfl
theorem ag142 : aggB Tryz.prog 142 = some false := by kernel_rfl
theorem zv142 : zeroAV Tryz.prog 142 = some (.nilPtr) := by kernel_rfl
theorem go61 : goFn Tryz.prog 61 = true := by kernel_rfl
theorem go62 : goFn Tryz.prog 62 = true := by kernel_rfl
theorem go94 : goFn Tryz.prog 94 = true := by kernel_rfl
theorem go204 : goFn Tryz.prog 204 = true := by kernel_rfl
attribute [simp] sz137 ag137 zv137 Tryz.underlying137 sz142 ag142 zv142 Tryz.underlying142 go61 go62 go94 go204
end Go.Proofs.YtpmonaempgjgbaaGreatDoor.Tw
