/- Facts on the types of this program, and which functions are its own text. -/
import Derived.Test.YtpmonaempgjgbaaDoorTy
set_option linter.unusedSimpArgs false
set_option linter.unusedVariables false
namespace Go.Proofs.YtpmonaempgjgbaaDoor.Tz
open Go.RowKit Go.Proofs.Fw
set_option maxRecDepth 100000
theorem sz25 : szOf Tryd.prog 25 = some 1 := by kernel_rfl
theorem ag25 : aggB Tryd.prog 25 = some false := by kernel_rfl
theorem zv25 : zeroAV Tryd.prog 25 = some (.nilSlice) := by kernel_rfl
theorem ec25 : elemChk Tryd.prog 25 1 = true := by kernel_rfl
attribute [simp] sz25 ag25 zv25 ec25 Tryd.underlying25
end Go.Proofs.YtpmonaempgjgbaaDoor.Tz
