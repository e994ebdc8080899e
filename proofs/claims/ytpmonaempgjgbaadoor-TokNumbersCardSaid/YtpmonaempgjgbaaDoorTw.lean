/- Facts on the types of this program, and which functions are its own text. -/
import Derived.Test.YtpmonaempgjgbaaDoorTz
set_option linter.unusedSimpArgs false
set_option linter.unusedVariables false
namespace Go.Proofs.YtpmonaempgjgbaaDoor.Tw
open Go.RowKit Go.Proofs.Fw
set_option maxRecDepth 100000
theorem sz62 : szOf Tryd.prog 62 = some 1 := by kernel_rfl
theorem ag62 : aggB Tryd.prog 62 = some false := by kernel_rfl
theorem zv62 : zeroAV Tryd.prog 62 = some (.nilPtr) := by kernel_rfl
theorem sz65 : szOf Tryd.prog 65 = some 1 := by kernel_rfl
theorem ag65 : aggB Tryd.prog 65 = some false := by kernel_rfl
theorem zv65 : zeroAV Tryd.prog 65 = some (.nilPtr) := by kernel_rfl
theorem go6 : goFn Tryd.prog 6 = true := by kernel_rfl
theorem go12 : goFn Tryd.prog 12 = true := by kernel_rfl
theorem go26 : goFn Tryd.prog 26 = true := by kernel_rfl
theorem go27 : goFn Tryd.prog 27 = true := by kernel_rfl
theorem go38 : goFn Tryd.prog 38 = true := by kernel_rfl
theorem go99 : goFn Tryd.prog 99 = true := by kernel_rfl
attribute [simp] sz62 ag62 zv62 Tryd.underlying62 sz65 ag65 zv65 Tryd.underlying65 go6 go12 go26 go27 go38 go99
end Go.Proofs.YtpmonaempgjgbaaDoor.Tw
