/- 'StmtSteps': what its row tells of the calls. -/
import Derived.Test.YtejjlojfgcgopaaGreatDoorSkQSB
set_option linter.unusedSimpArgs false
set_option linter.unusedVariables false
namespace Go.Proofs.YtejjlojfgcgopaaGreatDoor
open Go.ChangeShapes Go.WideShapes Go.ChangeAt Go.ChangeMaps Go.RowKit Go.Proofs.Fw
set_option maxRecDepth 100000

namespace stmtSteps
theorem q10 : (Rows.stmtStepsRow.inPlace == Tryz.prog.inPlace 5) = true := by kernel_rfl
theorem q11 : (Rows.stmtStepsRow.unfollowed == Tryz.prog.unfollowed 5) = true := by kernel_rfl
theorem q12 : (Rows.stmtStepsRow.recurses == Tryz.prog.recurses 5) = true := by kernel_rfl
theorem q13 : (Rows.stmtStepsRow.named == Tryz.prog.varsNamed 5) = true := by kernel_rfl
end stmtSteps
end Go.Proofs.YtejjlojfgcgopaaGreatDoor
