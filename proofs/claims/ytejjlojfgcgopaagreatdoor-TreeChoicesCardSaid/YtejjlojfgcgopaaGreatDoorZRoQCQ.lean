/- 'TreeChoices': what its row tells of the calls. -/
import Derived.Test.YtejjlojfgcgopaaGreatDoorZRoQCB
set_option linter.unusedSimpArgs false
set_option linter.unusedVariables false
namespace Go.Proofs.YtejjlojfgcgopaaGreatDoor
open Go.ChangeShapes Go.WideShapes Go.ChangeAt Go.ChangeMaps Go.RowKit Go.Proofs.Fw
set_option maxRecDepth 100000
namespace treeChoices
theorem q10 : (Rows.treeChoicesRow.inPlace == Tryz.prog.inPlace 14) = true := by kernel_rfl
theorem q11 : (Rows.treeChoicesRow.unfollowed == Tryz.prog.unfollowed 14) = true := by kernel_rfl
theorem q12 : (Rows.treeChoicesRow.recurses == Tryz.prog.recurses 14) = true := by kernel_rfl
theorem q13 : (Rows.treeChoicesRow.named == Tryz.prog.varsNamed 14) = true := by kernel_rfl
end treeChoices
end Go.Proofs.YtejjlojfgcgopaaGreatDoor
