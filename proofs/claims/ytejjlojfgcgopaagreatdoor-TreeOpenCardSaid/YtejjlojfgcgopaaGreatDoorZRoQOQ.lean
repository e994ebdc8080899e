/- 'TreeOpen': what its row tells of the calls. -/
import Derived.Test.YtejjlojfgcgopaaGreatDoorZRoQOB
set_option linter.unusedSimpArgs false
set_option linter.unusedVariables false
namespace Go.Proofs.YtejjlojfgcgopaaGreatDoor
open Go.ChangeShapes Go.WideShapes Go.ChangeAt Go.ChangeMaps Go.RowKit Go.Proofs.Fw
set_option maxRecDepth 100000
namespace treeOpen
theorem q10 : (Rows.treeOpenRow.inPlace == Tryz.prog.inPlace 13) = true := by kernel_rfl
theorem q11 : (Rows.treeOpenRow.unfollowed == Tryz.prog.unfollowed 13) = true := by kernel_rfl
theorem q12 : (Rows.treeOpenRow.recurses == Tryz.prog.recurses 13) = true := by kernel_rfl
theorem q13 : (Rows.treeOpenRow.named == Tryz.prog.varsNamed 13) = true := by kernel_rfl
end treeOpen
end Go.Proofs.YtejjlojfgcgopaaGreatDoor
