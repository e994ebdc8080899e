/- 'TreeDeep': what its row tells of the calls. -/
import Derived.Test.YtejjlojfgcgopaaGreatDoorZRoQDB
set_option linter.unusedSimpArgs false
set_option linter.unusedVariables false
namespace Go.Proofs.YtejjlojfgcgopaaGreatDoor
open Go.ChangeShapes Go.WideShapes Go.ChangeAt Go.ChangeMaps Go.RowKit Go.Proofs.Fw
set_option maxRecDepth 100000
namespace treeDeep
theorem q10 : (Rows.treeDeepRow.inPlace == Tryz.prog.inPlace 12) = true := by kernel_rfl
theorem q11 : (Rows.treeDeepRow.unfollowed == Tryz.prog.unfollowed 12) = true := by kernel_rfl
theorem q12 : (Rows.treeDeepRow.recurses == Tryz.prog.recurses 12) = true := by kernel_rfl
theorem q13 : (Rows.treeDeepRow.named == Tryz.prog.varsNamed 12) = true := by kernel_rfl
end treeDeep
end Go.Proofs.YtejjlojfgcgopaaGreatDoor
