/- 'StmtItems': what its row tells of the calls. -/
import Derived.Test.YtejjlojfgcgopaaGreatDoorZiSkQIA
set_option linter.unusedSimpArgs false
set_option linter.unusedVariables false
namespace Go.Proofs.YtejjlojfgcgopaaGreatDoor
open Go.ChangeShapes Go.WideShapes Go.ChangeAt Go.ChangeMaps Go.RowKit Go.Proofs.Fw
set_option maxRecDepth 100000
namespace stmtItems
theorem q10 : (Rows.stmtItemsRow.inPlace == Tryz.prog.inPlace 4) = true := by kernel_rfl
theorem q11 : (Rows.stmtItemsRow.unfollowed == Tryz.prog.unfollowed 4) = true := by kernel_rfl
theorem q12 : (Rows.stmtItemsRow.recurses == Tryz.prog.recurses 4) = true := by kernel_rfl
theorem q13 : (Rows.stmtItemsRow.named == Tryz.prog.varsNamed 4) = true := by kernel_rfl
end stmtItems
end Go.Proofs.YtejjlojfgcgopaaGreatDoor
