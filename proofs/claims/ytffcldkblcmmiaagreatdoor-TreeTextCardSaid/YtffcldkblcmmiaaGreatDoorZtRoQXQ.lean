/- 'TreeText': what its row tells of the calls. -/
import Derived.Test.YtffcldkblcmmiaaGreatDoorZtRoQXB
set_option linter.unusedSimpArgs false
set_option linter.unusedVariables false
namespace Go.Proofs.YtffcldkblcmmiaaGreatDoor
open Go.ChangeShapes Go.WideShapes Go.ChangeAt Go.ChangeMaps Go.RowKit Go.Proofs.Fw
set_option maxRecDepth 100000
namespace treeText
theorem q10:(Rows.treeTextRow.inPlace==Tryz.prog.inPlace 3)=true:=by kernel_rfl
theorem q11:(Rows.treeTextRow.unfollowed==Tryz.prog.unfollowed 3)=true:=by kernel_rfl
theorem q12:(Rows.treeTextRow.recurses==Tryz.prog.recurses 3)=true:=by kernel_rfl
theorem q13:(Rows.treeTextRow.named==Tryz.prog.varsNamed 3)=true:=by kernel_rfl
end treeText
end Go.Proofs.YtffcldkblcmmiaaGreatDoor
