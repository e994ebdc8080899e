/- 'SemaCells': what its row tells of the calls. -/
import Derived.Test.YtmjfldclpijghaaGreatDoorZsSmQCA
set_option linter.unusedSimpArgs false
set_option linter.unusedVariables false
namespace Go.Proofs.YtmjfldclpijghaaGreatDoor
open Go.ChangeShapes Go.WideShapes Go.ChangeAt Go.ChangeMaps Go.RowKit Go.Proofs.Fw
set_option maxRecDepth 100000
namespace semaCells
theorem q10:(Rows.semaCellsRow.inPlace==zP.inPlace 4)=true:=by kernel_rfl
theorem q11:(Rows.semaCellsRow.unfollowed==zP.unfollowed 4)=true:=by kernel_rfl
theorem q12:(Rows.semaCellsRow.recurses==zP.recurses 4)=true:=by kernel_rfl
theorem q13:(Rows.semaCellsRow.named==zP.varsNamed 4)=true:=by kernel_rfl
end semaCells
end Go.Proofs.YtmjfldclpijghaaGreatDoor
