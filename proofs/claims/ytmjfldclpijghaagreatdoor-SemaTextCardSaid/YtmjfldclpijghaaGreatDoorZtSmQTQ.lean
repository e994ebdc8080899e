/- 'SemaText': what its row tells of the calls. -/
import Derived.Test.YtmjfldclpijghaaGreatDoorZtSmQTA
set_option linter.unusedSimpArgs false
set_option linter.unusedVariables false
namespace Go.Proofs.YtmjfldclpijghaaGreatDoor
open Go.ChangeShapes Go.WideShapes Go.ChangeAt Go.ChangeMaps Go.RowKit Go.Proofs.Fw
set_option maxRecDepth 100000
namespace semaText
theorem q10:(Rows.semaTextRow.inPlace==zP.inPlace 3)=true:=by kernel_rfl
theorem q11:(Rows.semaTextRow.unfollowed==zP.unfollowed 3)=true:=by kernel_rfl
theorem q12:(Rows.semaTextRow.recurses==zP.recurses 3)=true:=by kernel_rfl
theorem q13:(Rows.semaTextRow.named==zP.varsNamed 3)=true:=by kernel_rfl
end semaText
end Go.Proofs.YtmjfldclpijghaaGreatDoor
