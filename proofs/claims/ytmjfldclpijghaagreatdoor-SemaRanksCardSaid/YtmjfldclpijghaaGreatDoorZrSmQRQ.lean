/- 'SemaRanks': what its row tells of the calls. -/
import Derived.Test.YtmjfldclpijghaaGreatDoorZrSmQRA
set_option linter.unusedSimpArgs false
set_option linter.unusedVariables false
namespace Go.Proofs.YtmjfldclpijghaaGreatDoor
open Go.ChangeShapes Go.WideShapes Go.ChangeAt Go.ChangeMaps Go.RowKit Go.Proofs.Fw
set_option maxRecDepth 100000
namespace semaRanks
theorem q10:(Rows.semaRanksRow.inPlace==zP.inPlace 5)=true:=by kernel_rfl
theorem q11:(Rows.semaRanksRow.unfollowed==zP.unfollowed 5)=true:=by kernel_rfl
theorem q12:(Rows.semaRanksRow.recurses==zP.recurses 5)=true:=by kernel_rfl
theorem q13:(Rows.semaRanksRow.named==zP.varsNamed 5)=true:=by kernel_rfl
end semaRanks
end Go.Proofs.YtmjfldclpijghaaGreatDoor
