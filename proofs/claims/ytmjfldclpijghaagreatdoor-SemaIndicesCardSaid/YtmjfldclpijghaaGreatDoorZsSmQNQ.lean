/- 'SemaIndices': what its row tells of the calls. -/
import Derived.Test.YtmjfldclpijghaaGreatDoorZsSmQNA
set_option linter.unusedSimpArgs false
set_option linter.unusedVariables false
namespace Go.Proofs.YtmjfldclpijghaaGreatDoor
open Go.ChangeShapes Go.WideShapes Go.ChangeAt Go.ChangeMaps Go.RowKit Go.Proofs.Fw
set_option maxRecDepth 100000
namespace semaIndices
theorem q10:(Rows.semaIndicesRow.inPlace==zP.inPlace 6)=true:=by kernel_rfl
theorem q11:(Rows.semaIndicesRow.unfollowed==zP.unfollowed 6)=true:=by kernel_rfl
theorem q12:(Rows.semaIndicesRow.recurses==zP.recurses 6)=true:=by kernel_rfl
theorem q13:(Rows.semaIndicesRow.named==zP.varsNamed 6)=true:=by kernel_rfl
end semaIndices
end Go.Proofs.YtmjfldclpijghaaGreatDoor
