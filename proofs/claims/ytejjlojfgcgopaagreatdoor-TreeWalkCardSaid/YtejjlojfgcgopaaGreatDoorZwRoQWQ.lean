/- 'TreeWalk': what its row tells of the calls. -/
import Derived.Test.YtejjlojfgcgopaaGreatDoorZwRoQWB
set_option linter.unusedSimpArgs false
set_option linter.unusedVariables false
namespace Go.Proofs.YtejjlojfgcgopaaGreatDoor
open Go.ChangeShapes Go.WideShapes Go.ChangeAt Go.ChangeMaps Go.RowKit Go.Proofs.Fw
set_option maxRecDepth 100000
namespace treeWalk
theorem q10:(Rows.treeWalkRow.inPlace==Tryz.prog.inPlace 11)=true:=by kernel_rfl
theorem q11:(Rows.treeWalkRow.unfollowed==Tryz.prog.unfollowed 11)=true:=by kernel_rfl
theorem q12:(Rows.treeWalkRow.recurses==Tryz.prog.recurses 11)=true:=by kernel_rfl
theorem q13:(Rows.treeWalkRow.named==Tryz.prog.varsNamed 11)=true:=by kernel_rfl
end treeWalk
end Go.Proofs.YtejjlojfgcgopaaGreatDoor
