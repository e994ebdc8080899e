/- 'TreeWalk': what is laid; what is read. -/
import Derived.Test.YtejjlojfgcgopaaGreatDoorZwRoQWA
set_option linter.unusedSimpArgs false
set_option linter.unusedVariables false
namespace Go.Proofs.YtejjlojfgcgopaaGreatDoor
open Go.ChangeShapes Go.WideShapes Go.ChangeAt Go.ChangeMaps Go.RowKit Go.Proofs.Fw
set_option maxRecDepth 100000
namespace treeWalk
theorem nM (os:Os):laidMetH Tryz.prog Rows.treeWalkRow.laid ((wT os).forCall (fun _ _=>0) ⟨#[],#[.string ⟨#[]⟩,.int .u8 0],[]⟩).memory :=Y3 os _
theorem nN (os:Os) {H:Type} (enc:TypeId × Value→H):∃places,DataW.whole enc Tryz.prog ((wT os).forCall (fun _ _=>0) ⟨#[],#[.string ⟨#[]⟩,.int .u8 0],[]⟩).memory Tryz.f11.params.toList Rows.treeWalkSpec.vars false #[Value.string ⟨#[]⟩,Value.int .u8 0].toList 8=some ([.lit (.string []),.lit (.int .u8 0)],[],places) :=⟨[],by kernel_rfl⟩
end treeWalk
end Go.Proofs.YtejjlojfgcgopaaGreatDoor
