/- 'TreeText': what is laid; what is read. -/
import Derived.Test.YtffcldkblcmmiaaGreatDoorZtRoQXA
set_option linter.unusedSimpArgs false
set_option linter.unusedVariables false
namespace Go.Proofs.YtffcldkblcmmiaaGreatDoor
open Go.ChangeShapes Go.WideShapes Go.ChangeAt Go.ChangeMaps Go.RowKit Go.Proofs.Fw
set_option maxRecDepth 100000
namespace treeText
theorem pR (os:Os):laidMetH Tryz.prog Rows.treeTextRow.laid ((wT os).forCall (fun _ _=>0) ⟨#[],#[.string ⟨#[]⟩,.int .i64 0],[]⟩).memory :=ax os _
theorem pS (os:Os) {H:Type} (enc:TypeId × Value→H):∃places,DataW.whole enc Tryz.prog ((wT os).forCall (fun _ _=>0) ⟨#[],#[.string ⟨#[]⟩,.int .i64 0],[]⟩).memory Tryz.f3.params.toList Rows.treeTextSpec.vars false #[Value.string ⟨#[]⟩,Value.int .i64 0].toList 8=some ([.lit (.string []),.lit (.int .i64 0)],[],places) :=⟨[],by kernel_rfl⟩
end treeText
end Go.Proofs.YtffcldkblcmmiaaGreatDoor
