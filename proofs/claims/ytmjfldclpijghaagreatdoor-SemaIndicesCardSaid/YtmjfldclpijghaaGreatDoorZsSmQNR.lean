/- 'SemaIndices': what is laid; what is read. -/
import Derived.Test.YtmjfldclpijghaaGreatDoorZsSmQNA
set_option linter.unusedSimpArgs false
set_option linter.unusedVariables false
namespace Go.Proofs.YtmjfldclpijghaaGreatDoor
open Go.ChangeShapes Go.WideShapes Go.ChangeAt Go.ChangeMaps Go.RowKit Go.Proofs.Fw
set_option maxRecDepth 100000
namespace semaIndices
theorem laid_met (os:Os):laidMetH zP Rows.semaIndicesRow.laid ((wS os).forCall (fun _ _=>0) ⟨#[],#[.int .u8 0,.int .u8 0,.int .u8 0,.int .u8 0],[]⟩).memory :=XP os _
theorem reads (os:Os) {H:Type} (enc:TypeId × Value→H):∃places,DataW.whole enc zP ((wS os).forCall (fun _ _=>0) ⟨#[],#[.int .u8 0,.int .u8 0,.int .u8 0,.int .u8 0],[]⟩).memory Tryz.f6.params.toList Rows.semaIndicesSpec.vars false #[Value.int .u8 0,Value.int .u8 0,Value.int .u8 0,Value.int .u8 0].toList 8=some ([.lit (.int .u8 0),.lit (.int .u8 0),.lit (.int .u8 0),.lit (.int .u8 0)],[],places) :=⟨[],by kernel_rfl⟩
end semaIndices
end Go.Proofs.YtmjfldclpijghaaGreatDoor
