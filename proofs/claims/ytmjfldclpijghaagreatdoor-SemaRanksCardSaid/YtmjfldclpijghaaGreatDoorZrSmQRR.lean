/- 'SemaRanks': what is laid; what is read. -/
import Derived.Test.YtmjfldclpijghaaGreatDoorZrSmQRA
set_option linter.unusedSimpArgs false
set_option linter.unusedVariables false
namespace Go.Proofs.YtmjfldclpijghaaGreatDoor
open Go.ChangeShapes Go.WideShapes Go.ChangeAt Go.ChangeMaps Go.RowKit Go.Proofs.Fw
set_option maxRecDepth 100000
namespace semaRanks
theorem lJ (os:Os):laidMetH zP Rows.semaRanksRow.laid ((wS os).forCall (fun _ _=>0) ⟨#[],#[.int .u8 0,.int .u8 0,.bool false],[]⟩).memory :=XP os _
theorem lK (os:Os) {H:Type} (enc:TypeId × Value→H):∃places,DataW.whole enc zP ((wS os).forCall (fun _ _=>0) ⟨#[],#[.int .u8 0,.int .u8 0,.bool false],[]⟩).memory Tryz.f5.params.toList Rows.semaRanksSpec.vars false #[Value.int .u8 0,Value.int .u8 0,Value.bool false].toList 8=some ([.lit (.int .u8 0),.lit (.int .u8 0),.lit (.bool false)],[],places) :=⟨[],by kernel_rfl⟩
end semaRanks
end Go.Proofs.YtmjfldclpijghaaGreatDoor
