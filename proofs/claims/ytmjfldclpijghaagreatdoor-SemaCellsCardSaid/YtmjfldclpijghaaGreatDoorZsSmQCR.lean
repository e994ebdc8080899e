/- 'SemaCells': what is laid; what is read. -/
import Derived.Test.YtmjfldclpijghaaGreatDoorZsSmQCA
set_option linter.unusedSimpArgs false
set_option linter.unusedVariables false
namespace Go.Proofs.YtmjfldclpijghaaGreatDoor
open Go.ChangeShapes Go.WideShapes Go.ChangeAt Go.ChangeMaps Go.RowKit Go.Proofs.Fw
set_option maxRecDepth 100000
namespace semaCells
theorem laid_met (os:Os):laidMetH zP Rows.semaCellsRow.laid ((wS os).forCall (fun _ _=>0) ⟨#[],#[.slice none 0 0],[]⟩).memory :=XP os _
theorem reads (os:Os) {H:Type} (enc:TypeId × Value→H):∃places,DataW.whole enc zP ((wS os).forCall (fun _ _=>0) ⟨#[],#[.slice none 0 0],[]⟩).memory Tryz.f4.params.toList Rows.semaCellsSpec.vars false #[Value.slice none 0 0].toList 8=some ([.nil],[],places) :=⟨[],by kernel_rfl⟩
end semaCells
end Go.Proofs.YtmjfldclpijghaaGreatDoor
