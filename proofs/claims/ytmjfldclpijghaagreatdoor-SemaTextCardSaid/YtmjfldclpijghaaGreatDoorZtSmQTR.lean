/- 'SemaText': what is laid; what is read. -/
import Derived.Test.YtmjfldclpijghaaGreatDoorZtSmQTA
set_option linter.unusedSimpArgs false
set_option linter.unusedVariables false
namespace Go.Proofs.YtmjfldclpijghaaGreatDoor
open Go.ChangeShapes Go.WideShapes Go.ChangeAt Go.ChangeMaps Go.RowKit Go.Proofs.Fw
set_option maxRecDepth 100000
namespace semaText
theorem lJ (os:Os):laidMetH zP Rows.semaTextRow.laid ((wS os).forCall (fun _ _=>0) ⟨#[],#[.string ⟨#[]⟩,.string ⟨#[]⟩],[]⟩).memory :=XP os _
theorem lK (os:Os) {H:Type} (enc:TypeId × Value→H):∃places,DataW.whole enc zP ((wS os).forCall (fun _ _=>0) ⟨#[],#[.string ⟨#[]⟩,.string ⟨#[]⟩],[]⟩).memory Tryz.f3.params.toList Rows.semaTextSpec.vars false #[Value.string ⟨#[]⟩,Value.string ⟨#[]⟩].toList 8=some ([.lit (.string []),.lit (.string [])],[],places) :=⟨[],by kernel_rfl⟩
end semaText
end Go.Proofs.YtmjfldclpijghaaGreatDoor
