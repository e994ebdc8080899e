/- 'TreeChoices': what is laid; what is read. -/
import Derived.Test.YtejjlojfgcgopaaGreatDoorZRoQCA
set_option linter.unusedSimpArgs false
set_option linter.unusedVariables false
namespace Go.Proofs.YtejjlojfgcgopaaGreatDoor
open Go.ChangeShapes Go.WideShapes Go.ChangeAt Go.ChangeMaps Go.RowKit Go.Proofs.Fw
set_option maxRecDepth 100000
namespace treeChoices
theorem laid_met (os : Os) : laidMetH Tryz.prog Rows.treeChoicesRow.laid ((wT os).forCall (fun _ _ => 0) ⟨#[], #[.int .u8 0, .int .u8 0, .bool false], []⟩).memory :=
  laidTC os _
theorem reads (os : Os) {H : Type} (enc : TypeId × Value → H) : ∃ places, DataW.whole enc Tryz.prog ((wT os).forCall (fun _ _ => 0) ⟨#[], #[.int .u8 0, .int .u8 0, .bool false], []⟩).memory Tryz.f14.params.toList Rows.treeChoicesSpec.vars false #[Value.int .u8 0, Value.int .u8 0, Value.bool false].toList 8 = some ([.lit (.int .u8 0), .lit (.int .u8 0), .lit (.bool false)], [], places) :=
  ⟨[], by kernel_rfl⟩
end treeChoices
end Go.Proofs.YtejjlojfgcgopaaGreatDoor
