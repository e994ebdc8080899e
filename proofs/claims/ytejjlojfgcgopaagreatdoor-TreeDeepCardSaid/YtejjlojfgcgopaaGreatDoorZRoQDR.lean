/- 'TreeDeep': what is laid; what is read. -/
import Derived.Test.YtejjlojfgcgopaaGreatDoorZRoQDA
set_option linter.unusedSimpArgs false
set_option linter.unusedVariables false
namespace Go.Proofs.YtejjlojfgcgopaaGreatDoor
open Go.ChangeShapes Go.WideShapes Go.ChangeAt Go.ChangeMaps Go.RowKit Go.Proofs.Fw
set_option maxRecDepth 100000
namespace treeDeep
theorem laid_met (os : Os) : laidMetH Tryz.prog Rows.treeDeepRow.laid ((wT os).forCall (fun _ _ => 0) ⟨#[], #[.int .u8 0, .int .u8 0], []⟩).memory :=
  laidTC os _
theorem reads (os : Os) {H : Type} (enc : TypeId × Value → H) : ∃ places, DataW.whole enc Tryz.prog ((wT os).forCall (fun _ _ => 0) ⟨#[], #[.int .u8 0, .int .u8 0], []⟩).memory Tryz.f12.params.toList Rows.treeDeepSpec.vars false #[Value.int .u8 0, Value.int .u8 0].toList 8 = some ([.lit (.int .u8 0), .lit (.int .u8 0)], [], places) :=
  ⟨[], by kernel_rfl⟩
end treeDeep
end Go.Proofs.YtejjlojfgcgopaaGreatDoor
