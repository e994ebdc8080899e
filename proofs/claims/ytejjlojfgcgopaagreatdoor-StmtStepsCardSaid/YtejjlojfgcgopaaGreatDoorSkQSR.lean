/- 'StmtSteps': what is laid; what is read. -/
import Derived.Test.YtejjlojfgcgopaaGreatDoorSkQSA
set_option linter.unusedSimpArgs false
set_option linter.unusedVariables false
namespace Go.Proofs.YtejjlojfgcgopaaGreatDoor
open Go.ChangeShapes Go.WideShapes Go.ChangeAt Go.ChangeMaps Go.RowKit Go.Proofs.Fw
set_option maxRecDepth 100000

namespace stmtSteps
theorem laid_met (os : Os) : laidMetH Tryz.prog Rows.stmtStepsRow.laid ((World.doorLaid Tryz.prog 93 os).forCall (fun _ _ => 0) ⟨#[], #[.int .u32 0, .bool false], []⟩).memory :=
  laidMetH_of_parts3 (fuel := 8) (laidMet_of_run' 8 (by kernel_rfl) (by kernel_rfl)) (by kernel_rfl) (by kernel_rfl)
theorem reads (os : Os) {H : Type} (enc : TypeId × Value → H) : ∃ places, DataW.whole enc Tryz.prog ((World.doorLaid Tryz.prog 93 os).forCall (fun _ _ => 0) ⟨#[], #[.int .u32 0, .bool false], []⟩).memory Tryz.f5.params.toList Rows.stmtStepsSpec.vars false #[Value.int .u32 0, Value.bool false].toList 8 = some ([.lit (.int .u32 0), .lit (.bool false)], [], places) :=
  ⟨[], by kernel_rfl⟩

end stmtSteps
end Go.Proofs.YtejjlojfgcgopaaGreatDoor
