/- 'StmtKinds': what its row tells of the calls. -/
import Derived.Test.YtejjlojfgcgopaaGreatDoorSkQKB
set_option linter.unusedSimpArgs false
set_option linter.unusedVariables false
namespace Go.Proofs.YtejjlojfgcgopaaGreatDoor
open Go.ChangeShapes Go.WideShapes Go.ChangeAt Go.ChangeMaps Go.RowKit Go.Proofs.Fw
set_option maxRecDepth 100000

namespace stmtKinds
theorem q10 : (Rows.stmtKindsRow.inPlace == Tryz.prog.inPlace 3) = true := by kernel_rfl
theorem q11 : (Rows.stmtKindsRow.unfollowed == Tryz.prog.unfollowed 3) = true := by kernel_rfl
theorem q12 : (Rows.stmtKindsRow.recurses == Tryz.prog.recurses 3) = true := by kernel_rfl
theorem q13 : (Rows.stmtKindsRow.named == Tryz.prog.varsNamed 3) = true := by kernel_rfl
end stmtKinds
end Go.Proofs.YtejjlojfgcgopaaGreatDoor
