/- 'StmtItems': the tied card. -/
import Derived.Test.YtejjlojfgcgopaaGreatDoorZiSkQIC
import Derived.Test.YtejjlojfgcgopaaGreatDoorZiSkQIP
set_option linter.unusedSimpArgs false
set_option linter.unusedVariables false
namespace Go.Proofs.YtejjlojfgcgopaaGreatDoor
open Go.ChangeShapes Go.WideShapes Go.ChangeAt Go.ChangeMaps Go.RowKit Go.Proofs.Fw
set_option maxRecDepth 100000
namespace stmtItems
theorem card : Rows.StmtItemsCardSaid :=
  Claim7.holds_tied_plain_at .later [] _ _ _ _ said (fun _ h => by cases h) (by kernel_rfl) (fun _ h => by cases h) stmtItems_row_tie rfl ⟨rfl, rfl⟩ (by kernel_rfl) rfl plain (by kernel_rfl)
end stmtItems
theorem stmtItems_card : Rows.StmtItemsCardSaid := stmtItems.card
end Go.Proofs.YtejjlojfgcgopaaGreatDoor
