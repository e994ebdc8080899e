/- 'SemaCells': the tied card. -/
import Derived.Test.YtmjfldclpijghaaGreatDoorZsSmQCC
import Derived.Test.YtmjfldclpijghaaGreatDoorZsSmQCP
set_option linter.unusedSimpArgs false
set_option linter.unusedVariables false
namespace Go.Proofs.YtmjfldclpijghaaGreatDoor
open Go.ChangeShapes Go.WideShapes Go.ChangeAt Go.ChangeMaps Go.RowKit Go.Proofs.Fw
set_option maxRecDepth 100000
namespace semaCells
theorem card:Rows.SemaCellsCardSaid :=Claim7.holds_tied_plain_at .later [] _ _ _ _ said (fun _ h=>by cases h) (by kernel_rfl) (fun _ h=>by cases h) semaCells_row_tie rfl ⟨rfl,rfl⟩ (by kernel_rfl) rfl plain (by kernel_rfl)
end semaCells
theorem semaCells_card:Rows.SemaCellsCardSaid:=semaCells.card
end Go.Proofs.YtmjfldclpijghaaGreatDoor
