/- 'SemaIndices': the tied card. -/
import Derived.Test.YtmjfldclpijghaaGreatDoorZsSmQNC
import Derived.Test.YtmjfldclpijghaaGreatDoorZsSmQNP
set_option linter.unusedSimpArgs false
set_option linter.unusedVariables false
namespace Go.Proofs.YtmjfldclpijghaaGreatDoor
open Go.ChangeShapes Go.WideShapes Go.ChangeAt Go.ChangeMaps Go.RowKit Go.Proofs.Fw
set_option maxRecDepth 100000
namespace semaIndices
theorem card:Rows.SemaIndicesCardSaid :=Claim7.holds_tied_plain_at .later [] _ _ _ _ said (fun _ h=>by cases h) (by kernel_rfl) (fun _ h=>by cases h) semaIndices_row_tie rfl ⟨rfl,rfl⟩ (by kernel_rfl) rfl plain (by kernel_rfl)
end semaIndices
theorem semaIndices_card:Rows.SemaIndicesCardSaid:=semaIndices.card
end Go.Proofs.YtmjfldclpijghaaGreatDoor
