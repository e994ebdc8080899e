/- 'SemaText': the tied card. -/
import Derived.Test.YtmjfldclpijghaaGreatDoorZtSmQTC
import Derived.Test.YtmjfldclpijghaaGreatDoorZtSmQTP
set_option linter.unusedSimpArgs false
set_option linter.unusedVariables false
namespace Go.Proofs.YtmjfldclpijghaaGreatDoor
open Go.ChangeShapes Go.WideShapes Go.ChangeAt Go.ChangeMaps Go.RowKit Go.Proofs.Fw
set_option maxRecDepth 100000
namespace semaText
theorem card:Rows.SemaTextCardSaid :=Claim7.holds_tied_plain_at .later [] _ _ _ _ said (fun _ h=>by cases h) (by kernel_rfl) (fun _ h=>by cases h) semaText_row_tie rfl ⟨rfl,rfl⟩ (by kernel_rfl) rfl plain (by kernel_rfl)
end semaText
theorem semaText_card:Rows.SemaTextCardSaid:=semaText.card
end Go.Proofs.YtmjfldclpijghaaGreatDoor
