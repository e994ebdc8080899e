/- 'SemaCells': its contract, lifted. -/
import Derived.Test.YtmjfldclpijghaaGreatDoorZsSmQCR
set_option linter.unusedSimpArgs false
set_option linter.unusedVariables false
namespace Go.Proofs.YtmjfldclpijghaaGreatDoor
open Go.ChangeShapes Go.WideShapes Go.ChangeAt Go.ChangeMaps Go.RowKit Go.Proofs.Fw
set_option maxRecDepth 100000
namespace semaCells
theorem lifted (os:Os) (started:os.Started) (H:Type) (enc:TypeId × Value→H) (F:Stop.Interp) :
  ReturnsInHanded {} Tryz.checked os 4 .any ((OpenSpec.ofChange Rows.semaCellsSpec).preRow enc zP Tryz.f4 Rows.semaCellsRow.domain false Rows.semaCellsRow.laid) (((OpenSpec.ofChange Rows.semaCellsSpec).at F).post enc zP Tryz.f4 false true false false):=by
 obtain ⟨places,hx⟩:=reads os enc
 refine returnsInHanded_of_row (C:=Tryz.checked) (s:=OpenSpec.ofChange Rows.semaCellsSpec) own started (by kernel_rfl) Tryz.func4
  (witness_row_atRef (enc:=enc) (C:=Tryz.checked) false (wS os) #[.slice none 0 0] (XL os) (by kernel_rfl) (by kernel_rfl) (by kernel_rfl)
   (OpenSpec.preRow_of_cond 8 hx (by kernel_rfl) (fun k hk=>by cases hk) (by kernel_rfl) (laid_met os))) ?_
 intro W base args ds gs before rJ hW _ _ _ hL _ _;exact contract H enc W base args ds gs before rJ hW hL
end semaCells
end Go.Proofs.YtmjfldclpijghaaGreatDoor
