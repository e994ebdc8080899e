/- 'SemaText': its contract, lifted. -/
import Derived.Test.YtmjfldclpijghaaGreatDoorZtSmQTR
set_option linter.unusedSimpArgs false
set_option linter.unusedVariables false
namespace Go.Proofs.YtmjfldclpijghaaGreatDoor
open Go.ChangeShapes Go.WideShapes Go.ChangeAt Go.ChangeMaps Go.RowKit Go.Proofs.Fw
set_option maxRecDepth 100000
namespace semaText
theorem lH (os:Os) (started:os.Started) (H:Type) (enc:TypeId × Value→H) (F:Stop.Interp) :
  ReturnsInHanded {} Tryz.checked os 3 .any ((OpenSpec.ofChange Rows.semaTextSpec).preRow enc zP Tryz.f3 Rows.semaTextRow.domain false Rows.semaTextRow.laid) (((OpenSpec.ofChange Rows.semaTextSpec).at F).post enc zP Tryz.f3 false true false false):=by
 obtain ⟨places,hx⟩:=lK os enc
 refine returnsInHanded_of_row (C:=Tryz.checked) (s:=OpenSpec.ofChange Rows.semaTextSpec) own started (by kernel_rfl) Tryz.func3
  (witness_row_atRef (enc:=enc) (C:=Tryz.checked) false (wS os) #[.string ⟨#[]⟩,.string ⟨#[]⟩] (XL os) (by kernel_rfl) (by kernel_rfl) (by kernel_rfl)
   (OpenSpec.preRow_of_cond 8 hx (by kernel_rfl) (fun k hk=>by cases hk) (by kernel_rfl) (lJ os))) ?_
 intro W base args ds gs before rJ hW _ _ _ hL _ _;exact contract H enc W base args ds gs before rJ hW hL
end semaText
end Go.Proofs.YtmjfldclpijghaaGreatDoor
