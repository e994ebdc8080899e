/- 'TreeText': its contract, lifted. -/
import Derived.Test.YtffcldkblcmmiaaGreatDoorZtRoQXR
set_option linter.unusedSimpArgs false
set_option linter.unusedVariables false
namespace Go.Proofs.YtffcldkblcmmiaaGreatDoor
open Go.ChangeShapes Go.WideShapes Go.ChangeAt Go.ChangeMaps Go.RowKit Go.Proofs.Fw
set_option maxRecDepth 100000
namespace treeText
theorem pP (os:Os) (started:os.Started) (H:Type) (enc:TypeId × Value→H) (F:Stop.Interp) :
  ReturnsInHanded {} Tryz.checked os 3 .any ((OpenSpec.ofChange Rows.treeTextSpec).preRow enc Tryz.prog Tryz.f3 Rows.treeTextRow.domain false Rows.treeTextRow.laid) (((OpenSpec.ofChange Rows.treeTextSpec).at F).post enc Tryz.prog Tryz.f3 false true false false):=by
 obtain ⟨places,hx⟩:=pS os enc
 refine returnsInHanded_of_row (C:=Tryz.checked) (s:=OpenSpec.ofChange Rows.treeTextSpec) own started (by kernel_rfl) Tryz.func3
  (witness_row_atRef (enc:=enc) (C:=Tryz.checked) false (wT os) #[.string ⟨#[]⟩,.int .i64 0] (ao os) (by kernel_rfl) (by kernel_rfl) (by kernel_rfl)
   (OpenSpec.preRow_of_cond 8 hx (by kernel_rfl) (fun k hk=>by cases hk) (by kernel_rfl) (pR os))) ?_
 intro W base args ds gs before wX hW _ _ _ hL _ _;exact pO H enc W base args ds gs before wX hW hL
end treeText
end Go.Proofs.YtffcldkblcmmiaaGreatDoor
