/- 'SemaIndices': its contract, lifted. -/
import Derived.Test.YtmjfldclpijghaaGreatDoorZsSmQNR
set_option linter.unusedSimpArgs false
set_option linter.unusedVariables false
namespace Go.Proofs.YtmjfldclpijghaaGreatDoor
open Go.ChangeShapes Go.WideShapes Go.ChangeAt Go.ChangeMaps Go.RowKit Go.Proofs.Fw
set_option maxRecDepth 100000
namespace semaIndices
theorem lifted (os:Os) (started:os.Started) (H:Type) (enc:TypeId × Value→H) (F:Stop.Interp) :
  ReturnsInHanded {} Tryz.checked os 6 .any ((OpenSpec.ofChange Rows.semaIndicesSpec).preRow enc zP Tryz.f6 Rows.semaIndicesRow.domain false Rows.semaIndicesRow.laid) (((OpenSpec.ofChange Rows.semaIndicesSpec).at F).post enc zP Tryz.f6 false true false false):=by
 obtain ⟨places,hx⟩:=reads os enc
 refine returnsInHanded_of_row (C:=Tryz.checked) (s:=OpenSpec.ofChange Rows.semaIndicesSpec) own started (by kernel_rfl) Tryz.func6
  (witness_row_atRef (enc:=enc) (C:=Tryz.checked) false (wS os) #[.int .u8 0,.int .u8 0,.int .u8 0,.int .u8 0] (XL os) (by kernel_rfl) (by kernel_rfl) (by kernel_rfl)
   (OpenSpec.preRow_of_cond 8 hx (by kernel_rfl) (fun k hk=>by cases hk) (by kernel_rfl) (laid_met os))) ?_
 intro W base args ds gs before rJ hW _ _ _ hL _ _;exact contract H enc W base args ds gs before rJ hW hL
end semaIndices
end Go.Proofs.YtmjfldclpijghaaGreatDoor
