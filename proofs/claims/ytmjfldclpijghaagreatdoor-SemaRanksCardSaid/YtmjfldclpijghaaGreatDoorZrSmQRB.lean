/- 'SemaRanks': its contract, lifted. -/
import Derived.Test.YtmjfldclpijghaaGreatDoorZrSmQRR
set_option linter.unusedSimpArgs false
set_option linter.unusedVariables false
namespace Go.Proofs.YtmjfldclpijghaaGreatDoor
open Go.ChangeShapes Go.WideShapes Go.ChangeAt Go.ChangeMaps Go.RowKit Go.Proofs.Fw
set_option maxRecDepth 100000
namespace semaRanks
theorem lH (os:Os) (started:os.Started) (H:Type) (enc:TypeId × Value→H) (F:Stop.Interp) :
  ReturnsInHanded {} Tryz.checked os 5 .any ((OpenSpec.ofChange Rows.semaRanksSpec).preRow enc zP Tryz.f5 Rows.semaRanksRow.domain false Rows.semaRanksRow.laid) (((OpenSpec.ofChange Rows.semaRanksSpec).at F).post enc zP Tryz.f5 false true false false):=by
 obtain ⟨places,hx⟩:=lK os enc
 refine returnsInHanded_of_row (C:=Tryz.checked) (s:=OpenSpec.ofChange Rows.semaRanksSpec) own started (by kernel_rfl) Tryz.func5
  (witness_row_atRef (enc:=enc) (C:=Tryz.checked) false (wS os) #[.int .u8 0,.int .u8 0,.bool false] (XL os) (by kernel_rfl) (by kernel_rfl) (by kernel_rfl)
   (OpenSpec.preRow_of_cond 8 hx (by kernel_rfl) (fun k hk=>by cases hk) (by kernel_rfl) (lJ os))) ?_
 intro W base args ds gs before rJ hW _ _ _ hL _ _;exact contract H enc W base args ds gs before rJ hW hL
end semaRanks
end Go.Proofs.YtmjfldclpijghaaGreatDoor
