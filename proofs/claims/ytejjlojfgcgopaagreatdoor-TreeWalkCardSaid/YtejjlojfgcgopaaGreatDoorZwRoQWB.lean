/- 'TreeWalk': its contract, lifted. -/
import Derived.Test.YtejjlojfgcgopaaGreatDoorZwRoQWR
set_option linter.unusedSimpArgs false
set_option linter.unusedVariables false
namespace Go.Proofs.YtejjlojfgcgopaaGreatDoor
open Go.ChangeShapes Go.WideShapes Go.ChangeAt Go.ChangeMaps Go.RowKit Go.Proofs.Fw
set_option maxRecDepth 100000
namespace treeWalk
theorem nK (os:Os) (started:os.Started) (H:Type) (enc:TypeId × Value→H) (F:Stop.Interp) :
  ReturnsInHanded {} Tryz.checked os 11 .any ((OpenSpec.ofChange Rows.treeWalkSpec).preRow enc Tryz.prog Tryz.f11 Rows.treeWalkRow.domain false Rows.treeWalkRow.laid) (((OpenSpec.ofChange Rows.treeWalkSpec).at F).post enc Tryz.prog Tryz.f11 false true false false):=by
 obtain ⟨places,hx⟩:=nN os enc
 refine returnsInHanded_of_row (C:=Tryz.checked) (s:=OpenSpec.ofChange Rows.treeWalkSpec) own started (by kernel_rfl) Tryz.func11
  (witness_row_atRef (enc:=enc) (C:=Tryz.checked) false (wT os) #[.string ⟨#[]⟩,.int .u8 0] (Yz os) (by kernel_rfl) (by kernel_rfl) (by kernel_rfl)
   (OpenSpec.preRow_of_cond 8 hx (by kernel_rfl) (fun k hk=>by cases hk) (by kernel_rfl) (nM os))) ?_
 intro W base args ds gs before tg hW _ _ _ hL _ _;exact nJ H enc W base args ds gs before tg hW hL
end treeWalk
end Go.Proofs.YtejjlojfgcgopaaGreatDoor
