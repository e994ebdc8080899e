/- 'SemaCells': its function, looked up plainly. -/
import Derived.Test.YtmjfldclpijghaaGreatDoorZsSmQCA
set_option linter.unusedSimpArgs false
set_option linter.unusedVariables false
namespace Go.Proofs.YtmjfldclpijghaaGreatDoor
open Go.ChangeShapes Go.WideShapes Go.ChangeAt Go.ChangeMaps Go.RowKit Go.Proofs.Fw
set_option maxRecDepth 100000
namespace semaCells
theorem plain (f:FuncId) (fn:Func) (hf:Tryz.pinned.checked.prog.funcNamed "furrow/furrowlaw8.SemaCells" = some f) (vZ:Tryz.pinned.checked.prog.funcs[f]? = some fn) :
  true=Tryz.pinned.checked.prog.looks []∧∀(j:Nat) t,fn.params[j]? = some t→Tryz.pinned.checked.prog.wantsStandIn t=false:=by
 obtain rfl:f=4:=Option.some.inj ((show zP.funcNamed "furrow/furrowlaw8.SemaCells" = some 4 by kernel_rfl).symm.trans hf) |>.symm;obtain rfl:fn=Tryz.f4:=(Option.some.inj (Tryz.func4.symm.trans vZ)).symm;refine ⟨by kernel_rfl,fun j t ht => ?_⟩;rw [Tryz.params4] at ht;have ht':=Array.mem_of_getElem? ht;simp only [List.mem_toArray,List.mem_cons,List.not_mem_nil,or_false,or_self] at ht';subst ht';exact (show zP.wantsStandIn 57=false by kernel_rfl)
end semaCells
end Go.Proofs.YtmjfldclpijghaaGreatDoor
