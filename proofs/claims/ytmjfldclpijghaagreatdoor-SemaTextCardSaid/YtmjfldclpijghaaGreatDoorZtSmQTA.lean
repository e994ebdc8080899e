/- 'SemaText' returns true, whatever it is handed; the tied card. -/
import Derived.Test.YtmjfldclpijghaaGreatDoorZt11
set_option linter.unusedSimpArgs false
set_option linter.unusedVariables false
namespace Go.Proofs.YtmjfldclpijghaaGreatDoor
open Go.ChangeShapes Go.WideShapes Go.ChangeAt Go.ChangeMaps Go.RowKit Go.Proofs.Fw
set_option maxRecDepth 100000
namespace semaText
theorem walk (a0:ByteArray) (a1:ByteArray) (W:World) (hL:laidMetH zP Rows.semaTextRow.laid W) :
  Calls zP 3 #[.string a0,.string a1] W fun e W'=>e = .returned (.bool true)∧Below W.heap.size W W':=by
 exact (CS.ofS (zDC a0.data.toList a1.data.toList [])).lift_bool (XK hL) (cargs:=[.string a0,.string a1]) (by simp [AB,AA])
theorem contract (H:Type) (enc:TypeId × Value→H) (W:World) (base:Nat) (args:Array Value) (ds gs:List (DataW H)) (before:List MemPlace)
  (rJ:∀(j:Nat) t v,Tryz.f3.params[j]? = some t→args[j]? = some v→Value.okWide zP W .any base t v)
  (hW:DataW.Whole enc zP Tryz.f3.params.toList Rows.semaTextSpec.vars false W args.toList ds gs before) (hL:laidMetH zP Rows.semaTextRow.laid W) :
  Calls zP 3 args W fun e W'=>∃v,e = .returned v∧Rows.semaTextSpec.post enc zP Tryz.f3 false true false false W args v W':=by
 have hW':=hW;obtain ⟨p,q,rx,hV,rfl,wT,ph⟩:=hW;have hA:DataW.TrodAll enc zP W 0 (fun _=>true) true Tryz.f3.params.toList args.toList ds p:=rx;rw [Tryz.params3] at hA rJ;obtain ⟨v0,vs0,d0,ds0,p0,q0,yR,rfl,rfl,h0,r0⟩:=trodAll_cons hA;obtain ⟨v1,vs1,d1,ds1,p1,q1,rfl,rfl,rfl,h1,r1⟩:=trodAll_cons r0;obtain ⟨rfl,rfl,rfl⟩:=trodAll_nil r1;obtain rfl:args = #[v0,v1]:=by cases args;simp_all
 obtain ⟨rfl,rfl⟩:=trodVars_none hV;obtain ⟨a0,rfl,rfl,rfl,w0⟩:=open_string Tryz.underlying9 (rJ 0 9 v0 rfl rfl) h0;obtain ⟨a1,rfl,rfl,rfl,w1⟩:=open_string Tryz.underlying9 (rJ 1 9 v1 rfl rfl) h1;clear rx;refine (walk a0 a1 W hL).mono fun e W' ⟨he,bel⟩ => ?_
 subst he;exact ⟨_,rfl,_,_,_,[],_,[],hW',trodAll_mk1 (shut_bool Tryz.underlying4 _),trodAll_cons_mk (shut_string Tryz.underlying9 w0) (trodAll_cons_mk (shut_string Tryz.underlying9 w1) trodAll_mk0),rfl,bel.frame _,fun h=>by cases h⟩
end semaText
end Go.Proofs.YtmjfldclpijghaaGreatDoor
