/- 'SemaCells' returns true, whatever it is handed; the tied card. -/
import Derived.Test.YtmjfldclpijghaaGreatDoorZs11
import Derived.Test.YtmjfldclpijghaaGreatDoorZs10
set_option linter.unusedSimpArgs false
set_option linter.unusedVariables false
namespace Go.Proofs.YtmjfldclpijghaaGreatDoor
open Go.ChangeShapes Go.WideShapes Go.ChangeAt Go.ChangeMaps Go.RowKit Go.Proofs.Fw
set_option maxRecDepth 100000
namespace semaCells
theorem walk (a0:Value) (lv0:AV) (zs0:List Int) (ql:y3 .u16 lv0 zs0) (wz0:∀z∈zs0,(Lit.int .u16 z).wf=true) (W:World) (hr0:AA (EF W) lv0 a0) (hL:laidMetH zP Rows.semaCellsRow.laid W) :
  Calls zP 4 #[a0] W fun e W'=>e = .returned (.bool true)∧Below W.heap.size W W':=by
 exact (CS.ofS (zz ql wz0 [])).lift_bool (XK hL) (cargs:=[a0]) (by simp only [AB];exact ⟨a0,[],rfl,hr0,rfl⟩)
theorem zAA:laidOutB zP=true:=by kernel_rfl
theorem contract (H:Type) (enc:TypeId × Value→H) (W:World) (base:Nat) (args:Array Value) (ds gs:List (DataW H)) (before:List MemPlace)
  (rJ:∀(j:Nat) t v,Tryz.f4.params[j]? = some t→args[j]? = some v→Value.okWide zP W .any base t v)
  (hW:DataW.Whole enc zP Tryz.f4.params.toList Rows.semaCellsSpec.vars false W args.toList ds gs before) (hL:laidMetH zP Rows.semaCellsRow.laid W) :
  Calls zP 4 args W fun e W'=>∃v,e = .returned v∧Rows.semaCellsSpec.post enc zP Tryz.f4 false true false false W args v W':=by
 have hW':=hW;obtain ⟨p,q,rx,hV,rfl,wT,ph⟩:=hW;have hA:DataW.TrodAll enc zP W 0 (fun _=>true) true Tryz.f4.params.toList args.toList ds p:=rx;rw [Tryz.params4] at hA rJ;obtain ⟨v0,vs0,d0,ds0,p0,q0,yR,rfl,rfl,h0,r0⟩:=trodAll_cons hA;obtain ⟨rfl,rfl,rfl⟩:=trodAll_nil r0;obtain rfl:args = #[v0]:=by cases args;simp_all
 obtain ⟨rfl,rfl⟩:=trodVars_none hV;have ss:=rJ 0 57 v0 rfl rfl;have zAp:∀x∈p0,x.block<W.heap.size:=fun x hx=>hW'.lt x (by simp [hx])
 obtain ⟨lv0,zs0,ql,wz0,hr0⟩:=z1 Tryz.underlying57 Tryz.underlying58 (by kernel_rfl) ss h0;clear rx;refine (walk v0 lv0 zs0 ql wz0 W hr0 hL).mono fun e W' ⟨he,bel⟩ => ?_
 subst he;exact ⟨_,rfl,_,_,_,[],_,[],hW',trodAll_mk1 (shut_bool Tryz.underlying4 _),trodAll_cons_mk (Below.trod zAA (by kernel_rfl) (of_decide_eq_true (by kernel_rfl)) h0 bel zAp) trodAll_mk0,rfl,bel.frame _,fun h=>by cases h⟩
end semaCells
end Go.Proofs.YtmjfldclpijghaaGreatDoor
