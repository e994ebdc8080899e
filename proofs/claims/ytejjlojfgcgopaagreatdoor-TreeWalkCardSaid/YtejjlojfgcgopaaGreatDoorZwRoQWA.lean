/- 'TreeWalk' returns true, whatever it is handed; the tied card. -/
import Derived.Test.YtejjlojfgcgopaaGreatDoorZw11
set_option linter.unusedSimpArgs false
set_option linter.unusedVariables false
namespace Go.Proofs.YtejjlojfgcgopaaGreatDoor
open Go.ChangeShapes Go.WideShapes Go.ChangeAt Go.ChangeMaps Go.RowKit Go.Proofs.Fw
set_option maxRecDepth 100000
namespace treeWalk
theorem walk (a0:ByteArray) (a1:Int) (w1:(Lit.int .u8 a1).wf=true) (W:World) (hL:laidMetH Tryz.prog Rows.treeWalkRow.laid W) :
  Calls Tryz.prog 11 #[.string a0,.int .u8 a1] W fun e W'=>e = .returned (.bool true)∧Below W.heap.size W W':=by
 have e1:IntKind.u8.min=0:=rfl;have e2:IntKind.u8.max=255:=rfl;have hb:0≤a1∧a1≤255:=by simpa [Lit.wf,e1,e2] using w1
 obtain ⟨q,rfl⟩:=Int.eq_ofNat_of_zero_le hb.1;exact (CS.ofS (Ym a0.data.toList q (by omega) [])).lift_bool (Yy hL) (cargs:=[.string a0,.int .u8 (q:Int)]) (by simp [AB,AA])
theorem nJ (H:Type) (enc:TypeId × Value→H) (W:World) (base:Nat) (args:Array Value) (ds gs:List (DataW H)) (before:List MemPlace)
  (tg:∀(j:Nat) t v,Tryz.f11.params[j]? = some t→args[j]? = some v→Value.okWide Tryz.prog W .any base t v)
  (hW:DataW.Whole enc Tryz.prog Tryz.f11.params.toList Rows.treeWalkSpec.vars false W args.toList ds gs before) (hL:laidMetH Tryz.prog Rows.treeWalkRow.laid W) :
  Calls Tryz.prog 11 args W fun e W'=>∃v,e = .returned v∧Rows.treeWalkSpec.post enc Tryz.prog Tryz.f11 false true false false W args v W':=by
 have hW':=hW;obtain ⟨p,q,uI,hV,rfl,yT,q8⟩:=hW;have hA:DataW.TrodAll enc Tryz.prog W 0 (fun _=>true) true Tryz.f11.params.toList args.toList ds p:=uI;rw [Tryz.params11] at hA tg;obtain ⟨v0,vs0,d0,ds0,p0,q0,zAH,rfl,rfl,h0,r0⟩:=trodAll_cons hA;obtain ⟨v1,vs1,d1,ds1,p1,q1,rfl,rfl,rfl,h1,r1⟩:=trodAll_cons r0;obtain ⟨rfl,rfl,rfl⟩:=trodAll_nil r1;obtain rfl:args = #[v0,v1]:=by cases args;simp_all
 obtain ⟨rfl,rfl⟩:=trodVars_none hV;obtain ⟨a0,rfl,rfl,rfl,w0⟩:=open_string Tryz.underlying9 (tg 0 9 v0 rfl rfl) h0;obtain ⟨a1,rfl,rfl,rfl,w1⟩:=open_int Tryz.underlying5 (tg 1 5 v1 rfl rfl) h1;clear uI;refine (walk a0 a1 w1 W hL).mono fun e W' ⟨he,bel⟩ => ?_
 subst he;exact ⟨_,rfl,_,_,_,[],_,[],hW',trodAll_mk1 (shut_bool Tryz.underlying4 _),trodAll_cons_mk (shut_string Tryz.underlying9 w0) (trodAll_cons_mk (shut_int Tryz.underlying5 w1) trodAll_mk0),rfl,bel.frame _,fun h=>by cases h⟩
end treeWalk
end Go.Proofs.YtejjlojfgcgopaaGreatDoor
