/- 'SemaIndices' returns true, whatever it is handed; the tied card. -/
import Derived.Test.YtmjfldclpijghaaGreatDoorZs10
set_option linter.unusedSimpArgs false
set_option linter.unusedVariables false
namespace Go.Proofs.YtmjfldclpijghaaGreatDoor
open Go.ChangeShapes Go.WideShapes Go.ChangeAt Go.ChangeMaps Go.RowKit Go.Proofs.Fw
set_option maxRecDepth 100000
namespace semaIndices
theorem walk (a0:Int) (w0:(Lit.int .u8 a0).wf=true) (a1:Int) (w1:(Lit.int .u8 a1).wf=true) (a2:Int) (w2:(Lit.int .u8 a2).wf=true) (a3:Int) (w3:(Lit.int .u8 a3).wf=true) (W:World) (hL:laidMetH zP Rows.semaIndicesRow.laid W) :
  Calls zP 6 #[.int .u8 a0,.int .u8 a1,.int .u8 a2,.int .u8 a3] W fun e W'=>e = .returned (.bool true)∧Below W.heap.size W W':=by
 have ha0:0≤a0∧a0≤255:=by simpa [Lit.wf,show IntKind.u8.min=0 from rfl,show IntKind.u8.max=255 from rfl] using w0
 obtain ⟨n0,rfl⟩:=Int.eq_ofNat_of_zero_le ha0.1;have ha1:0≤a1∧a1≤255:=by simpa [Lit.wf,show IntKind.u8.min=0 from rfl,show IntKind.u8.max=255 from rfl] using w1
 obtain ⟨n1,rfl⟩:=Int.eq_ofNat_of_zero_le ha1.1;have uv:0≤a2∧a2≤255:=by simpa [Lit.wf,show IntKind.u8.min=0 from rfl,show IntKind.u8.max=255 from rfl] using w2
 obtain ⟨n2,rfl⟩:=Int.eq_ofNat_of_zero_le uv.1;have ha3:0≤a3∧a3≤255:=by simpa [Lit.wf,show IntKind.u8.min=0 from rfl,show IntKind.u8.max=255 from rfl] using w3
 obtain ⟨n3,rfl⟩:=Int.eq_ofNat_of_zero_le ha3.1;exact (CS.ofS (zc n0 n1 n2 n3 (by omega) (by omega) (by omega) (by omega) [])).lift_bool (XK hL) (cargs:=[.int .u8 (n0:Int),.int .u8 (n1:Int),.int .u8 (n2:Int),.int .u8 (n3:Int)]) (by simp [AB,AA])
theorem contract (H:Type) (enc:TypeId × Value→H) (W:World) (base:Nat) (args:Array Value) (ds gs:List (DataW H)) (before:List MemPlace)
  (rJ:∀(j:Nat) t v,Tryz.f6.params[j]? = some t→args[j]? = some v→Value.okWide zP W .any base t v)
  (hW:DataW.Whole enc zP Tryz.f6.params.toList Rows.semaIndicesSpec.vars false W args.toList ds gs before) (hL:laidMetH zP Rows.semaIndicesRow.laid W) :
  Calls zP 6 args W fun e W'=>∃v,e = .returned v∧Rows.semaIndicesSpec.post enc zP Tryz.f6 false true false false W args v W':=by
 have hW':=hW;obtain ⟨p,q,rx,hV,rfl,wT,ph⟩:=hW;have hA:DataW.TrodAll enc zP W 0 (fun _=>true) true Tryz.f6.params.toList args.toList ds p:=rx;rw [Tryz.params6] at hA rJ;obtain ⟨v0,vs0,d0,ds0,p0,q0,yR,rfl,rfl,h0,r0⟩:=trodAll_cons hA;obtain ⟨v1,vs1,d1,ds1,p1,q1,rfl,rfl,rfl,h1,r1⟩:=trodAll_cons r0;obtain ⟨v2,vs2,d2,ds2,p2,q2,rfl,rfl,rfl,h2,r2⟩:=trodAll_cons r1;obtain ⟨v3,vs3,d3,ds3,p3,q3,rfl,rfl,rfl,h3,r3⟩:=trodAll_cons r2;obtain ⟨rfl,rfl,rfl⟩:=trodAll_nil r3;obtain rfl:args = #[v0,v1,v2,v3]:=by cases args;simp_all
 obtain ⟨rfl,rfl⟩:=trodVars_none hV;obtain ⟨a0,rfl,rfl,rfl,w0⟩:=open_int Tryz.underlying5 (rJ 0 5 v0 rfl rfl) h0;obtain ⟨a1,rfl,rfl,rfl,w1⟩:=open_int Tryz.underlying5 (rJ 1 5 v1 rfl rfl) h1;obtain ⟨a2,rfl,rfl,rfl,w2⟩:=open_int Tryz.underlying5 (rJ 2 5 v2 rfl rfl) h2;obtain ⟨a3,rfl,rfl,rfl,w3⟩:=open_int Tryz.underlying5 (rJ 3 5 v3 rfl rfl) h3;clear rx;refine (walk a0 w0 a1 w1 a2 w2 a3 w3 W hL).mono fun e W' ⟨he,bel⟩ => ?_
 subst he;exact ⟨_,rfl,_,_,_,[],_,[],hW',trodAll_mk1 (shut_bool Tryz.underlying4 _),trodAll_cons_mk (shut_int Tryz.underlying5 w0) (trodAll_cons_mk (shut_int Tryz.underlying5 w1) (trodAll_cons_mk (shut_int Tryz.underlying5 w2) (trodAll_cons_mk (shut_int Tryz.underlying5 w3) trodAll_mk0))),rfl,bel.frame _,fun h=>by cases h⟩
end semaIndices
end Go.Proofs.YtmjfldclpijghaaGreatDoor
