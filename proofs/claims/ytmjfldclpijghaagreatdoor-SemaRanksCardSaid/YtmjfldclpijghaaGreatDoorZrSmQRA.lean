/- 'SemaRanks' returns true, whatever it is handed; the tied card. -/
import Derived.Test.YtmjfldclpijghaaGreatDoorZr10
set_option linter.unusedSimpArgs false
set_option linter.unusedVariables false
namespace Go.Proofs.YtmjfldclpijghaaGreatDoor
open Go.ChangeShapes Go.WideShapes Go.ChangeAt Go.ChangeMaps Go.RowKit Go.Proofs.Fw
set_option maxRecDepth 100000
namespace semaRanks
theorem walk (a0:Int) (w0:(Lit.int .u8 a0).wf=true) (a1:Int) (w1:(Lit.int .u8 a1).wf=true) (a2:Bool) (W:World) (hL:laidMetH zP Rows.semaRanksRow.laid W) :
  Calls zP 5 #[.int .u8 a0,.int .u8 a1,.bool a2] W fun e W'=>e = .returned (.bool true)∧Below W.heap.size W W':=by
 have e1:IntKind.u8.min=0:=rfl;have e2:IntKind.u8.max=255:=rfl;have ha:0≤a0∧a0≤255:=by simpa [Lit.wf,e1,e2] using w0
 have hb:0≤a1∧a1≤255:=by simpa [Lit.wf,e1,e2] using w1
 obtain ⟨n,rfl⟩:=Int.eq_ofNat_of_zero_le ha.1;obtain ⟨q,rfl⟩:=Int.eq_ofNat_of_zero_le hb.1;exact (CS.ofS (W8 n q (by omega) (by omega) a2 [])).lift_bool (XK hL) (cargs:=[.int .u8 (n:Int),.int .u8 (q:Int),.bool a2]) (by simp [AB,AA])
theorem contract (H:Type) (enc:TypeId × Value→H) (W:World) (base:Nat) (args:Array Value) (ds gs:List (DataW H)) (before:List MemPlace)
  (rJ:∀(j:Nat) t v,Tryz.f5.params[j]? = some t→args[j]? = some v→Value.okWide zP W .any base t v)
  (hW:DataW.Whole enc zP Tryz.f5.params.toList Rows.semaRanksSpec.vars false W args.toList ds gs before) (hL:laidMetH zP Rows.semaRanksRow.laid W) :
  Calls zP 5 args W fun e W'=>∃v,e = .returned v∧Rows.semaRanksSpec.post enc zP Tryz.f5 false true false false W args v W':=by
 have hW':=hW;obtain ⟨p,q,rx,hV,rfl,wT,ph⟩:=hW;have hA:DataW.TrodAll enc zP W 0 (fun _=>true) true Tryz.f5.params.toList args.toList ds p:=rx;rw [Tryz.params5] at hA rJ;obtain ⟨v0,vs0,d0,ds0,p0,q0,yR,rfl,rfl,h0,r0⟩:=trodAll_cons hA;obtain ⟨v1,vs1,d1,ds1,p1,q1,rfl,rfl,rfl,h1,r1⟩:=trodAll_cons r0;obtain ⟨v2,vs2,d2,ds2,p2,q2,rfl,rfl,rfl,h2,r2⟩:=trodAll_cons r1;obtain ⟨rfl,rfl,rfl⟩:=trodAll_nil r2;obtain rfl:args = #[v0,v1,v2]:=by cases args;simp_all
 obtain ⟨rfl,rfl⟩:=trodVars_none hV;obtain ⟨a0,rfl,rfl,rfl,w0⟩:=open_int Tryz.underlying5 (rJ 0 5 v0 rfl rfl) h0;obtain ⟨a1,rfl,rfl,rfl,w1⟩:=open_int Tryz.underlying5 (rJ 1 5 v1 rfl rfl) h1;obtain ⟨a2,rfl,rfl,rfl,w2⟩:=open_bool Tryz.underlying4 (rJ 2 4 v2 rfl rfl) h2;clear rx;refine (walk a0 w0 a1 w1 a2 W hL).mono fun e W' ⟨he,bel⟩ => ?_
 subst he;exact ⟨_,rfl,_,_,_,[],_,[],hW',trodAll_mk1 (shut_bool Tryz.underlying4 _),trodAll_cons_mk (shut_int Tryz.underlying5 w0) (trodAll_cons_mk (shut_int Tryz.underlying5 w1) (trodAll_cons_mk (shut_bool Tryz.underlying4 a2) trodAll_mk0)),rfl,bel.frame _,fun h=>by cases h⟩
end semaRanks
end Go.Proofs.YtmjfldclpijghaaGreatDoor
