/- The evaluator: regions, regions that draw their order, code, functions; rows. -/
import Derived.Test.YtmjfldclpijghaaGreatDoorZt1
import Derived.Orders
import Derived.Below
import GoSem.ClaimJoined
import Derived.Stop.LaidErr
set_option linter.unusedSimpArgs false
set_option linter.unusedVariables false
namespace Go.Proofs.Fw
open Go.RowKit
abbrev Orc:=FuncId→List AV→AH→Option (AV × AH)
def AG (P:Program) (f:FuncId):Bool :=
 match P.funcs[f]? with
 |some fn=>fn.body.isSome && !(fn.name == "runtime.NumGoroutine")
 |none=>false
def callee (E:Env) (ρ:Operand→AV) (c:Call):Option (FuncId × List AV) :=
 match c.callee with
 |.value f=>(match ρ f with
  |.func (.func i) first cap=>some (i,first++c.args.toList.map ρ++cap)
  |_=>none)
 |.invoke recv name=>(match ρ recv with
  |.iface t v=>(match E.meth t name with
   |some i=>some (i,v::c.args.toList.map ρ)
   |none=>none)
  |_=>none)
 |.builtin _=>none
def AW (O:Orc) (P:Program) (E:Env) (ρ:Operand→AV) (H:AH) (fid:Nat) (o:Oper):Option (AV × AH) :=
 match o.op with
 |.call c=>(match callee E ρ c with
  |some (i,args)=>if AG P i=true then O i args H else none
  |none=>(match aop P E ρ H fid o with
   |some (r,u)=>some (r,AR H u)
   |none=>none))
 |_=>(match aop P E ρ H fid o with
  |some (r,u)=>some (r,AR H u)
  |none=>none)
def AX (tmps:List AV) (dst:Option Tmp) (v:AV):List AV :=
 match dst with
 |some d=>tmps.set d v
 |none=>tmps
def Ap (ops:Array Oper) (tmps:List AV) (o:Oper):Option Bool :=
 match o.guard with
 |none=>some true
 |some (j,want)=>(match (ops[j]?).bind (·.dst) with
  |none=>some false
  |some d=>(match tmps[d]? with
   |none=>some false
   |some (.bool b)=>some (b==want)
   |some (.tup _)=>some false
   |some _=>none))
inductive I7 {α β:Type} (R:α→β→Prop):List α→List β→Prop
 |nil:I7 R [] []
 |cons {a:α} {b:β} {aS:List α} {bs:List β} (h:R a b) (t:I7 R aS bs):I7 R (a::aS) (b::bs)
def A5 (O:Orc) (P:Program) (E:Env) (ops:Array Oper):List (Oper × Nat)→List AV→AH→Option (List AV × AH)
 |[],tmps,H=>some (tmps,H)
 |(o,fid)::rest,tmps,H =>
  (match Ap ops tmps o with
  |none=>none
  |some false=>A5 O P E ops rest (AX tmps o.dst .nothing) H
  |some true=>(match AW O P E (AC E tmps) H fid o with
   |some (v,H')=>A5 O P E ops rest (AX tmps o.dst v) H'
   |none=>none))
def AY (E:Env):List Oper→Nat→List (Oper × Nat)
 |[],_=>[]
 |o::os,n=>(o,n)::AY E os (if Ai E o.op=true then n+1 else n)
def Ag (E:Env):List Oper→Nat
 |[]=>0
 |o::os=>(if Ai E o.op=true then 1 else 0)+Ag E os
def grow (H:AH):Nat→AH
 |0=>H
 |n+1=>H++List.replicate (n+1) none
theorem I8 (H:AH) (n:Nat):grow H n=H++List.replicate n none:=by cases n<;>simp [grow]
def Bf (O:Orc) (P:Program) (E:Env) (ops:Array Oper) (tmps:List AV) (H:AH):Option (List AV × AH) :=A5 O P E ops (AY E ops.toList H.length) tmps (grow H (Ag E ops.toList))
def CS (P:Program) (E:Env) (f:FuncId) (args:List AV) (H:AH) (v:AV) (H':AH):Prop :=
 ∀g w cargs,Rel g H w→Al E g→AB g args cargs→Calls P f (List.toArray cargs) w fun e w' =>∃g' cv,e = .returned cv∧Rel g' H' w'∧AQ g H w g' H' w'∧AA g' v cv
def AT (P:Program) (E:Env) (O:Orc):Prop :=∀f args H v H',O f args H=some (v,H')→CS P E f args H v H'∧H.length≤H'.length∧∀id,id<H.length→H.at id=none→H'.at id=none
def Ch (P:Program) (E:Env):Prop :=∀t name f,E.meth t name=some f→∀v w,(method (P.types.size+Made.depth) t v name).run P w = .ok (f,v) w
section
variable {P:Program} {E:Env} {O:Orc} {g:Gh} {H:AH} {w:World}
theorem Hg {tmps:List AV} {a:Act} (h:AB g tmps a.tmps.toList) {dst:Option Tmp} {v:AV} {u:Value} (hv:AA g v u):AB g (AX tmps dst v) (a.put dst u).tmps.toList:=by
 cases dst with
 |none=>exact h
 |some d=>simp only [AX,Act.put,Array.toList_setIfInBounds];exact h.set d hv
theorem Hh (a:Act) (dst:Option Tmp) (u:Value):(a.put dst u).defers=a.defers:=by cases dst<;>rfl
theorem GW {ops:Array Oper} {tmps:List AV} {a:Act} (h:AB g tmps a.tmps.toList) {o:Oper} {b:Bool} (hw:Ap ops tmps o=some b) :
  Region.wanted o (yielded ops a.tmps)=b:=by
 unfold Ap at hw;unfold Region.wanted
 split at hw
 ·rename_i hg;rw [hg];injection hw
 ·rename_i j want hg
  rw [hg];simp only
  split at hw
  ·rename_i hd
   injection hw with hw;subst hw;have:yielded ops a.tmps j=none:=by simp [yielded,hd]
   rw [this];rfl
  ·rename_i d hd
   split at hw
   ·rename_i ht
    injection hw with hw;subst hw;have hl:=h.length
    have:a.tmps[d]? = none:=by rw [List.getElem?_eq_none_iff] at ht;rw [Array.getElem?_eq_none_iff];simp at hl;omega
    have:yielded ops a.tmps j=none:=by simp [yielded,hd,this]
    rw [this];rfl
   ·rename_i b' ht
    injection hw with hw;subst hw;obtain ⟨v,hv,hr⟩:=h.get ht;simp only [AA] at hr;subst hr;have hv':a.tmps[d]? = some (.bool b'):=by rw [←Array.getElem?_toList];exact hv
    have:yielded ops a.tmps j=some b':=by simp [yielded,hd,hv']
    rw [this];cases b'<;>cases want<;>rfl
   ·rename_i vs ht
    injection hw with hw;subst hw;obtain ⟨v,hv,hr⟩:=h.get ht;simp only [AA] at hr;obtain ⟨us,rfl,_⟩:=hr;have hv':a.tmps[d]? = some (.tuple (List.toArray us)):=by rw [←Array.getElem?_toList];exact hv
    have:yielded ops a.tmps j=none:=by simp [yielded,hd,hv']
    rw [this];rfl
   ·cases hw
theorem OD (hM:Ch P E) {ρ:Operand→AV} {σ:Operand→Value} (hρ:∀x,AA g (ρ x) (σ x)) {c:Call} {i:FuncId} {args:List AV} (h:callee E ρ c=some (i,args)) (hg:AG P i=true) (ty:TypeId) :
  ∃cargs,AB g args cargs∧(do let d ←resolve σ c ty;invoke d.target d.args:Sem Next).run P w = .ok (.enter i (List.toArray cargs)) w:=by
 have wv:∀xs,(callFunc i xs).run P w = .ok (.enter i xs) w:=by
  intro xs;unfold AG at hg;unfold callFunc;simp only [Sem.run_bind,run_program,Result.andThen_ok]
  split at hg
  ·rename_i fn vZ
   simp only [Bool.and_eq_true,Bool.not_eq_true'] at hg;simp only [vZ];rw [if_neg (by rw [hg.2];simp)];have:fn.body.isNone=false:=by cases hb:fn.body<;>simp_all
   rw [this];rfl
  ·cases hg
 unfold callee at h
 split at h
 ·rename_i f hc
  split at h
  ·rename_i i' first cap hf
   injection h with h;simp only [Prod.mk.injEq] at h;obtain ⟨rfl,rfl⟩:=h;have:=hρ f;rw [hf] at this;simp only [AA] at this;obtain ⟨fs,cs,hv,h1,h2⟩:=this;refine ⟨fs++c.args.toList.map σ++cs,(h1.append (Ji hρ _)).append h2,?_⟩;simp only [resolve,hc,hv,Deferred.ofValue,Sem.run_bind,Sem.run_pure,Result.andThen_ok,invoke];rw [wv]
   congr 3
   apply Array.ext';simp
  ·cases h
 ·rename_i recv name hc
  split at h
  ·rename_i t v hf
   split at h
   ·rename_i i' hm
    injection h with h;simp only [Prod.mk.injEq] at h;obtain ⟨rfl,rfl⟩:=h;have:=hρ recv;rw [hf] at this;simp only [AA] at this;obtain ⟨y,hv,h1⟩:=this;refine ⟨y::c.args.toList.map σ,by simp only [AB];exact ⟨_,_,rfl,h1,Ji hρ _⟩,?_⟩;have hmm:=hM t name i' hm y w
    have e1:(#[Value.iface t y]++c.args.map σ)[0]? = some (.iface t y):=by rw [Array.getElem?_append_left (by simp)];rfl
    have e2:(#[Value.iface t y]++c.args.map σ).extract 1 (#[Value.iface t y]++c.args.map σ).size=c.args.map σ:=by apply Array.ext';simp;rw [List.take_of_length_le (by simp)]
    simp only [resolve,hc,hv,Sem.run_bind,Sem.run_pure,Result.andThen_ok,invoke,e1,e2,callMethod,run_program,hmm,wv]
    congr 3
    apply Array.ext';simp
   ·cases h
  ·cases h
 ·cases h
theorem Rj (hS:AT P E O) (hM:Ch P E) (R:Rel g H w) (hG:Al E g) {tmps:List AV} {a:Act} (hT:AB g tmps a.tmps.toList) {fid:Nat} {o:Oper}
  (hid:Ai E o.op=true→fid<H.length∧H.at fid=none) {v:AV} {H':AH} (h:AW O P E (AC E tmps) H fid o=some (v,H'))
  {K:Act→World→Prop} {Q:Exit→Act→World→Prop} (hK:∀g' u w',Rel g' H' w'→AQ g H w g' H' w'→AA g' v u→K (a.put o.dst u) w'):o.wp P a w K Q:=by
 have hρ:=fun x=>IE hG hT x
 have fin:∀{r u},aop P E (AC E tmps) H fid o=some (r,u)→some (r,AR H u)=some (v,H')→o.wp P a w K Q:=by
  intro r u ha h;injection h with h;simp only [Prod.mk.injEq] at h;obtain ⟨rfl,rfl⟩:=h;obtain ⟨g',nx,cv,w',ou,ol,h1,h2,h3⟩:=Ny (P:=P) R hρ hid ha;unfold Oper.wp;rw [ou];rcases ol with rfl|⟨rfl,rfl⟩
  ·exact hK g' cv w' h1 h2 h3
  ·exact hK g' undef w' h1 h2 h3
 unfold AW at h
 split at h
 ·rename_i c hc
  split at h
  ·rename_i i args tw
   split at h
   ·rename_i hg
    obtain ⟨cargs,hr,ou⟩:=OD (w:=w) hM hρ tw hg o.type;unfold Oper.wp
    have:(execOp a.eval o).run P w = .ok (.enter i (List.toArray cargs)) w:=by unfold execOp;simp only [hc];exact ou
    rw [this];simp only [Oper.upon];refine Calls.mono ((hS _ _ _ _ _ h).1 g w cargs R hG hr) ?_;rintro e w' ⟨g',cv,rfl,h1,h2,h3⟩;exact hK g' cv w' h1 h2 h3
   ·cases h
  ·split at h
   ·rename_i r u ha;exact fin ha h
   ·cases h
 ·split at h
  ·rename_i r u ha;exact fin ha h
  ·cases h
theorem G9:∀(u:Ups) (H:AH),(AR H u).length=H.length
 |[],_=>rfl
 |(_,_)::r,H=>by simp [AR,G9 r]
theorem EC:∀(u:Ups) (H:AH) (id:Nat),(∀p∈u,p.1≠id)→(AR H u).at id=H.at id
 |[],_,_,_=>rfl
 |(i,e)::r,H,id,h=>by simp only [AR];rw [EC r _ id (fun p hp=>h p (List.mem_cons_of_mem _ hp)),AH.at_set,if_neg];intro hh;exact h (i,e) List.mem_cons_self hh.1
theorem OE (hS:AT P E O) {ρ:Operand→AV} {fid:Nat} {o:Oper} {v:AV} {H':AH} (h:AW O P E ρ H fid o=some (v,H')) :
  H.length≤H'.length∧∀id,id<H.length→H.at id=none→(id≠fid∨Ai E o.op=false)→H'.at id=none:=by
 have fin:∀{r u},aop P E ρ H fid o=some (r,u)→some (r,AR H u)=some (v,H') →
   H.length≤H'.length∧∀id,id<H.length→H.at id=none→(id≠fid∨Ai E o.op=false)→H'.at id=none:=by
  intro r u ha h;injection h with h;simp only [Prod.mk.injEq] at h;obtain ⟨rfl,rfl⟩:=h;refine ⟨by rw [G9];exact Nat.le_refl _,fun id _ hf oL => ?_⟩;rw [EC u H id,hf];intro p hp he;rcases Qw ha p hp with ⟨h1,h2⟩|⟨e,h1⟩
  ·rcases oL with oL|oL
   ·exact oL (he.symm.trans h1)
   ·rw [h2] at oL;cases oL
  ·rw [he,hf] at h1;cases h1
 unfold AW at h
 split at h
 ·split at h
  ·split at h
   ·obtain ⟨_,h1,h2⟩:=hS _ _ _ _ _ h
    exact ⟨h1,fun id hl hf _=>h2 id hl hf⟩
   ·cases h
  ·split at h
   ·rename_i r u ha;exact fin ha h
   ·cases h
 ·split at h
  ·rename_i r u ha;exact fin ha h
  ·cases h
inductive FA (E:Env) (H:AH):List (Oper × Nat)→Prop
 |nil:FA E H []
 |cons (p:Oper × Nat) (ps:List (Oper × Nat)) (h1:Ai E p.1.op=true→p.2<H.length∧H.at p.2=none)
   (h2:Ai E p.1.op=true→∀q∈ps,Ai E q.1.op=true→q.2≠p.2) (h3:FA E H ps):FA E H (p::ps)
theorem FA.step {H':AH} {p:Oper × Nat}:∀{ps:List (Oper × Nat)},FA E H ps→H.length≤H'.length →
  (∀q∈ps,Ai E q.1.op=true→q.2<H.length→H.at q.2=none→H'.at q.2=none)→FA E H' ps
 |[],_,_,_ => .nil
 |q::ps,.cons _ _ h1 h2 h3,hl,hk => .cons q ps (fun hn=>⟨Nat.lt_of_lt_of_le (h1 hn).1 hl,hk q List.mem_cons_self hn (h1 hn).1 (h1 hn).2⟩) h2
   (FA.step (p:=p) h3 hl fun r hr=>hk r (List.mem_cons_of_mem _ hr))
theorem OF (hS:AT P E O) (hM:Ch P E) {ops:Array Oper} {Q:Exit→Act→World→Prop}:∀(ps:List (Oper × Nat)) (is:List Nat) {g:Gh} {H:AH} {w:World} {tmps:List AV} {a:Act}
  {tmps':List AV} {H':AH},A5 O P E ops ps tmps H=some (tmps',H')→I7 (fun i p=>ops[i]? = some p.1) is ps→FA E H ps→Rel g H w→Al E g→AB g tmps a.tmps.toList→a.defers=[] →
  (∀g' a' w',Rel g' H' w'→AQ g H w g' H' w'→AB g' tmps' a'.tmps.toList→a'.defers=[]→Q .normal a' w')→wpOps P ops Q is a w
 |[],is,g,H,w,tmps,a,tmps',H',h,hf,_,R,_,hT,hd,hQ=>by cases hf;simp only [A5] at h;injection h with h;simp only [Prod.mk.injEq] at h;obtain ⟨rfl,rfl⟩:=h;exact hQ g a w R (AQ.refl g H w) hT hd
 |(o,fid)::ps,is,g,H,w,tmps,a,tmps',H',h,hf,hr,R,hG,hT,hd,hQ=>by
  cases hf with
  |cons hi hf =>
   rename_i i is;cases hr with
   |cons _ _ r1 r2 r3 =>
    simp only [A5] at h;simp only [wpOps,hi]
    split at h
    ·cases h
    ·rename_i hw
     rw [GW hT hw];simp only [Bool.false_eq_true,if_false];exact OF hS hM ps is h hf r3 R hG (Hg hT (by simp [AV.nothing,AA,AB,undef])) (by rw [Hh];exact hd) hQ
    ·rename_i hw
     rw [GW hT hw];simp only [if_true]
     split at h
     ·rename_i v H1 oS
      refine .inl (Rj hS hM R hG hT r1 oS fun g' u w' R' p' hv => ?_);obtain ⟨f1,f2⟩:=OE hS oS
      refine OF hS hM ps is h hf (FA.step (p:=(o,fid)) r3 f1 fun q hq hn hl tz => ?_) R' (hG.mono p'.le) (Hg (AB.mono p'.le _ _ hT) hv) (by rw [Hh];exact hd)
       (fun g2 a2 w2 R2 p2=>hQ g2 a2 w2 R2 (AQ.trans R p' p2))
      refine f2 q.2 hl tz ?_
      by_cases pf:Ai E o.op=true
      ·exact .inl (r2 pf q hq hn)
      ·exact .inr (by simpa using pf)
     ·cases h
theorem HA (H:AH) (n id:Nat):(grow H n).at id=H.at id:=by
 rw [I8];unfold AH.at;rw [List.getElem?_append]
 split
 ·rfl
 ·rename_i h
  rw [List.getElem?_replicate,List.getElem?_eq_none (by omega)]
  split<;>rfl
theorem Rel.grow (R:Rel g H w) (n:Nat):Rel g (Fw.grow H n) w :=⟨R.imm,fun id h=>R.free id (by rwa [HA] at h),fun id e h oL=>R.ent id e (by rwa [HA] at h) oL,R.inj,R.blk⟩
theorem AQ.ungrow {n:Nat} {g':Gh} {H':AH} {w':World} (p:AQ g (Fw.grow H n) w g' H' w'):AQ g H w g' H' w' :=⟨p.le,fun id h=>p.hid id (by rw [HA];exact h),p.new,fun b hb hn=>p.old b hb fun id e ge he=>hn id e ge (by rwa [HA] at he),p.size,p.os,p.tape,p.output⟩
theorem Lz:∀(os:List Oper) (n:Nat),∀q∈AY E os n,n≤q.2
 |[],_,q,h=>by simp [AY] at h
 |o::os,n,q,h=>by
  simp only [AY,List.mem_cons] at h;rcases h with rfl|h
  ·exact Nat.le_refl _
  ·have:=Lz os _ q h
   split at this<;>omega
theorem L0 (H:AH) (N:Nat) (hN:∀id,H.length≤id→id<N→True):∀(os:List Oper) (n:Nat) (G:AH),(∀id,n≤id→G.at id=none)→n+Ag E os≤G.length→FA E G (AY E os n)
 |[],_,_,_,_ => .nil
 |o::os,n,G,hf,hl=>by
  simp only [AY];simp only [Ag] at hl;refine .cons _ _ (fun hn=>⟨?_,hf n (Nat.le_refl _)⟩) (fun hn q hq _ => ?_) ?_
  ·simp only [hn,if_true] at hl
   show n<G.length
   omega
  ·have:=Lz os _ q hq
   simp only [hn,if_true] at this
   show q.2≠n
   omega
  ·refine L0 H N hN os _ G (fun id h=>hf id ?_) ?_
   ·split at h<;>omega
   ·split<;>simp_all<;>omega
theorem L3 (ops:Array Oper):∀(os:List Oper) (n k:Nat),(∀j,os[j]? = ops[k+j]?)→I7 (fun i (p:Oper × Nat)=>ops[i]? = some p.1) (List.range' k os.length) (AY E os n)
 |[],_,_,_ => .nil
 |o::os,n,k,h=>by
  simp only [AY,List.length_cons,List.range'_succ];refine .cons ?_ (L3 ops os _ (k+1) fun j => ?_)
  ·have:=h 0;simpa using this.symm
  ·have:=h (j+1)
   simp only [List.getElem?_cons_succ] at this;rw [this]
   congr 1
   omega
theorem XQ (hS:AT P E O) (hM:Ch P E) {ops:Array Oper} {Q:Exit→Act→World→Prop} {id:Nat} {tmps tmps':List AV} {a:Act} {H':AH} (h:Bf O P E ops tmps H=some (tmps',H'))
  (R:Rel g H w) (hG:Al E g) (hT:AB g tmps a.tmps.toList) (hd:a.defers=[])
  (hQ:∀g' a' w',Rel g' H' w'→AQ g H w g' H' w'→AB g' tmps' a'.tmps.toList→a'.defers=[]→Q .normal a' w'):(Code.region id ops false).wp P Q a w:=by
 refine wp_region ?_;have hf:=L3 (E:=E) ops ops.toList H.length 0 (fun j=>by simp);rw [Array.length_toList,←List.range_eq_range'] at hf
 refine OF hS hM _ _ h hf (L0 H 0 (fun _ _ _=>trivial) ops.toList H.length _ (fun id hid => ?_) (by simp [I8])) (R.grow _) hG hT hd
  (fun g' a' w' R' p'=>hQ g' a' w' R' p'.ungrow)
 rw [HA];unfold AH.at;rw [List.getElem?_eq_none hid];rfl
end
mutual
/-- The numbers that a value bears. -/
def BN:AV→List Nat
 |.ptr id _=>[id]
 |.bsl id _ _ _ _=>[id]
 |.slice (.tok t) _ _ _=>[t]
 |.lsl t _ _ _=>[t]
 |.lptr t _ _=>[t]
 |.stk t _ _ _=>[t]
 |.sptr t _ _ _=>[t]
 |.func _ a b=>ED a++ED b
 |.iface _ v=>BN v
 |.agg cs=>ED cs
 |.tup vs=>ED vs
 |_=>[]
def ED:List AV→List Nat
 |[]=>[]
 |a::aS=>BN a++ED aS
end
def Kq (H:AH) (id:Nat):List Nat :=
 match H.at id with
 |some (.box cs)=>ED cs
 |_=>[]
def F6 (H:AH):List Nat→List Nat
 |[]=>[]
 |id::r=>Kq H id++F6 H r
def DD (H:AH):Nat→List Nat→List Nat
 |0,l=>l
 |n+1,l=>if (F6 H l).all (fun i=>l.contains i)=true then l else DD H n (l++F6 H l)
def GX (S:List Nat):Nat→AH→AH
 |_,[]=>[]
 |k,e::r=>(if S.contains k=true then e else some .hid)::GX S (k+1) r
def mask (H:AH) (S:List Nat):AH:=GX S 0 H
theorem Rk (S:List Nat):∀(H:AH) (k:Nat),(GX S k H).length=H.length
 |[],_=>rfl
 |_::r,k=>by simp [GX,Rk S r]
theorem Rl (S:List Nat):∀(H:AH) (k i:Nat),(GX S k H).at i=if i<H.length then (if S.contains (k+i)=true then H.at i else some .hid) else none
 |[],k,i=>by simp [GX,AH.at]
 |e::r,k,i=>by
  cases i with
  |zero=>simp only [GX,AH.at,List.getElem?_cons_zero,Option.join_some,Nat.add_zero,List.length_cons,Nat.zero_lt_succ,if_true]
  |succ i =>have:=Rl S r (k+1) i;simp only [AH.at,GX,List.getElem?_cons_succ,List.length_cons,Nat.add_lt_add_iff_right] at this ⊢;rw [this,show k+1+i=k+(i+1) by omega]
theorem GY (H:AH) (S:List Nat):(mask H S).length=H.length:=Rk S H 0
theorem fd (H:AH) (S:List Nat) (i:Nat):(mask H S).at i=if i<H.length then (if S.contains i=true then H.at i else some .hid) else none:=by
 have:=Rl S H 0 i
 rwa [Nat.zero_add] at this
theorem AH.ext_at {H K:AH} (hl:H.length=K.length) (h:∀i,H.at i=K.at i):H=K:=by
 apply List.ext_getElem?;intro i;rcases Nat.lt_or_ge i H.length with hi|hi
 ·have:=h i
  unfold AH.at at this;rw [List.getElem?_eq_getElem hi,List.getElem?_eq_getElem (hl ▸ hi)] at this ⊢;simp only [Option.join_some] at this;rw [this]
 ·rw [List.getElem?_eq_none hi,List.getElem?_eq_none (hl ▸ hi)]
theorem XR {H K:AH} {S:List Nat} (hl:H.length=K.length) (h:∀i∈S,H.at i=K.at i):mask H S=mask K S:=by
 apply AH.ext_at
 ·rw [GY,GY,hl]
 ·intro i
  rw [fd,fd,hl]
  split
  ·split
   ·rename_i hc
    exact h i (by simpa using hc)
   ·rfl
  ·rfl
theorem Rn {H K:AH}:∀{l:List Nat},(∀i∈l,H.at i=K.at i)→F6 H l=F6 K l
 |[],_=>rfl
 |id::r,h=>by simp only [F6,Kq];rw [h id List.mem_cons_self,Rn fun i hi=>h i (List.mem_cons_of_mem _ hi)]
theorem OG (H:AH):∀(n:Nat) (l:List Nat),∀i∈l,i∈DD H n l
 |0,l,i,hi=>hi
 |n+1,l,i,hi=>by
  simp only [DD]
  split
  ·exact hi
  ·exact OG H n _ i (List.mem_append_left _ hi)
theorem L4 {H K:AH}:∀(n:Nat) (l:List Nat),(∀i∈DD H n l,H.at i=K.at i)→DD H n l=DD K n l
 |0,l,_=>rfl
 |n+1,l,h=>by
  have hl:∀i∈l,H.at i=K.at i:=fun i hi=>h i (OG H (n+1) l i hi)
  simp only [DD] at h ⊢;rw [←Rn hl]
  split
  ·rfl
  ·rename_i hc
   rw [if_neg hc] at h;exact L4 n _ h
def BG (O:Orc) (P:Program) (E:Env) (ρ:Operand→AV) (H:AH) (fid:Nat) (S:List Nat) (o:Oper):Option (AV × Ups) :=
 match o.op with
 |.call c=>(match callee E ρ c with
  |some (i,args)=>if AG P i=true then (match O i args H with
    |some (v,H1)=>if H1.length=H.length then some (v,S.filterMap fun i=>(H1.at i).map fun e=>(i,e)) else none
    |none=>none) else none
  |none=>aop P E ρ H fid o)
 |_=>aop P E ρ H fid o
def OH (o:Op):Bool:=match o with
 |.move _=>true
 |.assign _=>true
 |.nilCheck _=>true
 |.fieldAddr _ _ _=>true
 |.extract _ _=>true
 |_=>false
def Jr (o:Op):List Operand:=match o with
 |.store _ a _=>[a]
 |o=>o.operands.toList
def Hi (o:Op):Nat:=match o with
 |.store _ _ _=>0
 |.load _ _=>0
 |_=>4
theorem XS {o:Op} {x:Operand} (h:x∈Jr o):x∈o.operands:=by cases o<;>simp [Jr,Op.operands] at h ⊢ <;> first|exact h|(subst h;simp)
def FY (ρ:Operand→AV) (o:Oper):List Nat:=if OH o.op=true then [] else ED ((Jr o.op).map ρ)
def BB (E:Env) (H:AH) (ρ:Operand→AV) (p:Oper × Nat):List Nat :=if Ai E p.1.op=true then p.2::DD H (Hi p.1.op) (FY ρ p.1) else DD H (Hi p.1.op) (FY ρ p.1)
def CX (O:Orc) (P:Program) (E:Env) (ops:Array Oper) (tmps:List AV) (H:AH) (p:Oper × Nat):Option (AV × Ups × List Nat) :=
 match Ap ops tmps p.1 with
 |none=>none
 |some false=>some (.nothing,[],[])
 |some true =>
  (match BG O P E (AC E tmps) (mask H (BB E H (AC E tmps) p)) p.2 (BB E H (AC E tmps) p) p.1 with
  |some (v,u)=>if u.all (fun q=>(BB E H (AC E tmps) p).contains q.1)=true then some (v,u,BB E H (AC E tmps) p) else none
  |none=>none)
section
variable {P:Program} {E:Env} {O:Orc} {g:Gh} {H:AH} {w:World}
theorem Kr {S:List Nat} {i:Nat} (h:i∈S) (hl:i<H.length):(mask H S).at i=H.at i:=by rw [fd,if_pos hl,if_pos (by simpa using h)]
theorem I9 {S:List Nat} {i:Nat} (h:i ∉ S) (hl:i<H.length):(mask H S).at i=some .hid:=by rw [fd,if_pos hl,if_neg (by simpa using h)]
theorem DQ {H:AH} {i:Nat} {e:Ent} (h:H.at i=some e):i<H.length:=by
 unfold AH.at at h;rcases Nat.lt_or_ge i H.length with h'|h'
 ·exact h'
 ·simp [List.getElem?_eq_none h'] at h
theorem C7 {H:AH} {i:Nat} (h:H.length≤i):H.at i=none:=by unfold AH.at;rw [List.getElem?_eq_none h];rfl
theorem Rel.mask (R:Rel g H w) (S:List Nat):Rel g (Fw.mask H S) w where
 imm:=R.imm
 free:=fun id h=>R.free id (by
  rw [fd] at h
  split at h
  ·split at h
   ·exact h
   ·cases h
  ·rename_i hl;exact C7 (by omega))
 ent:=fun id e h oL=>R.ent id e (by
  rw [fd] at h
  split at h
  ·split at h
   ·exact h
   ·injection h with h;exact absurd h.symm oL
  ·cases h) oL
 inj:=R.inj
 blk:=R.blk
theorem unmask (R:Rel g H w) {S:List Nat} {g':Gh} {H1:AH} {w':World} (R':Rel g' H1 w') (p:AQ g (mask H S) w g' H1 w') (oT:H1.length=H.length) {u:Ups}
  (h1:∀id,(∃q∈u,q.1=id)→(AR H u).at id=H1.at id) (h2:∀id,(∀q∈u,q.1≠id)→id∈S→H1.at id=none∨H1.at id=H.at id) :
  Rel g' (AR H u) w'∧AQ g H w g' (AR H u) w':=by
 have rI:∀id,id ∉ S→id<H.length→g'.M id=g.M id∧H1.at id=some .hid:=fun id hs hl=>p.hid id (I9 hs hl)
 have va:∀id,(∀q∈u,q.1≠id)→(AR H u).at id=H.at id:=fun id h=>EC u H id h
 have dec:∀id,(∃q∈u,q.1=id)∨(∀q∈u,q.1≠id):=fun id=>by
  by_cases h:∃q∈u,q.1=id
  ·exact .inl h
  ·exact .inr fun q hq he=>h ⟨q,hq,he⟩
 refine ⟨⟨R'.imm,?_,?_,R'.inj,R'.blk⟩,⟨p.le,?_,p.new,?_,p.size,p.os,p.tape,p.output⟩⟩
 ·intro id h
  rcases dec id with hu|hu
  ·rw [h1 id hu] at h
   exact R'.free id h
  ·rw [va id hu] at h
   rcases Nat.lt_or_ge id H.length with hl|hl
   ·by_cases hs:id∈S
    ·rcases h2 id hu hs with h3|h3
     ·exact R'.free id h3
     ·exact R'.free id (h3.trans h)
    ·rw [(rI id hs hl).1]
     exact R.free id h
   ·exact R'.free id (C7 (by omega))
 ·intro id e h oL
  rcases dec id with hu|hu
  ·rw [h1 id hu] at h
   exact R'.ent id e h oL
  ·rw [va id hu] at h
   have hl:=DQ h;obtain ⟨ge,hM,hr⟩:=R.ent id e h oL
   by_cases hs:id∈S
   ·rcases h2 id hu hs with h3|h3
    ·obtain ⟨e',hM',_⟩:=p.le.M id ge hM
     rw [R'.free id h3] at hM';cases hM'
    ·exact R'.ent id e (h3.trans h) oL
   ·obtain ⟨h4,h5⟩:=rI id hs hl
    obtain ⟨h6,h7⟩:=p.old ge.block (R.blk id ge hM) (fun id2 e2 ge2 ot vb vc hb=>by
     have:=R.inj id2 id ge2 ge vc hM hb;subst this;rw [I9 hs hl] at ot;injection ot with ot
     exact vb ot.symm)
    exact ⟨ge,h4.trans hM,hr.keep p.le h6 h7⟩
 ·intro id h
  have hl:=DQ h
  have hm:(mask H S).at id=some .hid:=by
   by_cases hs:id∈S
   ·rw [Kr hs hl,h]
   ·exact I9 hs hl
  obtain ⟨h3,h4⟩:=p.hid id hm;refine ⟨h3,?_⟩;rcases dec id with hu|hu
  ·rw [h1 id hu,h4]
  ·rw [va id hu,h]
 ·intro b hb hn
  refine p.old b hb fun id e ge he oL hM => ?_
  have:H.at id=some e:=by
   rw [fd] at he
   split at he
   ·split at he
    ·exact he
    ·injection he with he;exact absurd he.symm oL
   ·cases he
  exact hn id e ge this oL hM
theorem L5:∀(u:Ups) {H K:AH},H.length=K.length→∀id,(∃q∈u,q.1=id)→(AR H u).at id=(AR K u).at id
 |[],_,_,_,_,h=>by obtain ⟨q,hq,_⟩:=h;cases hq
 |(i,e)::r,H,K,hl,id,h=>by
  simp only [AR]
  by_cases hr:∃q∈r,q.1=id
  ·exact L5 r (by simp [hl]) id hr
  ·have hr':∀q∈r,q.1≠id:=fun q hq he=>hr ⟨q,hq,he⟩
   rw [EC r _ id hr',EC r _ id hr',AH.at_set,AH.at_set,hl];obtain ⟨q,hq,rfl⟩:=h;rcases List.mem_cons.1 hq with rfl|hq
   ·simp only [true_and]
    split
    ·rfl
    ·rename_i rj
     rw [C7 (by omega),C7 (by omega)]
   ·exact absurd ⟨q,hq,rfl⟩ hr
theorem Ro:∀(u:Ups) {H H1:AH},H1.length=H.length→(∀q∈u,H1.at q.1=some q.2)→∀id,(∃q∈u,q.1=id)→(AR H u).at id=H1.at id
 |[],_,_,_,_,_,h=>by obtain ⟨q,hq,_⟩:=h;cases hq
 |(i,e)::r,H,H1,hl,hu,id,h=>by
  simp only [AR]
  by_cases hr:∃q∈r,q.1=id
  ·exact Ro r (by simp [hl]) (fun q hq=>hu q (List.mem_cons_of_mem _ hq)) id hr
  ·have hr':∀q∈r,q.1≠id:=fun q hq he=>hr ⟨q,hq,he⟩
   rw [EC r _ id hr',AH.at_set];obtain ⟨q,hq,rfl⟩:=h;rcases List.mem_cons.1 hq with rfl|hq
   ·have:=hu (i,e) List.mem_cons_self
    rw [if_pos ⟨rfl,by rw [←hl];exact DQ this⟩,this]
   ·exact absurd ⟨q,hq,rfl⟩ hr
theorem Rp (hS:AT P E O) (hM:Ch P E) (R:Rel g H w) (hG:Al E g) {tmps:List AV} {a:Act} (hT:AB g tmps a.tmps.toList) {fid:Nat} {S:List Nat} {o:Oper}
  (hid:Ai E o.op=true→fid<H.length∧H.at fid=none∧fid∈S) {v:AV} {u:Ups} (h:BG O P E (AC E tmps) (mask H S) fid S o=some (v,u))
  {K:Act→World→Prop} {Q:Exit→Act→World→Prop} (hK:∀g' cv w',Rel g' (AR H u) w'→AQ g H w g' (AR H u) w'→AA g' v cv→K (a.put o.dst cv) w'):o.wp P a w K Q:=by
 have hρ:=fun x=>IE hG hT x
 have Rm:=R.mask S
 have fin:aop P E (AC E tmps) (mask H S) fid o=some (v,u)→o.wp P a w K Q:=by
  intro ha
  obtain ⟨g',nx,cv,w',ou,ol,q1,q2,q3⟩:=Ny (P:=P) Rm hρ (fun hn=>by
   obtain ⟨h1,h2,h3⟩:=hid hn
   exact ⟨by rw [GY];exact h1,by rw [Kr h3 h1];exact h2⟩) ha
  obtain ⟨q4,q5⟩:=unmask R q1 q2 (by rw [G9,GY]) (fun id hi=>(L5 u (GY H S).symm id hi))
   (fun id hi hs => .inr (by
    rw [EC u _ id hi];rcases Nat.lt_or_ge id H.length with hl|hl
    ·exact Kr hs hl
    ·rw [C7 (by rw [GY];exact hl),C7 hl]))
  unfold Oper.wp;rw [ou];rcases ol with rfl|⟨rfl,rfl⟩
  ·exact hK g' cv w' q4 q5 q3
  ·exact hK g' undef w' q4 q5 q3
 unfold BG at h
 split at h
 ·rename_i c hc
  split at h
  ·rename_i i args tw
   split at h
   ·rename_i hg
    split at h
    ·rename_i v1 H1 hO
     split at h
     ·rename_i oT
      injection h with h;simp only [Prod.mk.injEq] at h;obtain ⟨rfl,rfl⟩:=h;obtain ⟨cargs,hr,ou⟩:=OD (w:=w) hM hρ tw hg o.type;unfold Oper.wp
      have:(execOp a.eval o).run P w = .ok (.enter i (List.toArray cargs)) w:=by unfold execOp;simp only [hc];exact ou
      rw [this];simp only [Oper.upon];refine Calls.mono ((hS _ _ _ _ _ hO).1 g w cargs Rm hG hr) ?_;rintro e w' ⟨g',cv,rfl,q1,q2,q3⟩;have hl:H1.length=H.length:=by rw [oT,GY]
      obtain ⟨q4,q5⟩:=unmask R q1 q2 hl (u:=S.filterMap fun i=>(H1.at i).map fun e=>(i,e))
       (Ro _ hl (fun q hq=>by
        obtain ⟨j,_,hj⟩:=List.mem_filterMap.1 hq;cases pA:H1.at j with
        |none=>rw [pA] at hj;cases hj
        |some e=>rw [pA] at hj;simp only [Option.map_some] at hj;injection hj with hj;subst hj;exact pA))
       (fun id hi hs => .inl (by
        cases pA:H1.at id with
        |none=>rfl
        |some e=>exact absurd rfl (hi (id,e) (List.mem_filterMap.2 ⟨id,hs,by rw [pA];rfl⟩))))
      exact hK g' cv w' q4 q5 q3
     ·cases h
    ·cases h
   ·cases h
  ·exact fin h
 ·exact fin h
end
structure BX where
 i:Nat
 m:Nat
 p:Oper × Nat
 v:AV
 u:Ups
 S:List Nat
def evD (O:Orc) (P:Program) (E:Env) (ops:Array Oper):Nat→List Nat→List (Oper × Nat)→List AV→AH→Option (List AV × AH × List BX)
 |_,_,[],tmps,H=>some (tmps,H,[])
 |i,ms,p::ps,tmps,H =>
  (match CX O P E ops tmps H p with
  |some (v,u,S)=>(match evD O P E ops (i+1) ms ps (AX tmps p.1.dst v) (AR H u) with
   |some (t,K,l)=>some (t,K,⟨i,ms.getD i 0,p,v,u,S⟩::l)
   |none=>none)
  |none=>none)
def FZ (acc:List Nat):List Edge→Nat
 |[]=>0
 |e::es=>if Region.binds .any e=true then (FZ acc es ||| (2 ^ e.on ||| acc.getD e.on 0)) else FZ acc es
def CE:List Nat→List Oper→List Nat
 |acc,[]=>acc
 |acc,o::os=>CE (acc++[FZ acc o.after.toList]) os
def F8:Nat→List Oper→Bool
 |_,[]=>true
 |i,o::os=>(o.after.toList.all fun e => !(Region.binds .any e) || decide (e.on<i))&&F8 (i+1) os
def Js (a b:BX):Bool:=(a.u.all fun q => !(b.S.contains q.1))&&(b.u.all fun q => !(a.S.contains q.1))
def Hj (ops:Array Oper) (r s:BX):Bool:=s.m.testBit r.i || (r.p.1.apart ops s.p.1&&Js r s)
def chk (ops:Array Oper):List BX→Bool
 |[]=>true
 |r::rs=>rs.all (Hj ops r)&&chk ops rs
def EE (O:Orc) (P:Program) (E:Env) (ops:Array Oper) (tmps:List AV) (H:AH):Option (List AV × AH) :=
 match evD O P E ops 0 (CE [] ops.toList) (AY E ops.toList H.length) tmps (grow H (Ag E ops.toList)) with
 |some (t,K,l)=>if chk ops l=true∧F8 0 ops.toList=true then some (t,K) else none
 |none=>none
section
variable {P:Program} {E:Env} {O:Orc} {ops:Array Oper}
theorem Rq {ρ σ:Operand→AV} (l:List (Nat × Operand)) (h:∀x∈l.map (·.2),ρ x=σ x):(l.map fun p=>(p.1,ρ p.2))=l.map fun p=>(p.1,σ p.2):=by apply List.map_congr_left;intro p hp;rw [h p.2 (List.mem_map_of_mem hp)]
theorem L6 {ρ σ:Operand→AV} (l:List Operand) (h:∀x∈l,ρ x=σ x):l.map ρ=l.map σ:=List.map_congr_left h
theorem XT {ρ σ:Operand→AV} {H:AH} {fid:Nat} (o:Oper) (h:∀x∈o.op.operands,ρ x=σ x):aop P E ρ H fid o=aop P E σ H fid o:=by
 obtain ⟨dst,op,ty,pos,after,guard⟩:=o;cases op<;>simp only [Op.operands] at h<;>simp only [aop]
 case build t ps=>rw [Rq ps.toList fun x hx=>h x (by simpa using hx)]
 case buildSlice t n ps=>rw [Rq ps.toList fun x hx=>h x (by simpa using hx)]
 case makeFunc fn first captured =>rw [L6 first.toList fun x hx=>h x (by simp_all),L6 captured.toList fun x hx=>h x (by simp_all)]
 case slice t x lo hi mx=>cases lo<;>cases hi<;>cases mx<;>simp_all
 case call c =>
  obtain ⟨callee,args,argTypes⟩:=c;cases callee with
  |value f=>rfl
  |invoke r m=>rfl
  |builtin b =>
   simp only [Call.operands] at h;have ha:∀(i:Nat) x,args[i]? = some x→ρ x=σ x:=fun i x hx=>h x (by simp [Array.mem_of_getElem? hx])
   cases b<;>simp only
   case len =>cases ht:argTypes[0]? <;> cases hx:args[0]? <;> simp only;rw [ha 0 _ hx]
   case cap =>cases ht:argTypes[0]? <;> cases hx:args[0]? <;> simp only;rw [ha 0 _ hx]
   case copy =>cases ht:argTypes[0]? <;> cases hx:args[0]? <;> cases hy:args[1]? <;> simp only;rw [ha 0 _ hx,ha 1 _ hy]
   case max =>
    have hl:∀x∈args.toList,ρ x=σ x:=fun x hx=>h x (by simp at hx ⊢;exact hx)
    revert hl
    split
    ·intro hl;rw [hl _ (by simp [*]),hl _ (by simp [*])]
    ·intro _;rfl
   case min =>
    have hl:∀x∈args.toList,ρ x=σ x:=fun x hx=>h x (by simp at hx ⊢;exact hx)
    revert hl
    split
    ·intro hl;rw [hl _ (by simp [*]),hl _ (by simp [*])]
    ·intro _;rfl
   case append =>cases ht:argTypes[0]? <;> cases hu:argTypes[1]? <;> cases hx:args[0]? <;> cases hy:args[1]? <;> simp only;rw [ha 0 _ hx,ha 1 _ hy]
 all_goals (first|rfl|(simp_all;done))
theorem XU {ρ σ:Operand→AV} (c:Call) (h:∀x∈c.operands,ρ x=σ x):callee E ρ c=callee E σ c:=by
 obtain ⟨cl,args,argTypes⟩:=c;have ha:args.toList.map ρ=args.toList.map σ:=L6 _ fun x hx=>h x (by simp [Call.operands] at hx ⊢;exact .inr hx)
 unfold callee;cases cl with
 |value f=>simp only [ha,h f (by simp [Call.operands])]
 |invoke r m=>simp only [ha,h r (by simp [Call.operands])]
 |builtin b=>rfl
theorem XV {ρ σ:Operand→AV} {H:AH} {fid:Nat} {S:List Nat} (o:Oper) (h:∀x∈o.op.operands,ρ x=σ x):BG O P E ρ H fid S o=BG O P E σ H fid S o:=by
 unfold BG;rw [XT o h]
 split
 ·rename_i c hc
  rw [XU c (by rw [hc] at h;exact h)]
 ·rfl
theorem Rr {ρ σ:Operand→AV} (o:Oper) (h:∀x∈o.op.operands,ρ x=σ x):FY ρ o=FY σ o:=by
 unfold FY
 split
 ·rfl
 rw [L6 (Jr o.op) fun x hx=>h x (XS hx)]
theorem Rs {t1 t2:List AV} {H1 H2:AH} {p:Oper × Nat} (h1:∀x∈p.1.op.operands,AC E t1 x=AC E t2 x) (h2:Ap ops t1 p.1=Ap ops t2 p.1) (hl:H1.length=H2.length)
  (h3:Ap ops t1 p.1=some true→∀i∈BB E H1 (AC E t1) p,H1.at i=H2.at i):CX O P E ops t1 H1 p=CX O P E ops t2 H2 p:=by
 unfold CX;rw [←h2]
 split
 ·rfl
 ·rfl
 ·rename_i hw
  have h3:=h3 hw;have hid:=Rr p.1 h1
  have hv:BB E H1 (AC E t1) p=BB E H2 (AC E t2) p:=by
   unfold BB at h3 ⊢;rw [←hid]
   split
   ·rename_i hn
    rw [if_pos hn] at h3;rw [L4 (Hi _) _ fun i hi=>h3 i (List.mem_cons_of_mem _ hi)]
   ·rename_i hn
    rw [if_neg hn] at h3;rw [L4 (Hi _) _ h3]
  rw [←hv,XR hl h3,XV p.1 h1]
abbrev St:=List AV × AH
def app (r:BX) (s:St):St:=(AX s.1 r.p.1.dst r.v,AR s.2 r.u)
def Fa (O:Orc) (P:Program) (E:Env) (ops:Array Oper):List BX→St→St→Prop
 |[],s,s'=>s=s'
 |r::L,s,s'=>CX O P E ops s.1 s.2 r.p=some (r.v,r.u,r.S)∧Fa O P E ops L (app r s) s'
theorem XW {tmps:List AV} {dst:Option Tmp} {v:AV} {t:Nat} (h:dst≠some t) (d0:AV):(AX tmps dst v).getD t d0=tmps.getD t d0:=by
 cases dst with
 |none=>rfl
 |some d =>
  have:d≠t:=fun e=>h (by rw [e])
  simp only [AX,List.getD_eq_getElem?_getD,List.getElem?_set_ne this]
theorem XX {tmps:List AV} {dst:Option Tmp} {v:AV} {t:Nat} (h:dst≠some t):(AX tmps dst v)[t]? = tmps[t]? := by
 cases dst with
 |none=>rfl
 |some d =>
  have:d≠t:=fun e=>h (by rw [e])
  simp only [AX,List.getElem?_set_ne this]
theorem OI {tmps:List AV} {dst:Option Tmp} {v:AV} {o:Oper} (h:∀d,dst=some d→d ∉ o.looksAt ops):∀x∈o.op.operands,AC E (AX tmps dst v) x=AC E tmps x:=by
 intro x hx;cases x with
 |tmp t =>simp only [AC];exact XW (fun e=>h t e (List.mem_append_left _ (List.mem_filterMap.2 ⟨.tmp t,by simpa using hx,rfl⟩))) _
 |_=>rfl
theorem OJ {tmps:List AV} {dst:Option Tmp} {v:AV} {o:Oper} (h:∀d,dst=some d→d ∉ o.looksAt ops):Ap ops (AX tmps dst v) o=Ap ops tmps o:=by
 unfold Ap;cases hg:o.guard with
 |none=>rfl
 |some gw =>
  obtain ⟨j,want⟩:=gw;simp only;cases hd:(ops[j]?).bind (·.dst) with
  |none=>rfl
  |some d =>simp only;rw [XX];intro e;exact h d e (List.mem_append_right _ (by simp [hg,hd]))
theorem Rt {l:List Nat} {i:Nat} (h:(!(l.contains i))=true):i ∉ l:=by simpa using h
theorem L7 {tmps:List AV} {H:AH} {p:Oper × Nat} {v:AV} {u:Ups} {S:List Nat} (h:CX O P E ops tmps H p=some (v,u,S)) :
  (∀q∈u,q.1∈S)∧(Ap ops tmps p.1=some true→S=BB E H (AC E tmps) p):=by
 unfold CX at h
 split at h
 ·cases h
 ·rename_i hw
  injection h with h;simp only [Prod.mk.injEq] at h;obtain ⟨rfl,rfl,rfl⟩:=h;exact ⟨by simp,fun hw'=>by rw [hw] at hw';cases hw'⟩
 ·split at h
  ·split at h
   ·rename_i sw
    injection h with h;simp only [Prod.mk.injEq] at h;obtain ⟨rfl,rfl,rfl⟩:=h;refine ⟨fun q hq => ?_,fun _=>rfl⟩;have:=List.all_eq_true.1 sw q hq;simpa using this
   ·cases h
  ·cases h
structure Ind (ops:Array Oper) (r s:BX):Prop where
 d1:∀d,r.p.1.dst=some d→d ∉ s.p.1.looksAt ops
 d2:∀d,r.p.1.dst=some d→s.p.1.dst≠some d
 d3:∀d,s.p.1.dst=some d→d ∉ r.p.1.looksAt ops
 f1:∀q∈r.u,q.1 ∉ s.S
 f2:∀q∈s.u,q.1 ∉ r.S
theorem XY (tmps:List AV) {x y:Option Tmp} (v u:AV) (h:∀d,x=some d→y≠some d):AX (AX tmps x v) y u=AX (AX tmps y u) x v:=by
 cases x with
 |none=>rfl
 |some d =>
  cases y with
  |none=>rfl
  |some e =>
   have oL:d≠e:=fun he=>h d rfl (he ▸ rfl)
   simp only [AX];exact List.set_comm _ _ oL
theorem XZ {u1 u2:Ups} (H:AH) (h:∀q∈u1,∀r∈u2,q.1≠r.1):AR (AR H u1) u2=AR (AR H u2) u1:=by
 apply AH.ext_at
 ·simp only [G9]
 ·intro id
  by_cases h1:∃q∈u1,q.1=id
  ·have h2:∀r∈u2,r.1≠id:=fun r hr he=>by
    obtain ⟨q,hq,uj⟩:=h1;exact h q hq r hr (uj.trans he.symm)
   rw [EC u2 _ id h2];exact L5 u1 (by rw [G9]) id h1
  ·have h1':∀q∈u1,q.1≠id:=fun q hq he=>h1 ⟨q,hq,he⟩
   rw [EC u1 (AR H u2) id h1']
   by_cases h2:∃r∈u2,r.1=id
   ·exact L5 u2 (by rw [G9]) id h2
   ·have h2':∀q∈u2,q.1≠id:=fun q hq he=>h2 ⟨q,hq,he⟩
    rw [EC u2 _ id h2',EC u2 _ id h2',EC u1 _ id h1']
theorem swap {r s:BX} {t:St} (hi:Ind ops r s) (h1:CX O P E ops t.1 t.2 r.p=some (r.v,r.u,r.S)) (h2:CX O P E ops (app r t).1 (app r t).2 s.p=some (s.v,s.u,s.S)) :
  CX O P E ops t.1 t.2 s.p=some (s.v,s.u,s.S)∧CX O P E ops (app s t).1 (app s t).2 r.p=some (r.v,r.u,r.S)∧app r (app s t)=app s (app r t):=by
 obtain ⟨s1,s2⟩:=L7 h1;obtain ⟨s3,s4⟩:=L7 h2;refine ⟨?_,?_,?_⟩
 ·rw [←h2]
  refine (Rs (fun x hx=>OI hi.d1 x hx) (OJ hi.d1) (G9 _ _) fun hw i uk => ?_).symm;have x4:i∈s.S:=by rw [s4 hw];exact uk
  exact EC _ _ i fun q hq he=>hi.f1 q hq (he ▸ x4)
 ·rw [←h1]
  refine Rs (fun x hx=>OI hi.d3 x hx) (OJ hi.d3) (G9 _ _) fun hw i uk => ?_
  have hw':Ap ops t.1 r.p.1=some true:=by rw [←hw];exact (OJ hi.d3).symm
  have hS:=s2 hw'
  -- what is seen Dg 's' is what was seen ahead of it
  have sM:BB E (app s t).2 (AC E (app s t).1) r.p=r.S:=by
   have e1:FY (AC E (app s t).1) r.p.1=FY (AC E t.1) r.p.1:=Rr r.p.1 fun x hx=>OI hi.d3 x hx
   rw [hS];unfold BB at hS ⊢;rw [e1]
   have hc:DD t.2 (Hi r.p.1.op) (FY (AC E t.1) r.p.1)=DD (app s t).2 (Hi r.p.1.op) (FY (AC E t.1) r.p.1):=by
    refine L4 (Hi _) _ fun i hi' => ?_
    refine (EC _ _ i fun q hq he=>hi.f2 q hq ?_).symm;rw [hS,he]
    split
    ·exact List.mem_cons_of_mem _ hi'
    ·exact hi'
   rw [hc]
  rw [sM] at uk;exact EC _ _ i fun q hq he=>hi.f2 q hq (he ▸ uk)
 ·unfold app
  simp only;rw [XY t.1 r.v s.v hi.d2,XZ t.2 (u1:=r.u) (u2:=s.u)];intro q hq x hx he;exact hi.f1 q hq (he ▸ s3 x hx)
theorem Ru {r:BX}:∀{L1 L2:List BX} {s s':St},Fa O P E ops (L1++r::L2) s s'→(∀q∈L1,Ind ops q r)→Fa O P E ops (r::(L1++L2)) s s'
 |[],_,_,_,h,_=>h
 |q::L1,L2,s,s',h,hi=>by
  simp only [List.cons_append,Fa] at h;obtain ⟨h1,h2⟩:=h;have h3:=Ru h2 fun x hx=>hi x (List.mem_cons_of_mem _ hx)
  simp only [Fa] at h3;obtain ⟨h3,h4⟩:=h3;obtain ⟨a1,a2,a3⟩:=swap (hi q List.mem_cons_self) h1 h3;simp only [Fa,List.cons_append];exact ⟨a1,a2,by rw [a3];exact h4⟩
theorem Xa {r s:BX} (h:Hj ops r s=true) (hm:s.m.testBit r.i=false):Ind ops r s:=by unfold Hj at h;rw [hm,Bool.false_or,Bool.and_eq_true] at h;obtain ⟨h1,h2,h3⟩:=(⟨Oper.apart_spec h.1,h.2⟩:_∧_) |>.1;have hf:=h.2;unfold Js at hf;rw [Bool.and_eq_true] at hf;exact ⟨h1,h2,h3,fun q hq=>Rt (List.all_eq_true.1 hf.1 q hq),fun q hq=>Rt (List.all_eq_true.1 hf.2 q hq)⟩
end
variable {P:Program} {E:Env} {O:Orc} {ops:Array Oper}
theorem OK {acc:List Nat} {j:Nat}:∀{es:List Edge},(FZ acc es).testBit j=true→∃e∈es,Region.binds .any e=true∧(e.on=j∨(acc.getD e.on 0).testBit j=true)
 |[],h=>by simp [FZ] at h
 |e::es,h=>by
  simp only [FZ] at h
  split at h
  ·rename_i hb
   rw [Nat.testBit_or,Bool.or_eq_true,Nat.testBit_or,Bool.or_eq_true] at h;rcases h with h|h|h
   ·obtain ⟨e',he,h1⟩:=OK h
    exact ⟨e',List.mem_cons_of_mem _ he,h1⟩
   ·refine ⟨e,List.mem_cons_self,hb,.inl ?_⟩
    rw [Nat.testBit_two_pow] at h;exact of_decide_eq_true h
   ·exact ⟨e,List.mem_cons_self,hb,.inr h⟩
  ·obtain ⟨e',he,h1⟩:=OK h
   exact ⟨e',List.mem_cons_of_mem _ he,h1⟩
theorem Rv:∀(os:List Oper) (acc:List Nat),(CE acc os).take acc.length=acc∧∀(k:Nat) (o:Oper),os[k]? = some o →
  (CE acc os).getD (acc.length+k) 0=FZ ((CE acc os).take (acc.length+k)) o.after.toList
 |[],acc=>by simp [CE]
 |o::os,acc=>by
  obtain ⟨h1,h2⟩:=Rv os (acc++[FZ acc o.after.toList]);simp only [CE];have hl:(acc++[FZ acc o.after.toList]).length=acc.length+1:=by simp
  rw [hl] at h1 h2
  have ww:(CE (acc++[FZ acc o.after.toList]) os).take acc.length=acc:=by have:=congrArg (List.take acc.length) h1;rw [List.take_take,Nat.min_eq_left (by omega)] at this;rw [this];simp
  refine ⟨ww,fun k o' hk => ?_⟩;cases k with
  |zero =>
   simp only [List.getElem?_cons_zero,Option.some.injEq] at hk;subst hk;rw [Nat.add_zero,ww]
   have oT:acc.length<(CE (acc++[FZ acc o.after.toList]) os).length:=by have:=congrArg List.length h1;rw [List.length_take,hl] at this;omega
   have hg:((CE (acc++[FZ acc o.after.toList]) os).take (acc.length+1))[acc.length]? = some (FZ acc o.after.toList):=by rw [h1];simp
   rw [List.getElem?_take,if_pos (by omega)] at hg;rw [List.getD_eq_getElem?_getD,hg];rfl
  |succ k =>simp only [List.getElem?_cons_succ] at hk;have:=h2 k o' hk;rw [show acc.length+(k+1)=acc.length+1+k by omega];exact this
theorem Rw {os:List Oper} {k j:Nat} {o:Oper} (ho:os[k]? = some o) (h:((CE [] os).getD k 0).testBit j=true) :
  ∃e∈o.after.toList,Region.binds .any e=true∧(e.on=j∨((CE [] os).getD e.on 0).testBit j=true):=by
 have:=(Rv os []).2 k o ho;simp only [List.length_nil,Nat.zero_add] at this;rw [this] at h;obtain ⟨e,he,hb,h1⟩:=OK h;refine ⟨e,he,hb,?_⟩;rcases h1 with h1|h1
 ·exact .inl h1
 ·refine .inr ?_
  rw [List.getD_eq_getElem?_getD,List.getElem?_take] at h1
  split at h1
  ·rw [List.getD_eq_getElem?_getD];exact h1
  ·simp at h1
theorem Rx:∀(os:List Oper) (i k:Nat) (o:Oper),F8 i os=true→os[k]? = some o→∀e∈o.after.toList,Region.binds .any e=true→e.on<i+k
 |[],_,_,_,_,h,_,_,_=>by simp at h
 |o::os,i,k,o',hb,ho,e,he,wx=>by
  simp only [F8,Bool.and_eq_true] at hb;cases k with
  |zero =>simp only [List.getElem?_cons_zero,Option.some.injEq] at ho;subst ho;have:=List.all_eq_true.1 hb.1 e he;rw [wx] at this;simpa using this
  |succ k =>simp only [List.getElem?_cons_succ] at ho;have:=Rx os (i+1) k o' hb.2 ho e he wx;omega
theorem Ry (hS:AT P E O) {tmps:List AV} {H:AH} {p:Oper × Nat} {v:AV} {u:Ups} {S:List Nat} (h:CX O P E ops tmps H p=some (v,u,S)) :
  ∀q∈u,(q.1=p.2∧Ai E p.1.op=true)∨∃e,H.at q.1=some e:=by
 have hin:=(L7 h).1;unfold CX at h
 split at h
 ·cases h
 ·injection h with h;simp only [Prod.mk.injEq] at h;obtain ⟨_,rfl,_⟩:=h;simp
 ·split at h
  ·rename_i v1 u1 oS
   split at h
   ·injection h with h;simp only [Prod.mk.injEq] at h;obtain ⟨rfl,rfl,rfl⟩:=h
    intro q hq;have hqS:=hin q hq
    have tr:(∃e,(mask H (BB E H (AC E tmps) p)).at q.1=some e)→∃e,H.at q.1=some e:=by rintro ⟨e,he⟩;have hl:=DQ he;rw [GY] at hl;rw [Kr hqS hl] at he;exact ⟨e,he⟩
    have fin:aop P E (AC E tmps) (mask H (BB E H (AC E tmps) p)) p.2 p.1=some (v1,u1)→_:=fun ha=>Qw ha q hq
    unfold BG at oS
    split at oS
    ·split at oS
     ·split at oS
      ·split at oS
       ·rename_i v2 H1 hO
        split at oS
        ·rename_i oT
         injection oS with oS;simp only [Prod.mk.injEq] at oS;obtain ⟨rfl,rfl⟩:=oS;obtain ⟨j,_,hj⟩:=List.mem_filterMap.1 hq;cases pA:H1.at j with
         |none=>rw [pA] at hj;cases hj
         |some e =>
          rw [pA] at hj;simp only [Option.map_some] at hj;injection hj with hj;subst hj;refine .inr (tr ?_);cases hm:(mask H (BB E H (AC E tmps) p)).at j with
          |some e'=>exact ⟨e',rfl⟩
          |none =>have hl:=DQ pA;rw [oT] at hl;rw [(hS _ _ _ _ _ hO).2.2 j hl hm] at pA;cases pA
        ·cases oS
       ·cases oS
      ·cases oS
     ·exact (fin oS).imp id tr
    ·exact (fin oS).imp id tr
   ·cases h
  ·cases h
theorem Ks {ms:List Nat}:∀(ps:List (Oper × Nat)) (i:Nat) (tmps:List AV) (H:AH) (t:List AV) (K:AH) (l:List BX),evD O P E ops i ms ps tmps H=some (t,K,l) →
  Fa O P E ops l (tmps,H) (t,K)∧l.map (·.p)=ps∧(∀r∈l,r.m=ms.getD r.i 0)∧l.map (·.i)=List.range' i ps.length
 |[],i,tmps,H,t,K,l,h=>by simp only [evD] at h;injection h with h;simp only [Prod.mk.injEq] at h;obtain ⟨rfl,rfl,rfl⟩:=h;exact ⟨rfl,rfl,by simp,rfl⟩
 |p::ps,i,tmps,H,t,K,l,h=>by
  simp only [evD] at h
  split at h
  ·rename_i v u S hd
   split at h
   ·rename_i t' K' l' he
    injection h with h;simp only [Prod.mk.injEq] at h;obtain ⟨rfl,rfl,rfl⟩:=h;obtain ⟨h1,h2,h3,h4⟩:=Ks ps _ _ _ _ _ _ he;refine ⟨⟨hd,h1⟩,by simp [h2],fun r hr => ?_,by simp [h4,List.range'_succ]⟩;rcases List.mem_cons.1 hr with rfl|hr
    ·rfl
    ·exact h3 r hr
   ·cases h
  ·cases h
theorem Rz:∀{l:List BX},chk ops l=true→l.Pairwise fun r s=>Hj ops r s=true
 |[],_ => .nil
 |r::rs,h=>by simp only [chk,Bool.and_eq_true] at h;exact .cons (fun s hs=>List.all_eq_true.1 h.1 s hs) (Rz h.2)
theorem Xb (hS:AT P E O) (hM:Ch P E) {Q:Exit→Act→World→Prop} {s':St} (x5:F8 0 ops.toList=true):∀(n:Nat) (L:List BX) (listed:Array Bool) (s:St) {g:Gh} {w:World} {a:Act},
  L.length=n→(∀r∈L,ops[r.i]? = some r.p.1∧r.m=(CE [] ops.toList).getD r.i 0)→(L.Pairwise fun r q=>r.i<q.i)→(∀j,j<ops.size→(listed.getD j true=false↔∃r∈L,r.i=j)) →
  (listed.size=ops.size)→(∀j,listed.getD j false=true→∀k,((CE [] ops.toList).getD j 0).testBit k=true→listed.getD k false=true)→(L.Pairwise fun r q=>Hj ops r q=true) →
  (∀r∈L,Ai E r.p.1.op=true→r.p.2<s.2.length∧s.2.at r.p.2=none)→(∀r∈L,∀q∈L,r.i≠q.i→Ai E r.p.1.op=true→Ai E q.p.1.op=true→r.p.2≠q.p.2) →
  Fa O P E ops L s s'→Rel g s.2 w→Al E g→AB g s.1 a.tmps.toList→a.defers=[] →
  (∀g' a' w',Rel g' s'.2 w'→AQ g s.2 w g' s'.2 w'→AB g' s'.1 a'.tmps.toList→a'.defers=[]→Q .normal a' w')→wpAny P .any ops Q n listed a w:=by
 intro n
 induction n with
 |zero =>intro L listed s g w a hn hL sx sR oa oq vd ul rM ou R hG hT hd hQ;have t6:L=[]:=List.eq_nil_of_length_eq_zero hn;subst t6;simp only [Fa] at ou;subst ou;refine ⟨?_,hQ g a w R (AQ.refl g s.2 w) hT hd⟩;apply List.eq_nil_iff_forall_not_mem.2;intro j hj;obtain ⟨h1,o,ho,_⟩:=mem_ready.1 hj;obtain ⟨r,hr,_⟩:=(sR j (Array.getElem?_eq_some_iff.1 ho).1).1 h1;cases hr
 |succ n ih =>
  intro L listed s g w a hn hL sx sR oa oq vd ul rM ou R hG hT hd hQ;have oX:∀r∈L,r.i<ops.size:=fun r hr=>(Array.getElem?_eq_some_iff.1 (hL r hr).1).1
  have lst:∀j,j<ops.size→(¬∃r∈L,r.i=j)→listed.getD j false=true:=by
   intro j hj pf;have:¬listed.getD j true=false:=fun h=>pf ((sR j hj).1 h)
   have s6:j<listed.size:=by omega
   simp only [Array.getD_eq_getD_getElem?,Array.getElem?_eq_getElem s6,Option.getD_some] at this ⊢;simpa using this
  refine ⟨fun hr => ?_,fun i hi => ?_⟩
  ·exfalso
   cases L with
   |nil=>simp at hn
   |cons r L =>
    have tg:r.i∈Region.ready .any ops listed:=by
     refine mem_ready.2 ⟨(sR r.i (oX r List.mem_cons_self)).2 ⟨r,List.mem_cons_self,rfl⟩,r.p.1,(hL r List.mem_cons_self).1,fun e he hb => ?_⟩;have ud:=Rx ops.toList 0 r.i r.p.1 x5 (by simpa using (hL r List.mem_cons_self).1) e (by simpa using he) hb;rw [Nat.zero_add] at ud;refine lst e.on (Nat.lt_trans ud (oX r List.mem_cons_self)) ?_;rintro ⟨q,hq,uj⟩;rcases List.mem_cons.1 hq with rfl|hq
     ·omega
     ·have:=(List.pairwise_cons.1 sx).1 q hq
      omega
    rw [hr] at tg;cases tg
  ·obtain ⟨hun,o,ho,wy⟩:=mem_ready.1 hi
   obtain ⟨r,hr,rfl⟩:=(sR i (Array.getElem?_eq_some_iff.1 ho).1).1 hun;obtain ⟨L1,L2,rfl⟩:=List.append_of_mem hr;have s7:=(hL r hr).1;rw [ho] at s7;injection s7 with s7
   have x6:∀q∈L1,Ind ops q r:=by
    intro q hq;refine Xa ((List.pairwise_append.1 vd).2.2 q hq r List.mem_cons_self) ?_;cases hb:r.m.testBit q.i with
    |false=>rfl
    |true =>
     exfalso;have vf:q∈L1++r::L2:=List.mem_append_left _ hq;have xA:listed.getD q.i true=false:=(sR q.i (oX q vf)).2 ⟨q,vf,rfl⟩
     have xB:listed.getD q.i false≠true:=by
      have s6:q.i<listed.size:=by have:=oX q vf;omega
      simp only [Array.getD_eq_getD_getElem?,Array.getElem?_eq_getElem s6,Option.getD_some] at xA ⊢;simp [xA]
     rw [(hL r hr).2] at hb;obtain ⟨e,he,vg,h1⟩:=Rw (by simpa using (hL r hr).1) hb;have oO:=wy e (by rw [s7];simpa using he) vg;rcases h1 with h1|h1
     ·rw [h1] at oO;exact xB oO
     ·exact xB (oq e.on oO q.i h1)
   have xC:=Ru ou x6;simp only [Fa] at xC;obtain ⟨pv,x7⟩:=xC
   have s8:∀q∈L1++L2,q∈L1++r::L2:=fun q hq=>by
    rcases List.mem_append.1 hq with h|h
    ·exact List.mem_append_left _ h
    ·exact List.mem_append_right _ (List.mem_cons_of_mem _ h)
   have oL:∀q∈L1++L2,q.i≠r.i:=fun q hq=>by
    have hp:=List.pairwise_append.1 sx;rcases List.mem_append.1 hq with h|h
    ·have:=hp.2.2 q h r List.mem_cons_self;omega
    ·have:=(List.pairwise_cons.1 hp.2.1).1 q h;omega
   have s9:(L1++L2).Sublist (L1++r::L2):=List.Sublist.append (List.Sublist.refl _) (List.sublist_cons_self _ _);have x8:r.i<listed.size:=by have:=oX r hr;omega
   have next:∀{g':Gh} {u:Value} {w':World},Rel g' (app r s).2 w'→AQ g s.2 w g' (app r s).2 w'→AA g' r.v u→wpAny P .any ops Q n (listed.setIfInBounds r.i true) (a.put r.p.1.dst u) w':=by
    intro g' u w' R' p' hv
    refine ih (L1++L2) _ (app r s) (by simp at hn ⊢;omega) (fun q hq=>hL q (s8 q hq)) (sx.sublist s9) (fun j hj => ?_) (by simpa using oa) (fun j hj k hk => ?_) (vd.sublist s9)
     (fun q hq xD => ?_) (fun q hq q' hq'=>rM q (s8 q hq) q' (s8 q' hq')) x7 R' (hG.mono p'.le) (Hg (AB.mono p'.le _ _ hT) hv) (by rw [Hh];exact hd)
     (fun g2 a2 w2 R2 p2=>hQ g2 a2 w2 R2 (AQ.trans R p' p2))
    ·by_cases oN:r.i=j
     ·subst oN
      constructor
      ·intro h
       simp [x8] at h
      ·rintro ⟨q,hq,uj⟩
       exact absurd uj (oL q hq)
     ·rw [getD_set_ne true oN,sR j hj]
      constructor
      ·rintro ⟨q,hq,rfl⟩
       refine ⟨q,?_,rfl⟩;rcases List.mem_append.1 hq with h|h
       ·exact List.mem_append_left _ h
       ·rcases List.mem_cons.1 h with rfl|h
        ·exact absurd rfl oN
        ·exact List.mem_append_right _ h
      ·rintro ⟨q,hq,rfl⟩
       exact ⟨q,s8 q hq,rfl⟩
    ·by_cases oN:r.i=j
     ·subst oN
      obtain ⟨e,he,vg,h1⟩:=Rw (by simpa using (hL r hr).1) hk;have oO:=wy e (by rw [s7];simpa using he) vg;rcases h1 with h1|h1
      ·rw [←h1];exact getD_set_true oO
      ·exact getD_set_true (oq e.on oO k h1)
     ·rw [getD_set_ne false oN] at hj
      exact getD_set_true (oq j hj k hk)
    ·obtain ⟨h1,h2⟩:=ul q (s8 q hq) xD
     refine ⟨by show _<(AR s.2 r.u).length;rw [G9];exact h1,?_⟩
     show (AR s.2 r.u).at q.p.2=none
     rw [EC,h2];intro x hx he;rcases Ry hS pv x hx with ⟨h3,h4⟩|⟨e,h3⟩
     ·exact rM q (s8 q hq) r hr (oL q hq) xD h4 (he.symm.trans h3)
     ·rw [he,h2] at h3;cases h3
   unfold wpOp;simp only [ho];rw [s7]
   -- what the step did
   have oS:=pv;have hSS:=L7 pv;unfold CX at oS
   split at oS
   ·cases oS
   ·rename_i hw
    rw [GW hT hw];simp only [Bool.false_eq_true,if_false];injection oS with oS;simp only [Prod.mk.injEq] at oS;obtain ⟨hv,hu,_⟩:=oS;refine next (g':=g) (by unfold app;rw [←hu];exact R) (by unfold app;rw [←hu];exact AQ.refl _ _ _) (by rw [←hv];simp [AV.nothing,AA,AB,undef])
   ·rename_i hw
    rw [GW hT hw];simp only [if_true]
    split at oS
    ·rename_i v1 u1 vh
     split at oS
     ·injection oS with oS;simp only [Prod.mk.injEq] at oS
      obtain ⟨hv,hu,_⟩:=oS;refine .inl (Rp hS hM R hG hT (fun hn=>⟨(ul r hr hn).1,(ul r hr hn).2,by unfold BB;rw [if_pos hn];exact List.mem_cons_self⟩) vh fun g' cv w' h1 h2 h3 => ?_);exact next (by unfold app;rw [←hu];exact h1) (by unfold app;rw [←hu];exact h2) (by rw [←hv];exact h3)
     ·cases oS
    ·cases oS
theorem OL:∀(os:List Oper) (n:Nat),(AY E os n).map (·.1)=os
 |[],_=>rfl
 |o::os,n=>by simp [AY,OL os]
theorem R3 (hS:AT P E O) (hM:Ch P E) {Q:Exit→Act→World→Prop} {g:Gh} {H:AH} {w:World} {tmps tmps':List AV} {a:Act} {H':AH}
  (h:EE O P E ops tmps H=some (tmps',H')) (R:Rel g H w) (hG:Al E g) (hT:AB g tmps a.tmps.toList) (hd:a.defers=[])
  (hQ:∀g' a' w',Rel g' H' w'→AQ g H w g' H' w'→AB g' tmps' a'.tmps.toList→a'.defers=[]→Q .normal a' w'):wpAny P .any ops Q ops.size (Array.replicate ops.size false) a {w with drawn:=w.drawn+1}:=by
 unfold EE at h
 split at h
 ·rename_i t K l he
  split at h
  ·rename_i hc
   injection h with h;simp only [Prod.mk.injEq] at h;obtain ⟨rfl,rfl⟩:=h;obtain ⟨h1,h2,h3,h4⟩:=Ks _ _ _ _ _ _ _ he
   have oT:l.length=ops.size:=by have:=congrArg List.length h2;rw [List.length_map] at this;rw [this];have:=congrArg List.length (OL (E:=E) ops.toList H.length);rw [List.length_map] at this;simpa using this
   have vi:(AY E ops.toList H.length).length=ops.size:=by rw [←h2,List.length_map,oT]
   rw [vi] at h4
   have hi:∀(k:Nat) (r:BX),l[k]? = some r→r.i=k:=by
    intro k r hk;have hk':k<ops.size:=by rw [←oT];exact (List.getElem?_eq_some_iff.1 hk).1
    have:=congrArg (fun x=>x[k]?) h4;simp only [List.getElem?_map,hk,Option.map_some] at this;rw [List.getElem?_range' hk'] at this;injection this with this;omega
   have vj:=L0 (E:=E) H 0 (fun _ _ _=>trivial) ops.toList H.length (grow H (Ag E ops.toList)) (fun id hid=>by rw [HA];exact C7 hid) (by simp [I8]);rw [←h2] at vj
   refine (Xb hS hM hc.2 ops.size l _ (tmps,grow H (Ag E ops.toList)) oT (fun r hr => ?_) ?_ (fun j hj => ?_) (by simp) (fun j hj => ?_) (Rz hc.1) ?_ ?_ h1
    ((R.grow _).same rfl) hG hT hd (fun g' a' w' R' p'=>hQ g' a' w' R' ?_))
   ·obtain ⟨k,hk⟩:=List.mem_iff_getElem?.1 hr
    have oQ:=hi k r hk;refine ⟨?_,h3 r hr⟩;have:=congrArg (fun x=>(x.map (·.1))[k]?) h2;simp only [List.getElem?_map,hk,Option.map_some] at this;have h5:=congrArg (fun x=>x[k]?) (OL (E:=E) ops.toList H.length);simp only [List.getElem?_map] at h5;rw [h5] at this;rw [oQ,←Array.getElem?_toList];exact this.symm
   ·rw [List.pairwise_iff_getElem]
    intro x y hx hy rN;have e1:=hi x l[x] (List.getElem?_eq_getElem hx);have e2:=hi y l[y] (List.getElem?_eq_getElem hy);omega
   ·constructor
    ·intro _
     have s6:j<l.length:=by rw [oT];exact hj
     exact ⟨l[j],List.getElem_mem s6,hi j _ (List.getElem?_eq_getElem s6)⟩
    ·intro _
     simp [hj]
   ·simp only [Array.getD_eq_getD_getElem?] at hj
    rw [Array.getElem?_replicate] at hj
    split at hj<;>simp at hj
   ·-- each has its number
    have:∀{ps:List (Oper × Nat)},FA E (grow H (Ag E ops.toList)) ps→∀p∈ps,Ai E p.1.op=true→p.2<(grow H (Ag E ops.toList)).length∧(grow H (Ag E ops.toList)).at p.2=none:=by
     intro ps hr
     induction hr with
     |nil=>simp
     |cons p ps r1 r2 r3 ih =>
      intro q hq;rcases List.mem_cons.1 hq with rfl|hq
      ·exact r1
      ·exact ih q hq
    exact fun r hr hn=>this vj r.p (List.mem_map_of_mem hr) hn
   ·have:∀{l:List BX},FA E (grow H (Ag E ops.toList)) (l.map (·.p))→(l.Pairwise fun r q=>Ai E r.p.1.op=true→Ai E q.p.1.op=true→q.p.2≠r.p.2):=by
     intro l
     induction l with
     |nil=>intro _;exact .nil
     |cons r l ih =>
      intro hr;simp only [List.map_cons] at hr;cases hr with
      |cons _ _ r1 r2 r3=>exact .cons (fun q hq hn hn'=>r2 hn q.p (List.mem_map_of_mem hq) hn') (ih r3)
    have tA:=this vj;intro r hr q hq oL pT pL;obtain ⟨x,hx⟩:=List.mem_iff_getElem.1 hr;obtain ⟨y,hy⟩:=List.mem_iff_getElem.1 hq;obtain ⟨so,rfl⟩:=hx;obtain ⟨rF,rfl⟩:=hy;rw [List.pairwise_iff_getElem] at tA;rcases Nat.lt_trichotomy x y with rN|rN|rN
    ·exact fun e=>tA x y so rF rN pT pL e.symm
    ·subst rN;exact absurd rfl oL
    ·exact tA y x rF so rN pL pT
   ·have:=AQ.trans (R.grow (Ag E ops.toList)) (AQ.drew g (grow H (Ag E ops.toList)) w) p'
    exact this.ungrow
  ·cases h
 ·cases h
theorem Xc (hS:AT P E O) (hM:Ch P E) (pD:P.follows .mixedOrders=true) {Q:Exit→Act→World→Prop} {id:Nat} {g:Gh} {H:AH} {w:World} {tmps tmps':List AV} {a:Act} {H':AH}
  (h:EE O P E ops tmps H=some (tmps',H')) (R:Rel g H w) (hG:Al E g) (hT:AB g tmps a.tmps.toList) (hd:a.defers=[])
  (hQ:∀g' a' w',Rel g' H' w'→AQ g H w g' H' w'→AB g' tmps' a'.tmps.toList→a'.defers=[]→Q .normal a' w'):(Code.region id ops true).wp P Q a w:=wp_region_any pD (R3 hS hM h R hG hT hd hQ)
inductive AEx where
 |normal
 |exit (id:Nat)
 |ret
def AEx.ex:AEx→Exit
 |.normal => .normal
 |.exit id => .exit id
 |.ret => .ret
def iter (f:List AV→AH→Option (AEx × List AV × AH)):Nat→List AV→AH→Option (AEx × List AV × AH)
 |0,_,_=>none
 |n+1,t,H=>(match f t H with
  |some (.normal,t',H')=>iter f n t' H'
  |r=>r)
def AK (O:Orc) (P:Program) (E:Env) (n:Nat):Code→List AV→AH→Option (AEx × List AV × AH)
 |.skip,t,H=>some (.normal,t,H)
 |.region _ ops draw,t,H=>(match (if draw=true then EE O P E ops t H else Bf O P E ops t H) with
  |some (t',H')=>some (.normal,t',H')
  |none=>none)
 |.seq a b,t,H=>(match AK O P E n a t H with
  |some (.normal,t',H')=>AK O P E n b t' H'
  |r=>r)
 |.cond c a b,t,H=>(match AC E t c with
  |.bool true=>AK O P E n a t H
  |.bool false=>AK O P E n b t H
  |_=>none)
 |.block id c,t,H=>(match AK O P E n c t H with
  |some (.exit id',t',H')=>if id'=id then some (.normal,t',H') else some (.exit id',t',H')
  |r=>r)
 |.loop c,t,H=>iter (AK O P E n c) n t H
 |.exit id,t,H=>some (.exit id,t,H)
 |.ret,t,H=>some (.ret,t,H)
 |_,_,_=>none
def BC (P:Program) (H:AH) (t:List AV):List ResultVar→Option (List AV)
 |[]=>some []
 |.tmp d::r=>(match BC P H t r with
  |some vs=>some (t.getD d .nothing::vs)
  |none=>none)
 |.cell d ty::r=>(match A8 P H ty (t.getD d .nothing),BC P H t r with
  |some v,some vs=>some (v::vs)
  |_,_=>none)
def BH:List AV→AV
 |[v]=>v
 |vs => .tup vs
def Ar (O:Orc) (P:Program) (E:Env) (n:Nat) (f:FuncId) (args:List AV) (H:AH):Option (AV × AH) :=
 match P.funcs[f]? with
 |some fn=>(match fn.body with
  |some c=>(match AK O P E n c (args++List.replicate (fn.ntmps-args.length) .nothing) H with
   |some (.exit _,_,_)=>none
   |some (_,t,H')=>(match BC P H' t fn.results.toList with
    |some vs=>some (BH vs,H')
    |none=>none)
   |none=>none)
  |none=>none)
 |none=>none
section
variable {P:Program} {E:Env} {O:Orc}
theorem GZ (hS:AT P E O) (hM:Ch P E) (pD:P.follows .mixedOrders=true) (n:Nat):∀(c:Code) {Q:Exit→Act→World→Prop} {g:Gh} {H:AH} {w:World} {t t':List AV} {a:Act} {H':AH} {ex:AEx},
  AK O P E n c t H=some (ex,t',H')→Rel g H w→Al E g→AB g t a.tmps.toList→a.defers=[] →
  (∀g' a' w',Rel g' H' w'→AQ g H w g' H' w'→AB g' t' a'.tmps.toList→a'.defers=[]→Q ex.ex a' w')→c.wp P Q a w
 |.skip,Q,g,H,w,t,t',a,H',ex,h,R,hG,hT,hd,hQ=>by simp only [AK] at h;injection h with h;simp only [Prod.mk.injEq] at h;obtain ⟨rfl,rfl,rfl⟩:=h;exact wp_skip (hQ g a w R (AQ.refl g H w) hT hd)
 |.region id ops draw,Q,g,H,w,t,t',a,H',ex,h,R,hG,hT,hd,hQ=>by
  simp only [AK] at h
  split at h
  ·rename_i t1 H1 he
   injection h with h;simp only [Prod.mk.injEq] at h;obtain ⟨rfl,rfl,rfl⟩:=h;cases draw with
   |true=>exact Xc hS hM pD (by simpa using he) R hG hT hd hQ
   |false=>exact XQ hS hM (by simpa using he) R hG hT hd hQ
  ·cases h
 |.seq x y,Q,g,H,w,t,t',a,H',ex,h,R,hG,hT,hd,hQ=>by
  simp only [AK] at h;refine wp_seq ?_
  split at h
  ·rename_i t1 H1 he
   refine GZ hS hM pD n x he R hG hT hd fun g1 a1 w1 R1 p1 qd oi => ?_
   exact GZ hS hM pD n y h R1 (hG.mono p1.le) qd oi fun g2 a2 w2 R2 p2=>hQ g2 a2 w2 R2 (AQ.trans R p1 p2)
  ·rename_i r oL
   refine GZ hS hM pD n x h R hG hT hd fun g1 a1 w1 R1 p1 qd oi => ?_
   have:=hQ g1 a1 w1 R1 p1 qd oi;cases ex with
   |normal=>exact absurd h (oL _ _)
   |exit id=>exact this
   |ret=>exact this
 |.cond c x y,Q,g,H,w,t,t',a,H',ex,h,R,hG,hT,hd,hQ=>by
  simp only [AK] at h;have hc:=IE hG hT c
  split at h
  ·rename_i he
   rw [he] at hc;simp only [AA] at hc;exact wp_cond_true hc (GZ hS hM pD n x h R hG hT hd hQ)
  ·rename_i he
   rw [he] at hc;simp only [AA] at hc;exact wp_cond_false hc (GZ hS hM pD n y h R hG hT hd hQ)
  ·cases h
 |.block id c,Q,g,H,w,t,t',a,H',ex,h,R,hG,hT,hd,hQ=>by
  simp only [AK] at h;refine wp_block ?_
  split at h
  ·rename_i id' t1 H1 he
   refine GZ hS hM pD n c he R hG hT hd fun g1 a1 w1 R1 p1 qd oi => ?_
   split at h
   ·rename_i hid
    injection h with h;simp only [Prod.mk.injEq] at h;obtain ⟨rfl,rfl,rfl⟩:=h;simp only [AEx.ex,Exit.inBlock];rw [if_pos hid];exact hQ g1 a1 w1 R1 p1 qd oi
   ·rename_i hid
    injection h with h;simp only [Prod.mk.injEq] at h;obtain ⟨rfl,rfl,rfl⟩:=h;simp only [AEx.ex,Exit.inBlock];rw [if_neg hid];exact hQ g1 a1 w1 R1 p1 qd oi
  ·rename_i r oL
   refine GZ hS hM pD n c h R hG hT hd fun g1 a1 w1 R1 p1 qd oi => ?_
   have:=hQ g1 a1 w1 R1 p1 qd oi;cases ex with
   |normal=>exact this
   |exit id'=>exact absurd h (oL _ _ _)
   |ret=>exact this
 |.loop c,Q,g,H,w,t,t',a,H',ex,h,R,hG,hT,hd,hQ=>by
  simp only [AK] at h;refine wp_loop_rounds n ?_
  have key:∀(k:Nat) {g:Gh} {H:AH} {w:World} {t:List AV} {a:Act},iter (AK O P E n c) k t H=some (ex,t',H')→Rel g H w→Al E g→AB g t a.tmps.toList→a.defers=[] →
    (∀g' a' w',Rel g' H' w'→AQ g H w g' H' w'→AB g' t' a'.tmps.toList→a'.defers=[]→Q ex.ex a' w')→Code.rounds P c Q k a w:=by
   intro k
   induction k with
   |zero=>intro g H w t a h;simp only [iter] at h;cases h
   |succ k ih =>
    intro g H w t a h R hG hT hd hQ;simp only [iter] at h;rw [rounds_succ]
    split at h
    ·rename_i t1 H1 he
     refine GZ hS hM pD n c he R hG hT hd fun g1 a1 w1 R1 p1 qd oi => ?_
     exact ih h R1 (hG.mono p1.le) qd oi fun g2 a2 w2 R2 p2=>hQ g2 a2 w2 R2 (AQ.trans R p1 p2)
    ·rename_i r oL
     refine GZ hS hM pD n c h R hG hT hd fun g1 a1 w1 R1 p1 qd oi => ?_
     have:=hQ g1 a1 w1 R1 p1 qd oi;cases ex with
     |normal=>exact absurd h (oL _ _)
     |exit id=>exact this
     |ret=>exact this
  exact key n h R hG hT hd hQ
 |.exit id,Q,g,H,w,t,t',a,H',ex,h,R,hG,hT,hd,hQ=>by simp only [AK] at h;injection h with h;simp only [Prod.mk.injEq] at h;obtain ⟨rfl,rfl,rfl⟩:=h;exact wp_exit (hQ g a w R (AQ.refl g H w) hT hd)
 |.ret,Q,g,H,w,t,t',a,H',ex,h,R,hG,hT,hd,hQ=>by simp only [AK] at h;injection h with h;simp only [Prod.mk.injEq] at h;obtain ⟨rfl,rfl,rfl⟩:=h;exact wp_ret (hQ g a w R (AQ.refl g H w) hT hd)
 |.rangeFunc _ _ _ _,_,_,_,_,_,_,_,_,_,h,_,_,_,_,_=>by simp only [AK] at h;cases h
 |.scope _,_,_,_,_,_,_,_,_,_,h,_,_,_,_,_=>by simp only [AK] at h;cases h
 |.label _,_,_,_,_,_,_,_,_,_,h,_,_,_,_,_=>by simp only [AK] at h;cases h
 |.goto _,_,_,_,_,_,_,_,_,_,h,_,_,_,_,_=>by simp only [AK] at h;cases h
 |.refuse _,_,_,_,_,_,_,_,_,_,h,_,_,_,_,_=>by simp only [AK] at h;cases h
def Jt (tv:Array Value) (r:ResultVar):Sem Value :=
 match r with
 |.tmp t=>pure (tv.getD t undef)
 |.cell a t=>do loadVar t (←asAddr (tv.getD a undef))
theorem Kt {g:Gh} {H:AH} {w:World} (R:Rel g H w) {t:List AV} {tv:Array Value} (hT:AB g t tv.toList):∀(rs:List ResultVar) (vs:List AV),BC P H t rs=some vs →
  ∃us,AB g vs us∧(rs.mapM (Jt tv)).run P w = .ok us w
 |[],vs,h=>by simp only [BC] at h;injection h with h;subst h;exact ⟨[],by simp [AB],by simp⟩
 |.tmp d::rs,vs,h=>by
  simp only [BC] at h
  split at h
  ·rename_i ws hr
   injection h with h;subst h;obtain ⟨us,h1,h2⟩:=Kt R hT rs ws hr;refine ⟨tv.getD d undef::us,?_,by simp only [List.mapM_cons,Jt,Sem.run_bind,Sem.run_pure,Result.andThen_ok,h2]⟩;simp only [AB];refine ⟨_,_,rfl,?_,h1⟩;have:=IE (E:={glob:=fun _ => .undef,meth:=fun _ _=>none,imm:=fun _=>false}) (g:=g) (a:=⟨tv,[]⟩) (fun _=>by simp [AA]) hT (.tmp d);exact this
  ·cases h
 |.cell d ty::rs,vs,h=>by
  simp only [BC] at h
  split at h
  ·rename_i v ws hl hr
   injection h with h;subst h;obtain ⟨us,h1,h2⟩:=Kt R hT rs ws hr;have hd:=IE (E:={glob:=fun _ => .undef,meth:=fun _ _=>none,imm:=fun _=>false}) (g:=g) (a:=⟨tv,[]⟩) (fun _=>by simp [AA]) hT (.tmp d);simp only [AC,Act.eval] at hd;obtain ⟨rv,h3,h4⟩:=Qi (P:=P) R hl hd;refine ⟨rv::us,by simp only [AB];exact ⟨_,_,rfl,h4,h1⟩,?_⟩
   have h5:(Jt tv (.cell d ty)).run P w = .ok rv w:=by
    show (do loadVar ty (←asAddr (tv.getD d undef)):Sem Value).run P w = .ok rv w
    unfold Instr.loadAt at h3;unfold A8 at hl
    split at hl
    ·rename_i he;rw [he] at hd;simp only [AA] at hd;obtain ⟨b,_,hd⟩:=hd
     rw [hd] at h3 ⊢;simpa [Instr.sureAddr,asAddr] using h3
    ·rename_i he;rw [he] at hd;simp only [AA] at hd;obtain ⟨b,o,ws,hd,_⟩:=hd
     rw [hd] at h3 ⊢;simpa [Instr.sureAddr,asAddr] using h3
    ·rename_i he;rw [he] at hd;simp only [AA] at hd;obtain ⟨b,cap,hd,_⟩:=hd
     rw [hd] at h3 ⊢;simpa [Instr.sureAddr,asAddr] using h3
    ·cases hl
   simp only [List.mapM_cons,Sem.run_bind,Sem.run_pure,h5,Result.andThen_ok,h2]
  ·cases h
theorem L8 {g:Gh} {vs:List AV} {us:List Value} (h:AB g vs us):AA g (BH vs) (if hs:(List.toArray us).size=1 then (List.toArray us)[0] else .tuple (List.toArray us)):=by
 have hl:=h.length;cases vs with
 |nil=>simp only [AB] at h;subst h;simp [BH,AA,AB]
 |cons v vs =>
  simp only [AB] at h;obtain ⟨u,ws,rfl,h1,h2⟩:=h;cases vs with
  |nil=>simp only [AB] at h2;subst h2;simpa [BH] using h1
  |cons v2 vs =>simp only [AB] at h2;obtain ⟨u2,xs,rfl,h3,h4⟩:=h2;simp only [BH,AA];refine ⟨u::u2::xs,by simp,?_⟩;simp only [AB];exact ⟨_,_,rfl,h1,_,_,rfl,h3,h4⟩
theorem EX (hS:AT P E O) (hM:Ch P E) (pD:P.follows .mixedOrders=true) {n:Nat} {f:FuncId} {args:List AV} {H H':AH} {v:AV} (h:Ar O P E n f args H=some (v,H')):CS P E f args H v H':=by
 intro g w cargs R hG hA;unfold Ar at h
 split at h
 ·rename_i fn hf
  split at h
  ·rename_i c hb
   refine calls_of_wp hf hb ?_
   have hT:AB g (args++List.replicate (fn.ntmps-args.length) .nothing) (List.toArray cargs++Array.replicate (fn.ntmps-(List.toArray cargs).size) undef).toList:=by simp only [Array.toList_append,Array.toList_replicate,List.size_toArray,hA.length];exact hA.append (AB.replicate _ (by simp [AV.nothing,AA,AB,undef]))
   split at h
   ·cases h
   ·rename_i ex t H1 oL he
    split at h
    ·rename_i vs hr
     injection h with h;simp only [Prod.mk.injEq] at h;obtain ⟨rfl,rfl⟩:=h;refine GZ hS hM pD n c he R hG hT rfl fun g' a' w' R' p' hT' hd' => ?_
     obtain ⟨us,h1,h2⟩:=Kt (P:=P) R' hT' _ _ hr
     have oM:(results fn a'.tmps).run P w' = .ok (if hs:(List.toArray us).size=1 then (List.toArray us)[0] else .tuple (List.toArray us)) w':=by have e1:results fn a'.tmps=(do let vs ←fn.results.mapM (Jt a'.tmps);pure (if hs:vs.size=1 then vs[0] else .tuple vs)):=rfl;rw [e1,Array.mapM_eq_mapM_toList];simp only [Sem.run_bind,Sem.run_map,h2,Result.andThen_ok];rfl
     cases ex with
     |normal=>exact ⟨hd',_,oM,g',_,rfl,R',p',L8 h1⟩
     |exit id=>exact (oL _ rfl).elim
     |ret=>exact ⟨hd',_,oM,g',_,rfl,R',p',L8 h1⟩
    ·cases h
   ·cases h
  ·cases h
 ·cases h
end
mutual
/-- Rows of appends from a number on are nobody's any more. -/
def strip (n:Nat):AV→AV
 |.slice (.tok t) sz k cs => .slice (if t<n then .tok t else .unk) sz k (CU n cs)
 |.slice .unk sz k cs => .slice .unk sz k (CU n cs)
 |.slice .full sz k cs => .slice .full sz k (CU n cs)
 |.vptr cs off => .vptr (CU n cs) off
 |.func fn a b => .func fn (CU n a) (CU n b)
 |.iface t v => .iface t (strip n v)
 |.agg cs => .agg (CU n cs)
 |.tup vs => .tup (CU n vs)
 |.undef => .undef
 |.bool b => .bool b
 |.int k i => .int k i
 |.str s => .str s
 |.nilPtr => .nilPtr
 |.nilSlice => .nilSlice
 |.emp => .emp
 |.nilMap => .nilMap
 |.nilFunc => .nilFunc
 |.adr b o => .adr b o
 |.nilIface => .nilIface
 |.ptr id off => .ptr id off
 |.bsl id off sz k cap => .bsl id off sz k cap
 |.lsl t sz k cs => .lsl t sz k (CU n cs)
 |.lptr t sz k => .lptr t sz k
 |.stk id ver sz k => .stk id ver sz k
 |.sptr id ver sz off => .sptr id ver sz off
def CU (n:Nat):List AV→List AV
 |[]=>[]
 |a::aS=>strip n a::CU n aS
end
mutual
/-- Only numbers below a bound. -/
def low (n:Nat):AV→Bool
 |.ptr id _=>decide (id<n)
 |.bsl id _ _ _ _=>decide (id<n)
 |.slice (.tok t) _ _ cs=>decide (t<n)&&lowL n cs
 |.lsl t _ _ cs=>decide (t<n)&&lowL n cs
 |.lptr t _ _=>decide (t<n)
 |.stk t _ _ _=>decide (t<n)
 |.sptr t _ _ _=>decide (t<n)
 |.slice .unk _ _ cs=>lowL n cs
 |.slice .full _ _ cs=>lowL n cs
 |.vptr cs _=>lowL n cs
 |.func _ a b=>lowL n a&&lowL n b
 |.iface _ v=>low n v
 |.agg cs=>lowL n cs
 |.tup vs=>lowL n vs
 |_=>true
def lowL (n:Nat):List AV→Bool
 |[]=>true
 |a::aS=>low n a&&lowL n aS
end
theorem Ku (n:Nat):∀l:List AV,(CU n l).length=l.length
 |[]=>rfl
 |a::aS=>by simp [CU,Ku n aS]
mutual
theorem AA.strip {g:Gh} (n:Nat):∀(a:AV) (v:Value),AA g a v→AA g (Fw.strip n a) v
 |.undef,_,h=>by simpa [Fw.strip] using h
 |.bool _,_,h=>by simpa [Fw.strip] using h
 |.int _ _,_,h=>by simpa [Fw.strip] using h
 |.str _,_,h=>by simpa [Fw.strip] using h
 |.nilPtr,_,h=>by simpa [Fw.strip] using h
 |.nilSlice,_,h=>by simpa [Fw.strip] using h
 |.emp,_,h=>by simpa [Fw.strip] using h
 |.nilMap,_,h=>by simpa [Fw.strip] using h
 |.nilFunc,_,h=>by simpa [Fw.strip] using h
 |.adr _ _,_,h=>by simpa [Fw.strip] using h
 |.nilIface,_,h=>by simpa [Fw.strip] using h
 |.ptr _ _,_,h=>by simpa [Fw.strip] using h
 |.bsl _ _ _ _ _,_,h=>by simpa [Fw.strip] using h
 |.lptr _ _ _,_,h=>by simpa [Fw.strip] using h
 |.stk _ _ _ _,_,h=>by simpa [Fw.strip] using h
 |.sptr _ _ _ _,_,h=>by simpa [Fw.strip] using h
 |.lsl t sz k cs,v,h=>by simp only [AA,Fw.strip] at h ⊢;obtain ⟨b,cap,vs,hv,h1,h2,h3,h4,h5⟩:=h;exact ⟨b,cap,vs,hv,AB.strip n _ _ h1,h2,by rw [Ku];exact h3,h4,h5⟩
 |.vptr cs off,v,h=>by simp only [AA,Fw.strip] at h ⊢;obtain ⟨b,o,vs,hv,h1,h2⟩:=h;exact ⟨b,o,vs,hv,AB.strip n _ _ h1,h2⟩
 |.slice .unk sz k cs,v,h=>by simp only [AA,Fw.strip] at h ⊢;obtain ⟨b,o,cap,vs,hv,h1,h2,h3,h4,h5⟩:=h;exact ⟨b,o,cap,vs,hv,AB.strip n _ _ h1,h2,by rw [Ku];exact h3,h4,h5⟩
 |.slice .full sz k cs,v,h=>by simp only [AA,Fw.strip] at h ⊢;obtain ⟨b,o,cap,vs,hv,h1,h2,h3,h4,h5⟩:=h;exact ⟨b,o,cap,vs,hv,AB.strip n _ _ h1,h2,by rw [Ku];exact h3,h4,h5⟩
 |.slice (.tok t) sz k cs,v,h=>by
  simp only [AA,Fw.strip] at h ⊢;obtain ⟨b,o,cap,vs,hv,h1,h2,h3,h4,h5⟩:=h;refine ⟨b,o,cap,vs,hv,AB.strip n _ _ h1,h2,by rw [Ku];exact h3,h4,?_⟩
  split
  ·exact h5
  ·trivial
 |.func fn fi ca,v,h=>by simp only [AA,Fw.strip] at h ⊢;obtain ⟨fs,cs,hv,h1,h2⟩:=h;exact ⟨fs,cs,hv,AB.strip n _ _ h1,AB.strip n _ _ h2⟩
 |.iface t x,v,h=>by simp only [AA,Fw.strip] at h ⊢;obtain ⟨y,hv,h1⟩:=h;exact ⟨y,hv,AA.strip n _ _ h1⟩
 |.agg cs,v,h=>by simp only [AA,Fw.strip] at h ⊢;obtain ⟨vs,hv,h1⟩:=h;exact ⟨vs,hv,AB.strip n _ _ h1⟩
 |.tup cs,v,h=>by simp only [AA,Fw.strip] at h ⊢;obtain ⟨vs,hv,h1⟩:=h;exact ⟨vs,hv,AB.strip n _ _ h1⟩
theorem AB.strip {g:Gh} (n:Nat):∀(aS:List AV) (vs:List Value),AB g aS vs→AB g (CU n aS) vs
 |[],_,h=>by simpa [CU] using h
 |a::aS,vs,h=>by simp only [AB,CU] at h ⊢;obtain ⟨v,ws,hv,h1,h2⟩:=h;exact ⟨v,ws,hv,AA.strip n _ _ h1,AB.strip n _ _ h2⟩
end
def Gh.cut (g:Gh) (n:Nat):Gh:={G:=g.G,M:=fun id=>if id<n then g.M id else none}
mutual
theorem AA.cut {g:Gh} {n:Nat}:∀(a:AV) (v:Value),low n a=true→AA g a v→AA (g.cut n) a v
 |.undef,_,_,h=>by simp [AA]
 |.bool _,_,_,h=>by simpa [AA] using h
 |.int _ _,_,_,h=>by simpa [AA] using h
 |.str _,_,_,h=>by simpa [AA] using h
 |.nilPtr,_,_,h=>by simpa [AA] using h
 |.nilSlice,_,_,h=>by simpa [AA] using h
 |.emp,_,_,h=>by simpa [AA] using h
 |.nilMap,_,_,h=>by simpa [AA] using h
 |.nilFunc,_,_,h=>by simpa [AA] using h
 |.adr _ _,_,_,h=>by simpa [AA] using h
 |.nilIface,_,_,h=>by simpa [AA] using h
 |.ptr id off,v,hl,h=>by simp only [low,decide_eq_true_eq] at hl;simp only [AA] at h ⊢;obtain ⟨b,hM,hv⟩:=h;exact ⟨b,by simp only [Gh.cut];rw [if_pos hl];exact hM,hv⟩
 |.bsl id off sz k cap,v,hl,h=>by simp only [low,decide_eq_true_eq] at hl;simp only [AA] at h ⊢;obtain ⟨b,hM,hv⟩:=h;exact ⟨b,by simp only [Gh.cut];rw [if_pos hl];exact hM,hv⟩
 |.vptr cs off,v,hl,h=>by simp only [low] at hl;simp only [AA] at h ⊢;obtain ⟨b,o,vs,hv,h1,h2⟩:=h;exact ⟨b,o,vs,hv,AB.cut _ _ hl h1,h2⟩
 |.slice .unk sz k cs,v,hl,h=>by simp only [low] at hl;simp only [AA] at h ⊢;obtain ⟨b,o,cap,vs,hv,h1,h2,h3,h4,h5⟩:=h;exact ⟨b,o,cap,vs,hv,AB.cut _ _ hl h1,h2,h3,h4,h5⟩
 |.slice .full sz k cs,v,hl,h=>by simp only [low] at hl;simp only [AA] at h ⊢;obtain ⟨b,o,cap,vs,hv,h1,h2,h3,h4,h5⟩:=h;exact ⟨b,o,cap,vs,hv,AB.cut _ _ hl h1,h2,h3,h4,h5⟩
 |.slice (.tok t) sz k cs,v,hl,h=>by simp only [low,Bool.and_eq_true,decide_eq_true_eq] at hl;simp only [AA] at h ⊢;obtain ⟨b,o,cap,vs,hv,h1,h2,h3,h4,h5⟩:=h;refine ⟨b,o,cap,vs,hv,AB.cut _ _ hl.2 h1,h2,h3,h4,?_⟩;obtain ⟨b',n',cap',hM,hr⟩:=h5;exact ⟨b',n',cap',by simp only [Gh.cut];rw [if_pos hl.1];exact hM,hr⟩
 |.lsl t sz k cs,v,hl,h=>by simp only [low,Bool.and_eq_true,decide_eq_true_eq] at hl;simp only [AA] at h ⊢;obtain ⟨b,cap,vs,hv,h1,h2,h3,h4,h5⟩:=h;refine ⟨b,cap,vs,hv,AB.cut _ _ hl.2 h1,h2,h3,h4,?_⟩;obtain ⟨b',n',cap',hM,hr⟩:=h5;exact ⟨b',n',cap',by simp only [Gh.cut];rw [if_pos hl.1];exact hM,hr⟩
 |.lptr t sz k,v,hl,h=>by simp only [low,decide_eq_true_eq] at hl;simp only [AA] at h ⊢;obtain ⟨b,cap,hv,h5⟩:=h;refine ⟨b,cap,hv,?_⟩;obtain ⟨b',n',cap',hM,hr⟩:=h5;exact ⟨b',n',cap',by simp only [Gh.cut];rw [if_pos hl];exact hM,hr⟩
 |.stk t ver sz k,v,hl,h=>by simp only [low,decide_eq_true_eq] at hl;simp only [AA] at h ⊢;obtain ⟨b,cap,hv,h1,h5⟩:=h;refine ⟨b,cap,hv,h1,?_⟩;obtain ⟨b',n',cap',hM,hr⟩:=h5;exact ⟨b',n',cap',by simp only [Gh.cut];rw [if_pos hl];exact hM,hr⟩
 |.sptr t ver sz k,v,hl,h=>by simp only [low,decide_eq_true_eq] at hl;simp only [AA] at h ⊢;obtain ⟨b,cap,hv,h5⟩:=h;refine ⟨b,cap,hv,?_⟩;obtain ⟨b',n',cap',hM,hr⟩:=h5;exact ⟨b',n',cap',by simp only [Gh.cut];rw [if_pos hl];exact hM,hr⟩
 |.func fn fi ca,v,hl,h=>by simp only [low,Bool.and_eq_true] at hl;simp only [AA] at h ⊢;obtain ⟨fs,cs,hv,h1,h2⟩:=h;exact ⟨fs,cs,hv,AB.cut _ _ hl.1 h1,AB.cut _ _ hl.2 h2⟩
 |.iface t x,v,hl,h=>by simp only [low] at hl;simp only [AA] at h ⊢;obtain ⟨y,hv,h1⟩:=h;exact ⟨y,hv,AA.cut _ _ hl h1⟩
 |.agg cs,v,hl,h=>by simp only [low] at hl;simp only [AA] at h ⊢;obtain ⟨vs,hv,h1⟩:=h;exact ⟨vs,hv,AB.cut _ _ hl h1⟩
 |.tup cs,v,hl,h=>by simp only [low] at hl;simp only [AA] at h ⊢;obtain ⟨vs,hv,h1⟩:=h;exact ⟨vs,hv,AB.cut _ _ hl h1⟩
theorem AB.cut {g:Gh} {n:Nat}:∀(aS:List AV) (vs:List Value),lowL n aS=true→AB g aS vs→AB (g.cut n) aS vs
 |[],_,_,h=>by simpa [AB] using h
 |a::aS,vs,hl,h=>by simp only [lowL,Bool.and_eq_true] at hl;simp only [AB] at h ⊢;obtain ⟨v,ws,hv,h1,h2⟩:=h;exact ⟨v,ws,hv,AA.cut _ _ hl.1 h1,AB.cut _ _ hl.2 h2⟩
end
def At (n:Nat):Option Ent→Bool
 |some (.box cs)=>lowL n cs
 |some (.loose _ cs)=>lowL n cs
 |some (.stk _ cs)=>lowL n cs
 |_=>true
def AU (n:Nat):AH→Bool
 |[]=>true
 |e::r=>At n e&&AU n r
theorem OM {n:Nat}:∀{H:AH} {i:Nat} {cs:List AV},AU n H=true→H.at i=some (.box cs)→lowL n cs=true
 |[],i,cs,_,h=>by simp [AH.at] at h
 |e::r,i,cs,hl,h=>by
  simp only [AU,Bool.and_eq_true] at hl;cases i with
  |zero =>simp only [AH.at,List.getElem?_cons_zero,Option.join_some] at h;subst h;exact hl.1
  |succ i=>exact OM (H:=r) (i:=i) hl.2 (by simpa [AH.at] using h)
theorem ON {n:Nat}:∀{H:AH} {i m:Nat} {cs:List AV},AU n H=true→H.at i=some (.loose m cs)→lowL n cs=true
 |[],i,m,cs,_,h=>by simp [AH.at] at h
 |e::r,i,m,cs,hl,h=>by
  simp only [AU,Bool.and_eq_true] at hl;cases i with
  |zero =>simp only [AH.at,List.getElem?_cons_zero,Option.join_some] at h;subst h;exact hl.1
  |succ i=>exact ON (H:=r) (i:=i) hl.2 (by simpa [AH.at] using h)
theorem OO {n:Nat}:∀{H:AH} {i m:Nat} {cs:List AV},AU n H=true→H.at i=some (.stk m cs)→lowL n cs=true
 |[],i,m,cs,_,h=>by simp [AH.at] at h
 |e::r,i,m,cs,hl,h=>by
  simp only [AU,Bool.and_eq_true] at hl;cases i with
  |zero =>simp only [AH.at,List.getElem?_cons_zero,Option.join_some] at h;subst h;exact hl.1
  |succ i=>exact OO (H:=r) (i:=i) hl.2 (by simpa [AH.at] using h)
theorem Ga {H:AH} {n i:Nat}:AH.at (List.take n H) i=if i<n then H.at i else none:=by
 unfold AH.at;rw [List.getElem?_take]
 split<;>simp_all
def frz (N:Nat) (H:AH):Nat→AV→AV
 |0,a=>a
 |k+1,.bsl id off sz n cap=>if id<N then .bsl id off sz n cap else (match H.at id with
  |some (.box cs)=>if off+n*sz≤cs.length then .slice .unk sz n (((cs.drop off).take (n*sz)).map (frz N H k)) else .bsl id off sz n cap
  |_ => .bsl id off sz n cap)
 |k+1,.ptr id off=>if id<N then .ptr id off else (match H.at id with
  |some (.box cs) => .vptr (cs.map (frz N H k)) off
  |_ => .ptr id off)
 |k+1,.vptr cs off => .vptr (cs.map (frz N H k)) off
 |k+1,.slice ow sz n cs => .slice ow sz n (cs.map (frz N H k))
 |k+1,.func fn a b => .func fn (a.map (frz N H k)) (b.map (frz N H k))
 |k+1,.iface t v => .iface t (frz N H k v)
 |k+1,.agg cs => .agg (cs.map (frz N H k))
 |k+1,.tup vs => .tup (vs.map (frz N H k))
 |_+1,a=>a
def Gh.gone (g:Gh) (N b:Nat):Prop:=∃id,N≤id∧g.M id=some (.box b)
open Classical in
noncomputable def Gh.ice (g:Gh) (w:World) (N:Nat):Gh:={G:=fun b i=>if g.gone N b then w.cell? ⟨b,i,none⟩ else g.G b i,M:=g.M}
theorem Gh.ice_yes {g:Gh} {w:World} {N b:Nat} (h:g.gone N b) (i:Nat):(g.ice w N).G b i=w.cell? ⟨b,i,none⟩:=if_pos h
theorem Gh.ice_no {g:Gh} {w:World} {N b:Nat} (h:¬g.gone N b) (i:Nat):(g.ice w N).G b i=g.G b i:=if_neg h
theorem OP {g:Gh} {H:AH} {w:World} (R:Rel g H w) (N:Nat):g.le (g.ice w N):=by
 refine ⟨fun b i v h => ?_,fun id e h=>⟨e,h,e.le_refl⟩⟩
 by_cases hg:g.gone N b
 ·rw [Gh.ice_yes hg]
  exact R.imm b i v h
 ·rw [Gh.ice_no hg]
  exact h
theorem AB.map {g g':Gh} {φ:AV→AV} (h:∀a v,AA g a v→AA g' (φ a) v):∀(aS:List AV) (vs:List Value),AB g aS vs→AB g' (aS.map φ) vs
 |[],_,k=>by simpa [AB] using k
 |a::aS,vs,k=>by simp only [AB,List.map_cons] at k ⊢;obtain ⟨v,ws,hv,h1,h2⟩:=k;exact ⟨v,ws,hv,h a v h1,AB.map h aS ws h2⟩
theorem Xd {g:Gh} {H:AH} {w:World} (R:Rel g H w) (N:Nat):∀(k:Nat) (a:AV) (v:Value),AA g a v→AA (g.ice w N) (frz N H k a) v:=by
 intro k
 induction k with
 |zero=>intro a v h;exact AA.mono (OP R N) _ _ h
 |succ k ih =>
  intro a v h;have hl:=OP R N;have oY:=AA.mono hl _ _ h
  have box:∀{id b:Nat} {cs:List AV},N≤id→H.at id=some (.box cs)→g.M id=some (.box b) →
    ∃vs,AB (g.ice w N) (cs.map (frz N H k)) vs∧(g.ice w N).has b 0 vs:=by
   intro id b cs hid hH hM;obtain ⟨vs,el,h1,h2,h3⟩:=Hd R hH hM;refine ⟨vs,AB.map ih _ _ h2,fun i v hi => ?_⟩;rw [Gh.ice_yes ⟨id,hid,hM⟩];exact h3 i v hi
  cases a with
  |bsl id off sz n cap =>
   simp only [frz]
   split
   ·exact oY
   ·rename_i hid
    split
    ·rename_i cs hH
     split
     ·rename_i pI
      simp only [AA] at h ⊢;obtain ⟨b,hM,rfl,p6⟩:=h;obtain ⟨vs,h1,h2⟩:=box (by omega) hH hM;have h3:=(h1.drop off).take (n*sz);rw [←List.map_drop,←List.map_take] at h3;refine ⟨b,off,cap,_,rfl,h3,?_,by simp;omega,p6,trivial⟩;have:=Gh.has_take (Gh.has_drop h2 off) (n*sz)
      rwa [Nat.zero_add] at this
     ·exact oY
    ·exact oY
  |ptr id off =>
   simp only [frz]
   split
   ·exact oY
   ·rename_i hid
    split
    ·rename_i cs hH
     simp only [AA] at h ⊢;obtain ⟨b,hM,rfl⟩:=h;obtain ⟨vs,h1,h2⟩:=box (by omega) hH hM;exact ⟨b,0,vs,by rw [Nat.zero_add],h1,h2⟩
    ·exact oY
  |vptr cs off =>simp only [frz,AA] at h ⊢;obtain ⟨b,o,vs,hv,h1,h2⟩:=h;exact ⟨b,o,vs,hv,AB.map ih _ _ h1,Gh.has_mono hl h2⟩
  |slice ow sz n cs =>simp only [frz,AA] at h ⊢;obtain ⟨b,o,cap,vs,hv,h1,h2,h3,h4,h5⟩:=h;exact ⟨b,o,cap,vs,hv,AB.map ih _ _ h1,Gh.has_mono hl h2,by rw [List.length_map];exact h3,h4,h5.mono hl⟩
  |func fn fi ca =>simp only [frz,AA] at h ⊢;obtain ⟨fs,cs,hv,h1,h2⟩:=h;exact ⟨fs,cs,hv,AB.map ih _ _ h1,AB.map ih _ _ h2⟩
  |iface t x =>simp only [frz,AA] at h ⊢;obtain ⟨y,hv,h1⟩:=h;exact ⟨y,hv,ih _ _ h1⟩
  |agg cs =>simp only [frz,AA] at h ⊢;obtain ⟨vs,hv,h1⟩:=h;exact ⟨vs,hv,AB.map ih _ _ h1⟩
  |tup cs =>simp only [frz,AA] at h ⊢;obtain ⟨vs,hv,h1⟩:=h;exact ⟨vs,hv,AB.map ih _ _ h1⟩
  |_=>simpa only [frz] using oY
theorem Rel.gc_endN (N:Nat) {g:Gh} {H H1:AH} {w w1:World} {g1:Gh} {v:AV} {cv:Value} (hN:H.length≤N) (R:Rel g H w) (R1:Rel g1 H1 w1) (p1:AQ g H w g1 H1 w1) (hr:AA g1 v cv) (k:Nat)
  (hv:low N (Fw.strip N (frz N H1 k v))=true) (hH:AU N (H1.take N)=true) :
  ∃g',Rel g' (H1.take N) w1∧AQ g H w g' (H1.take N) w1∧AA g' (Fw.strip N (frz N H1 k v)) cv:=by
 have oO:=OP R1 N;have hM:∀id,id<N→((g1.ice w1 N).cut N).M id=g1.M id:=fun id hi=>by simp only [Gh.cut];rw [if_pos hi];rfl
 have od:∀id,N≤id→((g1.ice w1 N).cut N).M id=none:=fun id hi=>by simp only [Gh.cut];rw [if_neg (by omega)]
 have oX:∀{id e},((g1.ice w1 N).cut N).M id=some e→id<N∧g1.M id=some e:=fun {id e} h=>by
  rcases Nat.lt_or_ge id N with hi|hi
  ·exact ⟨hi,by rw [←hM id hi];exact h⟩
  ·rw [od id hi] at h;cases h
 have pf:∀{id ge},id<N→g1.M id=some ge→¬g1.gone N ge.block:=by rintro id ge hi hg ⟨id',hi',hg'⟩;have:=R1.inj id id' ge (.box ge.block) hg hg' rfl;omega
 refine ⟨(g1.ice w1 N).cut N,⟨?_,?_,?_,?_,?_⟩,⟨⟨?_,?_⟩,?_,?_,?_,p1.size,p1.os,p1.tape,p1.output⟩,AA.cut _ _ hv (AA.strip _ _ _ (Xd R1 _ k _ _ hr))⟩
 ·intro b i v' hb
  by_cases hg:g1.gone N b
  ·have:=Gh.ice_yes (w:=w1) hg i
   exact this.symm.trans hb
  ·have:=Gh.ice_no (w:=w1) hg i
   exact R1.imm b i v' (this.symm.trans hb)
 ·intro id hn
  rw [Ga] at hn
  split at hn
  ·rename_i hi
   rw [hM id hi];exact R1.free id hn
  ·rename_i hi
   exact od id (by omega)
 ·intro id e he oL
  rw [Ga] at he
  split at he
  ·rename_i hi
   obtain ⟨ge,h1,h2⟩:=R1.ent id e he oL;refine ⟨ge,by rw [hM id hi];exact h1,?_⟩;have um:∀i,((g1.ice w1 N).cut N).G ge.block i=g1.G ge.block i:=fun i=>Gh.ice_no (pf hi h1) i
   cases e with
   |hid=>trivial
   |box cs =>
    cases ge with
    |box b =>obtain ⟨vs,el,h3,h4,h5⟩:=h2;exact ⟨vs,el,h3,AB.cut _ _ (OM (i:=id) hH (by rw [Ga,if_pos hi];exact he)) (AB.mono oO _ _ h4),fun i=>(um i).trans (h5 i)⟩
    |tok=>exact h2
   |tok k =>
    cases ge with
    |box=>exact h2
    |tok b n sz cap =>obtain ⟨h3,h4,h5,h6⟩:=h2;exact ⟨h3,h4,h5,fun i hi=>(um i).trans (h6 i hi)⟩
   |stk m' cs =>
    cases ge with
    |box=>exact h2
    |tok b n sz cap =>obtain ⟨h3,h4,⟨vs,el,h7,h8,h9⟩,h6⟩:=h2;exact ⟨h3,h4,⟨vs,el,h7,h8,AB.cut _ _ (OO (i:=id) hH (by rw [Ga,if_pos hi];exact he)) (AB.mono oO _ _ h9)⟩,fun i=>(um i).trans (h6 i)⟩
   |loose m' cs =>
    cases ge with
    |box=>exact h2
    |tok b n sz cap =>obtain ⟨h3,h4,h0,⟨vs,el,h7,h8,h9⟩,h6⟩:=h2;exact ⟨h3,h4,h0,⟨vs,el,h7,h8,AB.cut _ _ (ON (i:=id) hH (by rw [Ga,if_pos hi];exact he)) (AB.mono oO _ _ h9)⟩,fun i hi=>(um i).trans (h6 i hi)⟩
  ·cases he
 ·intro id id' e e' he he' hb
  exact R1.inj id id' e e' (oX he).2 (oX he').2 hb
 ·intro id e he
  exact R1.blk id e (oX he).2
 ·intro b i v' hb
  exact oO.G _ _ _ (p1.le.G _ _ _ hb)
 ·intro id e he
  have hi:id<N:=by
   rcases Nat.lt_or_ge id N with hi|hi
   ·exact hi
   ·rw [R.free id (C7 (Nat.le_trans hN hi))] at he;cases he
  obtain ⟨e',h1,h2⟩:=p1.le.M id e he;exact ⟨e',by rw [hM id hi];exact h1,h2⟩
 ·intro id he
  have hi:=Nat.lt_of_lt_of_le (DQ he) hN;obtain ⟨h1,h2⟩:=p1.hid id he;exact ⟨by rw [hM id hi];exact h1,by rw [Ga,if_pos hi];exact h2⟩
 ·intro id e he
  exact p1.new id e (oX he).2
 ·intro b hb hn
  obtain ⟨h1,h2⟩:=p1.old b hb hn;refine ⟨h1,fun i => ?_⟩
  have hg:¬g1.gone N b:=by
   rintro ⟨id,hi,hM'⟩;rcases p1.new id _ hM' with ⟨e0,h0,_⟩|h0
   ·rw [R.free id (C7 (Nat.le_trans hN hi))] at h0;cases h0
   ·have:w.heap.size≤b:=h0
    omega
  exact (Gh.ice_no hg i).trans (h2 i)
theorem CS.gc {P:Program} {E:Env} {f:FuncId} {args:List AV} {H H1:AH} {v:AV} (k:Nat) (h:CS P E f args H v H1) (hv:low H.length (strip H.length (frz H.length H1 k v))=true)
  (hH:AU H.length (H1.take H.length)=true):CS P E f args H (strip H.length (frz H.length H1 k v)) (H1.take H.length):=by
 intro g w cargs R hG hA;refine Calls.mono (h g w cargs R hG hA) ?_;rintro e w1 ⟨g1,cv,rfl,R1,p1,hr⟩;obtain ⟨g2,h3,h4,h5⟩:=Rel.gc_endN H.length (Nat.le_refl _) R R1 p1 hr k hv hH;exact ⟨g2,_,rfl,h3,h4,h5⟩
def Kv (k:Nat) (H:AH) (r:AV × AH):AV × AH :=if low H.length (strip H.length (frz H.length r.2 k r.1))=true∧AU H.length (r.2.take H.length)=true then (strip H.length (frz H.length r.2 k r.1),r.2.take H.length) else r
def run (fz:FuncId→Nat) (base:Orc) (P:Program) (E:Env) (loops:Nat):Nat→Orc
 |0,f,args,H=>base f args H
 |n+1,f,args,H =>
  (match base f args H with
  |some r=>some r
  |none=>(match Ar (run fz base P E loops n) P E loops f args H with
   |some r=>some (Kv (fz f) H r)
   |none=>none))
def Cb (H H':AH):Prop:=H.length≤H'.length∧∀id,id<H.length→H.at id=none→H'.at id=none
theorem Cb.refl (H:AH):Cb H H:=⟨Nat.le_refl _,fun _ _ h=>h⟩
theorem Cb.trans {H H1 H2:AH} (h:Cb H H1) (k:Cb H1 H2):Cb H H2 :=⟨Nat.le_trans h.1 k.1,fun id hi hn=>k.2 id (Nat.lt_of_lt_of_le hi h.1) (h.2 id hi hn)⟩
theorem Cb.grow (H:AH) (n:Nat):Cb H (Fw.grow H n):=⟨by simp [I8],fun id _ h=>by rw [HA];exact h⟩
section
variable {P:Program} {E:Env} {O:Orc}
theorem OQ (hS:AT P E O) {ops:Array Oper} (N:Nat):∀(ps:List (Oper × Nat)) {tmps tmps':List AV} {H H':AH},A5 O P E ops ps tmps H=some (tmps',H')→(∀p∈ps,N≤p.2) →
  H.length≤H'.length∧∀id,id<N→id<H.length→H.at id=none→H'.at id=none
 |[],_,_,_,_,h,_=>by simp only [A5] at h;injection h with h;simp only [Prod.mk.injEq] at h;obtain ⟨_,rfl⟩:=h;exact ⟨Nat.le_refl _,fun _ _ _ h=>h⟩
 |(o,fid)::ps,tmps,tmps',H,H',h,hN=>by
  simp only [A5] at h
  split at h
  ·cases h
  ·exact OQ hS N ps h fun p hp=>hN p (List.mem_cons_of_mem _ hp)
  ·split at h
   ·rename_i v H1 oS
    obtain ⟨h1,h2⟩:=OE hS oS;obtain ⟨h3,h4⟩:=OQ hS N ps h fun p hp=>hN p (List.mem_cons_of_mem _ hp)
    have:=hN (o,fid) List.mem_cons_self;refine ⟨Nat.le_trans h1 h3,fun id hi hl hn=>h4 id hi (Nat.lt_of_lt_of_le hl h1) (h2 id hl hn (.inl ?_))⟩
    show id≠fid
    have:N≤fid:=this;omega
   ·cases h
theorem Xe (hS:AT P E O) {ops:Array Oper} {tmps tmps':List AV} {H H':AH} (h:Bf O P E ops tmps H=some (tmps',H')):Cb H H':=by obtain ⟨h1,h2⟩:=OQ hS H.length _ h (Lz _ _);refine ⟨Nat.le_trans (Cb.grow H _).1 h1,fun id hi hn=>h2 id hi (by simp [I8];omega) (by rw [HA];exact hn)⟩
theorem R6 (hS:AT P E O) {ops:Array Oper} (N:Nat):∀(L:List BX) {s s':St},Fa O P E ops L s s'→(∀r∈L,N≤r.p.2) →
  s.2.length=s'.2.length∧∀id,id<N→s.2.at id=none→s'.2.at id=none
 |[],s,s',h,_=>by simp only [Fa] at h;subst h;exact ⟨rfl,fun _ _ h=>h⟩
 |r::L,s,s',h,hN=>by
  simp only [Fa] at h;obtain ⟨h1,h2⟩:=h;obtain ⟨h3,h4⟩:=R6 hS N L h2 fun q hq=>hN q (List.mem_cons_of_mem _ hq)
  refine ⟨?_,fun id hi hn=>h4 id hi ?_⟩
  ·rw [←h3];exact (G9 _ _).symm
  ·show (AR s.2 r.u).at id=none
   rw [EC,hn];intro q hq he;rcases Ry hS h1 q hq with ⟨h5,_⟩|⟨e,h5⟩
   ·have:=hN r List.mem_cons_self
    omega
   ·rw [he,hn] at h5;cases h5
theorem Xf (hS:AT P E O) {ops:Array Oper} {tmps tmps':List AV} {H H':AH} (h:EE O P E ops tmps H=some (tmps',H')):Cb H H':=by
 unfold EE at h
 split at h
 ·rename_i t K l he
  split at h
  ·injection h with h;simp only [Prod.mk.injEq] at h;obtain ⟨rfl,rfl⟩:=h
   obtain ⟨h1,h2,_,_⟩:=Ks _ _ _ _ _ _ _ he;obtain ⟨h3,h4⟩:=R6 hS H.length _ h1 (fun r hr=>Lz _ _ r.p (by rw [←h2];exact List.mem_map_of_mem hr));refine ⟨?_,fun id hi hn=>h4 id hi (by show (grow H _).at id=none;rw [HA];exact hn)⟩;have:=(Cb.grow H (Ag E ops.toList)).1;simp only at h3;omega
  ·cases h
 ·cases h
theorem HB (hS:AT P E O) (n:Nat):∀(c:Code) {t t':List AV} {H H':AH} {ex:AEx},AK O P E n c t H=some (ex,t',H')→Cb H H'
 |.skip,_,_,_,_,_,h=>by simp only [AK] at h;injection h with h;simp only [Prod.mk.injEq] at h;obtain ⟨_,_,rfl⟩:=h;exact Cb.refl _
 |.region id ops draw,t,t',H,H',ex,h=>by
  simp only [AK] at h
  split at h
  ·rename_i t1 H1 he
   injection h with h;simp only [Prod.mk.injEq] at h;obtain ⟨_,_,rfl⟩:=h;cases draw with
   |true=>exact Xf hS (by simpa using he)
   |false=>exact Xe hS (by simpa using he)
  ·cases h
 |.seq x y,t,t',H,H',ex,h=>by
  simp only [AK] at h
  split at h
  ·rename_i t1 H1 he
   exact (HB hS n x he).trans (HB hS n y h)
  ·exact HB hS n x h
 |.cond c x y,t,t',H,H',ex,h=>by
  simp only [AK] at h
  split at h
  ·exact HB hS n x h
  ·exact HB hS n y h
  ·cases h
 |.block id c,t,t',H,H',ex,h=>by
  simp only [AK] at h
  split at h
  ·rename_i id' t1 H1 he
   have:=HB hS n c he
   split at h<;>(injection h with h;simp only [Prod.mk.injEq] at h;obtain ⟨_,_,rfl⟩:=h;exact this)
  ·exact HB hS n c h
 |.loop c,t,t',H,H',ex,h=>by
  simp only [AK] at h
  have key:∀(k:Nat) {H:AH} {t:List AV},iter (AK O P E n c) k t H=some (ex,t',H')→Cb H H':=by
   intro k
   induction k with
   |zero=>intro H t h;simp only [iter] at h;cases h
   |succ k ih =>
    intro H t h;simp only [iter] at h
    split at h
    ·rename_i t1 H1 he
     exact (HB hS n c he).trans (ih h)
    ·exact HB hS n c h
  exact key n h
 |.exit id,_,_,_,_,_,h=>by simp only [AK] at h;injection h with h;simp only [Prod.mk.injEq] at h;obtain ⟨_,_,rfl⟩:=h;exact Cb.refl _
 |.ret,_,_,_,_,_,h=>by simp only [AK] at h;injection h with h;simp only [Prod.mk.injEq] at h;obtain ⟨_,_,rfl⟩:=h;exact Cb.refl _
 |.rangeFunc _ _ _ _,_,_,_,_,_,h=>by simp only [AK] at h;cases h
 |.scope _,_,_,_,_,_,h=>by simp only [AK] at h;cases h
 |.label _,_,_,_,_,_,h=>by simp only [AK] at h;cases h
 |.goto _,_,_,_,_,_,h=>by simp only [AK] at h;cases h
 |.refuse _,_,_,_,_,_,h=>by simp only [AK] at h;cases h
theorem Xg (hS:AT P E O) {n:Nat} {f:FuncId} {args:List AV} {H H':AH} {v:AV} (h:Ar O P E n f args H=some (v,H')):Cb H H':=by
 unfold Ar at h
 split at h
 ·split at h
  ·split at h
   ·cases h
   ·rename_i ex t H1 oL he
    split at h
    ·injection h with h;simp only [Prod.mk.injEq] at h;obtain ⟨_,rfl⟩:=h
     exact HB hS n _ he
    ·cases h
   ·cases h
  ·cases h
 ·cases h
theorem Kw {fz:FuncId→Nat} {base:Orc} (hB:AT P E base) (hM:Ch P E) (pD:P.follows .mixedOrders=true) (loops:Nat):∀n,AT P E (run fz base P E loops n)
 |0=>hB
 |n+1=>by
  have ih:=Kw (fz:=fz) hB hM pD loops n;intro f args H v H' h;simp only [run] at h
  split at h
  ·rename_i r hr
   injection h with h;subst h;exact hB _ _ _ _ _ hr
  ·split at h
   ·rename_i r hr
    obtain ⟨v1,H1⟩:=r;have h1:=EX ih hM pD hr;obtain ⟨h2,h3⟩:=Xg ih hr;injection h with h;unfold Kv at h
    split at h
    ·rename_i hc
     simp only [Prod.mk.injEq] at h;obtain ⟨rfl,rfl⟩:=h;refine ⟨h1.gc _ hc.1 hc.2,by simp;omega,fun id hi hn => ?_⟩;rw [Ga,if_pos hi];exact h3 id hi hn
    ·simp only [Prod.mk.injEq] at h
     obtain ⟨rfl,rfl⟩:=h;exact ⟨h1,h2,h3⟩
   ·cases h
end
def OR (aS:List AV) (off k:Nat) (bs:List AV):List AV :=if bs.length=k∧off+k≤aS.length then aS.take off++bs++aS.drop (off+k) else aS
def L9:List AV→List (Nat × Nat × List AV)→List AV
 |aS,[]=>aS
 |aS,(off,k,bs)::r=>L9 (OR aS off k bs) r
def undefs (P:Program) (t:TypeId):List AV :=
 match P.underlying t with
 |some (.struct _)=>List.replicate (P.cellsOf t) .undef
 |some (.array _ _)=>List.replicate (P.cellsOf t) .undef
 |_=>[.undef]
def HC {H:Type} (P:Program):Nat→TypeId→DataW H→List AV
 |0,t,_=>undefs P t
 |fuel+1,t,d =>
  match P.underlying t,d with
  |some .bool,.lit (.bool b)=>[.bool b]
  |some (.int k),.lit (.int _ n)=>[.int k n]
  |some .string,.lit (.string s)=>[.str s]
  |some (.pointer _),.nil=>[.nilPtr]
  |some (.pointer e),.ptr d=>if P.cellsOf e=0 then [.undef] else [.vptr (HC P fuel e d) 0]
  |some (.slice _),.nil=>[.nilSlice]
  |some (.slice e),.slice ds _=>if P.cellsOf e=0∨ds.length=0 then [.undef] else [.slice .unk (P.cellsOf e) ds.length (ds.flatMap (HC P fuel e))]
  |some (.struct fs),.agg ds=>L9 (List.replicate (P.cellsOf t) .undef) ((fs.toList.zip ds).map fun x=>(x.1.offset,P.cellsOf x.1.type,HC P fuel x.1.type x.2))
  |some (.array n e),.agg ds=>L9 (List.replicate (P.cellsOf t) .undef) (((List.range n).zip ds).map fun x=>(x.1*P.cellsOf e,P.cellsOf e,HC P fuel e x.2))
  |some (.struct _),_=>List.replicate (P.cellsOf t) .undef
  |some (.array _ _),_=>List.replicate (P.cellsOf t) .undef
  |_,_=>[.undef]
def EF (w:World):Gh:={G:=fun b i=>w.cell? ⟨b,i,none⟩,M:=fun _=>none}
theorem AB.undefs {g:Gh}:∀(vs:List Value),AB g (List.replicate vs.length .undef) vs
 |[]=>by simp [AB]
 |v::vs=>by simp only [List.length_cons,List.replicate_succ,AB];exact ⟨v,vs,rfl,by simp [AA],AB.undefs vs⟩
theorem AB.undef1 {g:Gh} (v:Value):AB g [.undef] [v]:=by simp [AB,AA]
theorem Xh {g:Gh} {aS bs:List AV} {cs:List Value} {off k:Nat} (h:AB g aS cs) (hb:AB g bs ((cs.drop off).take k)):AB g (OR aS off k bs) cs:=by
 unfold OR
 split
 ·rename_i hk
  have hl:=hb.length
  have e:cs=cs.take off++(cs.drop off).take k++cs.drop (off+k):=by rw [List.append_assoc,←List.drop_drop,List.take_append_drop,List.take_append_drop]
  rw [e];exact ((h.take off).append hb).append (h.drop (off+k))
 ·exact h
theorem OS {g:Gh} {cs:List Value}:∀(l:List (Nat × Nat × List AV)) {aS:List AV},AB g aS cs→(∀x∈l,AB g x.2.2 ((cs.drop x.1).take x.2.1))→AB g (L9 aS l) cs
 |[],_,h,_=>h
 |(off,k,bs)::r,_,h,hx=>OS r (Xh h (hx (off,k,bs) List.mem_cons_self)) fun x hm=>hx x (List.mem_cons_of_mem _ hm)
theorem OT {α β γ:Type} {f:α→Option (β × γ)}:∀(l:List α) {xs:List (β × γ)},l.mapM f=some xs→∀p∈l.zip (xs.map (·.1)),∃y,f p.1=some (p.2,y)
 |[],xs,h,p,hp=>by simp at hp
 |a::l,xs,h,p,hp=>by
  simp only [List.mapM_cons,Option.bind_eq_bind,Option.bind_eq_some_iff,Option.pure_def,Option.some.injEq] at h;obtain ⟨x,hx,ys,hy,rfl⟩:=h;simp only [List.map_cons,List.zip_cons_cons,List.mem_cons] at hp;rcases hp with rfl|hp
  ·exact ⟨x.2,hx⟩
  ·exact OT l hy p hp
theorem R7 {w:World} {a:Addr} {v:Value} (h:w.cell? a=some v):a.spot=none:=by
 unfold World.cell? at h
 split at h
 ·split at h
  ·cases h
  ·simpa using ‹¬a.spot.isSome=true›
 ·cases h
theorem R8 {a:Addr} (ha:a.spot=none) (i:Nat):a.add i=⟨a.block,a.off+i,none⟩:=by
 unfold Addr.add
 split
 ·subst_vars;cases a;simp at ha;subst ha;rfl
 ·rfl
theorem R9 {w:World} {base:Nat} {a:Addr} {n:Nat} {vs:List Value} (h:w.cells? base a (n+1)=some vs):a.spot=none:=by
 unfold World.cells? at h
 split at h
 ·rw [List.range_eq_range',List.range'_succ] at h
  simp only [List.mapM_cons,Option.bind_eq_bind,Option.bind_eq_some_iff] at h;obtain ⟨x,hx,_⟩:=h;have:a.add 0=a:=rfl;rw [this] at hx;exact R7 hx
 ·cases h
theorem SA {w:World} {base:Nat} {a:Addr} {n:Nat} {vs:List Value} (ha:a.spot=none) (h:w.cells? base a n=some vs):vs.length=n∧(EF w).has a.block a.off vs:=by
 unfold World.cells? at h
 split at h
 ·have key:∀(m s:Nat) (us:List Value),(List.range' s m).mapM (fun i=>w.cell? (a.add i))=some us→us.length=m∧(EF w).has a.block (a.off+s) us:=by
   intro m
   induction m with
   |zero=>intro s us h;simp at h;subst h;exact ⟨rfl,fun i v h=>by simp at h⟩
   |succ m ih =>
    intro s us h;simp only [List.range'_succ,List.mapM_cons,Option.bind_eq_bind,Option.bind_eq_some_iff,Option.pure_def,Option.some.injEq] at h;obtain ⟨x,hx,ys,hy,rfl⟩:=h;obtain ⟨h1,h2⟩:=ih _ _ hy;refine ⟨by simp [h1],fun i v hi => ?_⟩;cases i with
    |zero =>
     simp only [List.getElem?_cons_zero,Option.some.injEq] at hi;subst hi
     show w.cell? _=_
     rw [←hx,R8 ha];rfl
    |succ i =>simp only [List.getElem?_cons_succ] at hi;have:=h2 i v hi;rw [show a.off+s+(i+1)=a.off+(s+1)+i by omega];exact this
  rw [List.range_eq_range'] at h;simpa using key n 0 vs h
 ·cases h
theorem SB {α β:Type} {f:α→Option β}:∀(l:List α) {xs:List β},l.mapM f=some xs→xs.length=l.length
 |[],xs,h=>by simp at h;subst h;rfl
 |a::l,xs,h=>by simp only [List.mapM_cons,Option.bind_eq_bind,Option.bind_eq_some_iff,Option.pure_def,Option.some.injEq] at h;obtain ⟨x,_,ys,hy,rfl⟩:=h;simp [SB l hy]
theorem SC {g:Gh} {b o c:Nat} (f:Nat→List AV):∀(m s:Nat),(∀i,i<m→∃vs,AB g (f i) vs∧vs.length=c∧g.has b (o+(s+i)*c) vs) →
  ∃vs,AB g ((List.range m).flatMap f) vs∧vs.length=m*c∧g.has b (o+s*c) vs
 |0,s,_=>⟨[],by simp [AB],by simp,fun i v h=>by simp at h⟩
 |m+1,s,h=>by
  obtain ⟨vs,h1,h2,h3⟩:=SC f m s fun i hi=>h i (by omega)
  obtain ⟨us,k1,k2,k3⟩:=h m (by omega);refine ⟨vs++us,?_,by simp [h2,k2,Nat.add_mul],?_⟩
  ·rw [List.range_succ,List.flatMap_append]
   simpa using h1.append k1
  ·refine Gh.has_append h3 ?_
   rw [h2,show o+s*c+m*c=o+(s+m)*c by rw [Nat.add_mul];omega];exact k3
theorem SD {α:Type} (f:α→List AV) (l:List α) (d:α):l.flatMap f=(List.range l.length).flatMap fun i=>f (l.getD i d):=by
 have e:l=(List.range l.length).map fun i=>l.getD i d:=by
  apply List.ext_getElem
  ·simp
  ·intro i h1 h2
   simp [List.getD_eq_getElem?_getD,h1]
 conv=>lhs;rw [e]
 rw [List.flatMap_map]
theorem OU {α β γ:Type} {f:α→Option (β × γ)}:∀(l:List α) {xs:List (β × γ)},l.mapM f=some xs→∀(i:Nat) (a:α),l[i]? = some a→∃x,xs[i]? = some x∧f a=some x
 |[],xs,h,i,a,hi=>by simp at hi
 |b::l,xs,h,i,a,hi=>by
  simp only [List.mapM_cons,Option.bind_eq_bind,Option.bind_eq_some_iff,Option.pure_def,Option.some.injEq] at h;obtain ⟨x,hx,ys,hy,rfl⟩:=h;cases i with
  |zero=>simp at hi;subst hi;exact ⟨x,rfl,hx⟩
  |succ i=>simp only [List.getElem?_cons_succ] at hi ⊢;exact OU l hy i a hi
theorem Xi {H:Type} {enc:TypeId × Value→H} {P:Program} {w:World} {base:Nat} {spare:Nat→Bool} {held:Bool} {g:Gh} {fuel:Nat} {t:TypeId} {cs:List Value} {x:DataW H × List MemPlace}
  (h:DataW.trod enc P w base spare held fuel t cs=some x):AB g (undefs P t) cs:=by
 cases fuel with
 |zero=>simp [DataW.trod] at h
 |succ fuel =>
  unfold DataW.trod at h;unfold undefs
  split at h
  case h_9 fs hu =>
   split at h
   ·rename_i hc
    simp only [hu];rw [←hc];exact AB.undefs _
   ·cases h
  case h_10 n e hu =>
   split at h
   ·rename_i hc
    simp only [hu];rw [←hc];exact AB.undefs _
   ·cases h
  all_goals try (simp only [reduceCtorEq] at h;done)
  all_goals (rename_i hu;simp only [hu];exact AB.undef1 _)
theorem Xj {H:Type} {enc:TypeId × Value→H} {P:Program} {w:World} {base:Nat} {spare:Nat→Bool} {held:Bool}:∀(F fuel:Nat) {t:TypeId} {cs:List Value} {x:DataW H × List MemPlace},
  DataW.trod enc P w base spare held fuel t cs=some x→AB (EF w) (HC P F t x.1) cs:=by
 intro F
 induction F with
 |zero=>intro fuel t cs x h;exact Xi h
 |succ F ih =>
  intro fuel t cs x h;cases fuel with
  |zero=>simp [DataW.trod] at h
  |succ fuel =>
  unfold DataW.trod at h;unfold HC
  split at h
  case h_2 hu =>
   split at h
   ·rename_i hk
    obtain ⟨rfl,_⟩:=hk;simp only [Option.some.injEq] at h;subst h;simp [hu,AB,AA]
   ·cases h
  case h_3 hu =>
   split at h
   ·simp only [Option.some.injEq] at h;subst h
    simp [hu,AB,AA]
   ·cases h
  case h_4 hu =>
   split at h
   ·simp only [Option.some.injEq] at h;subst h
    simp [hu,AB,AA]
   ·cases h
  case h_6 e a hu =>
   simp only [Option.map_eq_some_iff,Option.bind_eq_some_iff] at h;obtain ⟨y,⟨vs,sS,hy⟩,rfl⟩:=h;simp only [hu]
   split
   ·exact AB.undef1 _
   ·rename_i hc
    obtain ⟨m,hm⟩:=Nat.exists_eq_succ_of_ne_zero hc;have hs:=R9 (n:=m) (by rw [←Nat.succ_eq_add_one,←hm];exact sS);obtain ⟨h1,h2⟩:=SA hs sS;refine ⟨_,[],rfl,⟨a.block,a.off,vs,?_,ih _ hy,h2⟩,rfl⟩;cases a;simp at hs;subst hs;rfl
  case h_8 e a len cap hu =>
   simp only at h
   split at h
   ·rename_i hc
    simp only [Option.bind_eq_some_iff,Option.map_eq_some_iff] at h;obtain ⟨elems,he,rest,hr,rfl⟩:=h;simp only [hu]
    split
    ·exact AB.undef1 _
    ·rename_i hz
     have oT:elems.length=len:=by rw [SB _ he,List.length_range]
     simp only [List.length_map] at hz ⊢;have pM:P.cellsOf e≠0:=fun h=>hz (.inl h)
     have o5:elems.length≠0:=fun h=>hz (.inr h)
     obtain ⟨m,hm⟩:=Nat.exists_eq_succ_of_ne_zero pM
     have ru:a.spot=none:=by obtain ⟨x0,_,xF⟩:=OU _ he 0 0 (by rw [List.getElem?_range (by omega)]);simp only [Option.bind_eq_some_iff,Nat.zero_mul] at xF;obtain ⟨vs,sS,_⟩:=xF;exact R9 (n:=m) (by rw [←Nat.succ_eq_add_one,←hm];exact sS)
     have hf:∀i,i<elems.length→∃vs,AB (EF w) (HC P F e ((elems.map (·.1)).getD i .nil)) vs∧vs.length=P.cellsOf e∧(EF w).has a.block (a.off+(0+i)*P.cellsOf e) vs:=by
      intro i hi;obtain ⟨x,hx,un⟩:=OU _ he i i (by rw [List.getElem?_range (by omega)]);simp only [Option.bind_eq_some_iff] at un;obtain ⟨vs,sS,un⟩:=un;rw [R8 ru] at sS;obtain ⟨h1,h2⟩:=SA rfl sS;refine ⟨vs,?_,h1,by simpa using h2⟩
      have:(elems.map (·.1)).getD i .nil=x.1:=by rw [List.getD_eq_getElem?_getD,List.getElem?_map,hx];rfl
      rw [this];exact ih _ un
     obtain ⟨vs,k1,k2,k3⟩:=SC _ elems.length 0 hf;refine ⟨_,[],rfl,⟨a.block,a.off,cap,vs,?_,?_,?_,?_,?_,trivial⟩,rfl⟩
     ·rw [oT];cases a;simp at ru;subst ru;rfl
     ·rw [SD _ _ .nil,List.length_map];exact k1
     ·simpa using k3
     ·rw [SD _ _ .nil,List.length_map,←k1.length,k2]
     ·omega
   ·cases h
  case h_9 fs hu =>
   split at h
   ·rename_i hc
    simp only [Option.map_eq_some_iff] at h;obtain ⟨xs,hx,rfl⟩:=h;simp only [hu];refine OS _ (by rw [←hc];exact AB.undefs _) fun y hy => ?_
    simp only [List.mem_map] at hy;obtain ⟨p,hp,rfl⟩:=hy;obtain ⟨q,hq⟩:=OT _ hx p hp;exact ih _ hq
   ·cases h
  case h_10 n e hu =>
   split at h
   ·rename_i hc
    simp only [Option.map_eq_some_iff] at h;obtain ⟨xs,hx,rfl⟩:=h;simp only [hu];refine OS _ (by rw [←hc];exact AB.undefs _) fun y hy => ?_
    simp only [List.mem_map] at hy;obtain ⟨p,hp,rfl⟩:=hy;obtain ⟨q,hq⟩:=OT _ hx p hp;exact ih _ hq
   ·cases h
  all_goals try (simp only [Option.some.injEq,reduceCtorEq] at h;done)
  all_goals try (simp only [Option.some.injEq] at h;subst h;rename_i hu;simp only [hu];simp [AB,AA];done)
  all_goals (rename_i hu;simp only [hu];first|exact AB.undef1 _|(split<;>first|exact AB.undef1 _|simp_all))
def HD (tab:List (Nat × AV)) (i:Nat):AV :=
 match tab.find? (fun x=>x.1==i) with
 |some x=>x.2
 |none => .undef
theorem Xk {E:Env} {g:Gh} {tab:List (Nat × AV)} (hE:E.glob=HD tab) (h:∀x∈tab,AA g x.2 (.pointer (some ⟨x.1,0,none⟩))):Al E g:=by
 intro i;rw [hE];unfold HD
 split
 ·rename_i x hx
  have h1:=List.mem_of_find?_eq_some hx;have h2:=List.find?_some hx;simp only [beq_iff_eq] at h2;rw [←h2];exact h x h1
 ·simp [AA]
theorem OV {P:Program} {w:World}:∀{l:List (String × DataW Unit)} {ps:List MemPlace},DataW.LaidVars P w l ps→∀{n:String} {d:DataW Unit},(n,d)∈l→∀{g:Nat} {t:TypeId} (F:Nat),
  P.globalNamed n=some g→(P.globals[g]?).map (·.type)=some t→AA (EF w) (.vptr (HC P F t d) 0) (.pointer (some ⟨g,0,none⟩))
 |[],_,_,_,_,hm,_,_,_,_,_=>by cases hm
 |(n',d')::r,ps,h,n,d,hm,g,t,F,hg,ht=>by
  obtain ⟨g',t',cs,fuel,p,q,h1,h2,h3,h4,h5,_⟩:=h;rcases List.mem_cons.1 hm with e|hm
  ·injection e with e1 e2
   subst e1 e2;obtain rfl:=Option.some.inj (h1.symm.trans hg);obtain rfl:=Option.some.inj (h2.symm.trans ht);have:=Xj F fuel h4;simp only [AA];refine ⟨g',0,cs.toList,rfl,this,fun i v hi => ?_⟩
   show w.cell? _=_
   rw [World.var?_cell hg h3 (0+i),Nat.zero_add];simpa using hi
  ·exact OV h5 hm F hg ht
theorem Rel.all (w:World):Rel (EF w) [] w :=⟨fun _ _ _ h=>h,fun _ _=>rfl,fun id e h=>by simp [AH.at] at h,fun _ _ _ _ h=>(by cases h),fun _ _ h=>(by cases h)⟩
theorem AQ.below {g g':Gh} {H':AH} {w w':World} (h:AQ g [] w g' H' w'):Below w.heap.size w w' :=⟨h.os,h.tape,h.output,h.size,fun b hb=>(h.old b hb fun id e ge he=>by simp [AH.at] at he).1⟩
theorem CS.lift {P:Program} {E:Env} {f:FuncId} {args:List AV} {v:AV} {H':AH} (h:CS P E f args [] v H') {W:World} (hG:Al E (EF W)) {cargs:List Value} (hA:AB (EF W) args cargs) :
  Calls P f (List.toArray cargs) W fun e W'=>∃g' cv,e = .returned cv∧AA g' v cv∧Below W.heap.size W W' :=
 (h (EF W) W cargs (Rel.all W) hG hA).mono fun e W'=>by rintro ⟨g',cv,he,_,p,hr⟩;exact ⟨g',cv,he,hr,p.below⟩
theorem CS.lift_bool {P:Program} {E:Env} {f:FuncId} {args:List AV} {b:Bool} {H':AH} (h:CS P E f args [] (.bool b) H') {W:World} (hG:Al E (EF W)) {cargs:List Value} (hA:AB (EF W) args cargs) :
  Calls P f (List.toArray cargs) W fun e W'=>e = .returned (.bool b)∧Below W.heap.size W W' :=
 (h.lift hG hA).mono fun e W'=>by rintro ⟨g',cv,he,hr,p⟩;simp only [AA] at hr;subst hr;exact ⟨he,p⟩
def Gh.bare (g:Gh):Gh:={G:=g.G,M:=fun _=>none}
theorem SE (g:Gh):g.bare=g.cut 0:=by
 unfold Gh.bare Gh.cut
 congr
theorem CS.frame {P:Program} {E:Env} {f:FuncId} {args:List AV} {v:AV} (h:CS P E f args [] v []) (hE:∀i,low 0 (E.glob i)=true) (ha:lowL 0 args=true) (H:AH):CS P E f args H v H:=by
 intro g w cargs R hG hA;have R0:Rel g.bare [] w:=⟨R.imm,fun _ _=>rfl,fun id e he=>by simp [AH.at] at he,fun _ _ _ _ h=>(by cases h),fun _ _ h=>(by cases h)⟩
 have uA:Al E g.bare:=fun i=>by rw [SE];exact AA.cut _ _ (hE i) (hG i)
 have rx:AB g.bare args cargs:=by rw [SE];exact AB.cut _ _ ha hA
 refine (h g.bare w cargs R0 uA rx).mono ?_;rintro e w1 ⟨g1,cv,rfl,R1,p1,hr⟩;have oY:∀b,b<w.heap.size→w1.heap[b]? = w.heap[b]? ∧ ∀i,g1.G b i=g.G b i:=fun b hb=>p1.old b hb fun id e ge he=>by simp [AH.at] at he
 have pK:∀id,g1.M id=none:=fun id=>R1.free id (by simp [AH.at])
 let g':Gh:={G:=g1.G,M:=g.M}
 have x9:g1.le g':=⟨fun _ _ _ h=>h,fun id e h=>by rw [pK id] at h;cases h⟩
 have oO:g.le g':=⟨fun b i v h=>p1.le.G b i v h,fun id e h=>⟨e,h,e.le_refl⟩⟩
 refine ⟨g',cv,rfl,⟨R1.imm,R.free,?_,R.inj,fun id e he=>Nat.lt_of_lt_of_le (R.blk id e he) p1.size⟩,⟨oO,fun id hid=>⟨rfl,hid⟩,fun id e he => .inl ⟨e,he,rfl⟩,fun b hb _=>oY b hb,p1.size,p1.os,p1.tape,p1.output⟩,AA.mono x9 _ _ hr⟩;intro id e he oL;obtain ⟨ge,h1,h2⟩:=R.ent id e he oL;have hb:=oY _ (R.blk id ge h1);exact ⟨ge,h1,h2.keep oO hb.1 hb.2⟩
theorem AT.pure {P:Program} {E:Env} {O:Orc} (h:∀f args H v H',O f args H=some (v,H')→H'=H∧CS P E f args H v H):AT P E O:=by intro f args H v H' ho;obtain ⟨rfl,hc⟩:=h f args H v H' ho;exact ⟨hc,Nat.le_refl _,fun _ _ h=>h⟩
def orElse (a b:Orc):Orc:=fun f args H=>match a f args H with
 |some r=>some r
 |none=>b f args H
theorem AT.orElse {P:Program} {E:Env} {a b:Orc} (ha:AT P E a) (hb:AT P E b):AT P E (orElse a b):=by
 intro f args H v H' h;unfold Fw.orElse at h
 split at h
 ·rename_i r hr
  injection h with h;subst h;exact ha f args H v H' hr
 ·exact hb f args H v H' h
def callS (f0:FuncId) (F:List UInt8→Option AV):Orc:=fun f args H=>if f=f0 then (match args with
 |[.str s]=>(match F s with
  |some v=>some (v,H)
  |none=>none)
 |_=>none) else none
theorem AT.callS {P:Program} {E:Env} {f0:FuncId} {F:List UInt8→Option AV} (hE:∀i,low 0 (E.glob i)=true) (h:∀s v,F s=some v→CS P E f0 [.str s] [] v []):AT P E (callS f0 F):=by
 refine AT.pure fun f args H v' H' ho => ?_
 unfold Fw.callS at ho
 split at ho
 ·rename_i hf
  split at ho
  ·rename_i s
   split at ho
   ·rename_i v hv
    injection ho with ho;simp only [Prod.mk.injEq] at ho;obtain ⟨rfl,rfl⟩:=ho;subst hf;exact ⟨rfl,(h s v hv).frame hE rfl H⟩
   ·cases ho
  ·cases ho
 ·cases ho
theorem CS.of_calls {P:Program} {E:Env} {f:FuncId} {args:List AV} {v:AV} {H:AH} (h:∀g w cargs,AB g args cargs→Calls P f (List.toArray cargs) w fun e w'=>∃cv,e = .returned cv∧(∀g,AA g v cv)∧w'=w):CS P E f args H v H:=by intro g w cargs R hG hA;refine (h g w cargs hA).mono ?_;rintro e w' ⟨cv,rfl,hr,rfl⟩;exact ⟨g,cv,rfl,R,AQ.refl g H _,hr g⟩
theorem OW {tab:List (Nat × AV)} (h:∀x∈tab,low 0 x.2=true):∀i,low 0 (HD tab i)=true:=by
 intro i;unfold HD
 split
 ·rename_i x hx
  exact h x (List.mem_of_find?_eq_some hx)
 ·rfl
theorem Xl {P:Program} {n nm:String} {text:List UInt8} {r:List (String × DataW Unit)} {W:World} {g:Nat} {ti tp te ts:TypeId} {ms:Array (String × TypeId)} {f:Field}
  (h:laidMet P ((n,.iface nm (.ptr (.agg [.lit (.string text)])))::r) W)
  (hg:P.globalNamed n=some g) (ht:(P.globals[g]?).map (·.type)=some ti) (hi:P.underlying ti=some (.interface ms)) (pB:∀u,P.typeName? 3 u=some nm→u=tp)
  (hp:P.underlying tp=some (.pointer te)) (he:P.underlying te=some (.struct #[f])) (sT:f.type=ts) (vI:f.offset=0) (hs:P.underlying ts=some .string) (hc:P.cellsOf te=1) (qj:P.cellsOf ts=1) :
  AA (EF W) (.vptr [.iface tp (.vptr [.str text] 0)] 0) (.pointer (some ⟨g,0,none⟩)):=by
 obtain ⟨a,s,h1,h2,h3,_⟩:=laid_sentinel h hg ht hi pB hp he sT vI hs hc qj;have ru:=R7 h2;simp only [AA];refine ⟨g,0,[.iface tp (.pointer (some a))],rfl,?_,fun i v hv => ?_⟩
 ·simp only [AB,AA]
  refine ⟨_,_,rfl,⟨_,rfl,a.block,a.off,[.string s],?_,⟨_,_,rfl,?_,rfl⟩,fun i v hv => ?_⟩,rfl⟩
  ·cases a;simp at ru;subst ru;rfl
  ·subst h3;obtain ⟨⟨l⟩⟩:=s;rfl
  ·cases i with
   |zero =>
    simp at hv;subst hv
    show W.cell? _=_
    rw [←h2];cases a;simp at ru;subst ru;rfl
   |succ i=>simp at hv
 ·cases i with
  |zero =>
   simp at hv;subst hv
   show W.cell? _=_
   rw [World.var?_cell hg h1 (0+0)];rfl
  |succ i=>simp at hv
end Go.Proofs.Fw
