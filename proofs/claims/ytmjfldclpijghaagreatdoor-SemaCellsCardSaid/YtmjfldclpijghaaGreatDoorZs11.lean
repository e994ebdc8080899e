/- StmtSteps: what the law's text returns. .. SemaCells returns true. -/
import Derived.Test.YtmjfldclpijghaaGreatDoorZs10
set_option linter.unusedSimpArgs false
set_option linter.unusedVariables false
namespace Go.Proofs.YtmjfldclpijghaaGreatDoor
open Go.RowKit Go.Proofs.Fw
set_option maxRecDepth 100000
set_option maxHeartbeats 4000000
theorem zG {s:List UInt8} (h:∀c∈s,c≠10):Bw s=s:=by
 unfold Bw;rw [if_neg];intro hn;unfold DA at hn;simp only [Bool.and_eq_true,decide_eq_true_eq,beq_iff_eq] at hn;have:(10:UInt8)∈s.drop (s.length-1):=by rw [hn.2];simp
 exact h 10 (List.mem_of_mem_drop this) rfl
theorem zd {s:List UInt8} (h:∀c∈s,c≠10∧c≠33):CC s=s:=by
 have h1:=zG fun c hc=>(h c hc).1
 have h2:Cd s=s.length:=by
  have:=ye (p:=G1) (s:=s) (fun b hb=>by
   have:=(h b hb).2;simp only [G1,Bool.not_eq_true',beq_eq_false_iff_ne];intro h3
   exact this (UInt8.toNat_inj.1 (by rw [h3];rfl))) (r:=[]) (fun c l h=>by cases h)
  rw [List.append_nil] at this;exact this
 unfold CC;rw [h1,h2,List.take_length]
theorem zH (n:Nat):∀c∈dd n,c≠10∧c≠33:=fun c hc=>by
 have:=(yY n).2.1 c hc;simp only [A2,Bool.and_eq_true,decide_eq_true_eq] at this
 constructor
 ·rintro rfl;revert this;decide
 ·rintro rfl;revert this;decide
theorem zf (n p:Nat) (b:Bool):lex n [] p b = .ok []:=by cases n<;>rfl
abbrev Ky:=Nat × List UInt8 × Nat
def vT (i:Nat):List UInt8:=118::dd i
def dT (r:List UInt8):List Nat→List UInt8
 |[]=>41::r
 |v::l=>44::32::(dd v++dT r l)
def itT (i:Nat) (d:List Nat) (r:List UInt8):List UInt8:=118::(dd i++(match d with
 |[]=>r
 |v::l=>40::(dd v++dT r l)))
def yU:List UInt8:=[105,110,116,101,103,101,114,32]
def dK (K:List Ky):List Nat→List Ky
 |[]=>(3,[41],0)::K
 |v::l=>(3,[44],0)::(2,dd v,v)::dK K l
def itK (i:Nat) (d:List Nat) (K:List Ky):List Ky:=(1,vT i,0)::(match d with
 |[]=>K
 |v::l=>(3,[40],0)::(2,dd v,v)::dK K l)
structure LxT (r:List UInt8) (K:List Ky):Prop where
 lx:∀n p b,r.length<n→∃ts,lex n r p b = .ok ts∧ts.map yS=K
 hd:∀c l,r=c::l→Bi c=false
theorem zg {c:UInt8} (h:Bi c=false):A2 c=false:=by unfold Bi at h;simp only [Bool.or_eq_false_iff] at h;exact h.1.2
theorem yp {c:UInt8} (hc:c=40∨c=41∨c=44) (n:Nat) (r:List UInt8) (p:Nat) (b:Bool):lex (n+1) (c::r) p b=Dg [⟨3,[c],p,0⟩] (lex n r (p+1) false):=by
 have h1:A9 (c::r)=((3,[c],0),0):=by rcases hc with rfl|rfl|rfl<;>simp [A9,Bz,A2,CZ]
 have hb:Dt c=false:=by rcases hc with rfl|rfl|rfl<;>decide
 have hs:Bz c=false:=by rcases hc with rfl|rfl|rfl<;>decide
 have he:C6 b c r=0:=by simp [C6,h1,hs]
 rw [GD _ _ _ _ _ hb,he,if_neg (by simp),h1];simp only [List.length_cons,List.length_nil,Nat.zero_add,List.drop_succ_cons,List.drop_zero];rfl
theorem LxT.sign {r:List UInt8} {K:List Ky} (h:LxT r K) {c:UInt8} (hc:c=40∨c=41∨c=44):LxT (c::r) ((3,[c],0)::K):=by
 refine ⟨fun n p b hn => ?_,fun x l hx => ?_⟩
 ·simp only [List.length_cons] at hn
  obtain ⟨n,rfl⟩:∃k,n=k+1:=⟨n-1,by omega⟩
  obtain ⟨ts,h1,h2⟩:=h.lx n (p+1) false (by omega);exact ⟨⟨3,[c],p,0⟩::ts,by rw [yp hc,h1];rfl,by rw [List.map_cons,h2];rfl⟩
 ·injection hx with hx
  subst hx;rcases hc with rfl|rfl|rfl<;>decide
theorem LxT.nil:LxT [] []:=⟨fun n p b _=>⟨[],zf n p b,rfl⟩,fun _ _ h=>by cases h⟩
theorem LxT.num {r:List UInt8} {K:List Ky} (h:LxT r K) {v:Nat} (hv:v<9223372036854775808) (n p:Nat) (hn:(dd v++r).length<n):∃ts,lex n (dd v++r) p false = .ok ts∧ts.map yS=(2,dd v,v)::K:=by
 rw [List.length_append] at hn;have oU:0<(dd v).length:=List.length_pos_iff.2 (yY v).1;obtain ⟨n,rfl⟩:∃k,n=k+1:=⟨n-1,by omega⟩
 obtain ⟨ts,h1,h2⟩:=h.lx n (p+(dd v).length) true (by omega);exact ⟨⟨2,dd v,p,v⟩::ts,by rw [zZ hv (fun c l hc=>zg (h.hd c l hc)),h1];rfl,by rw [List.map_cons,h2];rfl⟩
theorem LxT.comma {r:List UInt8} {K:List Ky} (h:∀n p,r.length<n→∃ts,lex n r p false = .ok ts∧ts.map yS=K):LxT (44::32::r) ((3,[44],0)::K):=by
 refine ⟨fun n p b hn => ?_,fun x l hx => ?_⟩
 ·simp only [List.length_cons] at hn
  obtain ⟨n,rfl⟩:∃k,n=k+2:=⟨n-2,by omega⟩
  obtain ⟨ts,h1,h2⟩:=h n (p+1+1) (by omega);exact ⟨⟨3,[44],p,0⟩::ts,by rw [yp (.inr (.inr rfl)),y9 (by decide),h1];rfl,by rw [List.map_cons,h2];rfl⟩
 ·injection hx with hx
  subst hx
  decide
theorem zI {r:List UInt8} {K:List Ky} (h:LxT r K):∀(l:List Nat),(∀v∈l,v<9223372036854775808)→LxT (dT r l) (dK K l)
 |[],_=>h.sign (.inr (.inl rfl))
 |v::l,hl=>LxT.comma fun n p hn=>(zI h l fun x hx=>hl x (List.mem_cons_of_mem _ hx)).num (hl v List.mem_cons_self) n p hn
theorem zh (i:Nat) (hi:i<20) {r:List UInt8} (hr:∀c l,r=c::l→Bi c=false):A9 (118::(dd i++r))=((1,vT i,0),0)∧C6 false 118 (dd i++r)=0:=by
 have hin:∀b∈(118:UInt8)::dd i,Bi b=true:=fun b hb=>by
  rcases List.mem_cons.1 hb with rfl|hb
  ·decide
  ·have:=(yY i).2.1 b hb
   simp [Bi,this]
 have hf:Ak Bi (118::(dd i++r))=(118::dd i).length:=ye (s:=118::dd i) hin hr
 have ht:(118::(dd i++r)).take (118::dd i).length=118::dd i:=by rw [show (118:UInt8)::(dd i++r)=(118::dd i)++r from rfl,List.take_left'];rfl
 have hk:C5 (118::dd i)=false:=by unfold C5 GB;simp
 have hs:Bz 118=true:=by decide
 have hl:=ya i
 have h1:A9 (118::(dd i++r))=((1,vT i,0),0):=by simp only [A9,hs,if_true,hf,ht,hk,Bool.false_eq_true,if_false];rw [if_neg (by simp only [List.length_cons];omega)];rfl
 exact ⟨h1,by simp [C6,h1]⟩
theorem zJ {r:List UInt8} {K:List Ky} (h:LxT r K) (i:Nat) (hi:i<20) (n p:Nat) (hn:(118::(dd i++r)).length<n):∃ts,lex n (118::(dd i++r)) p false = .ok ts∧ts.map yS=(1,vT i,0)::K:=by
 obtain ⟨h1,h2⟩:=zh i hi h.hd;simp only [List.length_cons,List.length_append] at hn;obtain ⟨n,rfl⟩:∃k,n=k+1:=⟨n-1,by omega⟩
 have hd:(118::(dd i++r)).drop (vT i).length=r:=by rw [show (118:UInt8)::(dd i++r)=vT i++r from rfl,List.drop_left'];rfl
 obtain ⟨ts,h3,h4⟩:=h.lx n (p+(vT i).length) false (by omega);refine ⟨⟨1,vT i,p,0⟩::ts,?_,by rw [List.map_cons,h4];rfl⟩;rw [GD _ _ _ _ _ (by decide),h2,if_neg (by simp),h1];simp only [hd];rw [show ((1:Nat)==2)=false by decide,h3];rfl
theorem zi {r:List UInt8} {K:List Ky} (h:LxT r K) (i:Nat) (hi:i<20) (d:List Nat) (hd:∀v∈d,v<9223372036854775808) (n p:Nat) (hn:(itT i d r).length<n):∃ts,lex n (itT i d r) p false = .ok ts∧ts.map yS=itK i d K:=by
 cases d with
 |nil=>exact zJ h i hi n p hn
 |cons v l =>
  have h1:=zI h l fun x hx=>hd x (List.mem_cons_of_mem _ hx)
  have h2:LxT (40::(dd v++dT r l)) ((3,[40],0)::(2,dd v,v)::dK K l):=by
   refine ⟨fun n p b hn => ?_,fun x l hx => ?_⟩
   ·simp only [List.length_cons] at hn
    obtain ⟨n,rfl⟩:∃k,n=k+1:=⟨n-1,by omega⟩
    obtain ⟨ts,h3,h4⟩:=h1.num (hd v List.mem_cons_self) n (p+1) (by omega);exact ⟨⟨3,[40],p,0⟩::ts,by rw [yp (.inl rfl),h3];rfl,by rw [List.map_cons,h4];rfl⟩
   ·injection hx with hx
    subst hx
    decide
  exact zJ h2 i hi n p hn
theorem zj (n:Nat) (r:List UInt8):lex (n+9) (yU++r) 0 false=Dg [⟨4,IW,0,0⟩] (lex (n+7) r 8 false):=by
 have e:yU++r=105::(110::116::101::103::101::114::32::r):=rfl;rw [e];have h1:A9 (105::110::116::101::103::101::114::32::r)=((4,IW,0),0):=by kernel_rfl
 have h2:C6 false 105 (110::116::101::103::101::114::32::r)=0:=by simp [C6,h1]
 rw [GD _ _ _ _ _ (by decide),h2,if_neg (by simp),h1];have hd:(105::110::116::101::103::101::114::32::r).drop IW.length=32::r:=rfl;simp only [hd];rw [show ((4:Nat)==2)=false by decide,y9 (by decide)];rfl
section
variable {ts:List Wd} {K:List Ky}
end
def clT (i n:Nat):List UInt8:=yU++itT i [n] []
def clX (i n:Nat):Sm:={kind:=1,items:=[⟨vT i,[(n:Int)]⟩]}
theorem yq (i n:Nat):clT i n=yU++(118::(dd i++40::(dd n++[41]))):=rfl
theorem zk (i n:Nat) (hi:i<20) (hn:n<9223372036854775808):∃w0 w1 w2 w3 w4:Wd,lex ((clT i n).length+1) (clT i n) 0 false = .ok [w0,w1,w2,w3,w4]∧w0.kind=4∧w0.text=IW∧w1.kind=1∧w1.text=vT i∧w2.kind=3∧w2.text=[40]∧w3.kind=2∧w3.n=n∧w4.kind=3∧w4.text=[41]:=by
 obtain ⟨ts,h1,h2⟩:=zi LxT.nil i hi [n] (fun v hv=>by rw [List.mem_singleton.1 hv];exact hn) ((itT i [n] []).length+7) 8 (by omega);have h2:ts.map yS=[(1,vT i,0),(3,[40],0),(2,dd n,n),(3,[41],0)]:=h2;have hl:ts.length=4:=by rw [←List.length_map (f:=yS),h2];rfl
 obtain ⟨a,b,c,d,rfl⟩:∃a b c d,ts=[a,b,c,d]:=by
  match ts,hl with
  |[a,b,c,d],_=>exact ⟨a,b,c,d,rfl⟩
 simp only [List.map_cons,List.map_nil,yS,List.cons.injEq,Prod.mk.injEq,and_true] at h2;obtain ⟨⟨a1,a2,a3⟩,⟨b1,b2,b3⟩,⟨c1,c2,c3⟩,⟨d1,d2,d3⟩⟩:=h2;refine ⟨⟨4,IW,0,0⟩,a,b,c,d,?_,rfl,rfl,a1,a2,b1,b2,c1,c3,d1,d2⟩;unfold clT;rw [List.length_append,show yU.length+(itT i [n] []).length+1=(itT i [n] []).length+9 by have:yU.length=8:=rfl;omega,zj,h1];rfl
theorem zl (i n:Nat) (hi:i<20) (hn:n<9223372036854775808) (h0:n≠0):E2 (clT i n)=(clX i n,none):=by
 obtain ⟨w0,w1,w2,w3,w4,h,a1,a2,b1,b2,c1,c2,d1,d2,e1,e2⟩:=zk i n hi hn;unfold E2;rw [h];have i0:∀(s:List UInt8),(s==[])=true↔s=[]:=fun s=>by cases s<;>simp
 simp [Lb,ET,Cf,GQ,Fy,CT,CJ,Bt,ES,Ci,isW,isK,Sr.step,Sr.fail,a1,a2,b1,b2,c1,c2,d1,d2,e1,e2,h0,Av,Aw,A4,clX]
theorem zm (i n:Nat):∀c∈clT i n,c≠10∧c≠33:=by
 intro c hc;rw [yq] at hc;simp only [List.mem_append,List.mem_cons,List.not_mem_nil,or_false] at hc;rcases hc with h|rfl|h|rfl|h|rfl
 ·revert c;unfold yU;decide
 ·decide
 ·exact zH i c h
 ·decide
 ·exact zH n c h
 ·decide
theorem zn {s:List UInt8} (h:∀c∈s,c≠10∧c≠33):CC (s++[10])=s:=by
 have h1:Bw (s++[10])=s:=by simp [Bw,DA]
 have h2:=zd h;have h3:Bw s=s:=zG fun c hc=>(h c hc).1
 unfold CC at h2 ⊢;rw [h3] at h2;rw [h1];exact h2
theorem zK (i n:Nat) (hi:i<20) (hn:n<9223372036854775808) (h0:n≠0):E2 (CC (clT i n++[10]))=(clX i n,none):=by rw [zn (zm i n),zl i n hi hn h0]
def lvs:Nat→List Sx→List Nd
 |_,[]=>[]
 |i,x::r=>Nd.leaf i x::lvs (i+1) r
theorem zo {Z:Zs} {i:Nat} {x:Sx} (h:Z[i]? = some (x,none)) (hk:x.kind=1) (p:Bool):EU Z ⟨i,none,p⟩=⟨i,none,p⟩:=by
 have hi:=(List.getElem?_eq_some_iff.1 h).1
 have hd:Z.drop i=(x,none)::Z.drop (i+1):=by rw [List.drop_eq_getElem_cons hi];rw [List.getElem?_eq_getElem hi] at h;injection h with h;rw [h]
 have ha:DV Z i=i:=by unfold DV;rw [hd,List.takeWhile_cons,if_neg (by simp [IB,hk])];rfl
 unfold EU;simp only [ha,h]
theorem zp {Z:Zs} {i:Nat} (h:i=Z.length) (p:Bool):EU Z ⟨i,none,p⟩=⟨i,none,p⟩:=by
 have ha:DV Z i=i:=by unfold DV;rw [List.drop_of_length_le (by omega)];rfl
 have hz:Z[i]? = none:=List.getElem?_eq_none (by omega);unfold EU;simp only [ha,hz]
theorem zL {Z:Zs} (hZ:∀z∈Z,z.1.kind=1∧z.2=none) (nest:Nat→Sx→Bst→Nd × Bst) (top:Bool):∀(k i e:Nat) (out:List Nd),i+k=Z.length →
  Ej Z nest top 0 0 (k+1+e) ⟨i,none,false⟩ out=(out++lvs i ((Z.drop i).map (·.1)),⟨Z.length,none,false⟩)
 |0,i,e,out,h=>by have hz:Z[i]? = none:=List.getElem?_eq_none (by omega);rw [show 0+1+e=e+1 by omega,Ej];simp only [zp (show i=Z.length by omega)];rw [List.drop_of_length_le (by omega)];simp [hz,lvs,show i=Z.length by omega]
 |k+1,i,e,out,h=>by
  have hi:i<Z.length:=by omega
  obtain ⟨z,hz⟩:∃z,Z[i]? = some z:=⟨_,List.getElem?_eq_getElem hi⟩
  obtain ⟨x,er⟩:=z;obtain ⟨hk,he⟩:=hZ _ (List.mem_of_getElem? hz);simp only at hk he;subst he
  have hd:Z.drop i=(x,none)::Z.drop (i+1):=by rw [List.drop_eq_getElem_cons hi];rw [List.getElem?_eq_getElem hi] at hz;injection hz with hz;rw [hz]
  have ih:=zL hZ nest top k (i+1) e (out++[.leaf i x]) (by omega);rw [show k+1+1+e=(k+1+e)+1 by omega,Ej];simp only [zo hz hk];simp only [hz,hk];simp only [Option.isSome_none,Bool.false_eq_true,if_false,false_or,ne_eq,not_true_eq_false,or_self,show ¬(1:Int)=4 by decide,show ¬(1:Int)=7 by decide,show ¬(1:Int)=6 by decide,if_true];rw [ih,hd,List.map_cons,lvs];simp
theorem zq (ls:List (List UInt8)) (h:∀s∈ls,(E2 (CC s)).1.kind=1∧(E2 (CC s)).2=none):FW ls=(lvs 0 (ls.map fun s=>(E2 (CC s)).1.x),none):=by
 have hZ:∀z∈Cg ls,z.1.kind=1∧z.2=none:=fun z hz=>by
  obtain ⟨s,hs,rfl⟩:=List.mem_map.1 hz;obtain ⟨h1,h2⟩:=h s hs;refine ⟨?_,h2⟩
  show ((E2 (CC s)).1.kind:Int)=1
  rw [h1];rfl
 have:=zL hZ (HZ (Cg ls) (E4 (Cg ls) 7)) false (Cg ls).length 0 0 [] (by omega);unfold FW;have hb:E4 (Cg ls) 8 0 0 ⟨0,none,false⟩=Ej (Cg ls) (HZ (Cg ls) (E4 (Cg ls) 7)) false 0 0 ((Cg ls).length+1) ⟨0,none,false⟩ []:=rfl;rw [hb,this];simp [Cg,Function.comp_def]
theorem zM:∀(l:List Sx) (i:Nat),B5 (lvs i l)=lvs i (l.map Kj)
 |[],_=>rfl
 |x::r,i=>by rw [lvs,B5,zM r (i+1),List.map_cons,lvs];rfl
theorem yr:∀(l:List Sx) (i:Nat),szL (lvs i l)=l.length
 |[],_=>rfl
 |x::r,i=>by rw [lvs,szL,yr r (i+1),List.length_cons];have:szN (Nd.leaf i x)=1:=rfl;omega
theorem yu:∀(l:List Sx) (i:Nat),(∀x∈l,SxT x)→Db (lvs i l)
 |[],_,_=>trivial
 |x::r,i,h=>by rw [lvs,Db];exact ⟨⟨h x List.mem_cons_self,trivial,trivial⟩,yu r (i+1) fun y hy=>h y (List.mem_cons_of_mem _ hy)⟩
def clN (u:Nat):Nat:=1+u % 1500
theorem yb (u:Nat):1≤clN u∧clN u≤1500:=by have:=Nat.mod_lt u (show 0<1500 by decide);unfold clN;omega
def jr:Nat→List Nat→List (List UInt8)
 |_,[]=>[]
 |i,u::r=>(clT i (clN u)++[10])::jr (i+1) r
def t8:Nat→List Nat→List Sx
 |_,[]=>[]
 |i,u::r=>(clX i (clN u)).x::t8 (i+1) r
def tot:List Nat→Nat
 |[]=>0
 |u::r=>clN u+tot r
def t9:Nat→Nat→List Nat→Option Nat
 |_,_,[]=>none
 |i,S,u::r=>if 4096<S+clN u then some i else t9 (i+1) (S+clN u) r
def t7:Nat→Nat→List Nat→List Sy
 |_,_,[]=>[]
 |i,S,u::r=>⟨vT i,[(clN u:Int)],S,clN u⟩::t7 (i+1) (S+clN u) r
theorem zN:∀(us:List Nat) (i S:Nat),(t7 i S us).length=us.length
 |[],_,_=>rfl
 |u::r,i,S=>by rw [t7,List.length_cons,zN r,List.length_cons]
theorem yw:∀(us:List Nat) (i:Nat),(jr i us).length=us.length
 |[],_=>rfl
 |u::r,i=>by rw [jr,List.length_cons,yw r,List.length_cons]
theorem yx:∀(us:List Nat) (i:Nat),(t8 i us).length=us.length
 |[],_=>rfl
 |u::r,i=>by rw [t8,List.length_cons,yx r,List.length_cons]
theorem zr (i n:Nat) (hi:i<20) (hn:n≤1500):(clT i n++[10]).length<1000000:=by have h1:=ya i;have h2:=ya n;have h3:yU.length=8:=rfl;rw [yq];simp only [List.length_append,List.length_cons,List.length_nil,h3];omega
theorem yy:∀(us:List Nat) (i:Nat),i+us.length≤20→∀s∈jr i us,s.length<1000000∧(E2 (CC s)).1.kind=1∧(E2 (CC s)).2=none
 |[],_,_,s,hs=>by cases hs
 |u::r,i,h,s,hs=>by
  simp only [List.length_cons] at h;have hn:=yb u;rw [jr] at hs;rcases List.mem_cons.1 hs with rfl|hs
  ·rw [zK i (clN u) (by omega) (by omega) (by omega)]
   exact ⟨zr _ _ (by omega) (by omega),rfl,rfl⟩
  ·exact yy r (i+1) (by omega) s hs
theorem zO:∀(us:List Nat) (i:Nat),i+us.length≤20→((jr i us).map fun s=>(E2 (CC s)).1.x)=t8 i us
 |[],_,_=>rfl
 |u::r,i,h=>by simp only [List.length_cons] at h;have hn:=yb u;rw [jr,List.map_cons,zK i (clN u) (by omega) (by omega) (by omega),zO r (i+1) (by omega),t8]
theorem zt (us:List Nat) (h:us.length≤20):FW (jr 0 us)=(lvs 0 (t8 0 us),none):=by rw [zq _ fun s hs=>(yy us 0 (by omega) s hs).2,zO us 0 (by omega)]
theorem zPa (i n:Nat):SxT (clX i n).x∧SxT (Kj (clX i n).x):=by
 have h:∀y∈([⟨vT i,[(n:Int)]⟩]:List It),y.dims.length<4294967296:=fun y hy=>by rw [List.mem_singleton.1 hy];show 1<4294967296;decide
 exact ⟨⟨rfl,rfl,rfl,rfl,rfl,rfl,(show 1<4294967296 by decide),h⟩,⟨rfl,rfl,rfl,rfl,rfl,rfl,(show 1<4294967296 by decide),h⟩⟩
theorem yz:∀(us:List Nat) (i:Nat),(∀x∈t8 i us,SxT x)∧∀x∈(t8 i us).map Kj,SxT x
 |[],_=>⟨fun _ h=>(by cases h),fun _ h=>(by cases h)⟩
 |u::r,i=>by
  obtain ⟨h1,h2⟩:=yz r (i+1);refine ⟨fun x hx => ?_,fun x hx => ?_⟩
  ·rw [t8] at hx
   rcases List.mem_cons.1 hx with rfl|hx
   ·exact (zPa _ _).1
   ·exact h1 x hx
  ·rw [t8,List.map_cons] at hx
   rcases List.mem_cons.1 hx with rfl|hx
   ·exact (zPa _ _).2
   ·exact h2 x hx
theorem zu {i j:Nat} (h:vT i=vT j):i=j:=by
 unfold vT at h;injection h with _ h;have:=congrArg Ba h
 rwa [(yY i).2.2,(yY j).2.2] at this
theorem zQ:∀(us:List Nat) (i S:Nat) (s:Ck),s.bad=none→s.cells=(S:Int)→S≤4096→(∀y∈s.syms,∃j,j<i∧y.name=vT j) →
  match t9 i S us with
  |some b=>(ckL (lvs i ((t8 i us).map Kj)) s).bad=some ((b:Int),4)
  |none=>(ckL (lvs i ((t8 i us).map Kj)) s).bad=none∧(ckL (lvs i ((t8 i us).map Kj)) s).syms=s.syms++t7 i S us∧(ckL (lvs i ((t8 i us).map Kj)) s).cells=((S+tot us:Nat):Int)
 |[],i,S,s,hb,hc,_,_=>by simp only [t9,t8,List.map_nil,lvs,ckL,t7,List.append_nil,tot,Nat.add_zero];exact ⟨hb,trivial,hc⟩
 |u::r,i,S,s,hb,hc,hS,hn=>by
  have hu:=yb u
  have hf:E7 s.syms (vT i)=none:=by unfold E7;rw [List.find?_eq_none];intro y hy he;obtain ⟨j,hj,hyj⟩:=hn y hy;rw [beq_iff_eq,hyj] at he;exact absurd (zu he) (by omega)
  have hw:He [((clN u:Nat):Int)] 1=some ((clN u:Nat):Int):=by rw [He,if_neg (by omega),He,Int.one_mul]
  have oS:(s.on (Nd.leaf i (Kj (clX i (clN u)).x)).line).stmt (Nd.leaf i (Kj (clX i (clN u)).x)).st=(s.on (i:Int)).item ⟨vT i,[((clN u:Nat):Int)]⟩:=rfl
  have hd:(s.on (i:Int)).decl ⟨vT i,[((clN u:Nat):Int)]⟩=if 4096<S+clN u then (s.on (i:Int),4) else (⟨s.syms++[⟨vT i,[((clN u:Nat):Int)],S,clN u⟩],((S+clN u:Nat):Int),s.held,s.hv,s.bad,i⟩,0):=by
   unfold Ck.decl;have e1:(s.on (i:Int)).syms=s.syms:=rfl;have e2:(s.on (i:Int)).cells=(S:Int):=hc;rw [e1,hf];simp only [hw,e2,Option.isSome_none,Bool.false_eq_true,if_false]
   by_cases h:4096<S+clN u
   ·rw [if_pos h,if_pos (by omega)]
   ·rw [if_neg h,if_neg (by omega)]
    rfl
  have hi:(s.on (i:Int)).item ⟨vT i,[((clN u:Nat):Int)]⟩=if 4096<S+clN u then (s.on (i:Int)).fail 4 else ⟨s.syms++[⟨vT i,[((clN u:Nat):Int)],S,clN u⟩],((S+clN u:Nat):Int),s.held,s.hv,none,i⟩:=by
   unfold Ck.item;have e3:(s.on (i:Int)).bad=none:=hb;rw [e3,hd]
   by_cases h:4096<S+clN u
   ·simp [h]
   ·simp [h,Ck.fail,hb]
  rw [t8,List.map_cons,lvs,ckL,oS,hi,t9]
  by_cases h:4096<S+clN u
  ·simp only [if_pos h]
   simp [Ck.fail,Ck.on,hb]
  ·simp only [if_neg h]
   have zAl:∀t:Ck,ckN (Nd.leaf i (Kj (clX i (clN u)).x)) t=t:=fun t=>rfl
   simp only [Option.isSome_none,Bool.false_eq_true,if_false,zAl]
   have ih:=zQ r (i+1) (S+clN u) ⟨s.syms++[⟨vT i,[((clN u:Nat):Int)],S,clN u⟩],((S+clN u:Nat):Int),s.held,s.hv,none,i⟩ rfl rfl (by omega) (fun y hy=>by
    rcases List.mem_append.1 hy with hy|hy
    ·obtain ⟨j,hj,e⟩:=hn y hy
     exact ⟨j,by omega,e⟩
    ·rw [List.mem_singleton.1 hy]
     exact ⟨i,by omega,rfl⟩)
   cases hcb:t9 (i+1) (S+clN u) r with
   |some b=>rw [hcb] at ih;exact ih
   |none =>
    rw [hcb] at ih;obtain ⟨h1,h2,h3⟩:=ih;refine ⟨h1,?_,?_⟩
    ·rw [h2,t7];simp
    ·rw [h3,tot]
     congr 1
     omega
theorem zw (us:List Nat):G7 (lvs 0 ((t8 0 us).map Kj))=match t9 0 0 us with
  |some b=>([],0,some ((b:Int),4))
  |none=>(t7 0 0 us,(tot us:Int),none):=by
 have h:=zQ us 0 0 ck0 rfl rfl (by decide) (fun y hy=>by cases hy);unfold G7;cases hb:t9 0 0 us with
 |some b=>rw [hb] at h;simp only at h;rw [h]
 |none =>rw [hb] at h;obtain ⟨h1,h2,h3⟩:=h;rw [h1];simp only [h2,h3];simp [ck0]
theorem zR:∀(a:List Nat) (i u:Nat),jr i (a++[u])=jr i a++[clT (i+a.length) (clN u)++[10]]
 |[],i,u=>rfl
 |x::a,i,u=>by rw [List.cons_append,jr,zR a (i+1) u,jr,List.cons_append,List.length_cons,show i+1+a.length=i+(a.length+1) by omega]
theorem zS:∀(a:List Nat) (u:Nat),tot (a++[u])=tot a+clN u
 |[],u=>by simp [tot]
 |x::a,u=>by rw [List.cons_append,tot,zS a u,tot];omega
theorem zT:∀us:List Nat,tot us≤1500*us.length
 |[]=>Nat.le_refl _
 |u::r=>by have:=zT r;have:=yb u;rw [tot,List.length_cons];omega
def bdI:Option Nat→Int
 |none => -1
 |some b=>(b:Int)
def uAV (us:List Nat):List AV:=us.map fun u:Nat => .int .u16 (u:Int)
def CcI (us:List Nat) (k:Nat) (t:List AV) (H:AH):Prop:=∃(i S:Nat) (bd:Option Nat),i+k=us.length∧S=tot (us.take i)∧S≤1500*i∧t9 0 0 us=bd.or (t9 i S (us.drop i)) ∧
 t=mkT 130 [(0,.slice .unk 1 us.length (uAV us)),(3,BL.tk 0 (jr 0 (us.take i))),(4,.int .i64 (S:Int)),(5,.int .i64 (bdI bd)),(6,.int .i64 (i:Int))]∧H=[AO (jr 0 (us.take i))]
def CdI (us:List Nat) (X Y:Option Ent) (k:Nat) (t:List AV) (H:AH):Prop:=∃(j A:Nat),j+k=us.length∧(t7 0 0 us).drop j=t7 j A (us.drop j)∧A+tot (us.drop j)=tot us ∧
 t=mkT 130 [(0,.slice .unk 1 us.length (uAV us)),(4,.int .i64 (tot us:Int)),(10,.ptr 2 0),(11,.nilIface),(12,.int .i64 (A:Int)),(13,.int .i64 (j:Int))]∧H=[X,Y,some (.box [syE.av (t7 0 0 us),.int .i64 (tot us:Int)])]
theorem zx (H:AH):CS zP A7 4 [.nilSlice] H (.bool true) H:=by have X:=yl;have hO:=ym;generalize oOf (yV::Lz9)=O at X hO;have f1:=hO.known;refine CS.tr0 HS Tryz.func4 (by kernel_rfl) 0 (by simp [Tryz.f4]) (fun B hB hG => ?_) rfl (by simp) H;refine Tr.goD X hG ?_;simp [Tryz.f4,f1]
theorem zy (us:List Nat) (hu:∀u∈us,u<65536) (H:AH):CS zP A7 4 [.slice .unk 1 us.length (uAV us)] H (.bool true) H:=by
 have X:=yl;have hO:=ym;have fd:=zE;generalize oOf (yV::Lz9)=O at X hO fd;have f1:=hO.known
 have hul:lowL 0 (uAV us)=true:=by
  have:∀l:List Nat,lowL 0 (uAV l)=true:=fun l=>by
   induction l with
   |nil=>rfl
   |cons x l ih=>simpa [uAV,lowL,low] using ih
  exact this us
 refine CS.tr0 HS Tryz.func4 (by kernel_rfl) 0 (by simp [Tryz.f4]) (fun B hB hG => ?_) rfl (by simp [low,hul]) H;refine Tr.goD X hG ?_
 by_cases pN:us.length<1
 ·have zAP:(us.length:Int)<1:=by omega
  simp [Tryz.f4,f1,zAP,-Int.natCast_add]
 ·by_cases oh:20<us.length
  ·have zAP:¬(us.length:Int)<1:=by omega
   have zAX:(20:Int)<us.length:=by omega
   simp [Tryz.f4,f1,zAP,zAX,-Int.natCast_add]
  ·have zAP:¬(us.length:Int)<1:=by omega
   have zAX:¬(20:Int)<us.length:=by omega
   simp [Tryz.f4,f1,zAP,zAX,-Int.natCast_add];have hum:=Am (Nat.zero_le 1) _ hul
   refine LpD.loopN X hG (CcI us) us.length (t':=mkT 130 [(0,.slice .unk 1 us.length (uAV us)),(3,BL.tk 0 (jr 0 (us.take 0))),(4,.int .i64 ((0:Nat):Int)),(5,.int .i64 (bdI none)),(6,.int .i64 ((0:Nat):Int))]) (H':=[AO (jr 0 (us.take 0))])
    (AD.mkV 1000 (fun i=>i) 1 (by simp [hB]) (by simp) (by simp) rfl (by
     intro i hi;obtain rfl:i=0:=by omega
     simp [AH.at,jr]) (by simp [jr]) (by simp [ren,strip,bdI,jr,low,hum,BZ _ _ hul,Ep _ _ hul])) ⟨0,0,none,by omega,rfl,by omega,rfl,rfl,rfl⟩ ?_
   rintro k t H ⟨i,S,bd,oQ,hS,hSb,hcb,rfl,rfl⟩;cases k with
   |succ k =>
    have hi:i<us.length:=by omega
    have hi':(i:Int)<us.length:=by omega
    obtain ⟨u,hx⟩:∃u,us[i]? = some u:=⟨_,List.getElem?_eq_getElem hi⟩
    have hu6:=hu u (List.mem_of_getElem? hx);have hux:(uAV us)[i]? = some (.int .u16 (u:Int)):=by simp [uAV,hx]
    have hN:=yb u;have wi:IntKind.i64.wrap ((i:Int)+1)=((i+1:Nat):Int):=by rw [Ab (by omega) (by omega)];omega
    have m1:((u:Int)).tmod 1500=((u % 1500:Nat):Int):=by rw [Int.tmod_eq_emod_of_nonneg (by omega)];omega
    have m2:IntKind.u16.wrap ((u % 1500:Nat):Int)=((u % 1500:Nat):Int):=by simp only [IntKind.wrap,IntKind.bits,IntKind.signed];simp;omega
    have m3:IntKind.i64.wrap ((u % 1500:Nat):Int)=((u % 1500:Nat):Int):=Ab (by omega) (by omega);have m4:IntKind.i64.wrap (1+((u % 1500:Nat):Int))=((clN u:Nat):Int):=by rw [Ab (by omega) (by omega)];unfold clN;omega
    have m5:IntKind.i64.wrap ((S:Int)+((clN u:Nat):Int))=((S+clN u:Nat):Int):=by rw [Ab (by omega) (by omega)];omega
    have d1:=fun H=>fd i H (by omega)
    have d2:=fun H=>fd (clN u) H (by omega)
    have l1:=ya i;have l2:=ya (clN u)
    have pC:us.drop i=u::us.drop (i+1):=by rw [List.drop_eq_getElem_cons hi];rw [List.getElem?_eq_getElem hi] at hx;injection hx with hx;rw [hx]
    have oe:us.take (i+1)=us.take i++[u]:=by rw [List.take_add_one,hx];rfl
    have qe:(us.take i).length=i:=by rw [List.length_take];omega
    have zAm:clT i (clN u)++[10]=yU++(118::(dd i++40::(dd (clN u)++[41,10]))):=by rw [yq];simp
    have oq:jr 0 (us.take (i+1))=jr 0 (us.take i)++[clT i (clN u)++[10]]:=by rw [oe,zR,qe,Nat.zero_add]
    have ox:(jr 0 (us.take i)).length=i:=by rw [yw,qe]
    have hI:∀bd',t9 0 0 us=bd'.or (t9 (i+1) (S+clN u) (us.drop (i+1)))→CcI us k (mkT 130 [(0,.slice .unk 1 us.length (uAV us)),(3,BL.tk 0 (jr 0 (us.take (i+1)))),(4,.int .i64 ((S+clN u:Nat):Int)),(5,.int .i64 (bdI bd')),(6,.int .i64 ((i+1:Nat):Int))]) [AO (jr 0 (us.take (i+1)))] :=fun bd' h=>⟨i+1,S+clN u,bd',by omega,by rw [oe,zS,hS],by omega,h,rfl,rfl⟩
    rw [oq] at hI;generalize jr 0 (us.take i)=L at *;rw [pC,t9] at hcb;have tm1:=hI none;have c1:∀K,10000≤K→(dd i).length≤K:=fun K h=>by omega
    have c0:∀K,10000≤K→9+(dd i).length≤K:=fun K h=>by omega
    have c6:∀K,10000≤K→(dd i).length+10+(dd (clN u)).length≤K:=fun K h=>by omega
    have c7:∀K,10000≤K→(dd i).length+((dd (clN u)).length+1)+9≤K:=fun K h=>by omega
    have c8:∀K,10000≤K→(dd i).length+1+(dd (clN u)).length≤K:=fun K h=>by omega
    have c2:∀K,10000≤K→(dd i).length+(dd (clN u)).length≤K:=fun K h=>by omega
    have c3:∀K,10000≤K→(dd i).length+((dd (clN u)).length+1)≤K:=fun K h=>by omega
    have c4:∀K,10000≤K→(dd i).length+((dd (clN u)).length+2)≤K:=fun K h=>by omega
    have c5:∀K,10000≤K→(dd i).length+((dd (clN u)).length+1+2)≤K:=fun K h=>by omega
    have sG:clT i (clN u)++[10]=105::110::116::101::103::101::114::32::118::(dd i++40::(dd (clN u)++[41,10])):=by rw [zAm];rfl
    rw [sG] at hI;obtain ⟨ln,hln⟩:∃ln:List UInt8,ln=105::110::116::101::103::101::114::32::118::(dd i++40::(dd (clN u)++[41,10])):=⟨_,rfl⟩
    rw [←hln] at hI;have s1:BL.sz=1:=rfl
    have nxt:∀(p:Nat) (bd':Option Nat) (t:List (Nat × AV)) (H:AH) (m:Nat) (xs:List AV),p≤1→t9 0 0 us=bd'.or (t9 (i+1) (S+clN u) (us.drop (i+1)))→(t.lookup 0=some (.slice .unk 1 us.length (uAV us))∧t.lookup 3=some (.slice (.tok p) 1 m xs)∧t.lookup 4=some (.int .i64 ((S+clN u:Nat):Int))∧t.lookup 5=some (.int .i64 (bdI bd'))∧t.lookup 6=some (.int .i64 ((i+1:Nat):Int))) →
      m=(L++[ln]).length→xs=BL.row (L++[ln])→H.at p=some (.tok m)→Nxt B (CcI us) (k+1) (mkT 130 t) H:=by
     rintro p bd' t H m xs su pQ ⟨l0,l3,l4,l5,l6⟩ rfl rfl pA;have pZ:=BZ (fun i=>if i=0 then p else i) _ (BL.row_low (L++[ln]));have oL:L++[ln]≠[]:=by simp
     refine Nxt.mk k (by omega) (AD.mkV 100000 (fun i=>if i=0 then p else i) 1 (by simp [hB]) (by intro i j hi hj he;omega) (by simp [hB]) rfl (by
      intro j hj;obtain rfl:j=0:=by omega
      rw [if_pos rfl,pA]
      show some (Ent.tok (L++[ln]).length)=(AO (L++[ln])).map _
      rw [C3 oL];rfl) (Gf 1 _) ?_) (hI bd' pQ)
     simp only [List.mem_cons,List.not_mem_nil,or_false];rintro y (rfl|rfl|rfl|rfl|rfl)
     ·rw [l0]
      refine ⟨by simp [low,hum],?_⟩;simp [ren,strip,BZ _ _ hul,Ep _ _ hul]
     ·rw [l3]
      refine ⟨BL.tk_low (by decide) _,?_⟩;have hs:=BL.row_strip 100000 (L++[ln]);rw [BL.tk_ren,BL.tk_ne _ oL];rcases (by omega:p=0∨p=1) with rfl|rfl<;>simp only [Option.getD_some,strip,hs]<;>rfl
     ·rw [l4];exact ⟨rfl,rfl⟩
     ·rw [l5];exact ⟨rfl,rfl⟩
     ·rw [l6];exact ⟨rfl,rfl⟩
    have hbv:∃bd',t9 0 0 us=bd'.or (t9 (i+1) (S+clN u) (us.drop (i+1)))∧((bd=none∧4096<S+clN u∧(4096:Int)<((S+clN u:Nat):Int)∧bdI bd'=(i:Int))∨(bd=none∧¬4096<S+clN u∧¬(4096:Int)<((S+clN u:Nat):Int)∧bd'=none)∨(∃b,bd=some b∧bd'=some b)):=by
     cases bd with
     |none =>
      by_cases h4:4096<S+clN u
      ·rw [if_pos h4] at hcb
       exact ⟨some i,hcb,.inl ⟨rfl,h4,by omega,rfl⟩⟩
      ·rw [if_neg h4] at hcb
       exact ⟨none,hcb,.inr (.inl ⟨rfl,h4,by omega,rfl⟩)⟩
     |some b=>exact ⟨some b,hcb,.inr (.inr ⟨b,rfl,rfl⟩)⟩
    obtain ⟨bd',oZ,oW⟩:=hbv;have n0:L.length≤1000:=by omega
    have pr:∀b:Nat,¬(b:Int)<0:=fun b=>by omega
    rcases oW with ⟨rfl,h4,h4',sr⟩|⟨rfl,h4,h4',rfl⟩|⟨b,rfl,rfl⟩<;>by_cases hL:L=[]
    all_goals
     first
     |subst hL
     |rw [BL.tk_ne 0 hL,C3 hL]
     first
     |(simp [hi',hux,m1,m2,m3,m4,m5,d1,d2,wi,bdI,h4,h4',c0,c1,c2,c3,c4,c5,c6,c7,c8,Lm oJ,y5,yW,n0,s1,-Int.natCast_add,-Int.natCast_emod])
     |(simp [hi',hux,m1,m2,m3,m4,m5,d1,d2,wi,bdI,pr,c0,c1,c2,c3,c4,c5,c6,c7,c8,Lm oJ,y5,yW,n0,s1,-Int.natCast_add,-Int.natCast_emod])
     first
     |exact nxt 1 bd' _ _ _ _ (by decide) oZ ⟨rfl,rfl,rfl,by rw [sr];rfl,rfl⟩ (by simp) (by rw [hln];rfl) rfl
     |exact nxt 1 _ _ _ _ _ (by decide) oZ ⟨rfl,rfl,rfl,rfl,rfl⟩ (by simp) (by rw [hln];rfl) rfl
     |exact nxt 0 bd' _ _ _ _ (by decide) oZ ⟨rfl,rfl,rfl,by rw [sr];rfl,rfl⟩ (by simp) (by rw [BL.row_append,hln];rfl) rfl
     |exact nxt 0 _ _ _ _ _ (by decide) oZ ⟨rfl,rfl,rfl,rfl,rfl⟩ (by simp) (by rw [BL.row_append,hln];rfl) rfl
   |zero =>
    obtain rfl:i=us.length:=by omega
    have hi':¬(us.length:Int)<us.length:=by omega
    rw [List.drop_length,t9] at hcb;rw [List.take_of_length_le (Nat.le_refl _)] at hS ⊢;have hcb:t9 0 0 us=bd:=by rw [hcb];cases bd<;>rfl
    subst hS;have sP:∀H,O 19 [BL.tk 0 (jr 0 us)] H=some (Iy (FW (jr 0 us)),H):=fun H=>hO.tree (.tok 0) (jr 0 us) H (by rw [yw];omega) (fun s hs=>(yy us 0 (by omega) s hs).1)
    rw [zt us (by omega)] at sP;have gT:=fun H=>hO.to (lvs 0 (t8 0 us)) H (by rw [yr,yx];omega) (yu _ _ (yz us 0).1)
    have gC:=fun H=>hO.check (lvs 0 ((t8 0 us).map Kj)) H (by rw [yr,List.length_map,yx];omega) (yu _ _ (yz us 0).2)
    rw [zM] at gT;rw [zw,hcb] at gC;simp only [Iy,Ld,Az,A0] at sP;generalize lvs 0 ((t8 0 us).map Kj)=L2 at gT gC;generalize lvs 0 (t8 0 us)=L1 at gT sP;generalize jr 0 us=L at *;cases bd with
    |some b =>
     have pr:(0:Int)≤(b:Int):=by omega
     have ga:=fun H=>hO.at_ Ce (b:Int) 4 H
     have gt:=fun H=>hO.tells (b:Int) 4 H (by decide)
     simp only [GV,E8,Enc.av_nil,Ce] at gC ga gt;simp [hi',sP,gT,gC,ga,gt,bdI,pr,-Int.natCast_add]
     done
    |none =>
     simp only [GV,RB] at gC;simp [hi',sP,gT,gC,bdI,-Int.natCast_add];have qe:=zT us;have hSl:=zN us 0 0
     have zAh:AU 3 [AO L,some (.box [.nilSlice,.int .i64 0]),some (.box [syE.av (t7 0 0 us),.int .i64 (tot us:Int)])]=true:=by simp only [AU,Kf,Bool.true_and,Bool.and_true];simp [At]
     have zAi:=Am (Nat.zero_le 3) _ hul
     refine LpD.loopN X hG (CdI us (AO L) (some (.box [.nilSlice,.int .i64 0]))) us.length (t':=mkT 130 [(0,.slice .unk 1 us.length (uAV us)),(4,.int .i64 (tot us:Int)),(10,.ptr 2 0),(11,.nilIface),(12,.int .i64 ((0:Nat):Int)),(13,.int .i64 ((0:Nat):Int))]) (H':=[AO L,some (.box [.nilSlice,.int .i64 0]),some (.box [syE.av (t7 0 0 us),.int .i64 (tot us:Int)])])
      (AD.mkK 3 (by simp [hB]) (by simp [low,zAi]) (by simp) zAh) ⟨0,0,by omega,rfl,by simp,rfl,rfl⟩ ?_
     rintro k t H ⟨j,A,qr,hdj,hA,rfl,rfl⟩;cases k with
     |succ k =>
      have hj:j<us.length:=by omega
      have hj1:j<(t7 0 0 us).length:=by omega
      have hj':(j:Int)<us.length:=by omega
      obtain ⟨u,hx⟩:∃u,us[j]? = some u:=⟨_,List.getElem?_eq_getElem hj⟩
      have pC:us.drop j=u::us.drop (j+1):=by rw [List.drop_eq_getElem_cons hj];rw [List.getElem?_eq_getElem hj] at hx;injection hx with hx;rw [hx]
      rw [pC,t7] at hdj;rw [pC,tot] at hA
      have hy:(t7 0 0 us)[j]? = some ⟨vT j,[(clN u:Int)],A,clN u⟩:=by have:=List.getElem?_drop (xs:=t7 0 0 us) (i:=j) (j:=0);rw [hdj] at this;simpa using this.symm
      have zAn:(t7 0 0 us).drop (j+1)=t7 (j+1) (A+clN u) (us.drop (j+1)):=by rw [←List.drop_drop,hdj];rfl
      have g2:(syE.row (t7 0 0 us))[j*4+2]? = some (.int .i64 (A:Int)):=syE.row_cell hy 2 (by decide);have g3:(syE.row (t7 0 0 us))[j*4+3]? = some (.int .i64 ((clN u:Nat):Int)):=syE.row_cell hy 3 (by decide);have wj:IntKind.i64.wrap ((j:Int)+1)=((j+1:Nat):Int):=by rw [Ab (by omega) (by omega)];omega
      have wA:IntKind.i64.wrap ((A:Int)+((clN u:Nat):Int))=((A+clN u:Nat):Int):=by rw [Ab (by omega) (by omega)];omega
      have hI:CdI us (AO L) (some (.box [.nilSlice,.int .i64 0])) k (mkT 130 [(0,.slice .unk 1 us.length (uAV us)),(4,.int .i64 (tot us:Int)),(10,.ptr 2 0),(11,.nilIface),(12,.int .i64 ((A+clN u:Nat):Int)),(13,.int .i64 ((j+1:Nat):Int))]) [AO L,some (.box [.nilSlice,.int .i64 0]),some (.box [syE.av (t7 0 0 us),.int .i64 (tot us:Int)])]:=⟨j+1,A+clN u,by omega,zAn,by omega,rfl,rfl⟩
      generalize t7 0 0 us=SY at *;simp [hSl,hj',hj,g2,g3,wj,wA,-Int.natCast_add];exact Nxt.mk k (by omega) (AD.mkK 3 (by simp [hB]) (by simp [low,zAi]) (by simp) zAh) hI
     |zero =>
      obtain rfl:j=us.length:=by omega
      rw [List.drop_length,tot] at hA;have hA:A=tot us:=by omega
      subst hA;generalize t7 0 0 us=SY at *;simp [hSl,hi',-Int.natCast_add]
theorem zU:∀{zs:List Int},(∀z∈zs,(Lit.int .u16 z).wf=true)→∃us:List Nat,(∀u∈us,u<65536)∧us.length=zs.length∧uAV us=zs.map (AV.int .u16)
 |[],_=>⟨[],fun _ h=>(by cases h),rfl,rfl⟩
 |z::zs,h=>by
  obtain ⟨us,h1,h2,h3⟩:=zU fun x hx=>h x (List.mem_cons_of_mem _ hx)
  have e1:IntKind.u16.min=0:=rfl;have e2:IntKind.u16.max=65535:=rfl;have hz:0≤z∧z≤65535:=by simpa [Lit.wf,e1,e2] using h z List.mem_cons_self
  obtain ⟨n,rfl⟩:=Int.eq_ofNat_of_zero_le hz.1;refine ⟨n::us,fun u hu => ?_,by rw [List.length_cons,List.length_cons,h2],?_⟩
  ·rcases List.mem_cons.1 hu with rfl|hu
   ·omega
   ·exact h1 u hu
  ·rw [List.map_cons,←h3];rfl
theorem zz {lv:AV} {zs:List Int} (h:y3 .u16 lv zs) (hw:∀z∈zs,(Lit.int .u16 z).wf=true) (H:AH):CS zP A7 4 [lv] H (.bool true) H:=by
 rcases h with ⟨rfl,rfl⟩|rfl
 ·exact zx H
 ·obtain ⟨us,h1,h2,h3⟩:=zU hw
  rw [←h2,←h3];exact zy us h1 H
end Go.Proofs.YtmjfldclpijghaaGreatDoor
