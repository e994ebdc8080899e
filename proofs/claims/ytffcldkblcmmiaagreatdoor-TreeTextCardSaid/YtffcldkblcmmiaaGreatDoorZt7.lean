/- The reference's reader of expressions: subs, factor. The ref .. The program's trees: put at any heap. -/
import Derived.Test.YtffcldkblcmmiaaGreatDoorZt6
import Derived.Shelf.Strings.OnBuilder
set_option linter.unusedSimpArgs false
set_option linter.unusedVariables false
namespace Go.Proofs.YtffcldkblcmmiaaGreatDoor
open Go.RowKit Go.Proofs.Fw
set_option maxRecDepth 100000
set_option maxHeartbeats 4000000
theorem CS.weak {P:Program} {E:Env} {f:FuncId} {args:List AV} {H H':AH} {v v':AV} (h:CS P E f args H v H') (hw:∀g cv,AA g v cv→AA g v' cv):CS P E f args H v' H':=fun g w cargs R hG hA=>by refine Calls.mono (h g w cargs R hG hA) ?_;rintro e w' ⟨g',cv,rfl,R',p,hr⟩;exact ⟨g',cv,rfl,R',p,hw _ _ hr⟩
theorem Ls {ow:Own} {sz n:Nat} {cs:List AV} (g:Gh) (cv:Value) (h:AA g (.slice ow sz n cs) cv):AA g (.slice .unk sz n cs) cv:=by simp only [AA] at h ⊢;obtain ⟨b,o,cap,vs,hv,h1,h2,h3,h4,h5⟩:=h;exact ⟨b,o,cap,vs,hv,h1,h2,h3,h4,trivial⟩
theorem Vn:B6 zP 53 4=true:=by kernel_rfl
def Fj (a:List Ex):AV:=if a.length=1 then .slice .full 4 1 (CG a) else .slice (.tok 1) 4 a.length (CG a)
def Ej (ts:List Wd) (a:List Ex) (r:St):AH:=some (.box (rrC ts r.at_ r.err))::(if a.length=1 then [] else [some (.tok a.length)])
def Iz (a:List Ex):AV:=if a.length=1 then .slice .full 4 1 (CG a) else .slice .unk 4 a.length (CG a)
def lD (ts:List Wd) (sum:Rd) (dd n:Nat) (res:List Ex × St) (k:Nat) (t:List AV) (H:AH):Prop :=∃(a:List Ex) (r:St),Cn ts sum k a r=res∧k+a.length=6∧1≤a.length∧a.length≤4∧ts.length-r.at_<n∧r.deep=dd∧BN r.err∧t=mkT 45 [(0,.ptr 0 0),(1,.int .i64 (dd:Int)),(5,Fj a)]∧H=Ej ts a r
structure Vo (O:Orc) (ts:List Wd) (sum:Rd) (n:Nat):Prop extends Lr O ts where
 sign:∀(a:Int) (x:Option (Nat × Nat)) (s:List UInt8) (H:AH),0≤a→BN x→O 119 [.ptr 0 0,.str s] (some (.box [AD ts,.int .i64 a,pAV x,.int .i64 (cI x)])::H) =
  some (.bool (nextB ts ⟨a.toNat,0,x⟩ s),some (.box [AD ts,.int .i64 a,pAV x,.int .i64 (cI x)])::H)
 fail:∀(a:Int) (x:Option (Nat × Nat)) (p e:Int) (H:AH),0≤a→BN x→0≤p→0≤e→O 118 [.ptr 0 0,.int .i64 p,.int .i64 e] (some (.box [AD ts,.int .i64 a,pAV x,.int .i64 (cI x)])::H) =
  some (.tup [],some (.box [AD ts,.int .i64 a,pAV (some (x.getD (p.toNat,e.toNat))),.int .i64 (cI (some (x.getD (p.toNat,e.toNat))))])::H)
 sum:Jm O ts 116 sum n
theorem Qm {p e:Nat} (h:e≠0):BN (some (p,e)):=fun q hq=>by simp only [Option.some.injEq,Prod.mk.injEq] at hq;exact h hq.2
theorem lF (ts:List Wd) (sT:ts.length<1000000) {O:Orc} (X:Cx O zP Ag) {sum:Rd} {n:Nat} (hO:Vo O ts sum n) (hu:upw sum) (hd:∀r,(sum r).2.deep=r.deep) (sw:okE sum)
  (a dd:Nat) (x:Option (Nat × Nat)) (hx:BN x) (hr:dd≤20) (hn:ts.length-a<n) {H:AH} {id:Nat} (hH:H.at id=some (.box (rrC ts a x))) :
  CS zP Ag 92 [.ptr id 0,.int .i64 (dd:Int)] H (Iz (Bv ts sum ⟨a,dd,x⟩).1) (H.set id (some (.box (rrC ts (Bv ts sum ⟨a,dd,x⟩).2.at_ (Bv ts sum ⟨a,dd,x⟩).2.err)))):=by
 refine CS.rd DI Tryz.func92 (by kernel_rfl) 0 (by simp [Tryz.f92]) (fun B hB hG => ?_) (by simp) (by unfold Iz;split<;>simp) (Fi _ _ _) (Fi _ _ _) hH;have uK:(dd:Int)≤20:=by omega
 have h1:=fun H=>hO.sum a dd x H (by omega) (by omega) uK hx (by simpa using hn)
 simp only [Int.toNat_natCast] at h1;have xX:=hu ⟨a,dd,x⟩;have sr:=hd ⟨a,dd,x⟩;have uF:=sw ⟨a,dd,x⟩ hx;simp only [Bv];generalize wL:sum ⟨a,dd,x⟩=p at *;obtain ⟨e,q⟩:=p;simp only at h1 xX sr uF;refine Tr.goD X hG ?_;simp at h1;simp [Tryz.f92,h1];generalize xD:Cn ts sum 5 [e] q=res
 refine LpD.loopN X hG (lD ts sum dd n res) 5 (t':=mkT 45 [(0,.ptr 0 0),(1,.int .i64 (dd:Int)),(5,Fj [e])]) (H':=Ej ts [e] q)
  (AE.mkK 1 (by simp [hB]) (by simp [Fj,CG]) (by simp [Ej]) (by simp [Ej])) ⟨[e],q,xD,rfl,by simp,by simp,by omega,sr,uF,rfl,rfl⟩ ?_
 rintro k t H ⟨a',r',sV,x8,vu,sY,hm,uN,tP,rfl,rfl⟩;obtain ⟨b,d,y⟩:=r';simp only at hm uN tP;subst uN;cases k with
 |zero=>omega
 |succ k =>
 have tW:=fun H=>hO.sign b y A0 H (by omega) tP
 simp [A0] at tW;have x6:Cn ts sum (k+1) a' ⟨b,d,y⟩=if nextB ts ⟨b,d,y⟩ A0 then (if 4≤a'.length then (a',(⟨b,d,y⟩:St).fail b 4) else Cn ts sum k (a'++[(sum (⟨b,d,y⟩:St).step).1]) (sum (⟨b,d,y⟩:St).step).2) else (a',CJ ts ⟨b,d,y⟩ Ao):=rfl
 rw [x6] at sV;have s5:∀s,nextB ts ⟨b,d,y⟩ s=nextB ts ⟨b,0,y⟩ s:=fun s=>rfl
 simp only [s5] at sV;cases hc:nextB ts ⟨b,0,y⟩ A0 with
 |false =>
  have hc':=hc;simp [A0] at hc';rw [hc] at sV;simp only [Bool.false_eq_true,if_false] at sV;cases hs:nextB ts ⟨b,0,y⟩ Ao with
  |true =>
   have ht:=fun H=>hO.tookT b y Ao H (by omega) tP (by simpa using hs)
   simp [Ao] at ht;simp only [CJ,s5,hs,if_true,St.step] at sV;subst sV
   by_cases ha:a'.length=1
   ·simp [Fj,Ej,Iz,ha,tW,hc',Bj,ht]
   ·simp [Fj,Ej,Iz,ha,tW,hc',Bj,ht,HA]
  |false =>
   have ht:=fun H=>hO.tookF b y Ao H (by omega) tP (by simpa using hs)
   have sl:=fun H=>hO.fail b y b 2 H (by omega) tP (by omega) (by omega)
   simp [Ao] at ht;simp at sl;simp only [CJ,s5,hs,Bool.false_eq_true,if_false,Hj] at sV;subst sV
   by_cases ha:a'.length=1
   ·simp [Fj,Ej,Iz,ha,tW,hc',Bj,ht,sl]
   ·simp [Fj,Ej,Iz,ha,tW,hc',Bj,ht,sl,HA]
 |true =>
  have hl:b<ts.length:=FO hc;have hc':=hc;simp [A0] at hc';rw [hc] at sV;simp only [if_true] at sV;have w1:IntKind.i64.wrap ((b:Int)+1)=(b:Int)+1:=AZ (by omega) (by omega)
  by_cases h4:4≤a'.length
  ·have h4':(4:Int)≤a'.length:=by omega
   have ha:¬a'.length=1:=by omega
   have sl:=fun H=>hO.fail b y b 4 H (by omega) tP (by omega) (by omega)
   simp at sl;rw [if_pos h4] at sV;simp only [Hj] at sV;subst sV;simp [Fj,Ej,Iz,ha,tW,hc',h4',sl,HA]
  ·have h4':¬(4:Int)≤a'.length:=by omega
   rw [if_neg h4] at sV;simp only [St.step] at sV;have h2:=fun H=>hO.sum (b+1:Nat) d y H (by omega) (by omega) uK tP (by simp only [Int.toNat_natCast];omega)
   have hu2:=hu ⟨b+1,d,y⟩;have sk:=hd ⟨b+1,d,y⟩;have uT:=sw ⟨b+1,d,y⟩ tP;simp only [Int.toNat_natCast] at h2;generalize sum ⟨b+1,d,y⟩=p at *;obtain ⟨e2,⟨b2,d2,y2⟩⟩:=p;simp only at hu2 sk uT sV;subst sk;simp at h2
   by_cases ha:a'.length=1
   ·have sb:=fun H=>Pm (P:=zP) (t:=53) (sz:=4) (n:=1) (m:=1) (H:=H) (fid:=1) (ow := .full) (xs:=CG a') Vn (by decide) (by decide) (Nh e2)
    have h41:¬(4:Int)≤1:=by decide
    simp [Fj,Ej,ha,tW,hc',h41,w1,h2,sb]
    refine Nxt.mk k (by omega) (AE.mkK 2 (l':=[(0,.ptr 0 0),(1,.int .i64 (d2:Int)),(5,Fj (a'++[e2]))]) (H':=Ej ts (a'++[e2]) ⟨b2,d2,y2⟩) (by simp [hB]) (by simp [Fj,ha,Hi,CG]) (by simp [Ej,ha]) (by simp [Ej,ha]))
     ⟨a'++[e2],⟨b2,d2,y2⟩,sV,?_,?_,?_,?_,rfl,uT,rfl,rfl⟩
    ·simp only [List.length_append,List.length_cons,List.length_nil] at x8 ⊢;omega
    ·simp
    ·simp only [List.length_append,List.length_cons,List.length_nil];omega
    ·simp only;omega
   ·have sb:=fun H (h:AH.at H 1=some (.tok a'.length))=>Eu (P:=zP) (t:=53) (sz:=4) (m:=1) (H:=H) (fid:=2) (ow := .full) (xs:=CG a') Vn h (by decide) (by omega) (Nh e2)
    have h0:¬a'=[]:=fun h=>by rw [h] at vu;simp at vu
    simp [Fj,Ej,ha,tW,hc',h4',w1,h2,sb]
    refine Nxt.mk k (by omega) (AE.mkK 2 (l':=[(0,.ptr 0 0),(1,.int .i64 (d2:Int)),(5,Fj (a'++[e2]))]) (H':=Ej ts (a'++[e2]) ⟨b2,d2,y2⟩) (by simp [hB]) (by simp [Fj,h0,Hi,CG]) (by simp [Ej,h0]) (by simp [Ej,h0]))
     ⟨a'++[e2],⟨b2,d2,y2⟩,sV,?_,?_,?_,?_,rfl,uT,rfl,rfl⟩
    ·simp only [List.length_append,List.length_cons,List.length_nil] at x8 ⊢;omega
    ·simp
    ·simp only [List.length_append,List.length_cons,List.length_nil];omega
    ·simp only;omega
theorem CH:cI none=0:=AP rfl
structure Vp (O:Orc) (ts:List Wd) (n:Nat):Prop extends Lr O ts where
 sign:∀(a:Int) (x:Option (Nat × Nat)) (s:List UInt8) (H:AH),0≤a→BN x→O 119 [.ptr 0 0,.str s] (some (.box [AD ts,.int .i64 a,pAV x,.int .i64 (cI x)])::H) =
  some (.bool (nextB ts ⟨a.toNat,0,x⟩ s),some (.box [AD ts,.int .i64 a,pAV x,.int .i64 (cI x)])::H)
 fail:∀(a:Int) (x:Option (Nat × Nat)) (p e:Int) (H:AH),0≤a→BN x→0≤p→0≤e→O 118 [.ptr 0 0,.int .i64 p,.int .i64 e] (some (.box [AD ts,.int .i64 a,pAV x,.int .i64 (cI x)])::H) =
  some (.tup [],some (.box [AD ts,.int .i64 a,pAV (some (x.getD (p.toNat,e.toNat))),.int .i64 (cI (some (x.getD (p.toNat,e.toNat))))])::H)
 fac:Jm O ts 147 (Ar ts n) n
 sum:Jm O ts 116 (Bm ts (Ar ts n)) n
 subs:∀(a d:Int) (x:Option (Nat × Nat)) (H:AH),0≤a→0≤d→d≤20→BN x→ts.length-a.toNat<n→O 92 [.ptr 0 0,.int .i64 d] (some (.box [AD ts,.int .i64 a,pAV x,.int .i64 (cI x)])::H) =
  some (.slice .unk 4 (Bv ts (Bm ts (Ar ts n)) ⟨a.toNat,d.toNat,x⟩).1.length (CG (Bv ts (Bm ts (Ar ts n)) ⟨a.toNat,d.toNat,x⟩).1),some (.box (rrC ts (Bv ts (Bm ts (Ar ts n)) ⟨a.toNat,d.toNat,x⟩).2.at_ (Bv ts (Bm ts (Ar ts n)) ⟨a.toNat,d.toNat,x⟩).2.err))::H)
theorem lG (ts:List Wd) (sT:ts.length<1000000) {n:Nat} {O:Orc} (X:Cx O zP Ag) (hO:Vp O ts n) (xz:okE (Bm ts (Ar ts n))) (a dd:Nat) (x:Option (Nat × Nat)) (hx:BN x) (hr:dd≤20) (hn:ts.length-a<n+1) {H:AH} {id:Nat} (hH:H.at id=some (.box (rrC ts a x))) :
  CS zP Ag 147 [.ptr id 0,.int .i64 (dd:Int)] H (CX (Ar ts (n+1) ⟨a,dd,x⟩).1) (H.set id (some (.box (rrC ts (Ar ts (n+1) ⟨a,dd,x⟩).2.at_ (Ar ts (n+1) ⟨a,dd,x⟩).2.err)))):=by
 refine CS.rd DI Tryz.func147 (by kernel_rfl) 0 (by simp [Tryz.f147]) (fun B hB hG => ?_) (by simp) (by simp) (Fi _ _ _) (Fi _ _ _) hH;have uK:(dd:Int)≤20:=by omega
 have xw:Ar ts (n+1) ⟨a,dd,x⟩=B1 ts (Bm ts (Ar ts n)) (Ar ts n) ⟨a,dd,x⟩:=rfl;rw [xw];have sl:=fun H=>hO.fail a x a 2 H (by omega) hx (by omega) (by omega)
 simp at sl;refine Tr.goD X hG ?_;cases x with
 |some y =>
  have h1:B1 ts (Bm ts (Ar ts n)) (Ar ts n) ⟨a,dd,some y⟩=(.none,⟨a,dd,some y⟩):=by simp [B1,St.fail]
  have h0:(cI (some y)==0)=false:=by rw [beq_eq_false_iff_ne];intro h;have:=(Hl hx).1 h;cases this
  have h0':¬cI (some y)=0:=fun h=>by have:=(Hl hx).1 h;cases this
  have xY:(cI (some y) != 0)=true:=by simp [bne,h0]
  simp [Tryz.f147,h0,h0',xY,h1,sl]
 |none =>
  by_cases hl:a<ts.length
  ·have hl':(a:Int)<ts.length:=by omega
   have se:¬((ts.length:Int)≤a):=by omega
   obtain ⟨w,hw⟩:∃w,ts[a]? = some w:=⟨_,List.getElem?_eq_getElem hl⟩
   obtain ⟨c0,c1,c3⟩:=Eh hw;obtain ⟨cc1,cc2⟩:=Ki ts a w hw;have w1:IntKind.i64.wrap ((a:Int)+1)=(a:Int)+1:=AZ (by omega) (by omega);have wd:IntKind.i64.wrap ((dd:Int)+1)=(dd:Int)+1:=AZ (by omega) (by omega)
   by_cases uT:w.kind=2
   ·have e2:(w.kind:Int)=2:=by omega
    have h1:B1 ts (Bm ts (Ar ts n)) (Ar ts n) ⟨a,dd,none⟩=(.num w.n,⟨a+1,dd,none⟩):=by simp only [B1,hw,uT];rfl
    simp [Tryz.f147,CH,hl,hl',se,cc1,cc2,BD,e2,w1,h1]
   ·have e2:¬(w.kind:Int)=2:=by omega
    have b2:(w.kind==2)=false:=by rw [beq_eq_false_iff_ne];exact uT
    have h0:0≤(a:Int)+1:=by omega
    by_cases uF:w.kind=1
    ·have e1:(w.kind:Int)=1:=by omega
     cases tD:nextB ts ⟨a+1,0,none⟩ Ah with
     |true =>
      have sq:a+1<ts.length:=FO tD
      have h1:B1 ts (Bm ts (Ar ts n)) (Ar ts n) ⟨a,dd,none⟩=(.elem w.text (Bv ts (Bm ts (Ar ts n)) ⟨a+1+1,dd,none⟩).1,(Bv ts (Bm ts (Ar ts n)) ⟨a+1+1,dd,none⟩).2):=by have vw:nextB ts ⟨a+1,dd,none⟩ Ah=true:=tD;simp [B1,hw,uF,St.step,vw]
      have ht:=fun H=>hO.tookT ((a:Int)+1) none Ah H h0 C1 (by simpa using tD)
      have hsb:=fun H=>hO.subs ((a:Int)+1+1) dd none H (by omega) (by omega) uK C1 (by omega)
      have en:((a:Int)+1+1).toNat=a+1+1:=by omega
      simp [Ah,CH] at ht;rw [h1];simp only [en,Int.toNat_natCast] at hsb;generalize Bv ts (Bm ts (Ar ts n)) ⟨a+1+1,dd,none⟩=p at *;simp [CH] at hsb;simp [Tryz.f147,CH,hl,hl',se,cc1,cc2,BD,e1,w1,ht];refine LpD.turns X hG [4,6] [(0,4),(1,4)] ?_;simp [hsb]
     |false =>
      have h1:B1 ts (Bm ts (Ar ts n)) (Ar ts n) ⟨a,dd,none⟩=(.var w.text,⟨a+1,dd,none⟩):=by have vw:nextB ts ⟨a+1,dd,none⟩ Ah=false:=tD;simp [B1,hw,uF,St.step,vw]
      have ht:=fun H=>hO.tookF ((a:Int)+1) none Ah H h0 C1 (by simpa using tD)
      simp [Ah,CH] at ht;simp [Tryz.f147,CH,hl,hl',se,cc1,cc2,BD,e1,w1,ht,h1]
    ·have e1:¬(w.kind:Int)=1:=by omega
     have b1:(w.kind==1)=false:=by rw [beq_eq_false_iff_ne];exact uF
     have nx:∀s,nextB ts ⟨a,0,none⟩ s=isS ts a s:=fun s=>by simp [nextB]
     have uD:=fun H=>hO.sign a none BY H (by omega) C1
     have uc:=fun H=>hO.sign a none Ah H (by omega) C1
     simp [BY,nx,CH] at uD;simp [Ah,nx,CH] at uc;cases ut:isS ts a BY with
     |true =>
      have wc:=ut;simp [BY] at wc
      by_cases vl:20≤dd
      ·have xG:(20:Int)≤(dd:Int):=by omega
       have h1:B1 ts (Bm ts (Ar ts n)) (Ar ts n) ⟨a,dd,none⟩=(.none,⟨a,dd,some (a,4)⟩):=by simp [B1,hw,b2,b1,ut,vl,St.fail]
       have yq:=fun H=>hO.fail a none a 4 H (by omega) C1 (by omega) (by omega)
       simp [CH] at yq;simp [Tryz.f147,CH,hl,hl',se,cc1,cc2,BD,e2,e1,uD,uc,wc,xG,yq,h1]
      ·have xG:¬(20:Int)≤(dd:Int):=by omega
       have h1:B1 ts (Bm ts (Ar ts n)) (Ar ts n) ⟨a,dd,none⟩=(.neg (Ar ts n ⟨a+1,dd+1,none⟩).1,⟨(Ar ts n ⟨a+1,dd+1,none⟩).2.at_,dd,(Ar ts n ⟨a+1,dd+1,none⟩).2.err⟩):=by simp [B1,hw,b2,b1,ut,vl,D2,St.step]
       have ht:=fun H=>hO.tookT a none BY H (by omega) C1 (by simp [nx,ut])
       have wP:=fun H=>hO.fac ((a:Int)+1) ((dd:Int)+1) none H h0 (by omega) (by omega) C1 (by omega)
       have en:((a:Int)+1).toNat=a+1:=by omega
       have en2:((dd:Int)+1).toNat=dd+1:=by omega
       simp [BY,CH] at ht;rw [h1];simp only [en,en2] at wP;generalize Ar ts n ⟨a+1,dd+1,none⟩=p at *;simp [CH] at wP;simp [Tryz.f147,CH,hl,hl',se,cc1,cc2,BD,e2,e1,uD,uc,wc,xG,ht,wP,wd]
     |false =>
      have wc:=ut;simp [BY] at wc;cases tD:isS ts a Ah with
      |true =>
       have vw:=tD;simp [Ah] at vw
       by_cases vl:20≤dd
       ·have xG:(20:Int)≤(dd:Int):=by omega
        have h1:B1 ts (Bm ts (Ar ts n)) (Ar ts n) ⟨a,dd,none⟩=(.none,⟨a,dd,some (a,4)⟩):=by simp [B1,hw,b2,b1,ut,tD,vl,St.fail]
        have yq:=fun H=>hO.fail a none a 4 H (by omega) C1 (by omega) (by omega)
        simp [CH] at yq;simp [Tryz.f147,CH,hl,hl',se,cc1,cc2,BD,e2,e1,uD,uc,wc,vw,xG,yq,h1]
       ·have xG:¬(20:Int)≤(dd:Int):=by omega
        have h1:B1 ts (Bm ts (Ar ts n)) (Ar ts n) ⟨a,dd,none⟩=((Bm ts (Ar ts n) ⟨a+1,dd+1,none⟩).1,CJ ts ⟨(Bm ts (Ar ts n) ⟨a+1,dd+1,none⟩).2.at_,dd,(Bm ts (Ar ts n) ⟨a+1,dd+1,none⟩).2.err⟩ Ao):=by simp [B1,hw,b2,b1,ut,tD,vl,D2,St.step]
        have ht:=fun H=>hO.tookF a none BY H (by omega) C1 (by simp [nx,ut])
        have wP:=fun H=>hO.sum ((a:Int)+1) ((dd:Int)+1) none H h0 (by omega) (by omega) C1 (by omega)
        have zU:=xz ⟨a+1,dd+1,none⟩ C1;have en:((a:Int)+1).toNat=a+1:=by omega
        have en2:((dd:Int)+1).toNat=dd+1:=by omega
        simp [BY,CH] at ht;rw [h1];simp only [en,en2] at wP;generalize Bm ts (Ar ts n) ⟨a+1,dd+1,none⟩=p at *;obtain ⟨e,⟨q,d2,y⟩⟩:=p;simp [CH] at wP;simp only at zU;have s5:nextB ts ⟨q,dd,y⟩ Ao=nextB ts ⟨q,0,y⟩ Ao:=rfl;cases yr:nextB ts ⟨q,0,y⟩ Ao with
        |true =>
         have vt:=fun H=>hO.tookT q y Ao H (by omega) zU (by simpa using yr)
         simp [Ao] at vt;simp [Tryz.f147,CH,hl,hl',se,cc1,cc2,BD,e2,e1,uD,uc,wc,vw,xG,ht,wP,wd,w1,vt,CJ,s5,yr,St.step]
        |false =>
         have vt:=fun H=>hO.tookF q y Ao H (by omega) zU (by simpa using yr)
         have uh:=fun H=>hO.fail q y q 2 H (by omega) zU (by omega) (by omega)
         simp [Ao] at vt;simp at uh;simp [Tryz.f147,CH,hl,hl',se,cc1,cc2,BD,e2,e1,uD,uc,wc,vw,xG,ht,wP,wd,w1,vt,uh,CJ,s5,yr,Hj]
      |false =>
       have vw:=tD;simp [Ah] at vw;have h1:B1 ts (Bm ts (Ar ts n)) (Ar ts n) ⟨a,dd,none⟩=(.none,⟨a,dd,some (a,2)⟩):=by simp [B1,hw,b2,b1,ut,tD,St.fail]
       simp [CH] at sl;simp [Tryz.f147,CH,hl,hl',se,cc1,cc2,BD,e2,e1,uD,uc,wc,vw,sl,h1]
  ·have hw:ts[a]? = none:=List.getElem?_eq_none (by omega)
   have hl':¬(a:Int)<ts.length:=by omega
   have se:((ts.length:Int)≤a):=by omega
   have h1:B1 ts (Bm ts (Ar ts n)) (Ar ts n) ⟨a,dd,none⟩=(.none,⟨a,dd,some (a,2)⟩):=by simp only [B1,hw];rfl
   simp [CH] at sl;simp [Tryz.f147,CH,h1,sl,hl',se]
theorem Lt {r:St} {p e:Nat} (h:BN r.err) (he:e≠0):BN (r.fail p e).err:=by
 rw [Hj];cases hx:r.err with
 |none=>exact Qm he
 |some y=>rw [hx] at h;exact h
theorem Vq {ts:List Wd} {r:St} {s:List UInt8} (h:BN r.err):BN (CJ ts r s).err:=by
 unfold CJ;split
 ·exact h
 ·exact Lt h (by decide)
theorem Qn {ts:List Wd} {f:Rd} (h:okE f):∀(n:Nat) (a:List Ex) (r:St),BN r.err→BN (Cn ts f n a r).2.err
 |0,_,_,hr=>hr
 |n+1,a,r,hr=>by
  simp only [Cn]
  split
  ·split
   ·exact Lt hr (by decide)
   ·exact Qn h n _ _ (h r.step hr)
  ·exact Vq hr
theorem lH {ts:List Wd} {sf f:Rd} (hs:okE sf) (h:okE f):okE (B1 ts sf f):=by
 intro r hr;unfold B1
 split
 ·rename_i t he ht
  split
  ·exact hr
  ·split
   ·split
    ·exact Qn hs 5 _ _ (hs r.step.step hr)
    ·exact hr
   ·split
    ·split
     ·exact Lt hr (by decide)
     ·split
      ·exact h ⟨r.step.at_,r.step.deep+1,r.step.err⟩ hr
      ·exact Vq (hs ⟨r.step.at_,r.step.deep+1,r.step.err⟩ hr)
    ·exact Lt hr (by decide)
 ·exact Lt hr (by decide)
theorem I0 (ts:List Wd):∀n,okE (Ar ts n)
 |0=>fun _ h=>h
 |n+1=>lH (HD (HD (I0 ts n))) (I0 ts n)
theorem Vr {ts:List Wd} {f:Rd} (h:upw f):∀(n:Nat) (a:List Ex) (r:St),r.at_≤(Cn ts f n a r).2.at_
 |0,_,_=>Nat.le_refl _
 |n+1,a,r=>by
  simp only [Cn]
  split
  ·split
   ·rw [Iu];exact Nat.le_refl _
   ·have h1:=h r.step
    have h2:=Vr h (ts:=ts) n (a++[(f r.step).1]) (f r.step).2;simp only [St.step] at h1 h2 ⊢;omega
  ·exact Nf ts r Ao
theorem lI {ts:List Wd} {sf f:Rd} (hs:upw sf) (h:upw f):upw (B1 ts sf f):=by
 intro r;unfold B1
 split
 ·split
  ·simp [St.step]
  ·split
   ·split
    ·have h1:=hs r.step.step
     have h2:=Vr (ts:=ts) hs 5 [(sf r.step.step).1] (sf r.step.step).2;simp only [Bv,St.step] at h1 h2 ⊢;omega
    ·simp [St.step]
   ·split
    ·split
     ·rw [Iu];exact Nat.le_refl _
     ·split
      ·have:=h ⟨r.step.at_,r.step.deep+1,r.step.err⟩
       simp only [D2,St.step] at this ⊢;omega
      ·have h1:=hs ⟨r.step.at_,r.step.deep+1,r.step.err⟩
       have h2:=Nf ts (D2 sf r.step).2 Ao;simp only [D2,St.step] at h1 h2 ⊢;omega
    ·rw [Iu];exact Nat.le_refl _
 ·rw [Iu];exact Nat.le_refl _
theorem Lu (ts:List Wd):∀n,upw (Ar ts n)
 |0=>fun _=>Nat.le_refl _
 |n+1=>lI (Lq (Lq (Lu ts n))) (Lu ts n)
theorem lJ (ts:List Wd) (n:Nat):∀r,(Ar ts n r).2.deep=r.deep:=(Fd ts n).2.2.2.2
theorem lK (ts:List Wd) (n:Nat):∀r,(Lc ts (Ar ts n) r).2.deep=r.deep:=(KZ (ts:=ts) (f:=ED) (s:=EE) (Fd ts n) (by decide) 7 8).2.2.2.2
theorem Vs (ts:List Wd) (n:Nat):∀r,(Bm ts (Ar ts n) r).2.deep=r.deep:=(In (ts:=ts) (Fd ts n)).2.2.2.2
def Gi (ts:List Wd) (of:Rd) (n:Nat) (rest:List AV) (r:St):Option (AV × St):=match rest with
 |[.int .i64 d]=>if 0≤d∧d≤20∧ts.length-r.at_<n then some (CX (of ⟨r.at_,d.toNat,r.err⟩).1,(of ⟨r.at_,d.toNat,r.err⟩).2) else none
 |_=>none
def E3 (ts:List Wd) (g:FuncId) (of:Rd) (n:Nat):Prop:=AS zP Ag (oRr ts g (Gi ts of n))
theorem E3.mk' {ts:List Wd} {g:FuncId} {of:Rd} {n:Nat} (h:∀(a dd:Nat) (x:Option (Nat × Nat)),BN x→dd≤20→ts.length-a<n→∀H id,H.at id=some (.box (rrC ts a x)) →
  CS zP Ag g [.ptr id 0,.int .i64 (dd:Int)] H (CX (of ⟨a,dd,x⟩).1) (H.set id (some (.box (rrC ts (of ⟨a,dd,x⟩).2.at_ (of ⟨a,dd,x⟩).2.err))))):E3 ts g of n :=
 Lo fun rest r v r' hs h0 hx H id hH=>by
  unfold Gi at hs
  split at hs
  ·rename_i d
   split at hs
   ·rename_i hc
    injection hs with hs;simp only [Prod.mk.injEq] at hs;obtain ⟨rfl,rfl⟩:=hs;have:=h r.at_ d.toNat r.err hx (by omega) hc.2.2 H id hH
    rwa [Int.toNat_of_nonneg hc.1] at this
   ·cases hs
  ·cases hs
theorem Np {ts:List Wd} {g:FuncId} {of:Rd} {n:Nat}:Jm (oRr ts g (Gi ts of n)) ts g of n:=fun a d x H ha hd sk hx hm=>by rw [IH hx (Ko ha)];simp only [Gi,if_pos (And.intro hd (And.intro sk hm)),Option.map_some,List.set_cons_zero]
noncomputable def oTG (ts:List Wd) (g:FuncId) (of:Rd) (n:Nat):Orc:=orElse (oRr ts 120 (EF ts)) (oRr ts g (Gi ts of n))
theorem Vt {ts:List Wd} (sT:ts.length<1000000) {g:FuncId} {of:Rd} {n:Nat} (h:E3 ts g of n):Cx (oTG ts g of n) zP Ag:=⟨AS.orElse (Qh ts sT) h,Dt,Ae⟩
theorem Vu {ts:List Wd} {g:FuncId} {of:Rd} {n:Nat}:Lr (oTG ts g of n) ts where
 tookT:=fun a x s H ha hx hn=>by simp only [oTG,orElse,Qi s H ha hx hn]
 tookF:=fun a x s H ha hx hn=>by simp only [oTG,orElse,Qj s H ha hx hn]
theorem Vv {ts:List Wd} {g:FuncId} {of:Rd} {n:Nat} (hg:g≠120):Jm (oTG ts g of n) ts g of n:=fun a d x H ha hd sk hx hm=>by
 have:=Np (g:=g) (of:=of) (n:=n) a d x H ha hd sk hx hm;have h1:oRr ts 120 (EF ts) g [.ptr 0 0,.int .i64 d] (some (.box [AD ts,.int .i64 a,pAV x,.int .i64 (cI x)])::H)=none:=by simp [oRr,hg]
 simp only [oTG,orElse,h1,this]
theorem lL {ts:List Wd} (sT:ts.length<1000000) {n:Nat} (h:E3 ts 147 (Ar ts n) n):E3 ts 135 (Lc ts (Ar ts n)) n :=E3.mk' fun a dd x hx hr hn H id hH=>lA ts sT (Vt sT h) Vu (Vv (by decide)) (Lu ts n) (lJ ts n) (I0 ts n) a dd x hx hr hn hH
theorem Qo {ts:List Wd} (sT:ts.length<1000000) {n:Nat} (h:E3 ts 147 (Ar ts n) n):E3 ts 116 (Bm ts (Ar ts n)) n :=E3.mk' fun a dd x hx hr hn H id hH=>lC ts sT (Vt sT (lL sT h)) Vu (Vv (by decide)) (Lq (Lu ts n)) (lK ts n) (HD (I0 ts n)) a dd x hx hr hn hH
noncomputable def oSb (ts:List Wd) (n:Nat):Orc:=A5 [(120,oRr ts 120 (EF ts)),(119,oRr ts 119 (E0 ts)),
 (118,oRr ts 118 II),(116,oRr ts 116 (Gi ts (Bm ts (Ar ts n)) n))]
theorem lM {ts:List Wd} (sT:ts.length<1000000) {n:Nat} (h:E3 ts 116 (Bm ts (Ar ts n)) n):Cx (oSb ts n) zP Ag:=⟨FZ (by
 intro p hp;simp only [List.mem_cons,List.not_mem_nil,or_false] at hp;rcases hp with rfl|rfl|rfl|rfl
 ·exact Qh ts sT
 ·exact Qe ts
 ·exact Qf ts
 ·exact h),Dt,Ae⟩
theorem lN (ts:List Wd) (n:Nat):Vo (oSb ts n) ts (Bm ts (Ar ts n)) n where
 tookT:=fun a x s H ha hx hn=>by rw [←Qi s H ha hx hn];simp [oSb,A5,List.lookup]
 tookF:=fun a x s H ha hx hn=>by rw [←Qj s H ha hx hn];simp [oSb,A5,List.lookup]
 sign:=fun a x s H ha hx=>by rw [←Qg s H ha hx];simp [oSb,A5,List.lookup]
 fail:=fun a x p e H ha hx hp he=>by rw [←Vm p e H ha hx hp he];simp [oSb,A5,List.lookup]
 sum:=fun a d x H ha hd sk hx hm=>by rw [←Np (g:=116) (of:=Bm ts (Ar ts n)) (n:=n) a d x H ha hd sk hx hm];simp [oSb,A5,List.lookup]
def Jn (ts:List Wd) (n:Nat) (rest:List AV) (r:St):Option (AV × St):=match rest with
 |[.int .i64 d]=>if 0≤d∧d≤20∧ts.length-r.at_<n then some (.slice .unk 4 (Bv ts (Bm ts (Ar ts n)) ⟨r.at_,d.toNat,r.err⟩).1.length (CG (Bv ts (Bm ts (Ar ts n)) ⟨r.at_,d.toNat,r.err⟩).1),(Bv ts (Bm ts (Ar ts n)) ⟨r.at_,d.toNat,r.err⟩).2) else none
 |_=>none
theorem Vw {ts:List Wd} (sT:ts.length<1000000) {n:Nat} (h:E3 ts 116 (Bm ts (Ar ts n)) n):AS zP Ag (oRr ts 92 (Jn ts n)):=Lo fun rest r v r' hs h0 hx H id hH=>by
 unfold Jn at hs
 split at hs
 ·rename_i d
  split at hs
  ·rename_i hc
   injection hs with hs;simp only [Prod.mk.injEq] at hs;obtain ⟨rfl,rfl⟩:=hs;have:=lF ts sT (lM sT h) (lN ts n) (Lq (Lq (Lu ts n))) (Vs ts n) (HD (HD (I0 ts n))) r.at_ d.toNat r.err hx (by omega) hc.2.2 hH;rw [Int.toNat_of_nonneg hc.1] at this;refine CS.weak this fun g cv hr => ?_
   unfold Iz at hr
   split at hr
   ·rename_i hl
    rw [hl];exact Ls g cv hr
   ·exact hr
  ·cases hs
 ·cases hs
noncomputable def oYf (ts:List Wd) (n:Nat):Orc:=A5 [(120,oRr ts 120 (EF ts)),(119,oRr ts 119 (E0 ts)),
 (118,oRr ts 118 II),(116,oRr ts 116 (Gi ts (Bm ts (Ar ts n)) n)),
 (147,oRr ts 147 (Gi ts (Ar ts n) n)),(92,oRr ts 92 (Jn ts n))]
theorem lO {ts:List Wd} (sT:ts.length<1000000) {n:Nat} (h:E3 ts 147 (Ar ts n) n):Cx (oYf ts n) zP Ag:=⟨FZ (by
 intro p hp;simp only [List.mem_cons,List.not_mem_nil,or_false] at hp;rcases hp with rfl|rfl|rfl|rfl|rfl|rfl
 ·exact Qh ts sT
 ·exact Qe ts
 ·exact Qf ts
 ·exact Qo sT h
 ·exact h
 ·exact Vw sT (Qo sT h)),Dt,Ae⟩
theorem lP (ts:List Wd) (n:Nat):Vp (oYf ts n) ts n where
 tookT:=fun a x s H ha hx hn=>by rw [←Qi s H ha hx hn];simp [oYf,A5,List.lookup]
 tookF:=fun a x s H ha hx hn=>by rw [←Qj s H ha hx hn];simp [oYf,A5,List.lookup]
 sign:=fun a x s H ha hx=>by rw [←Qg s H ha hx];simp [oYf,A5,List.lookup]
 fail:=fun a x p e H ha hx hp he=>by rw [←Vm p e H ha hx hp he];simp [oYf,A5,List.lookup]
 fac:=fun a d x H ha hd sk hx hm=>by rw [←Np (g:=147) (of:=Ar ts n) (n:=n) a d x H ha hd sk hx hm];simp [oYf,A5,List.lookup]
 sum:=fun a d x H ha hd sk hx hm=>by rw [←Np (g:=116) (of:=Bm ts (Ar ts n)) (n:=n) a d x H ha hd sk hx hm];simp [oYf,A5,List.lookup]
 subs:=fun a d x H ha hd sk hx hm=>by
  have e1:oYf ts n 92 [.ptr 0 0,.int .i64 d] (some (.box [AD ts,.int .i64 a,pAV x,.int .i64 (cI x)])::H)=oRr ts 92 (Jn ts n) 92 [.ptr 0 0,.int .i64 d] (some (.box [AD ts,.int .i64 a,pAV x,.int .i64 (cI x)])::H):=by simp [oYf,A5,List.lookup]
  rw [e1,IH hx (Ko ha)];simp only [Jn,if_pos (And.intro hd (And.intro sk hm)),Option.map_some,List.set_cons_zero]
theorem Vx {ts:List Wd} (sT:ts.length<1000000):∀n,E3 ts 147 (Ar ts n) n
 |0=>E3.mk' fun a dd x _ _ hn=>absurd hn (Nat.not_lt_zero _)
 |n+1=>E3.mk' fun a dd x hx hr hn H id hH=>lG ts sT (lO sT (Vx sT n)) (lP ts n) (HD (HD (I0 ts n))) a dd x hx hr hn hH
theorem Qp {ts:List Wd} (sT:ts.length<1000000):E3 ts 116 (Bn ts) (ts.length+1):=Qo sT (Vx sT _)
def DJ (x:Option (Nat × Nat)):AV := .agg [pAV x,.int .i64 (cI x)]
def Lv (x:Ex × Nat × Option (Nat × Nat)):AV := .tup [CX x.1,.int .i64 x.2.1,DJ x.2.2]
theorem Vy {ts:List Wd} {a d:Int} {x:Option (Nat × Nat)} {e0 e1:Option Ent} (H:AH) (ha:0≤a) (hd:0≤d) (sk:d≤20) (hx:BN x) :
  oRr ts 116 (Gi ts (Bn ts) (ts.length+1)) 116 [.ptr 2 0,.int .i64 d] (e0::e1::some (.box [AD ts,.int .i64 a,pAV x,.int .i64 (cI x)])::H) =
   some (CX (Bn ts ⟨a.toNat,d.toNat,x⟩).1,e0::e1::some (.box (rrC ts (Bn ts ⟨a.toNat,d.toNat,x⟩).2.at_ (Bn ts ⟨a.toNat,d.toNat,x⟩).2.err))::H):=by
 have h0:AH.at (e0::e1::some (.box [AD ts,.int .i64 a,pAV x,.int .i64 (cI x)])::H) 2=some (.box (rrC ts (a.toNat:Nat) x)):=by simp [AH.at,Int.toNat_of_nonneg ha]
 rw [IH hx h0];have h2:ts.length-a.toNat<ts.length+1:=by omega
 simp only [Gi,if_pos (And.intro hd (And.intro sk h2)),Option.map_some,List.set_cons_succ,List.set_cons_zero]
@[simp] theorem buRR (ts:List Wd):Ay zP 204 [(0,AD ts)]=some (.agg [AD ts,.int .i64 0,.nilSlice,.int .i64 0]):=by
 unfold AD
 split<;>kernel_rfl
@[simp] theorem buWr:Ay zP 33 []=some (.agg [.nilSlice,.int .i64 0]):=by kernel_rfl
theorem Kq:pAV none = .nilSlice:=AP rfl
theorem lQ (ts:List Wd) (sT:ts.length<1000000) (H:AH):CS zP Ag 93 [AD ts] H (Lv (Ka ts)) H:=by
 have X:Cx (oRr ts 116 (Gi ts (Bn ts) (ts.length+1))) zP Ag:=⟨Qp sT,Dt,Ae⟩
 refine CS.tr0 DI Tryz.func93 (by kernel_rfl) 0 (by simp [Tryz.f93]) (fun B hB hG => ?_) (by simp [Lv,DJ]) (by simp) H;refine Tr.goD X hG ?_;have h1:=fun H e0 e1=>Vy (ts:=ts) (a:=0) (d:=0) (x:=none) (e0:=e0) (e1:=e1) H (by omega) (by omega) (by omega) C1
 have sw:=HD (ts:=ts) (f:=Eg) (s:=BY) (one:=5) (two:=6) (HD (ts:=ts) (f:=ED) (s:=EE) (one:=7) (two:=8) (I0 ts (ts.length+1))) ⟨0,0,none⟩ C1;have xZ:BN (Bn ts ⟨0,0,none⟩).2.err:=sw;clear sw;simp only [Ka];simp [Kq,CH] at h1;generalize Bn ts ⟨0,0,none⟩=p at *;obtain ⟨e,⟨b,d,x⟩⟩:=p;simp only at h1 xZ;cases x with
 |none =>simp [Tryz.f93,h1,CH];refine LpD.turns X hG [6,8] zL3 ?_;simp [Lv,DJ,Kq,CH]
 |some y =>
  have h0:(cI (some y)==0)=false:=by rw [beq_eq_false_iff_ne];intro h;have:=(Hl xZ).1 h;cases this
  have h0':¬cI (some y)=0:=fun h=>by have:=(Hl xZ).1 h;cases this
  have xY:(cI (some y) != 0)=true:=by simp [bne,h0]
  simp [Tryz.f93,h1,h0,h0',xY];refine LpD.turns X hG [5,7] zL0 ?_;simp [Lv,DJ]
def Ek (p:List UInt8→Bool):List (List UInt8)→Nat→Int
 |[],_ => -1
 |s::l,i=>if p s=true then (i:Int) else Ek p l (i+1)
theorem Nq {p:List UInt8→Bool}:∀(l:List (List UInt8)) (i:Nat),(Ek p l i<0)↔∀s∈l,p s=false
 |[],i=>by simp [Ek]
 |s::l,i=>by
  unfold Ek
  by_cases h:p s=true
  ·rw [if_pos h]
   constructor
   ·intro hh;omega
   ·intro hh
    have:=hh s List.mem_cons_self;rw [h] at this;cases this
  ·rw [if_neg h,Nq l (i+1)]
   simp only [List.mem_cons,forall_eq_or_imp];rw [Bool.not_eq_true] at h;simp [h]
def EG:List AV:=Ct.map .str
def IdxI (ts:List Wd) (r:St) (res:Int) (k:Nat) (t:List AV) (H:AH):Prop :=∃i,i+k=6∧Ek (nextB ts r) (Ct.drop i) i=res∧t=mkT 19 [(0,.slice .full 1 6 EG),(1,.func (.func 130) [.ptr 0 0] []),(7,.int .i64 6),(8,.int .i64 (i:Int))]∧H=[some (.box (r.cells ts))]
theorem lR (ts:List Wd) (r:St) {H:AH} {id:Nat} (hH:H.at id=some (.box (r.cells ts))) :
  CS zP Ag 129 [.slice .full 1 6 EG,.func (.func 130) [.ptr id 0] []] H (.int .i64 (Ek (nextB ts r) Ct 0)) (H.set id (some (.box (r.cells ts)))):=by
 have X:Cx (oRd ts 130 (E0 ts)) zP Ag:=⟨NZ ts,Dt,Ae⟩
 have h0:CS zP Ag 129 [.slice .full 1 6 EG,.func (.func 130) [.ptr 0 0] []] [some (.box (r.cells ts))] (.int .i64 (Ek (nextB ts r) Ct 0)) [some (.box (r.cells ts))]:=by
  refine CS.of_Tr (c:=At Tryz.f129) Tryz.func129 (by kernel_rfl) 0 (by simp [Tryz.f129]) (fun B hB hG => ?_) rfl (by simp [St.cells]);refine Tr.goD X hG ?_;simp [Tryz.f129]
  refine LpD.loopN X hG (IdxI ts r (Ek (nextB ts r) Ct 0)) 6 (t':=mkT 19 [(0,.slice .full 1 6 EG),(1,.func (.func 130) [.ptr 0 0] []),(7,.int .i64 6),(8,.int .i64 ((0:Nat):Int))])
   (H':=[some (.box (r.cells ts))]) (AE.mkK 1 (by simp [hB]) (by simp [EG,Ct]) (by simp) (by simp [St.cells])) ⟨0,rfl,rfl,rfl,rfl⟩ ?_
  rintro k t H ⟨i,sa,sV,rfl,rfl⟩;cases k with
  |zero =>
   obtain rfl:i=6:=by omega
   have:Ek (nextB ts r) (Ct.drop 6) 6 = -1:=rfl;rw [←sV,this];simp [Bj]
  |succ k =>
   have hi:i<6:=by omega
   have hi':(i:Int)<6:=by omega
   have hl:Ct.length=6:=rfl;have hd:Ct.drop i=Ct[i]'(by omega)::Ct.drop (i+1):=List.drop_eq_getElem_cons (by omega)
   have hg:EG[i]? = some (.str (Ct[i]'(by omega))):=by unfold EG;rw [List.getElem?_map,List.getElem?_eq_getElem (by omega:i<Ct.length)];rfl
   have s5:=fun H=>Na (ts:=ts) (a:=r.at_) (d:=r.deep) (x:=r.err) (Ct[i]'(by omega)) H (by omega) (by omega)
   simp only [Int.toNat_natCast] at s5;have w1:IntKind.i64.wrap ((i:Int)+1)=(i:Int)+1:=AZ (by omega) (by omega);rw [hd,Ek] at sV;generalize Ct[i]'(by omega)=s at *;cases hn:nextB ts r s with
   |true =>rw [hn] at sV;simp only [if_true] at sV;have hn':nextB ts ⟨r.at_,r.deep,r.err⟩ s=true:=hn;rw [←sV];simp [hi,hi',hg,St.cells,s5,hn']
   |false =>rw [hn] at sV;simp only [Bool.false_eq_true,if_false] at sV;have hn':nextB ts ⟨r.at_,r.deep,r.err⟩ s=false:=hn;simp [hi,hi',hg,St.cells,s5,hn',w1];exact Nxt.mk k (by omega) (AE.mkK 1 (l':=[(0,.slice .full 1 6 EG),(1,.func (.func 130) [.ptr 0 0] []),(7,.int .i64 6),(8,.int .i64 ((i+1:Nat):Int))]) (H':=[some (.box (r.cells ts))]) (by simp [hB]) (by simp [EG,Ct]) (by simp [St.cells]) (by simp [St.cells])) ⟨i+1,by omega,sV,rfl,rfl⟩
 have:=CS.embed (k:=1) (fun _=>id) (H:=H) (H':=H.set id (some (.box (r.cells ts)))) h0 rfl rfl (M6 id) DI (by simp [EG,Ct]) rfl (by simp [St.cells]) (by simp [St.cells])
  (fun i hi=>by
   obtain rfl:i=0:=by omega
   simp [AH.at,AJ,BB _ (r.cells ts) (St.cells_low ts r)]
   exact hH)
  (fun i hi=>by
   obtain rfl:i=0:=by omega
   rw [Hb hH]
   simp [AH.at,AJ,BB _ (r.cells ts) (St.cells_low ts r)])
  (fun j hj=>Dx (hj 0 (by omega)))
 simpa [AN,ren,EG,Ct] using this
open Classical in
noncomputable def oIx (ts:List Wd):Orc:=fun f args H=>if f=129 then (match args with
 |[.slice .full 1 6 l,.func (.func g) [.ptr id 0] []]=>if h:l=EG∧g=130∧∃r:St,H.at id=some (.box (r.cells ts)) then some (.int .i64 (Ek (nextB ts h.2.2.choose) Ct 0),H.set id (some (.box (h.2.2.choose.cells ts)))) else none
 |_=>none) else none
theorem lS {ts:List Wd} {id:Nat} {H:AH} {r:St} (h:H.at id=some (.box (r.cells ts))) :
  oIx ts 129 [.slice .full 1 6 EG,.func (.func 130) [.ptr id 0] []] H=some (.int .i64 (Ek (nextB ts r) Ct 0),H.set id (some (.box (r.cells ts)))):=by
 have hx:∃r:St,H.at id=some (.box (r.cells ts)):=⟨r,h⟩
 have hh:EG=EG∧130=130∧∃r:St,H.at id=some (.box (r.cells ts)):=⟨rfl,rfl,hx⟩
 have hc:=h.symm.trans hh.2.2.choose_spec;simp only [Option.some.injEq,Ent.box.injEq] at hc;have he:hh.2.2.choose=r:=(St.cells_inj hc).symm;simp only [oIx,if_true,dif_pos hh];rw [he]
theorem lU (ts:List Wd):AS zP Ag (oIx ts):=by
 intro f args H v H' ho;unfold oIx at ho
 split at ho
 ·rename_i hf
  subst hf
  split at ho
  ·split at ho
   ·rename_i l g id hx
    injection ho with ho;simp only [Prod.mk.injEq] at ho;obtain ⟨rfl,rfl⟩:=ho;have hs:=hx.2.2.choose_spec;obtain ⟨rfl,rfl,_⟩:=hx;exact ⟨lR ts _ hs,by simp,fun j _ hj=>NY hs hj⟩
   ·cases ho
  ·cases ho
 ·cases ho
theorem Vz {ts:List Wd} {a d:Int} {x:Option (Nat × Nat)} {e0:Option Ent} {H:AH} (ha:0≤a) (hd:0≤d):AH.at (e0::some (.box [AD ts,.int .i64 a,.int .i64 d,eAV x])::H) 1=some (.box ((⟨a.toNat,d.toNat,x⟩:St).cells ts)):=by simp [AH.at,St.cells,Int.toNat_of_nonneg ha,Int.toNat_of_nonneg hd]
noncomputable def oPC (ts:List Wd):Orc:=A5 [(128,oRd ts 128 (HB ts (CC ts) (ts.length+1))),(129,oIx ts),(131,oRd ts 131 GB)]
theorem lV {ts:List Wd} (sT:ts.length<1000000):Cx (oPC ts) zP Ag:=⟨FZ (by
 intro p hp;simp only [List.mem_cons,List.not_mem_nil,or_false] at hp;rcases hp with rfl|rfl|rfl
 ·exact Vd sT
 ·exact lU ts
 ·exact Kk ts),Dt,Ae⟩
theorem Nr {ts:List Wd} {a d:Int} {x:Option (Nat × Nat)} {e0:Option Ent} (H:AH) (ha:0≤a) (hd:0≤d) (sk:d≤20) :
  oPC ts 128 [.ptr 1 0] (e0::some (.box [AD ts,.int .i64 a,.int .i64 d,eAV x])::H)=some (CX (CC ts ⟨a.toNat,d.toNat,x⟩).1,e0::some (.box ((CC ts ⟨a.toNat,d.toNat,x⟩).2.cells ts))::H):=by
 rw [←Ve H ha hd sk];simp [oPC,A5,List.lookup]
theorem lW {ts:List Wd} {a d:Int} {x:Option (Nat × Nat)} {e0:Option Ent} (H:AH) (ha:0≤a) (hd:0≤d) :
  oPC ts 129 [.slice .full 1 6 EG,.func (.func 130) [.ptr 1 0] []] (e0::some (.box [AD ts,.int .i64 a,.int .i64 d,eAV x])::H) =
   some (.int .i64 (Ek (nextB ts ⟨a.toNat,d.toNat,x⟩) Ct 0),e0::some (.box [AD ts,.int .i64 a,.int .i64 d,eAV x])::H):=by
 have e1:oPC ts 129 [.slice .full 1 6 EG,.func (.func 130) [.ptr 1 0] []] (e0::some (.box [AD ts,.int .i64 a,.int .i64 d,eAV x])::H)=oIx ts 129 [.slice .full 1 6 EG,.func (.func 130) [.ptr 1 0] []] (e0::some (.box [AD ts,.int .i64 a,.int .i64 d,eAV x])::H):=by simp [oPC,A5,List.lookup]
 rw [e1,lS (Vz ha hd)];simp [St.cells,Int.toNat_of_nonneg ha,Int.toNat_of_nonneg hd]
theorem lX {ts:List Wd} {a d:Int} {x:Option (Nat × Nat)} {e0:Option Ent} (p e:Int) (H:AH) (ha:0≤a) (hd:0≤d) (hp:0≤p) (he:0≤e) :
  oPC ts 131 [.ptr 1 0,.int .i64 p,.int .i64 e] (e0::some (.box [AD ts,.int .i64 a,.int .i64 d,eAV x])::H) =
   some (.tup [],e0::some (.box [AD ts,.int .i64 a,.int .i64 d,eAV (some (x.getD (p.toNat,e.toNat)))])::H):=by
 have e1:oPC ts 131 [.ptr 1 0,.int .i64 p,.int .i64 e] (e0::some (.box [AD ts,.int .i64 a,.int .i64 d,eAV x])::H)=oRd ts 131 GB 131 [.ptr 1 0,.int .i64 p,.int .i64 e] (e0::some (.box [AD ts,.int .i64 a,.int .i64 d,eAV x])::H):=by simp [oPC,A5,List.lookup]
 rw [e1,IF (Vz ha hd)];simp [GB,Hj,St.cells,Int.toNat_of_nonneg ha,Int.toNat_of_nonneg hd,hp,he]
def E4 (c:List UInt8 × Ex × Ex):AV := .agg (.str c.1::(exC c.2.1++exC c.2.2))
def Jo (x:(List UInt8 × Ex × Ex) × Nat × Option (Nat × Nat)):AV := .tup [E4 x.1,.int .i64 x.2.1,eAV x.2.2]
@[simp] theorem buC0:Ay zP 45 []=some (.agg [.str [],.int .i64 0,.int .i64 0,.str [],.nilSlice,.int .i64 0,.int .i64 0,.str [],.nilSlice]):=by kernel_rfl
@[simp] theorem buC1 (a b c d:AV):Ay zP 45 [(1,.agg [a,b,c,d])]=some (.agg [.str [],a,b,c,d,.int .i64 0,.int .i64 0,.str [],.nilSlice]):=by kernel_rfl
@[simp] theorem bsRel:Cr zP 25 6 [(0,.str [60]),(1,.str [60,61]),(2,.str [62]),(3,.str [62,61]),(4,.str [61,61]),(5,.str [47,61])]=some (.slice .full 1 6 [.str [60],.str [60,61],.str [62],.str [62,61],.str [61,61],.str [47,61]]):=by kernel_rfl
theorem lY (ts:List Wd) (b d:Nat):(∃w,ts[b]? = some w∧Ek (nextB ts ⟨b,d,none⟩) Ct 0≥0∧Cf ts ⟨b,d,none⟩=(w.text,⟨b+1,d,none⟩)) ∨
  (Ek (nextB ts ⟨b,d,none⟩) Ct 0<0∧Cf ts ⟨b,d,none⟩=([],⟨b,d,some (b,2)⟩)):=by
 have nx:∀s,nextB ts ⟨b,d,none⟩ s=isS ts b s:=fun s=>by simp [nextB]
 cases hw:ts[b]? with
 |none =>right;refine ⟨(Nq _ _).2 fun s _=>by rw [nx];simp [isS,hw],?_⟩;simp [Cf,hw,St.fail]
 |some w =>
  by_cases hr:(w.kind==3&&F8 w.text)=true
  ·left
   refine ⟨w,rfl,?_,?_⟩
   ·rcases Int.lt_or_le (Ek (nextB ts ⟨b,d,none⟩) Ct 0) 0 with h|h
    ·have h1:=(Nq _ _).1 h
     simp only [Bool.and_eq_true,F8,List.contains_iff_mem] at hr;have h2:=h1 w.text hr.2;rw [nx] at h2;simp [isS,hw,hr.1] at h2
    ·exact h
   ·simp [Cf,hw,hr,St.step]
  ·right
   refine ⟨(Nq _ _).2 fun s hs => ?_,?_⟩
   ·rw [nx]
    simp only [isS,hw];rw [Bool.eq_false_iff];intro hh;apply hr;simp only [Bool.and_eq_true,beq_iff_eq] at hh ⊢;refine ⟨hh.1,?_⟩;rw [hh.2];simpa [F8] using hs
   ·rw [Bool.not_eq_true] at hr
    simp [Cf,hw,hr,St.fail]
theorem lZ (ts:List Wd):∀r,(CC ts r).2.deep=r.deep:=QT ts _
theorem la (ts:List Wd) (sT:ts.length<1000000) (H:AH):CS zP Ag 106 [AD ts] H (Jo (CK ts)) H:=by
 have X:=lV sT;refine CS.tr0 DI Tryz.func106 (by kernel_rfl) 0 (by simp [Tryz.f106]) (fun B hB hG => ?_) (by simp [Jo,E4]) (by simp) H;refine Tr.goD X hG ?_;have h1:=fun H e0=>Nr (ts:=ts) (a:=0) (d:=0) (x:=none) (e0:=e0) H (by omega) (by omega) (by omega)
 have uN:=lZ ts ⟨0,0,none⟩;simp only [CK];simp [St.cells,Lj] at h1;generalize CC ts ⟨0,0,none⟩=p at *;obtain ⟨e,⟨b,d,x⟩⟩:=p;simp only at h1 uN;subst uN;cases x with
 |some y =>
  have h2:=fun H e0=>Nr (ts:=ts) (a:=b) (d:=0) (x:=some y) (e0:=e0) H (by omega) (by omega) (by omega)
  have hk:(CC ts ⟨b,0,some y⟩).2.err=some y:=(In (ts:=ts) (Fd ts (ts.length+1))).2.1 _ _ rfl;simp [St.cells] at h2;have uv:Cf ts ⟨b,0,some y⟩=([],⟨b,0,some y⟩):=rfl;rw [uv];simp only;generalize CC ts ⟨b,0,some y⟩=p2 at *;obtain ⟨e2,⟨b2,d2,x2⟩⟩:=p2;simp only at h2 hk;subst hk;simp [Tryz.f106,h1,h2];refine LpD.turns X hG [5] zL0 ?_;simp [Jo,E4]
 |none =>
  have zV:=fun H e0=>lW (ts:=ts) (a:=b) (d:=0) (x:=none) (e0:=e0) H (by omega) (by omega)
  simp [EG] at zV;have zCL:List.map AV.str Ct=[.str [60],.str [60,61],.str [62],.str [62,61],.str [61,61],.str [47,61]]:=rfl;rw [zCL] at zV;rcases lY ts b 0 with ⟨w,hw,wR,uv⟩|⟨sd,uv⟩
  ·have hl:b<ts.length:=(List.getElem?_eq_some_iff.1 hw).1
   have hl':(b:Int)<ts.length:=by omega
   obtain ⟨c0,c1,c3⟩:=Eh hw;have w1:IntKind.i64.wrap ((b:Int)+1)=(b:Int)+1:=AZ (by omega) (by omega);have zCM:¬Ek (nextB ts ⟨b,0,none⟩) Ct 0<0:=by omega
   have h2:=fun H e0=>Nr (ts:=ts) (a:=(b:Int)+1) (d:=0) (x:=none) (e0:=e0) H (by omega) (by omega) (by omega)
   have en:((b:Int)+1).toNat=b+1:=by omega
   simp only [en] at h2;rw [uv];simp only;simp [St.cells] at h2;generalize CC ts ⟨b+1,0,none⟩=p2 at *;obtain ⟨e2,⟨b2,d2,x2⟩⟩:=p2;simp only at h2;simp [Tryz.f106,h1,zV,zCM];refine LpD.turns X hG [12] [] ?_;simp [hl,hl',c1];cases x2 with
   |none =>simp [w1,h2];refine LpD.turns X hG [5] zL0 ?_;simp [Jo,E4,Lj]
   |some y =>simp [w1,h2];refine LpD.turns X hG [5] zL0 ?_;simp [Jo,E4]
  ·have sl:=fun H e0=>lX (ts:=ts) (a:=b) (d:=0) (x:=none) (e0:=e0) b 2 H (by omega) (by omega) (by omega) (by omega)
   simp at sl;have h2:=fun H e0=>Nr (ts:=ts) (a:=b) (d:=0) (x:=some (b,2)) (e0:=e0) H (by omega) (by omega) (by omega)
   have hk:(CC ts ⟨b,0,some (b,2)⟩).2.err=some (b,2):=(In (ts:=ts) (Fd ts (ts.length+1))).2.1 _ _ rfl;simp [St.cells] at h2;rw [uv];simp only;generalize CC ts ⟨b,0,some (b,2)⟩=p2 at *;obtain ⟨e2,⟨b2,d2,x2⟩⟩:=p2;simp only at h2 hk;subst hk;simp [Tryz.f106,h1,zV,sd,sl,h2];refine LpD.turns X hG [5] zL0 ?_;simp [Jo,E4]
theorem lb {s:List UInt8} (h:F8 s=false):(s==[60])=false∧(s==[60,61])=false∧(s==[62])=false∧(s==[62,61])=false∧(s==[61,61])=false∧(s==[47,61])=false:=by simpa [F8,Ct] using h
theorem lc {s:List UInt8} (h:F8 s=true):s=[60]∨s=[60,61]∨s=[62]∨s=[62,61]∨s=[61,61]∨s=[47,61]:=by simpa [F8,Ct] using h
theorem ld (s:List UInt8) (H:AH):CS zP Ag 117 [.str s] H (.bool (F8 s)) H:=by
 refine CS.tr0 DI Tryz.func117 (by kernel_rfl) 0 (by simp [Tryz.f117]) (fun B hB hG => ?_) rfl rfl H;refine Tr.goD Kh hG ?_;cases h:F8 s with
 |true =>rcases lc h with rfl|rfl|rfl|rfl|rfl|rfl<;>simp [Tryz.f117]
 |false =>obtain ⟨h1,h2,h3,h4,h5,h6⟩:=lb h;simp [Tryz.f117,h1,h2,h3,h4,h5,h6]
def Qq:Orc:=B5 117 (fun args=>match args with
 |[.str s]=>some s
 |_=>none) fun s => .bool (F8 s)
theorem lg:AS zP Ag Qq:=EK fun args x H h=>by
 split at h
 ·injection h with h
  subst h;exact ld _ H
 ·cases h
theorem lh {ts:List Wd} {a:Int} {x:Option (Nat × Nat)} {e0 e1:Option Ent} {H:AH} (ha:0≤a):AH.at (e0::e1::some (.box [AD ts,.int .i64 a,pAV x,.int .i64 (cI x)])::H) 2=some (.box (rrC ts (a.toNat:Nat) x)):=by simp [AH.at,Int.toNat_of_nonneg ha]
noncomputable def oYC (ts:List Wd):Orc:=A5 [(116,oRr ts 116 (Gi ts (Bn ts) (ts.length+1))),(117,Qq),(118,oRr ts 118 II)]
theorem li {ts:List Wd} (sT:ts.length<1000000):Cx (oYC ts) zP Ag:=⟨FZ (by
 intro p hp;simp only [List.mem_cons,List.not_mem_nil,or_false] at hp;rcases hp with rfl|rfl|rfl
 ·exact Qp sT
 ·exact lg
 ·exact Qf ts),Dt,Ae⟩
theorem V0 {ts:List Wd} {a d:Int} {x:Option (Nat × Nat)} {e0 e1:Option Ent} (H:AH) (ha:0≤a) (hd:0≤d) (sk:d≤20) (hx:BN x) :
  oYC ts 116 [.ptr 2 0,.int .i64 d] (e0::e1::some (.box [AD ts,.int .i64 a,pAV x,.int .i64 (cI x)])::H) =
   some (CX (Bn ts ⟨a.toNat,d.toNat,x⟩).1,e0::e1::some (.box (rrC ts (Bn ts ⟨a.toNat,d.toNat,x⟩).2.at_ (Bn ts ⟨a.toNat,d.toNat,x⟩).2.err))::H):=by
 rw [←Vy H ha hd sk hx];simp [oYC,A5,List.lookup]
theorem Qr {ts:List Wd} (s:List UInt8) (H:AH):oYC ts 117 [.str s] H=some (.bool (F8 s),H):=by simp [oYC,A5,List.lookup,Qq,B5]
theorem lj {ts:List Wd} {a:Int} {x:Option (Nat × Nat)} {e0 e1:Option Ent} (p e:Int) (H:AH) (ha:0≤a) (hx:BN x) (hp:0≤p) (he:0≤e) :
  oYC ts 118 [.ptr 2 0,.int .i64 p,.int .i64 e] (e0::e1::some (.box [AD ts,.int .i64 a,pAV x,.int .i64 (cI x)])::H) =
   some (.tup [],e0::e1::some (.box [AD ts,.int .i64 a,pAV (some (x.getD (p.toNat,e.toNat))),.int .i64 (cI (some (x.getD (p.toNat,e.toNat))))])::H):=by
 have e2:oYC ts 118 [.ptr 2 0,.int .i64 p,.int .i64 e] (e0::e1::some (.box [AD ts,.int .i64 a,pAV x,.int .i64 (cI x)])::H)=oRr ts 118 II 118 [.ptr 2 0,.int .i64 p,.int .i64 e] (e0::e1::some (.box [AD ts,.int .i64 a,pAV x,.int .i64 (cI x)])::H):=by simp [oYC,A5,List.lookup]
 rw [e2,IH hx (lh ha)];simp [II,hp,he,Int.toNat_of_nonneg ha]
def IJ (x:(List UInt8 × Ex × Ex) × Nat × Option (Nat × Nat)):AV := .tup [E4 x.1,.int .i64 x.2.1,DJ x.2.2]
@[simp] theorem buD0:Ay zP 57 []=some (.agg [.str [],.int .i64 0,.int .i64 0,.str [],.nilSlice,.int .i64 0,.int .i64 0,.str [],.nilSlice]):=by kernel_rfl
@[simp] theorem buD1 (a b c d:AV):Ay zP 57 [(1,.agg [a,b,c,d])]=some (.agg [.str [],a,b,c,d,.int .i64 0,.int .i64 0,.str [],.nilSlice]):=by kernel_rfl
theorem lk (ts:List Wd):∀r,(Bn ts r).2.deep=r.deep:=Vs ts _
theorem Jp (ts:List Wd):okE (Bn ts):=HD (HD (I0 ts _))
theorem ll (ts:List Wd) (sT:ts.length<1000000) (H:AH):CS zP Ag 89 [AD ts] H (IJ (Ld ts)) H:=by
 have X:=li sT;refine CS.tr0 DI Tryz.func89 (by kernel_rfl) 0 (by simp [Tryz.f89]) (fun B hB hG => ?_) (by simp [IJ,E4,DJ]) (by simp) H;refine Tr.goD X hG ?_;have h1:=fun H e0 e1=>V0 (ts:=ts) (a:=0) (d:=0) (x:=none) (e0:=e0) (e1:=e1) H (by omega) (by omega) (by omega) C1
 have uN:=lk ts ⟨0,0,none⟩;have xZ:=Jp ts ⟨0,0,none⟩ C1;simp only [Ld];simp [Kq,CH] at h1;generalize Bn ts ⟨0,0,none⟩=p at *;obtain ⟨e,⟨b,d,x⟩⟩:=p;simp only at h1 uN xZ;subst uN;cases x with
 |some y =>
  have h0:(cI (some y)==0)=false:=by rw [beq_eq_false_iff_ne];intro h;have:=(Hl xZ).1 h;cases this
  have h0':¬cI (some y)=0:=fun h=>by have:=(Hl xZ).1 h;cases this
  have xY:(cI (some y) != 0)=true:=by simp [bne,h0]
  have uv:Cf ts ⟨b,0,some y⟩=([],⟨b,0,some y⟩):=rfl;rw [uv];simp only;simp [Tryz.f89,h1,h0,h0',xY];refine LpD.turns X hG [5,7] zL0 ?_;simp [IJ,E4,DJ]
 |none =>
  have sl:=fun H e0 e1=>lj (ts:=ts) (a:=b) (x:=none) (e0:=e0) (e1:=e1) b 2 H (by omega) C1 (by omega) (by omega)
  simp [CH] at sl;have c2:cI (some (b,2))=2:=rfl
  by_cases hl:b<ts.length
  ·have hl':(b:Int)<ts.length:=by omega
   have se:¬((ts.length:Int)≤b):=by omega
   obtain ⟨w,hw⟩:∃w,ts[b]? = some w:=⟨_,List.getElem?_eq_getElem hl⟩
   obtain ⟨c0,c1,c3⟩:=Eh hw
   by_cases hk:w.kind=3
   ·have hk':(w.kind:Int)=3:=by omega
    cases yu:F8 w.text with
    |true =>
     have uv:Cf ts ⟨b,0,none⟩=(w.text,⟨b+1,0,none⟩):=by simp [Cf,hw,hk,yu,St.step]
     have w1:IntKind.i64.wrap ((b:Int)+1)=(b:Int)+1:=AZ (by omega) (by omega);have h2:=fun H e0 e1=>V0 (ts:=ts) (a:=(b:Int)+1) (d:=0) (x:=none) (e0:=e0) (e1:=e1) H (by omega) (by omega) (by omega) C1
     have xq:=Jp ts ⟨b+1,0,none⟩ C1;have en:((b:Int)+1).toNat=b+1:=by omega
     simp only [en] at h2;rw [uv];simp only;simp [CH] at h2;generalize Bn ts ⟨b+1,0,none⟩=p2 at *;obtain ⟨e2,⟨b2,d2,x2⟩⟩:=p2;simp only at h2 xq;cases x2 with
     |none =>simp [Tryz.f89,h1,CH,hl,hl',se,c0,c1,hk',Qr,yu,w1,h2];refine LpD.turns X hG [6,8] zL3 ?_;simp [IJ,E4,DJ,Kq,CH]
     |some y =>
      have h0:(cI (some y)==0)=false:=by rw [beq_eq_false_iff_ne];intro h;have:=(Hl xq).1 h;cases this
      have h0':¬cI (some y)=0:=fun h=>by have:=(Hl xq).1 h;cases this
      have xY:(cI (some y) != 0)=true:=by simp [bne,h0]
      simp [Tryz.f89,h1,CH,hl,hl',se,c0,c1,hk',Qr,yu,w1,h2,h0,h0',xY];refine LpD.turns X hG [5,7] zL0 ?_;simp [IJ,E4,DJ]
    |false =>
     have uv:Cf ts ⟨b,0,none⟩=([],⟨b,0,some (b,2)⟩):=by simp [Cf,hw,hk,yu,St.fail]
     rw [uv];simp only;simp [Tryz.f89,h1,CH,hl,hl',se,c0,c1,hk',Qr,yu,sl,c2];refine LpD.turns X hG [5,7] zL0 ?_;simp [IJ,E4,DJ,c2]
   ·have hk':((w.kind:Int)==3)=false:=by rw [beq_eq_false_iff_ne];omega
    have uT:¬(w.kind:Int)=3:=by omega
    have uU:((w.kind:Int) != 3)=true:=by simp [bne,hk']
    have uv:Cf ts ⟨b,0,none⟩=([],⟨b,0,some (b,2)⟩):=by simp [Cf,hw,hk,St.fail]
    rw [uv];simp only;simp [Tryz.f89,h1,CH,hl,hl',se,c0,c1,hk',uT,uU,sl,c2];refine LpD.turns X hG [5,7] zL0 ?_;simp [IJ,E4,DJ,c2]
  ·have hw:ts[b]? = none:=List.getElem?_eq_none (by omega)
   have hl':¬(b:Int)<ts.length:=by omega
   have se:((ts.length:Int)≤b):=by omega
   have uv:Cf ts ⟨b,0,none⟩=([],⟨b,0,some (b,2)⟩):=by simp [Cf,hw,St.fail]
   rw [uv];simp only;simp [Tryz.f89,h1,CH,hl',se,sl,c2];refine LpD.turns X hG [5,7] zL0 ?_;simp [IJ,E4,DJ,c2]
inductive Tn where
 |lf (k n:Int) (s:List UInt8)
 |nd (k n:Int) (s:List UInt8) (a:List Tn)
 deriving Inhabited
mutual
def tC:Tn→List AV
 |.lf k n s=>[.int .i64 k,.int .i64 n,.str s,.nilSlice]
 |.nd k n s a=>[.int .i64 k,.int .i64 n,.str s,.slice .unk 4 a.length (tsC a)]
def tsC:List Tn→List AV
 |[]=>[]
 |t::l=>tC t++tsC l
end
def Tn.k:Tn→Int
 |.lf k _ _=>k
 |.nd k _ _ _=>k
def Tn.n:Tn→Int
 |.lf _ n _=>n
 |.nd _ n _ _=>n
def Tn.s:Tn→List UInt8
 |.lf _ _ s=>s
 |.nd _ _ s _=>s
def Tn.kids:Tn→List Tn
 |.lf _ _ _=>[]
 |.nd _ _ _ a=>a
def Tn.ar (t:Tn):AV:=(tC t).getD 3 .undef
@[simp] theorem CY (t:Tn):tC t=[.int .i64 t.k,.int .i64 t.n,.str t.s,t.ar]:=by cases t<;>rfl
theorem Qs:∀a b:List Tn,tsC (a++b)=tsC a++tsC b
 |[],b=>rfl
 |t::a,b=>by rw [List.cons_append,tsC,tsC,Qs a b,List.append_assoc]
mutual
theorem V1:∀t:Tn,lowL 0 (tC t)=true
 |.lf _ _ _=>rfl
 |.nd _ _ _ a=>by rw [tC];have:=Kr a;simp [this]
theorem Kr:∀l:List Tn,lowL 0 (tsC l)=true
 |[]=>rfl
 |t::l=>by rw [tsC,EC,V1 t,Kr l];rfl
end
@[simp ↓ high] theorem lm (t:Tn):low 0 t.ar=true:=by have:=V1 t;rw [CY] at this;simpa using this
@[simp ↓ high] theorem q9 (m:Nat) (t:Tn):low m t.ar=true:=Nc m (lm t)
@[simp ↓ high] theorem rB (t:Tn):Bh t.ar=[]:=by cases t<;>rfl
@[simp ↓ high] theorem rD (t:Tn):t.ar.known=true:=by cases t<;>rfl
@[simp ↓ high] theorem rE (t:Tn):t.ar.one=true:=by cases t<;>rfl
@[simp ↓ high] theorem rF (t:Tn):Aw t.ar=[t.ar]:=by cases t<;>rfl
theorem Lw:∀l:List Tn,(tsC l).length=l.length*4
 |[]=>rfl
 |t::l=>by rw [tsC,List.length_append,Lw l,CY];simp;omega
theorem Ns:∀(l:List Tn) (i:Nat) {t:Tn},l[i]? = some t→((tsC l).drop (i*4)).take 4=tC t∧i*4+4≤(tsC l).length
 |[],i,t,h=>by simp at h
 |x::l,i,t,h=>by
  have hc:tsC (x::l)=tC x++tsC l:=rfl;have hx:(tC x).length=4:=by simp
  cases i with
  |zero =>simp only [List.getElem?_cons_zero,Option.some.injEq] at h;subst h;rw [hc];refine ⟨?_,by rw [List.length_append,hx];omega⟩;rw [Nat.zero_mul,List.drop_zero,List.take_append_of_le_length (by omega),List.take_of_length_le (by omega)]
  |succ i =>simp only [List.getElem?_cons_succ] at h;obtain ⟨h1,h2⟩:=Ns l i h;rw [hc];refine ⟨?_,by simp only [List.length_append,hx];omega⟩;rw [List.drop_append,List.drop_of_length_le (by omega),hx,List.nil_append,show (i+1)*4-4=i*4 by omega];exact h1
mutual
theorem Ks:∀(t u:Tn),tC t=tC u→t=u
 |.lf _ _ _,.lf _ _ _,h=>by simp only [tC,List.cons.injEq,AV.int.injEq,AV.str.injEq,true_and,and_true] at h;obtain ⟨rfl,rfl,rfl⟩:=h;rfl
 |.lf _ _ _,.nd _ _ _ _,h=>by simp [tC] at h
 |.nd _ _ _ _,.lf _ _ _,h=>by simp [tC] at h
 |.nd _ _ _ a,.nd _ _ _ b,h=>by simp only [tC,List.cons.injEq,AV.int.injEq,AV.str.injEq,AV.slice.injEq,true_and,and_true] at h;obtain ⟨rfl,rfl,rfl,_,h⟩:=h;rw [V2 a b h]
theorem V2:∀(a b:List Tn),tsC a=tsC b→a=b
 |[],[],_=>rfl
 |[],t::b,h=>by rw [tsC,tsC,CY] at h;simp at h
 |t::a,[],h=>by rw [tsC,tsC,CY] at h;simp at h
 |t::a,u::b,h=>by rw [tsC,tsC] at h;have:=List.append_inj h (by simp);rw [Ks t u this.1,V2 a b this.2]
end
mutual
def okT:Tn→Bool
 |.lf _ _ _=>true
 |.nd _ _ _ a=>decide (a.length<4294967296)&&C2 a
def C2:List Tn→Bool
 |[]=>true
 |t::l=>okT t&&C2 l
end
theorem V3:∀{l:List Tn},C2 l=true→∀t∈l,okT t=true
 |[],_,_,h=>by cases h
 |u::l,h,t,ht=>by
  simp only [C2,Bool.and_eq_true] at h;rcases List.mem_cons.1 ht with rfl|ht
  ·exact h.1
  ·exact V3 h.2 t ht
theorem V4 {t:Tn} (h:okT t=true):t.kids.length<4294967296:=by
 cases t with
 |lf=>simp [Tn.kids]
 |nd k n s a=>simp only [okT,Bool.and_eq_true,decide_eq_true_eq] at h;exact h.1
theorem V5 {t u:Tn} (h:okT t=true) (hu:u∈t.kids):okT u=true:=by
 cases t with
 |lf=>simp [Tn.kids] at hu
 |nd k n s a=>simp only [okT,Bool.and_eq_true,decide_eq_true_eq] at h;exact V3 h.2 u hu
theorem Qt {t u:Tn} (hu:u∈t.kids):SizeOf.sizeOf u<SizeOf.sizeOf t:=by
 cases t with
 |lf=>simp [Tn.kids] at hu
 |nd k n s a =>have:=List.sizeOf_lt_of_mem (show u∈a from hu);simp only [Tn.nd.sizeOf_spec];omega
@[simp high] theorem rG (t:Tn):alen zP 41 t.ar=some (.int .i64 t.kids.length):=by cases t<;>simp [Tn.ar,tC,Tn.kids,alen]
@[simp high] theorem rH (t:Tn):alen zP 53 t.ar=some (.int .i64 t.kids.length):=by cases t<;>simp [Tn.ar,tC,Tn.kids,alen]
@[simp high] theorem rI {t:Tn} {i:Nat} (h:i<t.kids.length):Au zP 41 t.ar (.int .i64 (i:Int))=some (.vptr (tsC t.kids) (i*4)):=by
 cases t with
 |lf=>simp [Tn.kids] at h
 |nd k n s a =>
  have h':i<a.length:=h;have:(i:Int)<a.length:=by omega
  simp [Tn.ar,tC,Tn.kids,Au,h',this]
@[simp high] theorem rJ {t:Tn} {i:Nat} (h:i<t.kids.length):Au zP 53 t.ar (.int .i64 (i:Int))=some (.vptr (tsC t.kids) (i*4)):=by
 cases t with
 |lf=>simp [Tn.kids] at h
 |nd k n s a =>
  have h':i<a.length:=h;have:(i:Int)<a.length:=by omega
  simp [Tn.ar,tC,Tn.kids,Au,h',this]
open Classical in
noncomputable def oTn (f0:FuncId) (S:Tn→Prop) (out:Tn→AV):Orc:=fun f args H=>if h:f=f0∧∃t,S t∧args=[.agg (tC t)] then some (out h.2.choose,H) else none
theorem ln {f0:FuncId} {S:Tn→Prop} {out:Tn→AV} {t:Tn} (h:S t) (H:AH):oTn f0 S out f0 [.agg (tC t)] H=some (out t,H):=by
 have hh:f0=f0∧∃u,S u∧[AV.agg (tC t)]=[.agg (tC u)]:=⟨rfl,t,h,rfl⟩
 have hc:=hh.2.choose_spec.2;injection hc with hc _;injection hc with hc;have he:hh.2.choose=t:=(Ks _ _ hc).symm;simp only [oTn,dif_pos hh];rw [he]
theorem lp {E:Env} {f0:FuncId} {S:Tn→Prop} {out:Tn→AV} (h:∀t,S t→∀H,CS zP E f0 [.agg (tC t)] H (out t) H):AS zP E (oTn f0 S out):=by
 intro f args H v H' ho;unfold oTn at ho
 split at ho
 ·rename_i hx
  injection ho with ho;simp only [Prod.mk.injEq] at ho;obtain ⟨rfl,rfl⟩:=ho;have hs:=hx.2.choose_spec;generalize hx.2.choose=u at *;obtain ⟨rfl,_⟩:=hx;rw [hs.2];exact ⟨h _ hs.1 _,Nat.le_refl _,fun _ _ h=>h⟩
 ·cases ho
open Classical in
noncomputable def Kt (f0:FuncId) (S:Tn→Tn→Prop) (out:Tn→Tn→AV):Orc:=fun f args H=>if h:f=f0∧∃p:Tn × Tn,S p.1 p.2∧args=[.agg (tC p.1),.agg (tC p.2)] then some (out h.2.choose.1 h.2.choose.2,H) else none
theorem lq {f0:FuncId} {S:Tn→Tn→Prop} {out:Tn→Tn→AV} {t u:Tn} (h:S t u) (H:AH):Kt f0 S out f0 [.agg (tC t),.agg (tC u)] H=some (out t u,H):=by
 have hh:f0=f0∧∃p:Tn × Tn,S p.1 p.2∧[AV.agg (tC t),.agg (tC u)]=[.agg (tC p.1),.agg (tC p.2)]:=⟨rfl,(t,u),h,rfl⟩
 have hc:=hh.2.choose_spec.2;injection hc with hc hd;injection hd with hd _;injection hc with hc;injection hd with hd;have he:hh.2.choose=(t,u):=Prod.ext (Ks _ _ hc).symm (Ks _ _ hd).symm;simp only [Kt,dif_pos hh];rw [he]
theorem lr {E:Env} {f0:FuncId} {S:Tn→Tn→Prop} {out:Tn→Tn→AV} (h:∀t u,S t u→∀H,CS zP E f0 [.agg (tC t),.agg (tC u)] H (out t u) H):AS zP E (Kt f0 S out):=by
 intro f args H v H' ho;unfold Kt at ho
 split at ho
 ·rename_i hx
  injection ho with ho;simp only [Prod.mk.injEq] at ho;obtain ⟨rfl,rfl⟩:=ho;have hs:=hx.2.choose_spec;generalize hx.2.choose=u at *;obtain ⟨rfl,_⟩:=hx;rw [hs.2];exact ⟨h _ _ hs.1 _,Nat.le_refl _,fun _ _ h=>h⟩
 ·cases ho
mutual
def Gj:Tn→Tn→Bool
 |.lf k n s,u=>k==u.k&&n==u.n&&s==u.s&&u.kids.length==0
 |.nd k n s a,u=>k==u.k&&n==u.n&&s==u.s&&a.length==u.kids.length&&FP a u.kids
def FP:List Tn→List Tn→Bool
 |[],_=>true
 |_::_,[]=>true
 |a::l,b::r=>Gj a b&&FP l r
end
theorem lu (t u:Tn):Gj t u=(t.k==u.k&&t.n==u.n&&t.s==u.s&&t.kids.length==u.kids.length&&FP t.kids u.kids):=by
 cases t with
 |lf k n s =>
  have h:FP [] u.kids=true:=rfl;have h0:(0==u.kids.length)=(u.kids.length==0):=by cases u.kids.length<;>rfl
  show (k==u.k&&n==u.n&&s==u.s&&u.kids.length==0)=(k==u.k&&n==u.n&&s==u.s&&0==u.kids.length&&FP [] u.kids)
  rw [h,h0,Bool.and_true]
 |nd k n s a=>rfl
theorem lv (a b:Tn) (l r:List Tn):FP (a::l) (b::r)=(Gj a b&&FP l r):=rfl
def lw (t u:Tn) (res:Bool) (k:Nat) (tt:List AV) (H:AH):Prop :=∃i,i+k=t.kids.length∧FP (t.kids.drop i) (u.kids.drop i)=res∧tt=mkT 53 [(2,.vptr (tC t) 0),(3,.vptr (tC u) 0),(5,.int .i64 ((i:Nat):Int))]∧H=[]
@[simp] theorem immXT:Ag.imm 55=true:=by decide
theorem V6 (t u:Tn) (ht:okT t=true) (H:AH):CS zP Ag 45 [.agg (tC t),.agg (tC u)] H (.bool (Gj t u)) H:=by
 have X:Cx (Kt 45 (fun a b=>a∈t.kids) (fun a b => .bool (Gj a b))) zP Ag:=⟨lr fun a b uJ H=>V6 a b (V5 ht uJ) H,Dt,Ae⟩
 have su:=fun (a b:Tn) (h:a∈t.kids) H=>lq (f0:=45) (S:=fun a b=>a∈t.kids) (out:=fun a b => .bool (Gj a b)) (t:=a) (u:=b) h H
 generalize hO:Kt 45 (fun a b=>a∈t.kids) (fun a b => .bool (Gj a b))=O at X su;clear hO;refine CS.tr0 DI Tryz.func45 (by kernel_rfl) 0 (by simp [Tryz.f45]) (fun B hB hG => ?_) (by simp) (by simp) H;refine Tr.goD X hG ?_;have sZ:=V4 ht;rw [lu];have zf:∀a b:Int,(a==b) = !(a != b):=fun a b=>by simp [bne]
 by_cases h1:t.k=u.k
 ·by_cases h2:t.n=u.n
  ·by_cases h3:t.s=u.s
   ·by_cases h4:t.kids.length=u.kids.length
    ·simp [Tryz.f45,h1,h2,h3,h4]
     have sX:FP t.kids u.kids=FP (t.kids.drop 0) (u.kids.drop 0):=by simp
     have so:(decide (u.kids.length=u.kids.length))=true:=by simp
     refine LpD.loopN X hG (lw t u (FP t.kids u.kids)) t.kids.length (t':=mkT 53 [(2,.vptr (tC t) 0),(3,.vptr (tC u) 0),(5,.int .i64 ((0:Nat):Int))]) (H':=[])
      (AE.mk0 hB (by simp [h1,h2,h3])) ⟨0,by omega,sX.symm,rfl,rfl⟩ ?_
     rintro k tt H ⟨i,sa,sV,rfl,rfl⟩;cases k with
     |zero =>
      obtain rfl:i=t.kids.length:=by omega
      have e1:FP t.kids u.kids=true:=by rw [←sV,List.drop_length];rfl
      simp [Bj,e1]
     |succ k =>
      have hi:i<t.kids.length:=by omega
      have uZ:i<u.kids.length:=by omega
      have hi':(i:Int)<t.kids.length:=by omega
      obtain ⟨a,ha⟩:∃a,t.kids[i]? = some a:=⟨_,List.getElem?_eq_getElem hi⟩
      obtain ⟨b,hb⟩:∃b,u.kids[i]? = some b:=⟨_,List.getElem?_eq_getElem uZ⟩
      obtain ⟨ca1,ca2⟩:=Ns t.kids i ha;obtain ⟨cb1,cb2⟩:=Ns u.kids i hb;have hm:a∈t.kids:=List.mem_of_getElem? ha
      have hda:t.kids.drop i=a::t.kids.drop (i+1):=by rw [List.drop_eq_getElem_cons hi];rw [List.getElem?_eq_getElem hi] at ha;injection ha with ha;rw [ha]
      have hdb:u.kids.drop i=b::u.kids.drop (i+1):=by rw [List.drop_eq_getElem_cons uZ];rw [List.getElem?_eq_getElem uZ] at hb;injection hb with hb;rw [hb]
      rw [hda,hdb,lv] at sV;have w1:IntKind.i64.wrap ((i:Int)+1)=(i:Int)+1:=AZ (by omega) (by omega);have hc:=fun H=>su a b hm H
      simp only [CY] at hc ca1 cb1;simp [hi'];refine LpD.turns X hG [] [] ?_;cases hs:Gj a b with
      |true =>rw [hs,Bool.true_and] at sV;simp [hi,uZ,ca1,cb1,ca2,cb2,hc,hs,w1];exact Nxt.mk k (by omega) (AE.mk0 (l':=[(2,.vptr (tC t) 0),(3,.vptr (tC u) 0),(5,.int .i64 ((i+1:Nat):Int))]) hB (by simp [h1,h2,h3])) ⟨i+1,by omega,sV,rfl,rfl⟩
      |false =>rw [hs,Bool.false_and] at sV;simp [hi,uZ,ca1,cb1,ca2,cb2,hc,hs,←sV]
    ·have h4':¬(t.kids.length:Int)=u.kids.length:=by omega
     simp [Tryz.f45,h1,h2,h3,h4,h4']
   ·simp [Tryz.f45,h1,h2,h3]
  ·simp [Tryz.f45,h1,h2]
 ·simp [Tryz.f45,h1]
termination_by SizeOf.sizeOf t
decreasing_by exact Qt uJ
mutual
def ofT:Tn→Tn
 |.lf k n s => .lf k n s
 |.nd k n s [] => .lf k n s
 |.nd k n s (a::l) => .nd k n s (ofT a::Df l)
def Df:List Tn→List Tn
 |[]=>[]
 |a::l=>ofT a::Df l
end
theorem Jq:∀l:List Tn,(Df l).length=l.length
 |[]=>rfl
 |a::l=>by rw [Df,List.length_cons,List.length_cons,Jq l]
theorem V7:∀a b:List Tn,Df (a++b)=Df a++Df b
 |[],b=>rfl
 |t::a,b=>by rw [List.cons_append,Df,Df,V7 a b,List.cons_append]
theorem ly (t:Tn):tC (ofT t)=[.int .i64 t.k,.int .i64 t.n,.str t.s,if t.kids=[] then .nilSlice else .slice .unk 4 t.kids.length (tsC (Df t.kids))]:=by
 cases t with
 |lf k n s=>rfl
 |nd k n s a =>
  cases a with
  |nil=>rfl
  |cons b l=>simp only [ofT,tC,Tn.k,Tn.n,Tn.s,Tn.kids,List.length_cons,Jq,Df];rfl
@[simp] theorem buT3 (k n:Int) (s:List UInt8):Ay zP 55 [(0,.int .i64 k),(1,.int .i64 n),(2,.str s)]=some (.agg [.int .i64 k,.int .i64 n,.str s,.nilSlice]):=by kernel_rfl
def HE (i:Nat) (l:List Tn):AV:=if l=[] then .nilSlice else .slice (.tok i) 4 l.length (tsC l)
theorem V8:B6 zP 53 4=true:=by kernel_rfl
def OfI (t:Tn) (k:Nat) (tt:List AV) (H:AH):Prop :=
 ∃i,i+k=t.kids.length∧tt=mkT 31 [(1,.vptr (tC t) 0),(2,.ptr 0 0),(3,.ptr 1 0),(4,.int .i64 ((i:Nat):Int))] ∧
  H=some (.box [.int .i64 0,.int .i64 0,.str [],.nilSlice])::some (.box [.int .i64 t.k,.int .i64 t.n,.str t.s,HE 2 (Df (t.kids.take i))])::(if i=0 then [] else [some (.tok i)])
theorem V9 (t:Tn) (ht:okT t=true) (H:AH):CS zP Ag 47 [.agg (tC t)] H (.agg (tC (ofT t))) H:=by
 have X:Cx (oTn 47 (fun a=>a∈t.kids) (fun a => .agg (tC (ofT a)))) zP Ag:=⟨lp fun a uJ H=>V9 a (V5 ht uJ) H,Dt,Ae⟩
 have su:=fun (a:Tn) (h:a∈t.kids) H=>ln (f0:=47) (S:=fun a=>a∈t.kids) (out:=fun a => .agg (tC (ofT a))) (t:=a) h H
 generalize hO:oTn 47 (fun a=>a∈t.kids) (fun a => .agg (tC (ofT a)))=O at X su;clear hO;have sZ:=V4 ht;rw [ly];refine CS.tr0 DI Tryz.func47 (by kernel_rfl) 0 (by simp [Tryz.f47]) (fun B hB hG => ?_) (by split<;>simp [Kr]) (by simp) H;refine Tr.goD X hG ?_;simp [Tryz.f47]
 refine LpD.loopN X hG (OfI t) t.kids.length (t':=mkT 31 [(1,.vptr (tC t) 0),(2,.ptr 0 0),(3,.ptr 1 0),(4,.int .i64 ((0:Nat):Int))])
  (H':=[some (.box [.int .i64 0,.int .i64 0,.str [],.nilSlice]),some (.box [.int .i64 t.k,.int .i64 t.n,.str t.s,.nilSlice])])
  (AE.mkK 2 (by simp [hB]) (by simp) (by simp) (by simp)) ⟨0,by omega,rfl,rfl⟩ ?_
 rintro k tt H ⟨i,sa,rfl,rfl⟩;cases k with
 |zero =>
  obtain rfl:i=t.kids.length:=by omega
  rw [List.take_length]
  by_cases h0:t.kids=[]
  ·simp [h0,Bj,HE,Df]
  ·have h1:¬Df t.kids=[]:=fun h=>h0 (by have:=Jq t.kids;rw [h] at this;exact List.eq_nil_of_length_eq_zero this.symm)
   simp [h0,Bj,HE,h1,Jq,Kr]
 |succ k =>
  have hi:i<t.kids.length:=by omega
  have hi':(i:Int)<t.kids.length:=by omega
  obtain ⟨a,ha⟩:∃a,t.kids[i]? = some a:=⟨_,List.getElem?_eq_getElem hi⟩
  obtain ⟨ca1,ca2⟩:=Ns t.kids i ha;have hm:a∈t.kids:=List.mem_of_getElem? ha
  have sy:Df (t.kids.take (i+1))=Df (t.kids.take i)++[ofT a]:=by rw [List.take_add_one,ha,Option.toList_some,V7];rfl
  have xQ:(Df (t.kids.take i)).length=i:=by rw [Jq,List.length_take];omega
  have w1:IntKind.i64.wrap ((i:Int)+1)=(i:Int)+1:=AZ (by omega) (by omega);have hc:=fun H=>su a hm H
  simp only [CY] at hc ca1;simp [hi'];generalize hl:Df (t.kids.take i)=l at *
  have vz:(l=[]∧(if i=0 then [] else [some (Ent.tok i)])=[])∨(¬l=[]∧(if i=0 then [] else [some (Ent.tok i)])=[some (Ent.tok i)]):=by
   by_cases h0:i=0
   ·exact .inl ⟨List.eq_nil_of_length_eq_zero (by omega),if_pos h0⟩
   ·exact .inr ⟨fun h=>by rw [h] at xQ;simp at xQ;omega,if_neg h0⟩
  generalize (if i=0 then [] else [some (Ent.tok i)])=Tk at *;refine LpD.turns X hG [7,9,11] [(0,7),(1,7)] ?_;rcases vz with ⟨ss,rfl⟩|⟨ss,rfl⟩
  ·subst ss
   have hi0:i=0:=by simpa using xQ.symm
   have sb:=fun H=>GT (P:=zP) (t:=53) (sz:=4) (m:=1) (H:=H) (fid:=2) (ow := .full) (ys:=tC (ofT a)) V8 (by decide) (by decide) (by simp)
   simp only [CY] at sb;simp [hi,ca1,ca2,hc,HE,sb,w1]
   refine Nxt.mk k (by omega) (AE.mkK 3 (l':=[(1,.vptr (tC t) 0),(2,.ptr 0 0),(3,.ptr 1 0),(4,.int .i64 ((i+1:Nat):Int))])
    (H':=[some (.box [.int .i64 0,.int .i64 0,.str [],.nilSlice]),some (.box [.int .i64 t.k,.int .i64 t.n,.str t.s,HE 2 [ofT a]]),some (.tok (i+1))]) (by simp [hB]) (by simp) (by simp [HE,tsC,hi0]) (by simp [HE,tsC])) ⟨i+1,by omega,rfl,by rw [sy];rfl⟩
  ·have sb:=fun H (h:AH.at H 2=some (.tok i))=>Eu (P:=zP) (t:=53) (sz:=4) (m:=1) (H:=H) (fid:=3) (ow := .full) (xs:=tsC l) (ys:=tC (ofT a)) V8 h (by decide) (by omega) (by simp)
   simp only [CY] at sb;simp [hi,ca1,ca2,hc,HE,ss,xQ,sb,w1]
   refine Nxt.mk k (by omega) (AE.mkK 3 (l':=[(1,.vptr (tC t) 0),(2,.ptr 0 0),(3,.ptr 1 0),(4,.int .i64 ((i+1:Nat):Int))])
    (H':=[some (.box [.int .i64 0,.int .i64 0,.str [],.nilSlice]),some (.box [.int .i64 t.k,.int .i64 t.n,.str t.s,HE 2 (l++[ofT a])]),some (.tok (i+1))]) (by simp [hB]) (by simp) (by simp [HE,tsC,Qs,xQ]) (by simp [HE,tsC,Qs,Ak (Nat.zero_le 3) _ (Kr l)])) ⟨i+1,by omega,rfl,by rw [sy];rfl⟩
termination_by SizeOf.sizeOf t
decreasing_by exact Qt uJ
@[simp high] theorem rK (l:List Wd):alen zP 162 (AD l)=some (.int .i64 l.length):=by
 unfold AD
 split
 ·rename_i h;subst h;simp [alen]
 ·simp [alen]
@[simp high] theorem rL {l:List Wd} {i:Nat} (h:i<l.length):Au zP 162 (AD l) (.int .i64 (i:Int))=some (.vptr (A7 l) (i*4)):=by
 have sU:l≠[]:=by rintro rfl;simp at h
 have:(i:Int)<l.length:=by omega
 simp [AD,sU,Au,h]
@[simp] theorem buWd (k n a:Int) (s:List UInt8):Ay zP 183 [(0,.int .i64 k),(1,.str s),(2,.int .i64 a),(3,.int .i64 n)]=some (.agg [.int .i64 k,.str s,.int .i64 a,.int .i64 n]):=by kernel_rfl
@[simp] theorem bsWd (a b c d:AV):Cr zP 137 1 [(0,.agg [a,b,c,d])]=some (.slice .full 4 1 [a,b,c,d]):=by kernel_rfl
mutual
def Ex.tn:Ex→Tn
 |.none => .lf 0 0 []
 |.num n => .lf 1 n []
 |.var s => .lf 2 0 s
 |.elem s a => .nd 3 0 s (Ex.tns a)
 |.neg e => .nd 4 0 [] [e.tn]
 |.bin k a b => .nd k 0 [] [a.tn,b.tn]
def Ex.tns:List Ex→List Tn
 |[]=>[]
 |e::l=>e.tn::Ex.tns l
end
theorem Jr:∀l:List Ex,(Ex.tns l).length=l.length
 |[]=>rfl
 |a::l=>by rw [Ex.tns,List.length_cons,List.length_cons,Jr l]
theorem Nt {g:Gh}:∀{xs ys:List AV} {vs:List Value},AB g (xs++ys) vs→∃v1 v2,vs=v1++v2∧AB g xs v1∧AB g ys v2
 |[],ys,vs,h=>⟨[],vs,rfl,rfl,h⟩
 |a::xs,ys,vs,h=>by obtain ⟨v,ws,rfl,h1,h2⟩:=h;obtain ⟨v1,v2,rfl,h3,h4⟩:=Nt h2;exact ⟨v::v1,v2,rfl,⟨v,v1,rfl,h1,h3⟩,h4⟩
mutual
theorem Js (g:Gh):∀(e:Ex) (vs:List Value),AB g (exC e) vs→AB g (tC e.tn) vs
 |.none,_,h=>h
 |.num _,_,h=>h
 |.var _,_,h=>h
 |.elem s a,vs,h=>by have key:=Qu g a;rw [exC] at h;rw [Ex.tn,tC,Jr];obtain ⟨v0,_,rfl,h0,v1,_,rfl,h1,v2,_,rfl,h2,v3,_,rfl,h3,h4⟩:=h;refine ⟨v0,_,rfl,h0,v1,_,rfl,h1,v2,_,rfl,h2,v3,_,rfl,?_,h4⟩;simp only [AA] at h3 ⊢;obtain ⟨b,o,cap,us,hv,q1,q2,q3,q4,q5⟩:=h3;exact ⟨b,o,cap,us,hv,key us q1,q2,by rw [Lw,Jr],q4,trivial⟩
 |.neg e,vs,h=>by have key:=Js g e;rw [exC] at h;rw [Ex.tn,tC];obtain ⟨v0,_,rfl,h0,v1,_,rfl,h1,v2,_,rfl,h2,v3,_,rfl,h3,h4⟩:=h;refine ⟨v0,_,rfl,h0,v1,_,rfl,h1,v2,_,rfl,h2,v3,_,rfl,?_,h4⟩;simp only [AA] at h3 ⊢;obtain ⟨b,o,cap,us,hv,q1,q2,q3,q4,q5⟩:=h3;refine ⟨b,o,cap,us,hv,?_,q2,by rw [Lw],q4,trivial⟩;rw [tsC,tsC,List.append_nil];exact key us q1
 |.bin k x y,vs,h=>by have key1:=Js g x;have key2:=Js g y;rw [exC] at h;rw [Ex.tn,tC];obtain ⟨v0,_,rfl,h0,v1,_,rfl,h1,v2,_,rfl,h2,v3,_,rfl,h3,h4⟩:=h;refine ⟨v0,_,rfl,h0,v1,_,rfl,h1,v2,_,rfl,h2,v3,_,rfl,?_,h4⟩;simp only [AA] at h3 ⊢;obtain ⟨b,o,cap,us,hv,q1,q2,q3,q4,q5⟩:=h3;refine ⟨b,o,cap,us,hv,?_,q2,by rw [Lw],q4,trivial⟩;obtain ⟨u1,u2,rfl,r1,r2⟩:=Nt q1;rw [tsC,tsC,tsC,List.append_nil];exact (key1 u1 r1).append (key2 u2 r2)
theorem Qu (g:Gh):∀(l:List Ex) (vs:List Value),AB g (CG l) vs→AB g (tsC (Ex.tns l)) vs
 |[],_,h=>h
 |e::l,vs,h=>by have k1:=Js g e;have k2:=Qu g l;rw [CG] at h;rw [Ex.tns,tsC];obtain ⟨v1,v2,rfl,h1,h2⟩:=Nt h;exact (k1 v1 h1).append (k2 v2 h2)
end
mutual
theorem Qv:∀t:Tn,Gj (ofT t) t=true
 |.lf k n s=>by simp [ofT,Gj,Tn.k,Tn.n,Tn.s,Tn.kids]
 |.nd k n s []=>by simp [ofT,Gj,Tn.k,Tn.n,Tn.s,Tn.kids]
 |.nd k n s (a::l)=>by have h1:=Qv a;have h2:=WA l;have h3:=Jq l;simp [ofT,Gj,Tn.k,Tn.n,Tn.s,Tn.kids,FP,h1,h2,h3]
theorem WA:∀l:List Tn,FP (Df l) l=true
 |[]=>rfl
 |a::l=>by rw [Df,FP,Qv a,WA l];rfl
end
mutual
theorem Qw:∀t:Tn,okT t=true→okT (ofT t)=true
 |.lf _ _ _,_=>rfl
 |.nd _ _ _ [],_=>rfl
 |.nd k n s (a::l),h=>by simp only [okT,C2,Bool.and_eq_true,decide_eq_true_eq,List.length_cons] at h;have h1:=Qw a h.2.1;have h2:=WC l h.2.2;simp only [ofT,okT,C2,Bool.and_eq_true,decide_eq_true_eq,List.length_cons,Jq];exact ⟨h.1,h1,h2⟩
theorem WC:∀l:List Tn,C2 l=true→C2 (Df l)=true
 |[],_=>rfl
 |a::l,h=>by simp only [C2,Bool.and_eq_true] at h;simp only [Df,C2,Bool.and_eq_true];exact ⟨Qw a h.1,WC l h.2⟩
end
open Go.Shelf
def Nu:List AV:=(List.range 20).map fun i => .int .u64 ((10 ^ i:Nat):Int)
def Nv:List (Nat × AV):=(8,.vptr Nu 0)::Kd
def AG:Env:=⟨HZ Nv,Le,fun t=>Ag.imm t || t==45,fun _=>false,fun _=>false⟩
@[simp] theorem rM (t:TypeId):AG.soft t=false:=AP rfl
theorem Bw:C7 zP AG:=Ke
theorem BL:∀i,low 0 (AG.glob i)=true:=Pf (by
 intro x hx;simp only [Nv,Kd,Jd,List.mem_cons,List.not_mem_nil,or_false] at hx;rcases hx with rfl|rfl|rfl|rfl
 ·show lowL 0 Nu=true
  kernel_rfl
 ·rfl
 ·show lowL 0 LY=true
  kernel_rfl
 ·rfl)
theorem lz {g:Gh} (h:An AG g):An Ag g:=by
 intro i
 by_cases hi:i=8
 ·subst hi
  have:Ag.glob 8 = .undef:=by rfl
  rw [this];trivial
 ·have:Ag.glob i=AG.glob i:=by
   simp only [Ag,AG,Cp,HZ,Nv,List.find?_cons];rw [show ((8:Nat)==i)=false by simp;omega]
  rw [this];exact h i
theorem CS.toF {f:FuncId} {args:List AV} {H H':AH} {v:AV} (h:CS zP Ag f args H v H'):CS zP AG f args H v H':=fun g w cargs R hG hA=>h g w cargs R (lz hG) hA
theorem AS.toF {O:Orc} (h:AS zP Ag O):AS zP AG O:=fun f args H v H' ho=>by obtain ⟨h1,h2,h3⟩:=h f args H v H' ho;exact ⟨CS.toF h1,h2,h3⟩
@[simp] theorem immFE:AG.imm 43=true:=by decide
@[simp] theorem immFC:AG.imm 45=true:=by decide
theorem DX:Cx Bl zP AG:=⟨Jc,Bw,Ae⟩
def fzN:FuncId→Nat:=fun _=>0
def gk (S:Int→Prop) (k n:Int) (m:Nat):Prop:=(k=1∧S n)∨k=2∨(k=3∧0<m)∨(k=4∧m=1)∨((k<1∨4<k)∧m=2)
mutual
/-- A tree that can be written. -/
def good (S:Int→Prop):Tn→Prop
 |.lf k n _=>gk S k n 0
 |.nd k n _ a=>gk S k n a.length∧((k=1∨k=2)∨WD S a)
def WD (S:Int→Prop):List Tn→Prop
 |[]=>True
 |t::l=>good S t∧WD S l
end
@[simp] theorem bsStr (a:List UInt8):Cr zP 25 1 [(0,.str a)]=some (.slice .full 1 1 [.str a]):=by kernel_rfl
@[simp] theorem rN:Am zP 9=some (.str []):=by kernel_rfl
def Ku (a:List AV) (H:AH):Option (AV × AH) :=
 match a with
 |[.iface t x,.iface tt (.ptr id 0)]=>(match H.at id with
  |some (.box [_])=>if t=75∧tt=77 then (match x with | .vptr cs 0=>some (.bool true,H.set id (some (.box [.vptr cs 0])))|_=>none)
   else if t=83∧tt=88 then (match x with | .int .i64 n=>some (.bool true,H.set id (some (.box [.int .i64 n])))|_=>none)
   else if t=83∧tt=77 then (match x with | .int .i64 _=>some (.bool false,H)|_=>none) else none
  |_=>none)
 |_=>none
theorem WE {H:AH} {i j:Nat} {e x:Ent} (hx:H.at i=some x) (hj:H.at j=none):AH.at (H.set i (some e)) j=none:=by
 have hij:i≠j:=fun h=>by subst h;rw [hx] at hj;cases hj
 unfold AH.at at hj ⊢;rw [List.getElem?_set_ne hij];exact hj
theorem l0 {a:List AV} {H H':AH} {v:AV} (h:Ku a H=some (v,H')):CS zP Cp 22 a H v H'∧H.length≤H'.length∧∀id,id<H.length→H.at id=none→H'.at id=none:=by
 unfold Ku at h
 split at h
 ·split at h
  ·rename_i t x tt id y hH
   split at h
   ·rename_i ht
    obtain ⟨rfl,rfl⟩:=ht
    split at h
    ·injection h with h
     simp only [Prod.mk.injEq] at h;obtain ⟨rfl,rfl⟩:=h;exact ⟨VI hH,by simp,fun j _ hj=>WE hH hj⟩
    ·cases h
   ·split at h
    ·rename_i ht
     obtain ⟨rfl,rfl⟩:=ht
     split at h
     ·injection h with h
      simp only [Prod.mk.injEq] at h;obtain ⟨rfl,rfl⟩:=h;exact ⟨i6 hH,by simp,fun j _ hj=>WE hH hj⟩
     ·cases h
    ·split at h
     ·rename_i ht
      obtain ⟨rfl,rfl⟩:=ht
      split at h
      ·injection h with h
       simp only [Prod.mk.injEq] at h;obtain ⟨rfl,rfl⟩:=h;exact ⟨i7,Nat.le_refl _,fun _ _ hj=>hj⟩
      ·cases h
     ·cases h
  ·cases h
 ·cases h
open Classical in
noncomputable def oTl (l:List (List UInt8 × Int)) (c:Int):Orc:=fun f a H =>if f=25 then (if a=[AY l c,.iface 83 (.int .i64 c)] then some (.bool true,H) else none) else if f=22 then Ku a H else none
theorem l3 (l:List (List UInt8 × Int)) (c:Int):AS zP Cp (oTl l c):=by
 intro f a H v H' h;unfold oTl at h
 split at h
 ·rename_i hf
  subst hf
  split at h
  ·rename_i ha
   subst ha;injection h with h;simp only [Prod.mk.injEq] at h;obtain ⟨rfl,rfl⟩:=h;have:=iz l c c H;rw [show (c==c)=true by simp] at this;exact ⟨this,Nat.le_refl _,fun _ _ hj=>hj⟩
  ·cases h
 ·split at h
  ·rename_i hf
   subst hf;exact l0 h
  ·cases h
theorem Jt (l:List (List UInt8 × Int)) (c:Int):Cx (oTl l c) zP Cp:=⟨l3 l c,Ke,Ae⟩
theorem l4 (l:List (List UInt8 × Int)) (c:Int) (H:AH):oTl l c 25 [AY l c,.iface 83 (.int .i64 c)] H=some (.bool true,H):=by simp [oTl]
theorem WF (l:List (List UInt8 × Int)) (c:Int) (a:List AV) (H:AH):oTl l c 22 a H=Ku a H:=by simp [oTl]
def B3:List (List UInt8 × Int)→List AV
 |[]=>[]
 |(w,p)::l => .str w :: .int .i64 p::B3 l
@[simp] theorem l5:∀(l:List (List UInt8 × Int)) (c:Int),Bh (AY l c)=[]
 |[],c=>rfl
 |(w,p)::l,c=>by simp [AY,Bh,Ec,l5 l c]
@[simp high] theorem clos0:Da [some (.box [.nilPtr])] 4 [0]=[0]:=by
 have h:GP [some (.box [.nilPtr])] [0]=[]:=by simp [GP,LI,AH.at,Bh,Ec]
 simp [Da,h]
@[simp high] theorem mask0:mask [some (.box [.nilPtr])] [0]=[some (.box [.nilPtr])]:=by simp [mask,Gw]
@[simp high] theorem clos1 (w:List UInt8) (p:Int) (l:List (List UInt8 × Int)) (c:Int):Da [some (.box [.vptr [.str w,.int .i64 p,AY l c] 0])] 4 [0]=[0]:=by
 have h:GP [some (.box [.vptr [.str w,.int .i64 p,AY l c] 0])] [0]=[]:=by simp [GP,LI,AH.at,Bh,Ec]
 simp [Da,h]
@[simp high] theorem mask1 (x:AV):mask [some (.box [x])] [0]=[some (.box [x])]:=by simp [mask,Gw]
theorem WH:∀(l:List (List UInt8 × Int)) (i:Nat) {w:List UInt8} {p:Int} {r:List (List UInt8 × Int)},l.drop i=(w,p)::r→(B3 l)[i*2]? = some (.str w)∧(B3 l)[i*2+1]? = some (.int .i64 p)
 |[],i,w,p,r,h=>by simp at h
 |(a,b)::l,0,w,p,r,h=>by simp only [List.drop_zero,List.cons.injEq,Prod.mk.injEq] at h;obtain ⟨⟨rfl,rfl⟩,_⟩:=h;simp [B3]
 |(a,b)::l,i+1,w,p,r,h=>by have:=WH l i (by simpa using h);rw [show (i+1)*2=i*2+1+1 by omega];simpa [B3] using this
def TlI (l:List (List UInt8 × Int)) (c:Int) (sv:AV) (k:Nat) (t:List AV) (H:AH):Prop :=∃i,i+k=l.length∧t=mkT 88 [(0,AY (l.drop i) c),(3,.vptr [sv,.int .i64 c] 0),(5,.int .i64 ((i:Nat):Int))]∧H=[]
theorem Qx (l:List (List UInt8 × Int)) (c:Int) (hc:c≠0) (hl:l.length<1000) (ow:Own) (uY:ow = .unk∨ow = .full) (H:AH) :
  CS zP Cp 8 [AY l c,.agg [.slice ow 2 l.length (B3 l),.int .i64 c]] H (.bool true) H:=by
 have zCN:lowL 0 (B3 l)=true:=by
  clear hl
  induction l with
  |nil=>rfl
  |cons x l ih=>obtain ⟨w,p⟩:=x;simp [B3,ih]
 have xm:low 0 (.slice ow 2 l.length (B3 l))=true:=by rcases uY with rfl|rfl<;>simp [zCN]
 clear uY;refine CS.tr0 Lf Tryz.func8 (by kernel_rfl) 0 (by simp [Tryz.f8]) (fun B hB hG => ?_) rfl (by simp [Gc,xm]) H;refine Tr.go (Jt l c) hG (by kernel_rfl) ?_;simp [Tryz.f8,hc,l4];refine Tr.less (t':=mkT 88 [(0,AY (l.drop 0) c),(3,.vptr [.slice ow 2 l.length (B3 l),.int .i64 c] 0),(5,.int .i64 ((0:Nat):Int))]) (H':=[]) (AE.mk0 hB (by simp [Gc,xm])) (Tr.loop (TlI l c (.slice ow 2 l.length (B3 l))) l.length ⟨0,by omega,rfl,rfl⟩ ?_);rintro k t H ⟨i,sa,rfl,rfl⟩;refine Tr.seqD rfl ?_;refine Tr.go (Jt l c) hG (by kernel_rfl) ?_;cases k with
 |zero =>
  obtain rfl:i=l.length:=by omega
  simp [Bj,AY,WF,Ku,AH.at]
 |succ k =>
  have e1:i<l.length:=by omega
  have e2:(i:Int)<l.length:=by omega
  obtain ⟨w,p,hd⟩:∃w p,l.drop i=(w,p)::l.drop (i+1):=⟨l[i].1,l[i].2,List.drop_eq_getElem_cons e1⟩
  simp [e2];refine Tr.seqD rfl (Tr.blockD rfl (Tr.seqD rfl ?_));refine Tr.go (Jt l c) hG (by kernel_rfl) ?_;simp;rw [hd];refine Tr.seqD rfl (Tr.seqD rfl (Tr.solid (Jt l c) hG 2 (by kernel_rfl) ?_));simp [AY];refine ⟨_,.bool true,[(0,.box [.vptr [.str w,.int .i64 p,AY (l.drop (i+1)) c] 0])],[0],rfl,?_,?_⟩
  ·simp [Ck,BJ,callee,WF,Ku,AH.at]
  ·obtain ⟨pc0,pc1⟩:=WH l i hd
   simp [AQ,AY,e1,pc0,pc1];refine Tr.go (Jt l c) hG (by kernel_rfl) ?_;simp;refine Tr.go (Jt l c) hG (by kernel_rfl) ?_;simp;refine Tr.go (Jt l c) hG (by kernel_rfl) ?_;have w1:IntKind.i64.wrap ((i:Int)+1)=(i:Int)+1:=AZ (by omega) (by omega);simp [w1];exact ⟨k,by omega,_,_,AE.mk0 (l':=[(0,AY (l.drop (i+1)) c),(3,.vptr [.slice ow 2 l.length (B3 l),.int .i64 c] 0),(5,.int .i64 ((i+1:Nat):Int))]) hB (by simp [Gc,xm]),⟨i+1,by omega,rfl,rfl⟩⟩
set_option maxHeartbeats 1000000
def WI:Nat→Nat→List Wd→Prop
 |p,e,[]=>p≤e
 |p,e,w::r=>p≤w.at_∧WI (w.at_+w.text.length) e r
theorem l6:∀(n:Nat) (s:List UInt8) (p:Nat) (b:Bool) (l:List Wd),s.length<n→lex n s p b = .ok l→WI p (p+s.length) l∧l.length≤s.length:=by
 intro n
 induction n with
 |zero=>intro s p b l h;omega
 |succ n ih =>
  intro s p b l hn h;cases s with
  |nil =>simp only [lex] at h;injection h with h;subst h;exact ⟨Nat.le_refl _,Nat.le_refl _⟩
  |cons c r =>
   simp only [List.length_cons] at hn ⊢;cases hb:EP c with
   |true =>
    simp only [lex,hb,if_true] at h;obtain ⟨h1,h2⟩:=ih r (p+1) false l (by omega) h;refine ⟨?_,by omega⟩;rw [show p+(r.length+1)=p+1+r.length by omega];cases l with
    |nil=>have:p+1≤_:=h1;show p≤_;omega
    |cons w l=>exact ⟨by have:=h1.1;omega,h1.2⟩
   |false =>
    rw [Gd _ _ _ _ _ hb] at h
    split at h
    ·cases h
    ·rename_i he
     have hp:=NT (r:=r) (QL (by simpa using he));have sY:=NU c r;simp only [List.length_cons] at sY;cases hx:lex n ((c::r).drop (BC (c::r)).1.2.1.length) (p+(BC (c::r)).1.2.1.length) ((BC (c::r)).1.1==2) with
     |error x=>rw [hx] at h;cases h
     |ok l' =>rw [hx] at h;simp only [D4,List.singleton_append] at h;injection h with h;subst h;obtain ⟨h1,h2⟩:=ih _ _ _ l' (by rw [List.length_drop,List.length_cons];omega) hx;rw [List.length_drop,List.length_cons] at h1 h2;refine ⟨⟨Nat.le_refl _,?_⟩,by simp only [List.length_cons];omega⟩;rw [show p+(r.length+1)=p+(BC (c::r)).1.2.1.length+(r.length+1-(BC (c::r)).1.2.1.length) by omega];exact h1
theorem WJ:∀(n:Nat) (s:List UInt8) (p:Nat) (b:Bool) (q e:Nat),lex n s p b = .error (q,e)→e≠0:=by
 intro n
 induction n with
 |zero=>intro s p b q e h;cases h
 |succ n ih =>
  intro s p b q e h;cases s with
  |nil=>cases h
  |cons c r =>
   cases hb:EP c with
   |true =>simp only [lex,hb,if_true] at h;exact ih r _ _ _ _ h
   |false =>
    rw [Gd _ _ _ _ _ hb] at h
    split at h
    ·rename_i he
     injection h with h;simp only [Prod.mk.injEq] at h;rw [←h.2];exact he
    ·cases hx:lex n ((c::r).drop (BC (c::r)).1.2.1.length) (p+(BC (c::r)).1.2.1.length) ((BC (c::r)).1.1==2) with
     |error x =>rw [hx] at h;simp only [D4] at h;injection h with h;subst h;exact ih _ _ _ _ _ hx
     |ok l'=>rw [hx] at h;cases h
@[simp] theorem rO:Bh AV.nothing=[]:=AP rfl
theorem l8 {a b:Wd} (h:BD a=BD b):a=b:=by
 obtain ⟨k,s,p,n⟩:=a;obtain ⟨k',s',p',n'⟩:=b;simp only [BD,List.cons.injEq,AV.int.injEq,AV.str.injEq,true_and,and_true] at h;obtain ⟨h1,h2,h3,h4⟩:=h;have e1:k=k':=by omega
 have e2:p=p':=by omega
 have e3:n=n':=by omega
 rw [e1,h2,e2,e3]
theorem WK:∀{a b:List Wd},A7 a=A7 b→a=b
 |[],[],_=>rfl
 |[],x::b,h=>by have hc:A7 (x::b)=BD x++A7 b:=rfl;rw [hc] at h;simp [BD,A7] at h
 |x::a,[],h=>by have hc:A7 (x::a)=BD x++A7 a:=rfl;rw [hc] at h;simp [BD,A7] at h
 |x::a,y::b,h=>by have hc:A7 (x::a)=BD x++A7 a:=rfl;have hd:A7 (y::b)=BD y++A7 b:=rfl;rw [hc,hd] at h;have:=List.append_inj h rfl;rw [l8 this.1,WK this.2]
theorem Qy {a b:List Wd} (h:AD a=AD b):a=b:=by
 unfold AD at h
 split at h
 ·split at h
  ·rename_i h1 h2;rw [h1,h2]
  ·cases h
 ·split at h
  ·cases h
  ·injection h with _ _ _ h
   exact WK h
def E5 (x:Ex × Nat × Option (Nat × Nat)):AV := .tup [.agg (tC x.1.tn),.int .i64 x.2.1,eAV x.2.2]
def Kv (x:Ex × Nat × Option (Nat × Nat)):AV := .tup [.agg (tC x.1.tn),.int .i64 x.2.1,DJ x.2.2]
def FQ (c:List UInt8 × Ex × Ex):AV := .agg (.str c.1::(tC c.2.1.tn++tC c.2.2.tn))
def Kw (x:(List UInt8 × Ex × Ex) × Nat × Option (Nat × Nat)):AV := .tup [FQ x.1,.int .i64 x.2.1,eAV x.2.2]
def Kx (x:(List UInt8 × Ex × Ex) × Nat × Option (Nat × Nat)):AV := .tup [FQ x.1,.int .i64 x.2.1,DJ x.2.2]
theorem WL (g:Gh) (e:Ex) (v:Value) (h:AA g (CX e) v):AA g (.agg (tC e.tn)) v:=by unfold CX at h;simp only [AA] at h ⊢;obtain ⟨vs,rfl,h⟩:=h;exact ⟨vs,rfl,Js g e vs h⟩
theorem WM (g:Gh) (c:List UInt8 × Ex × Ex) (v:Value) (h:AA g (E4 c) v):AA g (FQ c) v:=by unfold E4 at h;unfold FQ;simp only [AA] at h ⊢;obtain ⟨vs,rfl,u,us,rfl,h1,h2⟩:=h;obtain ⟨v1,v2,rfl,h3,h4⟩:=Nt h2;exact ⟨_,rfl,u,_,rfl,h1,(Js g _ v1 h3).append (Js g _ v2 h4)⟩
theorem mB (ts:List Wd) (sT:ts.length<1000000) (H:AH):CS zP AG 110 [AD ts] H (E5 (Bb ts)) H:=CS.toF (CS.weak (v':=E5 (Bb ts)) (ke ts sT H) fun g cv h=>by
 unfold Lk at h;unfold E5;simp only [AA] at h ⊢;obtain ⟨vs,rfl,u,us,rfl,h1,h2⟩:=h
 exact ⟨_,rfl,u,us,rfl,WL g _ _ h1,h2⟩)
theorem mD (ts:List Wd) (sT:ts.length<1000000) (H:AH):CS zP AG 93 [AD ts] H (Kv (Bb ts)) H:=by
 have:=lQ ts sT H;rw [P6] at this
 exact CS.toF (CS.weak (v':=Kv (Bb ts)) this fun g cv h=>by
  unfold Lv at h;unfold Kv;simp only [AA] at h ⊢;obtain ⟨vs,rfl,u,us,rfl,h1,h2⟩:=h
  exact ⟨_,rfl,u,us,rfl,WL g _ _ h1,h2⟩)
theorem mF (ts:List Wd) (sT:ts.length<1000000) (H:AH):CS zP AG 106 [AD ts] H (Kw (CK ts)) H:=CS.toF (CS.weak (v':=Kw (CK ts)) (la ts sT H) fun g cv h=>by
 unfold Jo at h;unfold Kw;simp only [AA] at h ⊢;obtain ⟨vs,rfl,u,us,rfl,h1,h2⟩:=h
 exact ⟨_,rfl,u,us,rfl,WM g _ _ h1,h2⟩)
theorem mG (ts:List Wd) (sT:ts.length<1000000) (H:AH):CS zP AG 89 [AD ts] H (Kx (CK ts)) H:=by
 have:=ll ts sT H;rw [U5] at this
 exact CS.toF (CS.weak (v':=Kx (CK ts)) this fun g cv h=>by
  unfold IJ at h;unfold Kx;simp only [AA] at h ⊢;obtain ⟨vs,rfl,u,us,rfl,h1,h2⟩:=h
  exact ⟨_,rfl,u,us,rfl,WM g _ _ h1,h2⟩)
theorem mH (x:Option (Nat × Nat)) (hx:BN x) (H:AH):CS zP AG 8 [eAV x,DJ x] H (.bool true) H:=by
 cases x with
 |none =>
  refine CS.tr0 BL Tryz.func8 (by kernel_rfl) 0 (by simp [Tryz.f8]) (fun B hB hG => ?_) rfl (by simp [DJ,eAV,pAV]) H;refine Tr.goD DX hG ?_;have hi:AG.imm 33=true:=by decide
  simp [Tryz.f8,DJ,Kq,CH,Lj,hi]
 |some y =>
  obtain ⟨p,c⟩:=y
  have hc:(c:Int)≠0:=by
   intro h;have:c=0:=by omega
   subst this;exact hx p rfl
  exact CS.toF (CS.toX (Qx [(D5,(p:Int))] c hc (by simp) .full (.inr rfl) H))
theorem Qz {s:List UInt8} {l:List Wd} (hs:s.length<1000000) (h:lex (s.length+1) s 0 false = .ok l):l.length<1000000:=by have:=(l6 _ _ _ _ _ (by omega) h).2;omega
def sA:List UInt8:=[45,40,120,32,43,32,50,41,42,97,40,105,44,32,40,106,41,41,47,40,51,42,52,41]
def RI (s:List UInt8) (k:Nat) (t:List AV) (H:AH):Prop :=∃i l,i+k=s.length∧t=tR s l i∧H=HR l∧l.length≤i∧lex (s.length+1) s 0 false=D4 l (lex (k+1) (s.drop i) i false)
theorem mJ (n:Nat) (s:List UInt8) (p:Nat) (h:∀c r,s=c::r→CF c=false) (b:Bool):lex n s p b=lex n s p false:=by
 cases n with
 |zero=>rfl
 |succ n =>
  cases s with
  |nil=>rfl
  |cons c r =>
   have:=h c r rfl;cases hb:EP c with
   |true=>simp only [lex,hb,if_true]
   |false =>
    rw [Gd n c r p b hb,Gd n c r p false hb];have:DQ b c r=DQ false c r:=by simp [DQ,this]
    rw [this]
theorem Q0 {s:List UInt8} {i k:Nat} {l:List Wd} {c:UInt8} {r:List UInt8} (sa:i+(k+1)=s.length) (hd:s.drop i=c::r) (hb:EP c=false) (he:(BC (c::r)).2=0) (tG:l.length≤i)
  (t9:lex (s.length+1) s 0 false=D4 l (lex (k+1+1) (s.drop i) i false)) (w:Wd) (hw:w=⟨(BC (c::r)).1.1,(BC (c::r)).1.2.1,i,(BC (c::r)).1.2.2⟩) (L:Nat) (hL:(BC (c::r)).1.2.1.length=L)
  (hx:(BC (c::r)).1.1=2→∀h:i+L<s.length,CF s[i+L]=false) :
  ∃j,j<k+1∧RI s j (tR s (l++[w]) (i+L)) (HR (l++[w])):=by
 subst hw;have h1:=NT (r:=r) he;have h2:=NU c r;have sZ:(c::r).length=k+1:=by rw [←hd,List.length_drop];omega
 rw [hL] at h1 h2;have he':DQ false c r=0:=by simpa [DQ] using he
 refine ⟨k+1-L,by omega,i+L,_,by omega,rfl,rfl,?_,?_⟩
 ·simp only [List.length_append,List.length_cons,List.length_nil];omega
 ·rw [t9,hd,Gd _ _ _ _ _ hb,if_neg (by simp [he']),VK,hL]
  have xC:s.drop (i+L)=(c::r).drop L:=by rw [←hd,List.drop_drop]
  rw [←xC]
  congr 1
  have wO:(s.drop (i+L)).length=k+1-L:=by rw [List.length_drop];omega
  rw [VJ (k+1) (k+1-L+1) _ _ _ (by omega) (by omega)];cases hk:(BC (c::r)).1.1==2 with
  |false=>rfl
  |true =>
   refine mJ _ _ _ (fun c2 r2 h => ?_) true
   have sd:i+L<s.length:=by
    have:(s.drop (i+L)).length=(c2::r2).length:=by rw [h]
    rw [List.length_drop,List.length_cons] at this;omega
   have h5:=List.drop_eq_getElem_cons sd;rw [h] at h5;injection h5 with h5 _;rw [h5];exact hx (by simpa using hk) sd
theorem mL (x:Except (Nat × Nat) (List Wd)):low 0 (DA x)=true:=by
 cases x with
 |error x=>rfl
 |ok l =>
  simp only [DA,AD,Lm]
  split
  ·rfl
  ·simp [ID]
theorem mM (B:Bs) (hB:B.H=[]) (hG:An AM B.g) (s:List UInt8) (hs:s.length<B7) (k i:Nat) (l:List Wd) (sa:i+(k+1)=s.length) (tG:l.length≤i)
  (t9:lex (s.length+1) s 0 false=D4 l (lex (k+1+1) (s.drop i) i false)) (Q:AEx→List AV→AH→Prop)
  (hN:∀t H,(∃j t2 H2,j<k+1∧AE B t H t2 H2∧RI s j t2 H2)→Q .normal t H)
  (hE:∀t H,Fin zP F10 0 1 (DA (lex (s.length+1) s 0 false)) [] .ret t H→Q .ret t H) :
  Go oR zP AM (LpT zP B) Ei [] (tR s l i) (HR l) Q:=by
 have hi:i<s.length:=by omega
 rw [ER] at hs;obtain ⟨c,r,hd⟩:∃c r,s.drop i=c::r:=⟨s[i],s.drop (i+1),List.drop_eq_getElem_cons hi⟩
 have hc:s[i]=c:=by have:=List.drop_eq_getElem_cons hi;rw [hd] at this;injection this with this _;exact this.symm
 cases hb:EP c with
 |true =>
  refine ku B hB hG s l i hi hs (by rw [hc];simpa [EP] using hb) Q (fun t H sY=>hN _ _ ⟨k,_,_,by omega,sY,i+1,l,by omega,rfl,rfl,by omega,?_⟩);have:s.drop (i+1)=r:=by rw [←List.drop_drop,hd];rfl
  rw [t9,hd,this];simp only [lex,hb,if_true]
 |false =>
  have so:¬(s[i].toNat:Int)=32:=by rw [hc];simp only [EP,Bool.or_eq_false_iff,beq_eq_false_iff_ne] at hb;omega
  have sh:¬(s[i].toNat:Int)=9:=by rw [hc];simp only [EP,Bool.or_eq_false_iff,beq_eq_false_iff_ne] at hb;omega
  have ww:(BC (c::r)).2≠0→lex (s.length+1) s 0 false = .error (i,(BC (c::r)).2):=fun h=>by rw [t9,hd,Gd _ _ _ _ _ hb,if_pos (by simpa [DQ] using h)];simp [DQ,D4]
  have sZ:(c::r).length=k+1:=by rw [←hd,List.length_drop];omega
  have vX:∀n,n≤(c::r).length→((c::r).take n).length=n:=fun n h=>by rw [List.length_take];omega
  cases tV:CF c with
  |true =>
   have sl:=F2 Bk (c::r);have hw:BC (c::r)=((if DO ((c::r).take (Aq Bk (c::r))) then 4 else 1,(c::r).take (Aq Bk (c::r)),0),if 31<Aq Bk (c::r) then 4 else 0):=by simp [BC,tV]
   refine kq B hB hG s l i _ hi hs tG so sh (by rw [hc];exact tV) rfl Q _ rfl (fun h t H sY => ?_) (fun h t H hf=>hE _ _ ?_)
   ·rw [hd] at h sY
    obtain ⟨j,hj,hI⟩:=Q0 sa hd hb (by rw [hw];simp;omega) tG t9 _ rfl _ rfl (fun h2=>by rw [hw] at h2;simp only at h2;split at h2<;>cases h2);rw [hw] at hI;simp only [vX _ sl] at hI;exact hN _ _ ⟨j,_,_,hj,sY,hI⟩
   ·rw [hd] at h
    rw [ww (by rw [hw];simp [h]),hw];simpa [h] using hf
  |false =>
   cases uu:A6 c with
   |true =>
    have sl:=F2 A6 (c::r);refine kr B hB hG s l i _ hi hs tG so sh (by rw [hc];exact tV) (by rw [hc];exact uu) rfl Q (fun h hx t H sY => ?_) (fun h t H hf=>hE _ _ ?_) (fun h hx t H hf=>hE _ _ ?_)
    ·rw [hd] at h hx sY
     have hw:BC (c::r)=((2,(c::r).take (Aq A6 (c::r)),Ba ((c::r).take (Aq A6 (c::r)))),0):=by simp [BC,tV,uu,h]
     obtain ⟨j,hj,hI⟩:=Q0 sa hd hb (by rw [hw]) tG t9 _ rfl (Aq A6 (c::r)) (by rw [hw];exact vX _ sl) (fun _=>hx);rw [hw] at hI;exact hN _ _ ⟨j,_,_,hj,sY,hI⟩
    ·rw [hd] at h
     have hw:(BC (c::r)).2=5:=by simp [BC,tV,uu,h]
     rw [ww (by rw [hw];decide),hw];exact hf
    ·rw [hd] at h hx hf
     obtain ⟨hx,hsx⟩:=hx;have hw:BC (c::r)=((2,(c::r).take (Aq A6 (c::r)),Ba ((c::r).take (Aq A6 (c::r)))),0):=by simp [BC,tV,uu,h]
     have sV:lex (s.length+1) s 0 false = .error (i+Aq A6 (c::r),3):=by
      rw [t9,hd,Gd _ _ _ _ _ hb,if_neg (by simp [DQ,hw]),hw];simp only [vX _ sl]
      have xC:(c::r).drop (Aq A6 (c::r))=s[i+Aq A6 (c::r)]::s.drop (i+Aq A6 (c::r)+1):=by rw [←List.drop_eq_getElem_cons hx,←List.drop_drop,hd]
      rw [xC,Gd _ _ _ _ _ (by
       have:=hsx;simp only [CF,Bool.and_eq_true,decide_eq_true_eq] at this;simp only [EP,Bool.or_eq_false_iff,beq_eq_false_iff_ne]
       omega),if_pos (by simp [DQ,hsx])]
      simp [D4,DQ,hsx]
     rw [sV];exact hf
   |false =>
    refine kt B hB hG s l i _ hi hs tG so sh (by rw [hc];exact tV) (by rw [hc];exact uu) rfl Q (fun h t H sY => ?_) (fun h t H hf=>hE _ _ ?_)
    ·rw [hd] at h sY
     have hw:BC (c::r)=((3,(c::r).take (Cl (c::r)),0),0):=by simp [BC,tV,uu,h]
     obtain ⟨j,hj,hI⟩:=Q0 sa hd hb (by rw [hw]) tG t9 _ rfl (Cl (c::r)) (by rw [hw];exact vX _ (NS _)) (fun h2=>by rw [hw] at h2;cases h2);rw [hw] at hI;exact hN _ _ ⟨j,_,_,hj,sY,hI⟩
    ·rw [hd] at h
     have hw:(BC (c::r)).2=3:=by simp [BC,tV,uu,h]
     rw [ww (by rw [hw];decide),hw];exact hf
theorem mN (s:List UInt8) (hs:s.length<B7) (H:AH):CS zP AM 59 [.str s] H (DA (lex (s.length+1) s 0 false)) H:=by
 refine CS.tr0 Ew Tryz.func59 (by kernel_rfl) 1 (by simp [Tryz.f59]) (fun B hB hG => ?_) (mL _) rfl H;refine Tr.pre Iw hG 3 (R:=E2) rfl (by kernel_rfl) (by kernel_rfl) ?_;rw [Dy];simp [Tryz.f59];refine Tr.seqD (a:=GC) (b:=Qa) (by kernel_rfl) ?_;refine Tr.less (t':=tR s [] 0) (H':=HR []) (Gg hB (by simp) (by simp) (by simp [Fg]) (by simp) (by simp [HR,CL])) ?_;refine Tr.forD (a:=Ei) (id:=0) (by kernel_rfl) (RI s) s.length ⟨0,[],by omega,rfl,rfl,by simp,?_⟩ ?_
 ·rw [List.drop_zero]
  cases lex (s.length+1) s 0 false<;>rfl
 rintro k t H ⟨i,l,sa,rfl,rfl,tG,t9⟩;refine Tr.go Iw hG (by kernel_rfl) ?_;cases k with
 |succ k=>exact mM B hB hG s hs k i l sa tG t9 _ (fun t H h=>h) (fun t H h=>h)
 |zero =>
  obtain rfl:i=s.length:=by omega
  have sV:lex (s.length+1) s 0 false = .ok l:=by rw [t9,List.drop_length];simp [lex,D4]
  rw [sV];rcases HC l with ⟨hl,hH⟩|⟨hl,hH⟩
  ·rw [hH]
   simp [Ei,GC,E2,c10,Tryz.f59,tR,Bj];refine Tr.go Iw hG (by kernel_rfl) ?_;simp [Qa,E2,c10,Tryz.f59,buW,CL,DA,AD,Fg,hl,Lm]
  ·rw [hH]
   simp [Ei,GC,E2,c10,Tryz.f59,tR,Bj];refine Tr.go Iw hG (by kernel_rfl) ?_;simp [Qa,E2,c10,Tryz.f59,buW,CL,DA,AD,Fg,hl,Lm,ID]
def DY (f:Rd):Prop:=∀r,okT (f r).1.tn=true
theorem Nw {k:Nat} {a b:Ex} (ha:okT a.tn=true) (hb:okT b.tn=true):okT (Ex.bin k a b).tn=true:=by simp [Ex.tn,okT,C2,ha,hb]
theorem Q2 {ts:List Wd} {of:Rd} (h:DY of) {f:List UInt8} {one:Nat} {s:List UInt8} {two:Nat}:∀(n:Nat) (e:Ex) (r:St),okT e.tn=true→okT (DG ts of f one s two n e r).1.tn=true
 |0,e,r,he=>he
 |n+1,e,r,he=>by
  simp only [DG]
  split
  ·rfl
  ·split
   ·exact Q2 h n _ _ (Nw he (h _))
   ·split
    ·exact Q2 h n _ _ (Nw he (h _))
    ·exact he
theorem Nx {ts:List Wd} {of:Rd} (h:DY of) {f:List UInt8} {one:Nat} {s:List UInt8} {two:Nat}:DY (Ef ts of f one s two):=fun r=>Q2 h _ _ _ (h r)
theorem Q3:∀{a b:List Tn},C2 a=true→C2 b=true→C2 (a++b)=true
 |[],_,_,h=>h
 |t::a,b,h1,h2=>by simp only [C2,Bool.and_eq_true] at h1;simp only [List.cons_append,C2,Bool.and_eq_true];exact ⟨h1.1,Q3 h1.2 h2⟩
theorem Q4:∀a b:List Ex,Ex.tns (a++b)=Ex.tns a++Ex.tns b
 |[],b=>rfl
 |e::a,b=>by rw [List.cons_append,Ex.tns,Ex.tns,Q4 a b,List.cons_append]
theorem WN {ts:List Wd} {sum:Rd} (h:DY sum):∀(n:Nat) (a:List Ex) (r:St),C2 (Ex.tns a)=true→C2 (Ex.tns (DH ts sum n a r).1)=true∧(DH ts sum n a r).1.length≤a.length+n
 |0,a,r,ha=>⟨ha,Nat.le_refl _⟩
 |n+1,a,r,ha=>by
  have h1:C2 (Ex.tns (a++[(sum r).1]))=true:=by rw [Q4];refine Q3 ha ?_;simp only [Ex.tns,C2,h r,Bool.and_self]
  simp only [DH]
  split
  ·obtain ⟨h2,h3⟩:=WN h n (a++[(sum r).1]) _ h1
   refine ⟨h2,?_⟩;rw [List.length_append] at h3;simp only [List.length_cons,List.length_nil] at h3;exact Nat.le_trans h3 (by omega)
  ·refine ⟨h1,?_⟩
   rw [List.length_append];simp only [List.length_cons,List.length_nil];omega
theorem WQ {p:Nat} {of:Rd} (h:DY of):DY (inF p of):=fun r=>by
 simp only [inF];generalize (if r.deep+1>20 then (⟨r.at_,r.deep+1,r.err⟩:St).fail p 4 else ⟨r.at_,r.deep+1,r.err⟩)=r2
 split
 ·exact h _
 ·rfl
theorem mO {ts:List Wd} {sum:Rd} (h:DY sum) (s:List UInt8):DY (D0 ts sum s):=fun r=>by
 simp only [D0]
 split
 ·obtain ⟨h1,h2⟩:=WN h (ts:=ts) 6 [] r.step.step rfl
  simp only [Ex.tn,okT,Jr,h1,Bool.and_true,decide_eq_true_eq];simp only [List.length_nil] at h2;omega
 ·rfl
theorem mQ {ts:List Wd} {sum fac:Rd} (h:DY sum) (hf:DY fac):DY (Cm ts sum fac):=fun r=>by
 unfold Cm
 split
 ·split
  ·rfl
  ·split
   ·exact mO h _ r
   ·split
    ·have:=WQ (p:=r.at_) hf r.step
     simp [Ex.tn,okT,C2,this]
    ·split
     ·exact WQ h _
     ·rfl
 ·rfl
theorem Q5 (ts:List Wd):∀n,DY (fac ts n)
 |0=>fun _=>rfl
 |n+1=>mQ (Nx (Nx (Q5 ts n))) (Q5 ts n)
theorem Q6 (ts:List Wd):DY (CC ts):=Nx (Nx (Q5 ts _))
theorem mR (ts:List Wd):okT (Bb ts).1.tn=true:=by
 unfold Bb
 split
 ·exact Q6 ts _
 ·rfl
theorem mS (ts:List Wd):okT (CK ts).1.2.1.tn=true∧okT (CK ts).1.2.2.tn=true:=by
 unfold CK;simp only
 split
 ·exact ⟨Q6 ts _,Q6 ts _⟩
 ·exact ⟨rfl,rfl⟩
theorem Q7 (ts:List Wd):BN (Bb ts).2.2:=by
 rw [←P6];unfold Ka
 split
 ·exact C1
 ·rename_i x hx
  have:=Jp ts ⟨0,0,none⟩ C1;rw [hx] at this;exact this
theorem mT (ts:List Wd) (r:St) (h:BN r.err):BN (Cf ts r).2.err:=by
 unfold Cf
 split
 ·exact h
 ·split
  ·split
   ·exact h
   ·simp only [St.fail,‹r.err=none›]
    exact Qm (by decide)
  ·simp only [St.fail,‹r.err=none›]
   exact Qm (by decide)
theorem Q8 (ts:List Wd):BN (CK ts).2.2:=by
 rw [←U5];unfold Ld;have h1:=mT ts _ (Jp ts ⟨0,0,none⟩ C1)
 split
 ·rename_i x hx
  rw [hx] at h1;exact h1
 ·split
  ·exact C1
  ·rename_i x hx
   have:=Jp ts _ h1;rw [hx] at this;exact this
end Go.Proofs.YtffcldkblcmmiaaGreatDoor
namespace Go.Proofs.YtffcldkblcmmiaaGreatDoor.Tp
open Go.RowKit Go.Proofs.Fw
set_option maxRecDepth 100000
theorem sz40:Af zP 40=some 1:=by kernel_rfl
theorem ag40:A4 zP 40=some false:=by kernel_rfl
theorem zz16:Am zP 40=some (.nilSlice)∧B6 zP 40 2=true∧Af zP 47=some 29∧A4 zP 47=some true∧Am zP 47=some (.agg [.int .i64 0,.nilSlice,.int .i64 0,.int .i64 0,.str [],.nilSlice,.int .i64 0,.int .i64 0,.str [],.nilSlice,.str [],.int .i64 0,.int .i64 0,.str [],.nilSlice,.int .i64 0,.int .i64 0,.str [],.nilSlice,.str [],.int .i64 0,.int .i64 0,.str [],.nilSlice,.int .i64 0,.int .i64 0,.str [],.nilSlice,.int .i64 0])∧fI zP 47 0=(0,3,true)∧fI zP 47 1=(1,40,true)∧fI zP 47 2=(2,43,true)∧fI zP 47 3=(6,43,true)∧fI zP 47 4=(10,45,true)∧fI zP 47 5=(19,9,true)∧fI zP 47 6=(20,43,true)∧fI zP 47 7=(24,43,true)∧fI zP 47 8=(28,2,true)∧Af zP 140=some 1∧A4 zP 140=some false∧Am zP 140=some (.nilPtr)∧Af zP 142=some 3∧A4 zP 142=some true∧Am zP 142=some (.agg [.nilSlice,.int .i64 0,.nilIface])∧fI zP 142 0=(0,137,true)∧fI zP 142 1=(1,3,true)∧fI zP 142 2=(2,27,true)∧Af zP 179=some 2:=by and_intros<;>kernel_rfl
theorem zz17:A4 zP 179=some true∧Am zP 179=some (.agg [.str [],.nilSlice])∧fI zP 179 0=(0,9,true)∧fI zP 179 1=(1,129,true)∧Af zP 280=some 24∧A4 zP 280=some true∧Am zP 280=some (.agg [.int .u8 0,.int .u8 0,.int .u8 0,.int .u8 0,.int .u8 0,.int .u8 0,.int .u8 0,.int .u8 0,.int .u8 0,.int .u8 0,.int .u8 0,.int .u8 0,.int .u8 0,.int .u8 0,.int .u8 0,.int .u8 0,.int .u8 0,.int .u8 0,.int .u8 0,.int .u8 0,.int .u8 0,.int .u8 0,.int .u8 0,.int .u8 0])∧Af zP 286=some 20∧A4 zP 286=some true∧Am zP 286=some (.agg [.int .u64 0,.int .u64 0,.int .u64 0,.int .u64 0,.int .u64 0,.int .u64 0,.int .u64 0,.int .u64 0,.int .u64 0,.int .u64 0,.int .u64 0,.int .u64 0,.int .u64 0,.int .u64 0,.int .u64 0,.int .u64 0,.int .u64 0,.int .u64 0,.int .u64 0,.int .u64 0])∧AI zP 30=true:=by and_intros<;>kernel_rfl
theorem go48:AI zP 48=true:=by kernel_rfl
theorem zz18:AI zP 50=true∧AI zP 51=true∧AI zP 52=true∧AI zP 73=true∧AI zP 74=true∧AI zP 75=true∧AI zP 76=true∧AI zP 102=true∧AI zP 103=true∧AI zP 104=true∧AI zP 105=true∧AI zP 107=true∧AI zP 108=true∧AI zP 109=true∧AI zP 127=true∧AI zP 162=true∧AI zP 163=true∧AI zP 164=true∧AI zP 165=true∧AI zP 167=true∧AI zP 168=true∧AI zP 169=true:=by and_intros<;>kernel_rfl
attribute [simp] sz40 ag40 zz16 Tryz.underlying40 Tryz.underlying47
attribute [simp] Tryz.underlying140 Tryz.underlying142 zz17 Tryz.underlying179 Tryz.underlying280
attribute [simp] Tryz.underlying286 go48 zz18
end Go.Proofs.YtffcldkblcmmiaaGreatDoor.Tp
namespace Go.Proofs.YtffcldkblcmmiaaGreatDoor
open Go.RowKit Go.Proofs.Fw
set_option maxRecDepth 100000
set_option maxHeartbeats 4000000
def CB (l:List (List UInt8 × Nat)):List (List UInt8 × Int):=l.map fun x=>(x.1,(x.2:Int))
def AO (e:Er):Prop:=∀l c,e=some (l,c)→l≠[]∧c≠0
theorem Bx:AO none:=fun _ _ h=>by cases h
theorem HF {l:List (List UInt8 × Nat)} {c:Nat} (hl:l≠[]) (hc:c≠0):AO (some (l,c)):=fun l' c' h=>by injection h with h;injection h with h1 h2;subst h1;subst h2;exact ⟨hl,hc⟩
theorem WR {e:Er} (h:AO e) {l:List (List UInt8 × Nat)} {c:Nat} (hl:l≠[]) (hc:c≠0):AO (some (e.getD (l,c))):=by
 cases e with
 |none=>exact HF hl hc
 |some x=>exact h
theorem Q9:∀{a b:List (List UInt8 × Nat)},CB a=CB b→a=b
 |[],[],_=>rfl
 |[],x::b,h=>by simp [CB] at h
 |x::a,[],h=>by simp [CB] at h
 |(w,p)::a,(w',p')::b,h=>by
  simp only [CB,List.map_cons,List.cons.injEq,Prod.mk.injEq] at h;obtain ⟨⟨rfl,h1⟩,h2⟩:=h;have:p=p':=by omega
  rw [this,Q9 h2]
def Ad:Enc Int where
 sz:=1
 c:=fun n=>[.int .i64 n]
 pos:=by decide
 len:=fun _=>rfl
 low:=fun _=>rfl
 one:=fun _=>rfl
 inj:=fun x y h=>by simpa using h
def itE:Enc It where
 sz:=2
 c:=fun x=>[.str x.name,Ad.av x.dims]
 pos:=by decide
 len:=fun _=>rfl
 low:=fun x=>by simp
 one:=fun x=>by simp
 inj:=fun x y h=>by simp only [List.cons.injEq,AV.str.injEq,and_true] at h;obtain ⟨a,b⟩:=x;obtain ⟨a',b'⟩:=y;simp only at h;rw [h.1,Ad.av_inj h.2]
def Ab:Enc (List UInt8) where
 sz:=1
 c:=fun s=>[.str s]
 pos:=by decide
 len:=fun _=>rfl
 low:=fun _=>rfl
 one:=fun _=>rfl
 inj:=fun x y h=>by simpa using h
theorem Ny:Ad.sz=1:=rfl
theorem RA:itE.sz=2:=rfl
theorem Lx (n:Int):Ad.c n=[.int .i64 n]:=rfl
theorem Gk (x:It):itE.c x=[.str x.name,Ad.av x.dims]:=rfl
structure Sx where
 kind:Int
 items:List It
 to:Tn
 e:Tn
 op:List UInt8
 ca:Tn
 cb:Tn
 name:List UInt8
 lo:Tn
 hi:Tn
 step:Int
def Sm.x (m:Sm):Sx:=⟨m.kind,m.items,m.to.tn,m.e.tn,m.op,m.ca.tn,m.cb.tn,m.name,m.lo.tn,m.hi.tn,m.step⟩
def Sx.c (x:Sx):List AV:=[.int .i64 x.kind,itE.av x.items,.int .i64 x.to.k,.int .i64 x.to.n,.str x.to.s,x.to.ar,.int .i64 x.e.k,.int .i64 x.e.n,.str x.e.s,x.e.ar,.str x.op,
 .int .i64 x.ca.k,.int .i64 x.ca.n,.str x.ca.s,x.ca.ar,.int .i64 x.cb.k,.int .i64 x.cb.n,.str x.cb.s,x.cb.ar,.str x.name,.int .i64 x.lo.k,.int .i64 x.lo.n,.str x.lo.s,x.lo.ar,.int .i64 x.hi.k,.int .i64 x.hi.n,.str x.hi.s,x.hi.ar,.int .i64 x.step]
theorem Sx.c_low (x:Sx):lowL 0 x.c=true:=by simp [Sx.c]
def sxE:Enc Sx where
 sz:=29
 c:=Sx.c
 pos:=by decide
 len:=fun _=>rfl
 low:=Sx.c_low
 one:=fun x=>by simp [Sx.c]
 inj:=fun x y h=>by
  have tn_ext:∀a b:Tn,a.k=b.k→a.n=b.n→a.s=b.s→a.ar=b.ar→a=b:=fun a b h1 h2 h3 h4=>Ks a b (by rw [CY,CY,h1,h2,h3,h4])
  simp only [Sx.c,List.cons.injEq,AV.int.injEq,AV.str.injEq,true_and,and_true] at h;obtain ⟨h1,h2,a1,a2,a3,a4,b1,b2,b3,b4,h3,c1,c2,c3,c4,d1,d2,d3,d4,h4,e1,e2,e3,e4,f1,f2,f3,f4,h5⟩:=h;obtain ⟨_,_,_,_,_,_,_,_,_,_,_⟩:=x;obtain ⟨_,_,_,_,_,_,_,_,_,_,_⟩:=y;simp only at *;rw [h1,itE.av_inj h2,tn_ext _ _ a1 a2 a3 a4,tn_ext _ _ b1 b2 b3 b4,h3,tn_ext _ _ c1 c2 c3 c4,tn_ext _ _ d1 d2 d3 d4,h4,tn_ext _ _ e1 e2 e3 e4,tn_ext _ _ f1 f2 f3 f4,h5]
def t0:Tn := .lf 0 0 []
@[simp] theorem t0_k:t0.k=0:=AP rfl
@[simp] theorem t0_n:t0.n=0:=AP rfl
@[simp] theorem t0_s:t0.s=[]:=AP rfl
@[simp] theorem t0_ar:t0.ar = .nilSlice:=AP rfl
theorem B2:Ex.none.tn=t0:=rfl
theorem WT {ts:List Wd} {i:Nat} {w:Wd} (hw:ts[i]? = some w) {s:List UInt8} (hs:s≠[]) (k:Nat):isK ts i k s=(w.kind==k&&w.text==s):=by
 have:(s==[])=false:=by rw [beq_eq_false_iff_ne];exact hs
 simp only [isK,hw,this,Bool.false_or]
theorem Sr.fail_ok {r:Sr} (h:AO r.err) (p:Nat) {c:Nat} (hc:c≠0):AO (r.fail p c).err:=WR h (by simp) hc
theorem D8 {ts:List Wd} {r:Sr} {k:Nat} {s:List UInt8} (h:isW ts r k s=true):r.at_<ts.length∧r.err=none:=by
 simp only [isW,isK,Bool.and_eq_true,Option.isNone_iff_eq_none] at h;refine ⟨?_,h.1⟩;have h2:=h.2
 split at h2
 ·rename_i hw;exact (List.getElem?_eq_some_iff.1 hw).1
 ·cases h2
theorem RB {ts:List Wd} {r:Sr} (he:r.err=none) {w:Wd} (hw:ts[r.at_]? = some w) (k:Nat):isW ts r k []=(w.kind==k):=by simp [isW,isK,he,hw]
def xE (x:Option (Nat × Nat)):Er:=x.map fun y=>([(Hf,y.1)],y.2)
theorem mU {x:Option (Nat × Nat)} (h:BN x):AO (xE x):=by
 cases x with
 |none=>exact Bx
 |some y =>obtain ⟨p,c⟩:=y;exact HF (by simp) fun hc=>h p (by simp only at hc;rw [hc])
theorem HG {ts:List Wd} {r:Sr} {k:Nat} {s:List UInt8} (h:isW ts r k s=true):CO ts r k s=r.step:=by simp [CO,h]
theorem HH {ts:List Wd} {r:Sr} {k:Nat} {s:List UInt8} (h:isW ts r k s=false):CO ts r k s=r:=by simp [CO,h]
theorem I1:B6 zP 129 1=true:=by kernel_rfl
@[simp] theorem bsDim (n:Int):Cr zP 129 1 [(0,.int .i64 n)]=some (.slice .full 1 1 [.int .i64 n]):=by kernel_rfl
@[simp high] theorem rQ (k:Nat) (l:List Int):alen zP 129 (Ad.tk k l)=some (.int .i64 l.length):=Ad.tk_len Tryz.underlying129 k l
def bS (ts:List Wd) (r:St):Prop:=r.at_≤ts.length∧∀p c,r.err=some (p,c)→p≤ts.length
def bR (ts:List Wd) (of:Rd):Prop:=∀r,bS ts r→bS ts (of r).2
theorem bS.step {ts:List Wd} {r:St} (h:bS ts r) (hl:r.at_<ts.length):bS ts r.step:=⟨hl,h.2⟩
theorem bS.next {ts:List Wd} {r:St} (h:bS ts r) {s:List UInt8} (hn:nextB ts r s=true):bS ts r.step:=h.step (FO hn)
theorem bS.fail {ts:List Wd} {r:St} (h:bS ts r) {p:Nat} (hp:p≤ts.length) (e:Nat):bS ts (r.fail p e):=by
 unfold St.fail
 split
 ·refine ⟨h.1,fun q c hq => ?_⟩
  simp only [Option.some.injEq,Prod.mk.injEq] at hq;omega
 ·exact h
theorem bS.must {ts:List Wd} {r:St} (h:bS ts r) (s:List UInt8):bS ts (CJ ts r s):=by
 unfold CJ
 split
 ·exact h.next ‹_›
 ·exact h.fail h.1 2
theorem RC {ts:List Wd} {of:Rd} (ho:bR ts of) {f:List UInt8} {one:Nat} {s:List UInt8} {two:Nat}:∀(n:Nat) (e:Ex) (r:St),bS ts r→bS ts (DG ts of f one s two n e r).2
 |0,e,r,h=>h
 |n+1,e,r,h=>by
  simp only [DG]
  split
  ·exact h
  ·split
   ·exact RC ho n _ _ (ho _ (h.next ‹_›))
   ·split
    ·exact RC ho n _ _ (ho _ (h.next ‹_›))
    ·exact h
theorem Nz {ts:List Wd} {of:Rd} (ho:bR ts of) {f:List UInt8} {one:Nat} {s:List UInt8} {two:Nat}:bR ts (Ef ts of f one s two):=fun r h=>RC ho _ _ _ (ho r h)
theorem WV {ts:List Wd} {sum:Rd} (ho:bR ts sum):∀(n:Nat) (a:List Ex) (r:St),bS ts r→bS ts (DH ts sum n a r).2
 |0,a,r,h=>h
 |n+1,a,r,h=>by
  have h1:=ho r h;simp only [DH]
  split
  ·rename_i hn
   refine WV ho n _ _ ?_
   split
   ·have h2:=h1.fail h1.1 4
    have hl:=FO hn;refine h2.step ?_;rw [show ((sum r).2.fail (sum r).2.at_ 4).at_=(sum r).2.at_ by unfold St.fail;split<;>rfl];exact hl
   ·exact h1.next hn
  ·exact h1
theorem WW {ts:List Wd} {p:Nat} {of:Rd} (ho:bR ts of) (hp:p≤ts.length):bR ts (inF p of):=fun r h=>by
 simp only [inF]
 have h2:bS ts (if r.deep+1>20 then (⟨r.at_,r.deep+1,r.err⟩:St).fail p 4 else ⟨r.at_,r.deep+1,r.err⟩):=by
  split
  ·exact bS.fail (r:=⟨r.at_,r.deep+1,r.err⟩) ⟨h.1,h.2⟩ hp 4
  ·exact ⟨h.1,h.2⟩
 generalize (if r.deep+1>20 then (⟨r.at_,r.deep+1,r.err⟩:St).fail p 4 else ⟨r.at_,r.deep+1,r.err⟩)=r2 at *
 split
 ·have:=ho r2 h2
  exact ⟨this.1,this.2⟩
 ·exact ⟨h2.1,h2.2⟩
theorem mV {ts:List Wd} {sum:Rd} (ho:bR ts sum) (s:List UInt8) {r:St} (h:bS ts r) (hl:r.at_<ts.length):bS ts (D0 ts sum s r).2:=by
 simp only [D0]
 split
 ·rename_i hn
  exact (WV ho 6 [] _ ((h.step hl).next hn)).must _
 ·exact h.step hl
theorem mW {ts:List Wd} {sum fac:Rd} (hs:bR ts sum) (hf:bR ts fac):bR ts (Cm ts sum fac):=fun r h=>by
 unfold Cm
 split
 ·rename_i w he hw
  have hl:r.at_<ts.length:=(List.getElem?_eq_some_iff.1 hw).1
  split
  ·exact h.step hl
  ·split
   ·exact mV hs _ h hl
   ·split
    ·exact WW hf h.1 _ (h.step hl)
    ·split
     ·exact bS.must (WW hs h.1 _ (h.step hl)) _
     ·exact h.fail h.1 2
 ·exact h.fail h.1 2
theorem RD (ts:List Wd):∀n,bR ts (fac ts n)
 |0=>fun _ h=>h
 |n+1=>mW (Nz (Nz (RD ts n))) (RD ts n)
theorem N0 (ts:List Wd):bR ts (CC ts):=Nz (Nz (RD ts _))
theorem bS0 (ts:List Wd):bS ts ⟨0,0,none⟩:=⟨Nat.zero_le _,fun p c h=>by cases h⟩
theorem Ky (ts:List Wd):(Bb ts).2.1≤ts.length∧∀p c,(Bb ts).2.2=some (p,c)→p≤ts.length:=by
 have h:=N0 ts _ (bS0 ts);unfold Bb
 split
 ·exact ⟨h.1,fun p c hq=>by cases hq⟩
 ·rename_i x hx
  exact ⟨Nat.zero_le _,fun p c hq=>h.2 p c (by rw [hx];exact hq)⟩
theorem ma {ts:List Wd} {r:St} (h:bS ts r):bS ts (Cf ts r).2:=by
 unfold Cf
 split
 ·exact h
 ·split
  ·rename_i w hw
   split
   ·exact h.step (List.getElem?_eq_some_iff.1 hw).1
   ·exact h.fail h.1 2
  ·exact h.fail h.1 2
theorem N1 (ts:List Wd):(CK ts).2.1≤ts.length∧∀p c,(CK ts).2.2=some (p,c)→p≤ts.length:=by
 have h:=N0 ts _ (ma (N0 ts _ (bS0 ts)));unfold CK;simp only
 split
 ·exact ⟨h.1,fun p c hq=>by cases hq⟩
 ·rename_i x hx
  exact ⟨Nat.zero_le _,fun p c hq=>h.2 p c (by rw [hx];exact hq)⟩
inductive Nd where
 |mk (line end_:Int) (st:Sx) (body els:List Nd) (mid:Int)
mutual
def ndC:Nd→List AV
 |.mk l e s b c m => .int .i64 l :: .int .i64 e::(s.c++[if b.isEmpty then .nilSlice else .slice .unk 34 b.length (Fk b),if c.isEmpty then .nilSlice else .slice .unk 34 c.length (Fk c),.int .i64 m])
def Fk:List Nd→List AV
 |[]=>[]
 |n::r=>ndC n++Fk r
end
def Nd.line:Nd→Int | .mk l _ _ _ _ _=>l
def Nd.end_:Nd→Int | .mk _ e _ _ _ _=>e
def Nd.st:Nd→Sx | .mk _ _ s _ _ _=>s
def Nd.body:Nd→List Nd | .mk _ _ _ b _ _=>b
def Nd.els:Nd→List Nd | .mk _ _ _ _ c _=>c
def Nd.mid:Nd→Int | .mk _ _ _ _ _ m=>m
theorem Sx.c_len (x:Sx):x.c.length=29:=rfl
theorem Hm (n:Nd):(ndC n).length=34:=by cases n;rw [ndC];simp [Sx.c_len]
mutual
theorem By:∀n:Nd,lowL 0 (ndC n)=true
 |.mk l e s b c m=>by
  have h1:=RE b;have h2:=RE c;have h3:=Sx.c_low s;rw [ndC];simp only [lowL,low,EC,h3,Bool.true_and,Bool.and_true,Bool.and_eq_true]
  constructor
  ·split
   ·rfl
   ·exact h1
  ·split
   ·rfl
   ·exact h2
theorem RE:∀l:List Nd,lowL 0 (Fk l)=true
 |[]=>rfl
 |n::r=>by rw [Fk,EC,By n,RE r];rfl
end
theorem IK (n:Nd):(ndC n).all AV.one=true:=by
 cases n with
 |mk l e s b c m =>
  rw [ndC];have h3:=sxE.one s;have h4:s.c.all AV.one=true:=h3;simp only [List.all_cons,List.all_append,h4,AV.one,Bool.true_and,List.all_nil,Bool.and_true,Bool.and_eq_true]
  constructor
  ·cases b<;>rfl
  ·cases c<;>rfl
theorem Ly:∀l:List Nd,(Fk l).length=l.length*34
 |[]=>rfl
 |n::r=>by rw [Fk,List.length_append,Hm,Ly r,List.length_cons];omega
mutual
theorem Ju:∀a b:Nd,ndC a=ndC b→a=b
 |.mk l e s b c m,.mk l' e' s' b' c' m',h=>by
  simp only [ndC,List.cons.injEq,AV.int.injEq,true_and] at h;obtain ⟨h1,h2,h3⟩:=h;obtain ⟨h4,h5⟩:=List.append_inj h3 (by rw [Sx.c_len,Sx.c_len]);simp only [List.cons.injEq,AV.int.injEq,true_and,and_true] at h5
  have k1:b=b':=by
   cases b with
   |nil=>cases b' with
    |nil=>rfl
    |cons=>simp at h5
   |cons x b=>cases b' with
    |nil=>simp at h5
    |cons y b' =>simp only [List.isEmpty_cons,Bool.false_eq_true,if_false,AV.slice.injEq,true_and] at h5;exact RF _ _ h5.1.2
  have k2:c=c':=by
   cases c with
   |nil=>cases c' with
    |nil=>rfl
    |cons=>simp at h5
   |cons x c=>cases c' with
    |nil=>simp at h5
    |cons y c' =>simp only [List.isEmpty_cons,Bool.false_eq_true,if_false,AV.slice.injEq,true_and] at h5;exact RF _ _ h5.2.1.2
  rw [h1,h2,sxE.inj s s' h4,k1,k2,h5.2.2]
theorem RF:∀a b:List Nd,Fk a=Fk b→a=b
 |[],[],_=>rfl
 |[],n::b,h=>by have:=congrArg List.length h;rw [Ly,Ly] at this;simp at this
 |n::a,[],h=>by have:=congrArg List.length h;rw [Ly,Ly] at this;simp at this
 |n::a,m::b,h=>by rw [Fk,Fk] at h;obtain ⟨h1,h2⟩:=List.append_inj h (by rw [Hm,Hm]);rw [Ju n m h1,RF a b h2]
end
def ndE:Enc Nd where
 sz:=34
 c:=ndC
 pos:=by decide
 len:=Hm
 low:=By
 one:=IK
 inj:=Ju
theorem WX:∀l:List Nd,ndE.row l=Fk l
 |[]=>rfl
 |n::r=>by rw [Enc.row,Fk,WX r];rfl
theorem WY (l:List Nd):(if l.isEmpty then AV.nilSlice else .slice .unk 34 l.length (Fk l))=ndE.av l:=by
 cases l with
 |nil=>rfl
 |cons n r=>rw [Enc.av_ne _ (by simp),WX];rfl
theorem Ch (n:Nd):ndC n = .int .i64 n.line :: .int .i64 n.end_::(n.st.c++[ndE.av n.body,ndE.av n.els,.int .i64 n.mid]):=by
 cases n with
 |mk l e s b c m=>rw [ndC,WY,WY];rfl
end Go.Proofs.YtffcldkblcmmiaaGreatDoor
namespace Go.Proofs.YtffcldkblcmmiaaGreatDoor.Tq
open Go.RowKit Go.Proofs.Fw
set_option maxRecDepth 100000
theorem zz19:Af zP 247=some 1∧A4 zP 247=some false∧Am zP 247=some (.int .u32 0)∧AI zP 60=true:=by and_intros<;>kernel_rfl
attribute [simp] zz19 Tryz.underlying247
end Go.Proofs.YtffcldkblcmmiaaGreatDoor.Tq
namespace Go.Proofs.YtffcldkblcmmiaaGreatDoor.Tv
open Go.RowKit Go.Proofs.Fw
set_option maxRecDepth 100000
theorem zz20:Af zP 52=some 1∧A4 zP 52=some false∧Am zP 52=some (.nilSlice)∧B6 zP 52 2=true∧Af zP 59=some 29∧A4 zP 59=some true∧Am zP 59=some (.agg [.int .i64 0,.nilSlice,.int .i64 0,.int .i64 0,.str [],.nilSlice,.int .i64 0,.int .i64 0,.str [],.nilSlice,.str [],.int .i64 0,.int .i64 0,.str [],.nilSlice,.int .i64 0,.int .i64 0,.str [],.nilSlice,.str [],.int .i64 0,.int .i64 0,.str [],.nilSlice,.int .i64 0,.int .i64 0,.str [],.nilSlice,.int .i64 0])∧fI zP 59 0=(0,3,true)∧fI zP 59 1=(1,52,true)∧fI zP 59 2=(2,55,true)∧fI zP 59 3=(6,55,true)∧fI zP 59 4=(10,57,true)∧fI zP 59 5=(19,9,true)∧fI zP 59 6=(20,55,true)∧fI zP 59 7=(24,55,true)∧fI zP 59 8=(28,2,true)∧Af zP 131=some 2∧A4 zP 131=some true∧Am zP 131=some (.agg [.str [],.nilSlice])∧fI zP 131 0=(0,9,true)∧fI zP 131 1=(1,129,true)∧Af zP 166=some 1∧A4 zP 166=some false∧Am zP 166=some (.nilPtr):=by and_intros<;>kernel_rfl
theorem zz21:Af zP 168=some 4∧A4 zP 168=some true∧Am zP 168=some (.agg [.nilSlice,.int .i64 0,.nilSlice,.int .i64 0])∧fI zP 168 0=(0,162,true)∧fI zP 168 1=(1,3,true)∧fI zP 168 2=(2,33,true)∧AI zP 41=true∧AI zP 58=true∧AI zP 61=true∧AI zP 62=true∧AI zP 63=true∧AI zP 64=true∧AI zP 65=true∧AI zP 69=true∧AI zP 70=true∧AI zP 86=true∧AI zP 87=true∧AI zP 88=true∧AI zP 90=true∧AI zP 91=true∧AI zP 94=true∧AI zP 95=true∧AI zP 113=true∧AI zP 114=true:=by and_intros<;>kernel_rfl
theorem zz22:AI zP 115=true∧AI zP 121=true:=by and_intros<;>kernel_rfl
attribute [simp] zz20 Tryz.underlying52 Tryz.underlying59
attribute [simp] Tryz.underlying131 Tryz.underlying166 zz21 Tryz.underlying168
attribute [simp] zz22
end Go.Proofs.YtffcldkblcmmiaaGreatDoor.Tv
namespace Go.Proofs.YtffcldkblcmmiaaGreatDoor.Tt
open Go.RowKit Go.Proofs.Fw
set_option maxRecDepth 100000
theorem zz23:Af zP 30=some 1∧A4 zP 30=some false∧Am zP 30=some (.nilSlice)∧B6 zP 30 34=true∧Af zP 61=some 34∧A4 zP 61=some true∧Am zP 61=some (.agg [.int .i64 0,.int .i64 0,.int .i64 0,.nilSlice,.int .i64 0,.int .i64 0,.str [],.nilSlice,.int .i64 0,.int .i64 0,.str [],.nilSlice,.str [],.int .i64 0,.int .i64 0,.str [],.nilSlice,.int .i64 0,.int .i64 0,.str [],.nilSlice,.str [],.int .i64 0,.int .i64 0,.str [],.nilSlice,.int .i64 0,.int .i64 0,.str [],.nilSlice,.int .i64 0,.nilSlice,.nilSlice,.int .i64 0])∧fI zP 61 0=(0,3,true)∧fI zP 61 1=(1,3,true)∧fI zP 61 2=(2,59,true)∧fI zP 61 3=(31,30,true)∧fI zP 61 4=(32,30,true)∧fI zP 61 5=(33,3,true)∧Af zP 119=some 1∧A4 zP 119=some false∧Am zP 119=some (.nilPtr)∧Af zP 120=some 1∧A4 zP 120=some false∧Am zP 120=some (.nilSlice)∧B6 zP 120 29=true∧Af zP 121=some 1∧A4 zP 121=some false∧Am zP 121=some (.nilSlice)∧B6 zP 121 2=true:=by and_intros<;>kernel_rfl
theorem zz24:Af zP 123=some 7∧A4 zP 123=some true∧Am zP 123=some (.agg [.nilSlice,.nilSlice,.nilSlice,.int .i64 0,.nilSlice,.int .i64 0,.bool false])∧fI zP 123 0=(0,25,true)∧fI zP 123 1=(1,120,true)∧fI zP 123 2=(2,121,true)∧fI zP 123 3=(3,3,true)∧fI zP 123 4=(4,33,true)∧fI zP 123 5=(6,4,true)∧AI zP 7=true∧AI zP 23=true∧AI zP 24=true∧AI zP 40=true∧AI zP 42=true∧AI zP 66=true∧AI zP 67=true∧AI zP 68=true:=by and_intros<;>kernel_rfl
attribute [simp] zz23 Tryz.underlying30 Tryz.underlying61 Tryz.underlying119
attribute [simp] Tryz.underlying120 Tryz.underlying121 zz24 Tryz.underlying123
end Go.Proofs.YtffcldkblcmmiaaGreatDoor.Tt
namespace Go.Proofs.YtffcldkblcmmiaaGreatDoor.Th
open Go.RowKit Go.Proofs.Fw
set_option maxRecDepth 100000
theorem zz25:Af zP 24=some 1∧A4 zP 24=some false∧Am zP 24=some (.nilSlice)∧B6 zP 24 34=true∧Af zP 49=some 34∧A4 zP 49=some true:=by and_intros<;>kernel_rfl
theorem zv49:Am zP 49=some (.agg [.int .i64 0,.int .i64 0,.int .i64 0,.nilSlice,.int .i64 0,.int .i64 0,.str [],.nilSlice,.int .i64 0,.int .i64 0,.str [],.nilSlice,.str [],.int .i64 0,.int .i64 0,.str [],.nilSlice,.int .i64 0,.int .i64 0,.str [],.nilSlice,.str [],.int .i64 0,.int .i64 0,.str [],.nilSlice,.int .i64 0,.int .i64 0,.str [],.nilSlice,.int .i64 0,.nilSlice,.nilSlice,.int .i64 0]):=by kernel_rfl
theorem zz26:fI zP 49 0=(0,3,true)∧fI zP 49 1=(1,3,true)∧fI zP 49 2=(2,47,true)∧fI zP 49 3=(31,24,true)∧fI zP 49 4=(32,24,true)∧fI zP 49 5=(33,3,true)∧Af zP 71=some 1∧A4 zP 71=some false∧Am zP 71=some (.nilFunc)∧Af zP 91=some 1∧A4 zP 91=some false∧Am zP 91=some (.nilPtr)∧Af zP 92=some 1∧A4 zP 92=some false∧Am zP 92=some (.nilPtr)∧Af zP 94=some 4∧A4 zP 94=some true∧Am zP 94=some (.agg [.nilSlice,.nilPtr,.int .i64 0,.bool false])∧fI zP 94 0=(0,24,true)∧fI zP 94 1=(1,92,true)∧fI zP 94 2=(2,3,true)∧fI zP 94 3=(3,4,true)∧Af zP 100=some 35∧A4 zP 100=some true:=by and_intros<;>kernel_rfl
theorem zz27:Am zP 100=some (.agg [.int .i64 0,.int .i64 0,.int .i64 0,.nilSlice,.int .i64 0,.int .i64 0,.str [],.nilSlice,.int .i64 0,.int .i64 0,.str [],.nilSlice,.str [],.int .i64 0,.int .i64 0,.str [],.nilSlice,.int .i64 0,.int .i64 0,.str [],.nilSlice,.str [],.int .i64 0,.int .i64 0,.str [],.nilSlice,.int .i64 0,.int .i64 0,.str [],.nilSlice,.int .i64 0,.nilSlice,.nilSlice,.int .i64 0,.nilPtr])∧fI zP 100 0=(0,49,true)∧fI zP 100 1=(34,92,true)∧AI zP 12=true∧AI zP 15=true∧AI zP 17=true∧AI zP 18=true∧AI zP 27=true∧AI zP 29=true:=by and_intros<;>kernel_rfl
theorem go31:AI zP 31=true:=by kernel_rfl
theorem go32:AI zP 32=true:=by kernel_rfl
theorem go33:AI zP 33=true:=by kernel_rfl
theorem go53:AI zP 53=true:=by kernel_rfl
theorem go54:AI zP 54=true:=by kernel_rfl
attribute [simp] zz25 Tryz.underlying24 zv49 zz26 Tryz.underlying49 Tryz.underlying71
attribute [simp] Tryz.underlying91 Tryz.underlying92 Tryz.underlying94 zz27
attribute [simp] Tryz.underlying100 go31 go32 go33 go53 go54
end Go.Proofs.YtffcldkblcmmiaaGreatDoor.Th
namespace Go.Proofs.YtffcldkblcmmiaaGreatDoor
open Go.RowKit Go.Proofs.Fw
set_option maxRecDepth 100000
set_option maxHeartbeats 4000000
def Ac:Env:=⟨AG.glob,Le,AG.imm,fun t=>t==24,fun _=>false⟩
theorem Jv:C7 zP Ac:=Ke
theorem Dg:∀i,low 0 (Ac.glob i)=true:=BL
theorem CS.toS {f:FuncId} {args:List AV} {H H':AH} {v:AV} (h:CS zP AG f args H v H'):CS zP Ac f args H v H':=fun g w cargs R hG hA=>h g w cargs R hG hA
theorem CS.ofS {f:FuncId} {args:List AV} {H H':AH} {v:AV} (h:CS zP Ac f args H v H'):CS zP AG f args H v H':=fun g w cargs R hG hA=>h g w cargs R hG hA
@[simp] theorem Ho:Ac.soft 24=true:=by decide
@[simp] theorem immSb:Ac.imm 94=false:=by decide
@[simp] theorem immSo:Ac.imm 100=false:=by decide
@[simp] theorem immSn:Ac.imm 49=false:=by decide
@[simp] theorem immSx:Ac.imm 47=false:=by decide
theorem CP:Cx Bl zP Ac:=⟨Jc,Jv,Ae⟩
theorem Hp:B6 zP 24 34=true:=by kernel_rfl
@[simp] theorem bsNdP (cs:List AV) (hl:cs.length=34):Cr zP 24 1 [(0,.agg cs)]=some (.slice .full 34 1 cs):=by
 have h1:Af zP 49=some 34:=by kernel_rfl
 obtain ⟨z,h2,h3⟩:∃z,Am zP 49=some (.agg z)∧z.length=34:=⟨_,Th.zv49,rfl⟩
 simp [Cr,Tryz.underlying24,h1,h2,h3,FV,EW,hl,JE,Aw]
section
variable {cs:List AV}
theorem mb (hl:cs.length=34) (ho:cs.all AV.one=true) (hc:lowL 0 cs=true) (d:Int) (o:Bool) :
  CS zP Ac 54 [.ptr 0 0,.agg cs] [some (.box [.nilSlice,.nilPtr,.int .i64 d,.bool o])] (.tup []) [some (.box [.slice (.tok 1) 34 1 cs,.nilPtr,.int .i64 d,.bool o]),some (.tok 1)]:=by
 refine CS.of_TrN (H0:=[some (.box [.nilSlice,.nilPtr,.int .i64 d,.bool o])]) (H1:=[some (.box [.slice (.tok 1) 34 1 cs,.nilPtr,.int .i64 d,.bool o]),some (.tok 1)]) 2 (by simp) (c:=At Tryz.f54) Tryz.func54 (by kernel_rfl) 0 (by simp [Tryz.f54]) (fun B hB hG => ?_) (by simp) (by simp [AR,Av,Ak (Nat.zero_le 2) cs hc]);refine Tr.post ?_;refine Tr.goD CP hG ?_;simp [Tryz.f54];refine LpD.turns CP hG [7,9,12] zL4 ?_;have sb:=fun H fid ow ys (h:ys.all AV.one=true)=>LQ (P:=zP) (H:=H) (fid:=fid) (ow:=ow) (ys:=ys) Hp h
 have ht:cs.take 34=cs:=List.take_of_length_le (by omega);have uA:∀x∈cs,AV.one x=true:=fun x hx=>List.all_eq_true.1 ho x hx
 simp only [AV.one] at uA;simp [hl,ht,HN Ho,sb];rw [if_pos uA];simp [hl,ht]
 refine ⟨mkT 103 [],[some (.box [.slice (.tok 1) 34 1 cs,.nilPtr,.int .i64 d,.bool o]),some (.tok 1)],AE.put 2 0 cs rfl (fun i=>if i=0 then 0 else 2) 2 (by simp [hB]) (by
  intro i j hi hj h
  rcases (by omega:i=0∨i=1) with rfl|rfl<;>rcases (by omega:j=0∨j=1) with rfl|rfl<;>simp at h ⊢) (by simp [hB]) rfl (by
  intro i hi;rcases (by omega:i=0∨i=1) with rfl|rfl
  ·simp [AH.at,Bu,C8,AJ,ren,AN,BB _ cs hc]
  ·simp [AH.at,Bu,AJ]) (by simp [Ak (Nat.zero_le 2) cs hc]),rfl⟩
theorem me {xs:List AV} (m:Nat) (hm:m<137438953472) (hl:cs.length=34) (ho:cs.all AV.one=true) (hc:lowL 0 cs=true) (hx:lowL 0 xs=true) (d:Int) (o:Bool) :
  CS zP Ac 54 [.ptr 0 0,.agg cs] [some (.box [.slice (.tok 1) 34 m xs,.nilPtr,.int .i64 d,.bool o]),some (.tok m)] (.tup []) [some (.box [.slice (.tok 1) 34 (m+1) (xs++cs),.nilPtr,.int .i64 d,.bool o]),some (.tok (m+1))]:=by
 refine CS.of_TrN (H0:=[some (.box [.slice (.tok 1) 34 m xs,.nilPtr,.int .i64 d,.bool o]),some (.tok m)]) (H1:=[some (.box [.slice (.tok 1) 34 (m+1) (xs++cs),.nilPtr,.int .i64 d,.bool o]),some (.tok (m+1))]) 2 (by simp) (c:=At Tryz.f54) Tryz.func54 (by kernel_rfl) 0 (by simp [Tryz.f54]) (fun B hB hG => ?_) (by simp) (by simp [AR,Av,Ak (Nat.zero_le 2) cs hc,Ak (Nat.zero_le 2) xs hx]);refine Tr.post ?_;refine Tr.goD CP hG ?_;simp [Tryz.f54];refine LpD.turns CP hG [7,9,12] zL4 ?_;have sb:=fun H fid ow ys (hk:AH.at H 1=some (.tok m)) (h:ys.all AV.one=true)=>LR (P:=zP) (H:=H) (fid:=fid) (k:=1) (n:=m) (xs:=xs) (ow:=ow) (ys:=ys) Hp hk (by omega) h
 have ht:cs.take 34=cs:=List.take_of_length_le (by omega);have uA:∀x∈cs,AV.one x=true:=fun x hx=>List.all_eq_true.1 ho x hx
 simp only [AV.one] at uA;simp [hl,ht,HN Ho,sb];rw [if_pos uA];simp [hl,ht]
 refine ⟨mkT 103 [],[some (.box [.slice (.tok 1) 34 (m+1) (xs++cs),.nilPtr,.int .i64 d,.bool o]),some (.tok (m+1))],AE.put 1 m cs rfl (fun i=>i) 2 (by simp [hB]) (by
  intro i j hi hj h
  exact h) (by simp) rfl (by
  intro i hi;rcases (by omega:i=0∨i=1) with rfl|rfl
  ·simp [AH.at,Bu,C8,AJ,ren,AN,BB _ _ hc,BB _ _ hx,BB _ (xs++cs) (by simp [EC,hc,hx])]
  ·simp [AH.at,Bu,AJ]) (by simp [Ak (Nat.zero_le 2) cs hc,Ak (Nat.zero_le 2) xs hx]),rfl⟩
end
end Go.Proofs.YtffcldkblcmmiaaGreatDoor
namespace Go.Proofs.Fw
open Go.RowKit
abbrev Dh (a c:Tmp) (tb:TypeId) (p:String):Array Oper :=
 #[{dst:=some a,op := .alloc tb,type:=0,pos:=p,after := #[],guard:=none},
  {dst:=none,op := .store tb (.tmp a) (.const (.bool true)),type:=0,pos:=p,after := #[⟨0,.data⟩,⟨2,.gcOnly .appendInPlace⟩],guard:=none},
  {dst:=none,op := .store tb (.tmp a) (.const (.bool false)),type:=0,pos:=p,after := #[⟨0,.data⟩,⟨1,.textOnly .appendInPlace⟩],guard:=none},
  {dst:=some c,op := .load tb (.tmp a),type:=tb,pos:=p,after := #[⟨0,.data⟩,⟨0,.phase⟩,⟨1,.phase⟩,⟨2,.phase⟩],guard:=none}]
section
variable {a c:Tmp} {tb:TypeId} {p:String}
theorem WZ:Region.ready .any (Dh a c tb p) (Array.replicate 4 false)=[0]:=by kernel_rfl
theorem Wa:Region.ready .any (Dh a c tb p) ((Array.replicate 4 false).setIfInBounds 0 true)=[1,2]:=by kernel_rfl
theorem Wb:Region.ready .any (Dh a c tb p) (((Array.replicate 4 false).setIfInBounds 0 true).setIfInBounds 1 true)=[2]:=by kernel_rfl
theorem Wc:Region.ready .any (Dh a c tb p) (((Array.replicate 4 false).setIfInBounds 0 true).setIfInBounds 2 true)=[1]:=by kernel_rfl
theorem mf:Region.ready .any (Dh a c tb p) ((((Array.replicate 4 false).setIfInBounds 0 true).setIfInBounds 1 true).setIfInBounds 2 true)=[3]:=by kernel_rfl
theorem mg:Region.ready .any (Dh a c tb p) ((((Array.replicate 4 false).setIfInBounds 0 true).setIfInBounds 2 true).setIfInBounds 1 true)=[3]:=by kernel_rfl
theorem mh:Region.ready .any (Dh a c tb p) (((((Array.replicate 4 false).setIfInBounds 0 true).setIfInBounds 1 true).setIfInBounds 2 true).setIfInBounds 3 true)=[]:=by kernel_rfl
theorem mi:Region.ready .any (Dh a c tb p) (((((Array.replicate 4 false).setIfInBounds 0 true).setIfInBounds 2 true).setIfInBounds 1 true).setIfInBounds 3 true)=[]:=by kernel_rfl
variable {O:Orc} {P:Program} {E:Env} {t:List AV} {H:AH} {K:List AV→AH→Prop}
theorem mj (hz:Am P tb=some (.bool false)) (hs:Af P tb=some 1) (hg:A4 P tb=some false) (ha:a<t.length)
  (h:∀x y:Bool,K (AT (AT t (some a) (.ptr H.length 0)) (some c) (.bool x)) (H++[some (.box [.bool y])])) :
  KN O P E (Dh a c tb p) ((AX E (Dh a c tb p).toList H.length).map (·.2)) 4 (Array.replicate 4 false) t (H++[none]) K:=by
 have hH:AH.at (H++[none]) H.length=none:=by simp [AH.at]
 have ht:(AT t (some a) (.ptr H.length 0))[a]? = some (.ptr H.length 0):=by simp [AT,ha]
 generalize hT:AT t (some a) (.ptr H.length 0)=T at h ht;have wK:∀e:Env,AC e T (.tmp a) = .ptr H.length 0:=fun e=>by simp [AC,List.getD_eq_getElem?_getD,ht]
 have uw:∀(e:Option Ent) (x:Option Ent),(H++[e]).set H.length x=H++[x]:=fun e x=>by rw [List.set_append_right _ _ (Nat.le_refl _)];simp
 have xN:∀x:Ent,AH.at (H++[some x]) H.length=some x:=fun x=>by simp [AH.at]
 have load:∀(x:Bool) (fid:Nat),Ck O P E (Dh a c tb p) T (H++[some (.box [.bool x])]) ({dst:=some c,op := .load tb (.tmp a),type:=tb,pos:=p,after := #[⟨0,.data⟩,⟨0,.phase⟩,⟨1,.phase⟩,⟨2,.phase⟩],guard:=none},fid)=some (.bool x,[],[H.length]):=by
  intro x fid
  have hv:BF E (H++[some (.box [.bool x])]) (AC E T) ({dst:=some c,op := .load tb (.tmp a),type:=tb,pos:=p,after := #[⟨0,.data⟩,⟨0,.phase⟩,⟨1,.phase⟩,⟨2,.phase⟩],guard:=none},fid)=[H.length]:=by
   show Da (H++[some (.box [.bool x])]) 0 (Ec [AC E T (.tmp a)])=_
   rw [wK,UK];rfl
  have hl:BA P (mask (H++[some (.box [.bool x])]) [H.length]) tb (.ptr H.length 0)=some (.bool x):=by rw [Ug P tb (by intro i hi;exact hi)];unfold BA;simp only [xN];unfold BM;rw [hg];rfl
  have sX:BJ O P E (AC E T) (mask (H++[some (.box [.bool x])]) [H.length]) fid [H.length] {dst:=some c,op := .load tb (.tmp a),type:=tb,pos:=p,after := #[⟨0,.data⟩,⟨0,.phase⟩,⟨1,.phase⟩,⟨2,.phase⟩],guard:=none}=(BA P (mask (H++[some (.box [.bool x])]) [H.length]) tb (AC E T (.tmp a))).map (fun a=>(a,[])):=rfl;rw [wK,hl] at sX;unfold Ck;simp only [Ax,hv,sX];rfl
 have store:∀(x y:Bool) (fid:Nat) (af:Array Edge),Ck O P E (Dh a c tb p) T (H++[some (.box [.bool x])]) ({dst:=none,op := .store tb (.tmp a) (.const (.bool y)),type:=0,pos:=p,after:=af,guard:=none},fid)=some (.nothing,[(H.length,.box [.bool y])],[H.length]):=by
  intro x y fid af
  have hv:BF E (H++[some (.box [.bool x])]) (AC E T) ({dst:=none,op := .store tb (.tmp a) (.const (.bool y)),type:=0,pos:=p,after:=af,guard:=none},fid)=[H.length]:=by
   show Ec [AC E T (.tmp a)]=_
   rw [wK];rfl
  have hl:DZ P (mask (H++[some (.box [.bool x])]) [H.length]) tb (.ptr H.length 0) (.bool y)=some (.nothing,[(H.length,.box [.bool y])]):=by rw [Uh P tb (by intro i hi;exact hi)];unfold DZ;simp only [xN,hs];rfl
  have sX:BJ O P E (AC E T) (mask (H++[some (.box [.bool x])]) [H.length]) fid [H.length] {dst:=none,op := .store tb (.tmp a) (.const (.bool y)),type:=0,pos:=p,after:=af,guard:=none}=DZ P (mask (H++[some (.box [.bool x])]) [H.length]) tb (AC E T (.tmp a)) (.bool y):=rfl;rw [wK,hl] at sX;unfold Ck;simp only [Ax,hv,sX];simp
 have alloc:Ck O P E (Dh a c tb p) t (H++[none]) ({dst:=some a,op := .alloc tb,type:=0,pos:=p,after := #[],guard:=none},H.length)=some (.ptr H.length 0,[(H.length,.box [.bool false])],[H.length]):=by
  have sX:∀S,BJ O P E (AC E t) (mask (H++[none]) S) H.length S {dst:=some a,op := .alloc tb,type:=0,pos:=p,after := #[],guard:=none}=(match Am P tb with|some z=>some (.ptr H.length 0,[(H.length,.box (Aw z))])|none=>none):=fun _=>rfl
  have hv:BF E (H++[none]) (AC E t) ({dst:=some a,op := .alloc tb,type:=0,pos:=p,after := #[],guard:=none},H.length)=[H.length]:=by
   show H.length::Da (H++[none]) 4 []=_
   rw [UL]
  unfold Ck;simp only [Ax,hv,sX,hz];simp [Aw]
 have fin:∀(x:Bool) (l:Array Bool),Region.ready .any (Dh a c tb p) l=[3]→Region.ready .any (Dh a c tb p) (l.setIfInBounds 3 true)=[]→KN O P E (Dh a c tb p) ((AX E (Dh a c tb p).toList H.length).map (·.2)) 1 l T (H++[some (.box [.bool x])]) K:=by intro x l h1 h2;refine ⟨by rw [h1];simp,fun i hi => ?_⟩;rw [h1] at hi;simp only [List.mem_singleton] at hi;subst hi;exact ⟨{dst:=some c,op := .load tb (.tmp a),type:=tb,pos:=p,after := #[⟨0,.data⟩,⟨0,.phase⟩,⟨1,.phase⟩,⟨2,.phase⟩],guard:=none},_,_,_,rfl,fun hn=>by simp [Ap] at hn,load x _,h2,h x x⟩
 refine ⟨by rw [WZ];simp,fun i hi => ?_⟩;rw [WZ] at hi;simp only [List.mem_singleton] at hi;subst hi;refine ⟨{dst:=some a,op := .alloc tb,type:=0,pos:=p,after := #[],guard:=none},_,_,_,rfl,fun _ => ?_,alloc,?_⟩
 ·exact ⟨by simp [Dh,AX],by first|(simp [Dh,AX];done)|(simpa [Dh,AX] using hH)⟩
 simp only [hT,AQ,uw];refine ⟨by rw [Wa];simp,fun i hi => ?_⟩;rw [Wa] at hi;simp only [List.mem_cons,List.not_mem_nil,or_false] at hi;rcases hi with rfl|rfl
 ·refine ⟨{dst:=none,op := .store tb (.tmp a) (.const (.bool true)),type:=0,pos:=p,after := #[⟨0,.data⟩,⟨2,.gcOnly .appendInPlace⟩],guard:=none},_,_,_,rfl,fun hn=>by simp [Ap] at hn,store _ true _ _,?_⟩
  simp only [AT,AQ,uw];refine ⟨by rw [Wb];simp,fun i hi => ?_⟩;rw [Wb] at hi;simp only [List.mem_singleton] at hi;subst hi;refine ⟨{dst:=none,op := .store tb (.tmp a) (.const (.bool false)),type:=0,pos:=p,after := #[⟨0,.data⟩,⟨1,.textOnly .appendInPlace⟩],guard:=none},_,_,_,rfl,fun hn=>by simp [Ap] at hn,store _ false _ _,?_⟩;simp only [AT,AQ,uw];exact fin false _ mf mh
 ·refine ⟨{dst:=none,op := .store tb (.tmp a) (.const (.bool false)),type:=0,pos:=p,after := #[⟨0,.data⟩,⟨1,.textOnly .appendInPlace⟩],guard:=none},_,_,_,rfl,fun hn=>by simp [Ap] at hn,store _ false _ _,?_⟩
  simp only [AT,AQ,uw];refine ⟨by rw [Wc];simp,fun i hi => ?_⟩;rw [Wc] at hi;simp only [List.mem_singleton] at hi;subst hi;refine ⟨{dst:=none,op := .store tb (.tmp a) (.const (.bool true)),type:=0,pos:=p,after := #[⟨0,.data⟩,⟨2,.gcOnly .appendInPlace⟩],guard:=none},_,_,_,rfl,fun hn=>by simp [Ap] at hn,store _ true _ _,?_⟩;simp only [AT,AQ,uw];exact fin true _ mg mi
theorem LpD.coin {B:Bs} {Lp:Et} {ks0:List Fr} (X:Cx O P E) (hG:An E B.g) {id:Nat} {Q:AEx→List AV→AH→Prop} (hz:Am P tb=some (.bool false)) (hs:Af P tb=some 1) (hg:A4 P tb=some false) (ha:a<t.length)
  (h:∀x y:Bool,Go O P E Lp .skip ks0 (AT (AT t (some a) (.ptr H.length 0)) (some c) (.bool x)) (H++[some (.box [.bool y])]) Q):LpD P B (.scope (.region id (Dh a c tb p) true)) t H (FI O P E Lp ks0 Q):=by
 refine LpD.orders X hG ?_;have hn:Ai E (Dh a c tb p).toList=1:=rfl;rw [hn,JV];exact mj hz hs hg ha h
end
end Go.Proofs.Fw
namespace Go.Proofs.YtffcldkblcmmiaaGreatDoor
open Go.RowKit Go.Proofs.Fw
set_option maxRecDepth 100000
set_option maxHeartbeats 4000000
theorem ml (cs pre:List AV) (X Y Z:AV) (e2 e3 e4:Option Ent) (mid:Int) (tu:mid<0) (hp:pre.length=31) (hl:cs.length=34) (ho:cs.all AV.one=true) (hc:lowL 0 cs=true) (hx:low 5 X=true) (hy:low 5 Y=true) (hz:low 5 Z=true)
  (uI:lowL 0 pre=true) (h2:Av 5 e2=true) (h3:Av 5 e3=true) (h4:Av 5 e4=true) (d:Int) (o:Bool) :
  CS zP Ac 54 [.ptr 0 0,.agg cs] [some (.box [X,.ptr 1 0,.int .i64 d,.bool o]),some (.box (pre++[.nilSlice,Y,.int .i64 mid,Z])),e2,e3,e4] (.tup []) [some (.box [X,.ptr 1 0,.int .i64 d,.bool o]),some (.box (pre++[.slice (.tok 5) 34 1 cs,Y,.int .i64 mid,Z])),e2,e3,e4,some (.tok 1)]:=by
 have lE6:∀{e:Option Ent},Av 5 e=true→Av 6 e=true:=fun {e} h=>by
  cases e with
  |none=>rfl
  |some e=>cases e with
   |box cs=>exact Ak (by omega) _ h
   |loose n cs=>exact Ak (by omega) _ h
   |stk n cs=>exact Ak (by omega) _ h
   |_=>rfl
 have si:AR 6 [some (.box [X,.ptr 1 0,.int .i64 d,.bool o]),some (.box (pre++[.slice (.tok 5) 34 1 cs,Y,.int .i64 mid,Z])),e2,e3,e4,some (.tok 1)]=true:=by simp only [AR,lE6 h2,lE6 h3,lE6 h4,Bool.and_true,Bool.true_and];simp [Cd (by omega:5≤6) X hx,Cd (by omega:5≤6) Y hy,Cd (by omega:5≤6) Z hz,Ak (Nat.zero_le 6) pre uI,Ak (Nat.zero_le 6) cs hc]
 refine CS.of_TrN (H0:=[some (.box [X,.ptr 1 0,.int .i64 d,.bool o]),some (.box (pre++[.nilSlice,Y,.int .i64 mid,Z])),e2,e3,e4]) (H1:=[some (.box [X,.ptr 1 0,.int .i64 d,.bool o]),some (.box (pre++[.slice (.tok 5) 34 1 cs,Y,.int .i64 mid,Z])),e2,e3,e4,some (.tok 1)]) 6 (by simp) (c:=At Tryz.f54) Tryz.func54 (by kernel_rfl) 0 (by simp [Tryz.f54]) (fun B hB hG => ?_) (by simp) si;refine Tr.post ?_;refine Tr.goD CP hG ?_;have vQ:¬(0≤mid):=by omega
 simp [Tryz.f54,hp,vQ];have hf:∀i,i<5→(fun i:Nat=>if i=5 then 7 else i) i=i:=fun i hi=>if_neg (by omega)
 have l7:∀{a:AV},low 5 a=true→low 7 a=true:=fun h=>Cd (by omega) _ h
 have mX:=F5 (t:=7) (n:=0) (xs:=cs) (l7 hx);have mY:=F5 (t:=7) (n:=0) (xs:=cs) (l7 hy);have mZ:=F5 (t:=7) (n:=0) (xs:=cs) (l7 hz);have mP:=KM (t:=7) (n:=0) (xs:=cs) (Ak (Nat.zero_le 7) pre uI)
 have lE:∀{e:Option Ent},Av 5 e=true→Av 7 e=true:=fun {e} h=>by
  cases e with
  |none=>rfl
  |some e=>cases e with
   |box cs=>exact Ak (by omega) _ h
   |loose n cs=>exact Ak (by omega) _ h
   |stk n cs=>exact Ak (by omega) _ h
   |_=>rfl
 have m2:=GV (t:=7) (n:=0) (xs:=cs) (lE h2);have m3:=GV (t:=7) (n:=0) (xs:=cs) (lE h3);have m4:=GV (t:=7) (n:=0) (xs:=cs) (lE h4);have rX:=Fa hf X hx;have rY:=Fa hf Y hy;have rZ:=Fa hf Z hz;have rP:=BB (fun i:Nat=>if i=5 then 7 else i) pre uI;have rC:=BB (fun i:Nat=>if i=5 then 7 else i) cs hc
 skip
 have r2:=Fb hf h2;have r3:=Fb hf h3;have r4:=Fb hf h4
 have DK:∀(φ:Nat→Nat) (a b:List AV),AN φ (a++b)=AN φ a++AN φ b:=fun φ a b=>by induction a with
  |nil=>rfl
  |cons x a ih=>simp [AN,ih]
 have wA:∀(r:AV),List.drop 32 (pre++[r,Y,.int .i64 mid,Z])=[Y,.int .i64 mid,Z]:=fun r=>by rw [List.drop_append,List.drop_eq_nil_of_le (by omega),hp];rfl
 have tB:∀(a b c e:AV),List.take 32 (pre++[a,b,c,e])=pre++[a]:=fun a b c e=>by rw [List.take_append,List.take_of_length_le (by omega),hp];rfl
 have sb:=fun H fid ow ys (h:ys.all AV.one=true)=>LQ (P:=zP) (H:=H) (fid:=fid) (ow:=ow) (ys:=ys) Hp h
 have ht:cs.take 34=cs:=List.take_of_length_le (by omega);have uA:∀x∈cs,AV.one x=true:=fun x hx=>List.all_eq_true.1 ho x hx
 simp only [AV.one] at uA;refine LpD.coin CP hG (by kernel_rfl) (by kernel_rfl) (by kernel_rfl) (by simp [mkT]) ?_;intro x y;cases x with
 |true =>
  simp;refine LpD.turns CP hG [11,15] [] ?_;simp [hl,ht,hp,HN Ho,sb];rw [if_pos uA];simp [hl,ht,hp]
  refine ⟨mkT 103 [],[some (.box [X,.ptr 1 0,.int .i64 d,.bool o]),some (.box (pre++[.slice (.tok 5) 34 1 cs,Y,.int .i64 mid,Z])),e2,e3,e4,some (.tok 1)],AE.put 7 0 cs rfl (fun i:Nat=>if i=5 then 7 else i) 6 (by simp [hB]) (by
   intro i j hi hj h
   rcases (by omega:i=0∨i=1∨i=2∨i=3∨i=4∨i=5) with rfl|rfl|rfl|rfl|rfl|rfl<;>rcases (by omega:j=0∨j=1∨j=2∨j=3∨j=4∨j=5) with rfl|rfl|rfl|rfl|rfl|rfl<;>simp at h ⊢) (by
   intro i hi;rw [hB] at hi;simp at hi
   rw [if_neg (by omega)]) rfl (by
   intro i hi;rcases (by omega:i=0∨i=1∨i=2∨i=3∨i=4∨i=5) with rfl|rfl|rfl|rfl|rfl|rfl
   ·simp [AH.at,Bu,C8,AJ,ren,AN,rX]
    exact mX
   ·simp [AH.at,Bu,C8,AJ,ren,AN,mY,mZ,mP,rY,rZ,rP,rC,DK,wA,tB]
    exact ⟨mY,mZ⟩
   ·simp [AH.at,m2,r2]
   ·simp [AH.at,m3,r3]
   ·simp [AH.at,m4,r4]
   ·simp [AH.at,Bu,AJ]) si,rfl⟩
 |false =>
  have xa:=fun H fid ow=>LQ (P:=zP) (H:=H) (fid:=fid) (ow:=ow) (ys:=cs) Hp ho
  simp;refine LpD.turns CP hG [14,18] zL1 ?_;simp [hl,ht,hp,HN Ho,xa]
  refine ⟨mkT 103 [],[some (.box [X,.ptr 1 0,.int .i64 d,.bool o]),some (.box (pre++[.slice (.tok 5) 34 1 cs,Y,.int .i64 mid,Z])),e2,e3,e4,some (.tok 1)],AE.put 7 0 cs rfl (fun i:Nat=>if i=5 then 7 else i) 6 (by simp [hB]) (by
   intro i j hi hj h
   rcases (by omega:i=0∨i=1∨i=2∨i=3∨i=4∨i=5) with rfl|rfl|rfl|rfl|rfl|rfl<;>rcases (by omega:j=0∨j=1∨j=2∨j=3∨j=4∨j=5) with rfl|rfl|rfl|rfl|rfl|rfl<;>simp at h ⊢) (by
   intro i hi;rw [hB] at hi;simp at hi
   rw [if_neg (by omega)]) rfl (by
   intro i hi;rcases (by omega:i=0∨i=1∨i=2∨i=3∨i=4∨i=5) with rfl|rfl|rfl|rfl|rfl|rfl
   ·simp [AH.at,Bu,C8,AJ,ren,AN,rX]
    exact mX
   ·simp [AH.at,Bu,C8,AJ,ren,AN,mY,mZ,mP,rY,rZ,rP,rC,DK,wA,tB]
    exact ⟨mY,mZ⟩
   ·simp [AH.at,m2,r2]
   ·simp [AH.at,m3,r3]
   ·simp [AH.at,m4,r4]
   ·simp [AH.at,Bu,AJ]) si,rfl⟩
theorem mn (cs pre:List AV) (xs:List AV) (m:Nat) (hm:m<137438953472) (tK:lowL 0 xs=true) (X Y Z:AV) (e2 e3 e4:Option Ent) (mid:Int) (tu:mid<0) (hp:pre.length=31) (hl:cs.length=34) (ho:cs.all AV.one=true) (hc:lowL 0 cs=true) (hx:low 5 X=true) (hy:low 5 Y=true) (hz:low 5 Z=true)
  (uI:lowL 0 pre=true) (h2:Av 5 e2=true) (h3:Av 5 e3=true) (h4:Av 5 e4=true) (d:Int) (o:Bool) :
  CS zP Ac 54 [.ptr 0 0,.agg cs] [some (.box [X,.ptr 1 0,.int .i64 d,.bool o]),some (.box (pre++[.slice (.tok 5) 34 m xs,Y,.int .i64 mid,Z])),e2,e3,e4,some (.tok m)] (.tup []) [some (.box [X,.ptr 1 0,.int .i64 d,.bool o]),some (.box (pre++[.slice (.tok 5) 34 (m+1) (xs++cs),Y,.int .i64 mid,Z])),e2,e3,e4,some (.tok (m+1))]:=by
 have lE6:∀{e:Option Ent},Av 5 e=true→Av 6 e=true:=fun {e} h=>by
  cases e with
  |none=>rfl
  |some e=>cases e with
   |box cs=>exact Ak (by omega) _ h
   |loose n cs=>exact Ak (by omega) _ h
   |stk n cs=>exact Ak (by omega) _ h
   |_=>rfl
 have si:AR 6 [some (.box [X,.ptr 1 0,.int .i64 d,.bool o]),some (.box (pre++[.slice (.tok 5) 34 (m+1) (xs++cs),Y,.int .i64 mid,Z])),e2,e3,e4,some (.tok (m+1))]=true:=by simp only [AR,lE6 h2,lE6 h3,lE6 h4,Bool.and_true,Bool.true_and];simp [Cd (by omega:5≤6) X hx,Cd (by omega:5≤6) Y hy,Cd (by omega:5≤6) Z hz,Ak (Nat.zero_le 6) pre uI,Ak (Nat.zero_le 6) cs hc,Ak (Nat.zero_le 6) xs tK]
 refine CS.of_TrN (H0:=[some (.box [X,.ptr 1 0,.int .i64 d,.bool o]),some (.box (pre++[.slice (.tok 5) 34 m xs,Y,.int .i64 mid,Z])),e2,e3,e4,some (.tok m)]) (H1:=[some (.box [X,.ptr 1 0,.int .i64 d,.bool o]),some (.box (pre++[.slice (.tok 5) 34 (m+1) (xs++cs),Y,.int .i64 mid,Z])),e2,e3,e4,some (.tok (m+1))]) 6 (by simp) (c:=At Tryz.f54) Tryz.func54 (by kernel_rfl) 0 (by simp [Tryz.f54]) (fun B hB hG => ?_) (by simp) si;refine Tr.post ?_;refine Tr.goD CP hG ?_;have vQ:¬(0≤mid):=by omega
 simp [Tryz.f54,hp,vQ];have hf:∀i,i<5→(fun i:Nat=>i) i=i:=fun i hi=>rfl
 have l7:∀{a:AV},low 5 a=true→low 5 a=true:=fun h=>Cd (by omega) _ h
 have mX:=F5 (t:=5) (n:=m) (xs:=cs) (l7 hx);have mY:=F5 (t:=5) (n:=m) (xs:=cs) (l7 hy);have mZ:=F5 (t:=5) (n:=m) (xs:=cs) (l7 hz);have mP:=KM (t:=5) (n:=m) (xs:=cs) (Ak (Nat.zero_le 5) pre uI)
 have lE:∀{e:Option Ent},Av 5 e=true→Av 5 e=true:=fun {e} h=>by
  cases e with
  |none=>rfl
  |some e=>cases e with
   |box cs=>exact Ak (by omega) _ h
   |loose n cs=>exact Ak (by omega) _ h
   |stk n cs=>exact Ak (by omega) _ h
   |_=>rfl
 have m2:=GV (t:=5) (n:=m) (xs:=cs) (lE h2);have m3:=GV (t:=5) (n:=m) (xs:=cs) (lE h3);have m4:=GV (t:=5) (n:=m) (xs:=cs) (lE h4);have rX:=Fa hf X hx;have rY:=Fa hf Y hy;have rZ:=Fa hf Z hz;have rP:=BB (fun i:Nat=>i) pre uI;have rC:=BB (fun i:Nat=>i) cs hc;have rS:=BB (fun i:Nat=>i) xs tK;have r2:=Fb hf h2;have r3:=Fb hf h3;have r4:=Fb hf h4
 have DK:∀(φ:Nat→Nat) (a b:List AV),AN φ (a++b)=AN φ a++AN φ b:=fun φ a b=>by induction a with
  |nil=>rfl
  |cons x a ih=>simp [AN,ih]
 have wA:∀(r:AV),List.drop 32 (pre++[r,Y,.int .i64 mid,Z])=[Y,.int .i64 mid,Z]:=fun r=>by rw [List.drop_append,List.drop_eq_nil_of_le (by omega),hp];rfl
 have tB:∀(a b c e:AV),List.take 32 (pre++[a,b,c,e])=pre++[a]:=fun a b c e=>by rw [List.take_append,List.take_of_length_le (by omega),hp];rfl
 have sb:=fun H fid ow ys (hk:AH.at H 5=some (.tok m)) (h:ys.all AV.one=true)=>LR (P:=zP) (H:=H) (fid:=fid) (k:=5) (n:=m) (xs:=xs) (ow:=ow) (ys:=ys) Hp hk (by omega) h
 have ht:cs.take 34=cs:=List.take_of_length_le (by omega);have uA:∀x∈cs,AV.one x=true:=fun x hx=>List.all_eq_true.1 ho x hx
 simp only [AV.one] at uA;refine LpD.coin CP hG (by kernel_rfl) (by kernel_rfl) (by kernel_rfl) (by simp [mkT]) ?_;intro x y;cases x with
 |true =>
  simp;refine LpD.turns CP hG [11,15] [] ?_;simp [hl,ht,hp,HN Ho,sb];rw [if_pos uA];simp [hl,ht,hp]
  refine ⟨mkT 103 [],[some (.box [X,.ptr 1 0,.int .i64 d,.bool o]),some (.box (pre++[.slice (.tok 5) 34 (m+1) (xs++cs),Y,.int .i64 mid,Z])),e2,e3,e4,some (.tok (m+1))],AE.put 5 m cs rfl (fun i:Nat=>i) 6 (by simp [hB]) (by
   intro i j hi hj h
   exact h) (by
   intro i hi
   rfl) rfl (by
   intro i hi;rcases (by omega:i=0∨i=1∨i=2∨i=3∨i=4∨i=5) with rfl|rfl|rfl|rfl|rfl|rfl
   ·simp [AH.at,Bu,C8,AJ,ren,AN,rX]
    exact mX
   ·simp [AH.at,Bu,C8,AJ,ren,AN,mY,mZ,mP,rY,rZ,rP,rC,rS,DK,wA,tB]
    exact ⟨mY,mZ⟩
   ·simp [AH.at,m2,r2]
   ·simp [AH.at,m3,r3]
   ·simp [AH.at,m4,r4]
   ·simp [AH.at,Bu,AJ]) si,rfl⟩
 |false =>
  have xa:=fun H fid ow (hk:AH.at H 5=some (.tok m))=>LR (P:=zP) (H:=H) (fid:=fid) (k:=5) (n:=m) (xs:=xs) (ow:=ow) (ys:=cs) Hp hk (by omega) ho
  simp;refine LpD.turns CP hG [14,18] zL1 ?_;simp [hl,ht,hp,HN Ho,xa]
  refine ⟨mkT 103 [],[some (.box [X,.ptr 1 0,.int .i64 d,.bool o]),some (.box (pre++[.slice (.tok 5) 34 (m+1) (xs++cs),Y,.int .i64 mid,Z])),e2,e3,e4,some (.tok (m+1))],AE.put 5 m cs rfl (fun i:Nat=>i) 6 (by simp [hB]) (by
   intro i j hi hj h
   exact h) (by
   intro i hi
   rfl) rfl (by
   intro i hi;rcases (by omega:i=0∨i=1∨i=2∨i=3∨i=4∨i=5) with rfl|rfl|rfl|rfl|rfl|rfl
   ·simp [AH.at,Bu,C8,AJ,ren,AN,rX]
    exact mX
   ·simp [AH.at,Bu,C8,AJ,ren,AN,mY,mZ,mP,rY,rZ,rP,rC,rS,DK,wA,tB]
    exact ⟨mY,mZ⟩
   ·simp [AH.at,m2,r2]
   ·simp [AH.at,m3,r3]
   ·simp [AH.at,m4,r4]
   ·simp [AH.at,Bu,AJ]) si,rfl⟩
theorem mp (cs pre:List AV) (X Y Z:AV) (e2 e3 e4:Option Ent) (mid:Int) (tu:0≤mid) (hp:pre.length=31) (hl:cs.length=34) (ho:cs.all AV.one=true) (hc:lowL 0 cs=true) (hx:low 5 X=true) (hy:low 5 Y=true) (hz:low 5 Z=true)
  (uI:lowL 0 pre=true) (h2:Av 5 e2=true) (h3:Av 5 e3=true) (h4:Av 5 e4=true) (d:Int) (o:Bool) :
  CS zP Ac 54 [.ptr 0 0,.agg cs] [some (.box [X,.ptr 1 0,.int .i64 d,.bool o]),some (.box (pre++[Y,.nilSlice,.int .i64 mid,Z])),e2,e3,e4] (.tup []) [some (.box [X,.ptr 1 0,.int .i64 d,.bool o]),some (.box (pre++[Y,.slice (.tok 5) 34 1 cs,.int .i64 mid,Z])),e2,e3,e4,some (.tok 1)]:=by
 have lE6:∀{e:Option Ent},Av 5 e=true→Av 6 e=true:=fun {e} h=>by
  cases e with
  |none=>rfl
  |some e=>cases e with
   |box cs=>exact Ak (by omega) _ h
   |loose n cs=>exact Ak (by omega) _ h
   |stk n cs=>exact Ak (by omega) _ h
   |_=>rfl
 have si:AR 6 [some (.box [X,.ptr 1 0,.int .i64 d,.bool o]),some (.box (pre++[Y,.slice (.tok 5) 34 1 cs,.int .i64 mid,Z])),e2,e3,e4,some (.tok 1)]=true:=by simp only [AR,lE6 h2,lE6 h3,lE6 h4,Bool.and_true,Bool.true_and];simp [Cd (by omega:5≤6) X hx,Cd (by omega:5≤6) Y hy,Cd (by omega:5≤6) Z hz,Ak (Nat.zero_le 6) pre uI,Ak (Nat.zero_le 6) cs hc]
 refine CS.of_TrN (H0:=[some (.box [X,.ptr 1 0,.int .i64 d,.bool o]),some (.box (pre++[Y,.nilSlice,.int .i64 mid,Z])),e2,e3,e4]) (H1:=[some (.box [X,.ptr 1 0,.int .i64 d,.bool o]),some (.box (pre++[Y,.slice (.tok 5) 34 1 cs,.int .i64 mid,Z])),e2,e3,e4,some (.tok 1)]) 6 (by simp) (c:=At Tryz.f54) Tryz.func54 (by kernel_rfl) 0 (by simp [Tryz.f54]) (fun B hB hG => ?_) (by simp) si;refine Tr.post ?_;refine Tr.goD CP hG ?_;have vQ:0≤mid:=tu;simp [Tryz.f54,hp,vQ];have hf:∀i,i<5→(fun i:Nat=>if i=5 then 7 else i) i=i:=fun i hi=>if_neg (by omega)
 have l7:∀{a:AV},low 5 a=true→low 7 a=true:=fun h=>Cd (by omega) _ h
 have mX:=F5 (t:=7) (n:=0) (xs:=cs) (l7 hx);have mY:=F5 (t:=7) (n:=0) (xs:=cs) (l7 hy);have mZ:=F5 (t:=7) (n:=0) (xs:=cs) (l7 hz);have mP:=KM (t:=7) (n:=0) (xs:=cs) (Ak (Nat.zero_le 7) pre uI)
 have lE:∀{e:Option Ent},Av 5 e=true→Av 7 e=true:=fun {e} h=>by
  cases e with
  |none=>rfl
  |some e=>cases e with
   |box cs=>exact Ak (by omega) _ h
   |loose n cs=>exact Ak (by omega) _ h
   |stk n cs=>exact Ak (by omega) _ h
   |_=>rfl
 have m2:=GV (t:=7) (n:=0) (xs:=cs) (lE h2);have m3:=GV (t:=7) (n:=0) (xs:=cs) (lE h3);have m4:=GV (t:=7) (n:=0) (xs:=cs) (lE h4);have rX:=Fa hf X hx;have rY:=Fa hf Y hy;have rZ:=Fa hf Z hz;have rP:=BB (fun i:Nat=>if i=5 then 7 else i) pre uI;have rC:=BB (fun i:Nat=>if i=5 then 7 else i) cs hc
 skip
 have r2:=Fb hf h2;have r3:=Fb hf h3;have r4:=Fb hf h4
 have DK:∀(φ:Nat→Nat) (a b:List AV),AN φ (a++b)=AN φ a++AN φ b:=fun φ a b=>by induction a with
  |nil=>rfl
  |cons x a ih=>simp [AN,ih]
 have wA:∀(r:AV),List.drop 33 (pre++[Y,r,.int .i64 mid,Z])=[.int .i64 mid,Z]:=fun r=>by rw [List.drop_append,List.drop_eq_nil_of_le (by omega),hp];rfl
 have tB:∀(a b c e:AV),List.take 32 (pre++[a,b,c,e])=pre++[a]:=fun a b c e=>by rw [List.take_append,List.take_of_length_le (by omega),hp];rfl
 have sb:=fun H fid ow ys (h:ys.all AV.one=true)=>LQ (P:=zP) (H:=H) (fid:=fid) (ow:=ow) (ys:=ys) Hp h
 have ht:cs.take 34=cs:=List.take_of_length_le (by omega);have uA:∀x∈cs,AV.one x=true:=fun x hx=>List.all_eq_true.1 ho x hx
 simp only [AV.one] at uA;refine LpD.coin CP hG (by kernel_rfl) (by kernel_rfl) (by kernel_rfl) (by simp [mkT]) ?_;intro x y;cases x with
 |true =>
  simp;refine LpD.turns CP hG [11,15] [] ?_;simp [hl,ht,hp,HN Ho,sb];rw [if_pos uA];simp [hl,ht,hp]
  refine ⟨mkT 103 [],[some (.box [X,.ptr 1 0,.int .i64 d,.bool o]),some (.box (pre++[Y,.slice (.tok 5) 34 1 cs,.int .i64 mid,Z])),e2,e3,e4,some (.tok 1)],AE.put 7 0 cs rfl (fun i:Nat=>if i=5 then 7 else i) 6 (by simp [hB]) (by
   intro i j hi hj h
   rcases (by omega:i=0∨i=1∨i=2∨i=3∨i=4∨i=5) with rfl|rfl|rfl|rfl|rfl|rfl<;>rcases (by omega:j=0∨j=1∨j=2∨j=3∨j=4∨j=5) with rfl|rfl|rfl|rfl|rfl|rfl<;>simp at h ⊢) (by
   intro i hi;rw [hB] at hi;simp at hi
   rw [if_neg (by omega)]) rfl (by
   intro i hi;rcases (by omega:i=0∨i=1∨i=2∨i=3∨i=4∨i=5) with rfl|rfl|rfl|rfl|rfl|rfl
   ·simp [AH.at,Bu,C8,AJ,ren,AN,rX]
    exact mX
   ·simp [AH.at,Bu,C8,AJ,ren,AN,mY,mZ,mP,rY,rZ,rP,rC,DK,wA,tB]
    exact ⟨mY,mZ⟩
   ·simp [AH.at,m2,r2]
   ·simp [AH.at,m3,r3]
   ·simp [AH.at,m4,r4]
   ·simp [AH.at,Bu,AJ]) si,rfl⟩
 |false =>
  have xa:=fun H fid ow=>LQ (P:=zP) (H:=H) (fid:=fid) (ow:=ow) (ys:=cs) Hp ho
  simp;refine LpD.turns CP hG [14,18] zL1 ?_;simp [hl,ht,hp,HN Ho,xa]
  refine ⟨mkT 103 [],[some (.box [X,.ptr 1 0,.int .i64 d,.bool o]),some (.box (pre++[Y,.slice (.tok 5) 34 1 cs,.int .i64 mid,Z])),e2,e3,e4,some (.tok 1)],AE.put 7 0 cs rfl (fun i:Nat=>if i=5 then 7 else i) 6 (by simp [hB]) (by
   intro i j hi hj h
   rcases (by omega:i=0∨i=1∨i=2∨i=3∨i=4∨i=5) with rfl|rfl|rfl|rfl|rfl|rfl<;>rcases (by omega:j=0∨j=1∨j=2∨j=3∨j=4∨j=5) with rfl|rfl|rfl|rfl|rfl|rfl<;>simp at h ⊢) (by
   intro i hi;rw [hB] at hi;simp at hi
   rw [if_neg (by omega)]) rfl (by
   intro i hi;rcases (by omega:i=0∨i=1∨i=2∨i=3∨i=4∨i=5) with rfl|rfl|rfl|rfl|rfl|rfl
   ·simp [AH.at,Bu,C8,AJ,ren,AN,rX]
    exact mX
   ·simp [AH.at,Bu,C8,AJ,ren,AN,mY,mZ,mP,rY,rZ,rP,rC,DK,wA,tB]
    exact ⟨mY,mZ⟩
   ·simp [AH.at,m2,r2]
   ·simp [AH.at,m3,r3]
   ·simp [AH.at,m4,r4]
   ·simp [AH.at,Bu,AJ]) si,rfl⟩
theorem mq (cs pre:List AV) (xs:List AV) (m:Nat) (hm:m<137438953472) (tK:lowL 0 xs=true) (X Y Z:AV) (e2 e3 e4:Option Ent) (mid:Int) (tu:0≤mid) (hp:pre.length=31) (hl:cs.length=34) (ho:cs.all AV.one=true) (hc:lowL 0 cs=true) (hx:low 5 X=true) (hy:low 5 Y=true) (hz:low 5 Z=true)
  (uI:lowL 0 pre=true) (h2:Av 5 e2=true) (h3:Av 5 e3=true) (h4:Av 5 e4=true) (d:Int) (o:Bool) :
  CS zP Ac 54 [.ptr 0 0,.agg cs] [some (.box [X,.ptr 1 0,.int .i64 d,.bool o]),some (.box (pre++[Y,.slice (.tok 5) 34 m xs,.int .i64 mid,Z])),e2,e3,e4,some (.tok m)] (.tup []) [some (.box [X,.ptr 1 0,.int .i64 d,.bool o]),some (.box (pre++[Y,.slice (.tok 5) 34 (m+1) (xs++cs),.int .i64 mid,Z])),e2,e3,e4,some (.tok (m+1))]:=by
 have lE6:∀{e:Option Ent},Av 5 e=true→Av 6 e=true:=fun {e} h=>by
  cases e with
  |none=>rfl
  |some e=>cases e with
   |box cs=>exact Ak (by omega) _ h
   |loose n cs=>exact Ak (by omega) _ h
   |stk n cs=>exact Ak (by omega) _ h
   |_=>rfl
 have si:AR 6 [some (.box [X,.ptr 1 0,.int .i64 d,.bool o]),some (.box (pre++[Y,.slice (.tok 5) 34 (m+1) (xs++cs),.int .i64 mid,Z])),e2,e3,e4,some (.tok (m+1))]=true:=by simp only [AR,lE6 h2,lE6 h3,lE6 h4,Bool.and_true,Bool.true_and];simp [Cd (by omega:5≤6) X hx,Cd (by omega:5≤6) Y hy,Cd (by omega:5≤6) Z hz,Ak (Nat.zero_le 6) pre uI,Ak (Nat.zero_le 6) cs hc,Ak (Nat.zero_le 6) xs tK]
 refine CS.of_TrN (H0:=[some (.box [X,.ptr 1 0,.int .i64 d,.bool o]),some (.box (pre++[Y,.slice (.tok 5) 34 m xs,.int .i64 mid,Z])),e2,e3,e4,some (.tok m)]) (H1:=[some (.box [X,.ptr 1 0,.int .i64 d,.bool o]),some (.box (pre++[Y,.slice (.tok 5) 34 (m+1) (xs++cs),.int .i64 mid,Z])),e2,e3,e4,some (.tok (m+1))]) 6 (by simp) (c:=At Tryz.f54) Tryz.func54 (by kernel_rfl) 0 (by simp [Tryz.f54]) (fun B hB hG => ?_) (by simp) si;refine Tr.post ?_;refine Tr.goD CP hG ?_;have vQ:0≤mid:=tu;simp [Tryz.f54,hp,vQ];have hf:∀i,i<5→(fun i:Nat=>i) i=i:=fun i hi=>rfl
 have l7:∀{a:AV},low 5 a=true→low 5 a=true:=fun h=>Cd (by omega) _ h
 have mX:=F5 (t:=5) (n:=m) (xs:=cs) (l7 hx);have mY:=F5 (t:=5) (n:=m) (xs:=cs) (l7 hy);have mZ:=F5 (t:=5) (n:=m) (xs:=cs) (l7 hz);have mP:=KM (t:=5) (n:=m) (xs:=cs) (Ak (Nat.zero_le 5) pre uI)
 have lE:∀{e:Option Ent},Av 5 e=true→Av 5 e=true:=fun {e} h=>by
  cases e with
  |none=>rfl
  |some e=>cases e with
   |box cs=>exact Ak (by omega) _ h
   |loose n cs=>exact Ak (by omega) _ h
   |stk n cs=>exact Ak (by omega) _ h
   |_=>rfl
 have m2:=GV (t:=5) (n:=m) (xs:=cs) (lE h2);have m3:=GV (t:=5) (n:=m) (xs:=cs) (lE h3);have m4:=GV (t:=5) (n:=m) (xs:=cs) (lE h4);have rX:=Fa hf X hx;have rY:=Fa hf Y hy;have rZ:=Fa hf Z hz;have rP:=BB (fun i:Nat=>i) pre uI;have rC:=BB (fun i:Nat=>i) cs hc;have rS:=BB (fun i:Nat=>i) xs tK;have r2:=Fb hf h2;have r3:=Fb hf h3;have r4:=Fb hf h4
 have DK:∀(φ:Nat→Nat) (a b:List AV),AN φ (a++b)=AN φ a++AN φ b:=fun φ a b=>by induction a with
  |nil=>rfl
  |cons x a ih=>simp [AN,ih]
 have wA:∀(r:AV),List.drop 33 (pre++[Y,r,.int .i64 mid,Z])=[.int .i64 mid,Z]:=fun r=>by rw [List.drop_append,List.drop_eq_nil_of_le (by omega),hp];rfl
 have tB:∀(a b c e:AV),List.take 32 (pre++[a,b,c,e])=pre++[a]:=fun a b c e=>by rw [List.take_append,List.take_of_length_le (by omega),hp];rfl
 have sb:=fun H fid ow ys (hk:AH.at H 5=some (.tok m)) (h:ys.all AV.one=true)=>LR (P:=zP) (H:=H) (fid:=fid) (k:=5) (n:=m) (xs:=xs) (ow:=ow) (ys:=ys) Hp hk (by omega) h
 have ht:cs.take 34=cs:=List.take_of_length_le (by omega);have uA:∀x∈cs,AV.one x=true:=fun x hx=>List.all_eq_true.1 ho x hx
 simp only [AV.one] at uA;refine LpD.coin CP hG (by kernel_rfl) (by kernel_rfl) (by kernel_rfl) (by simp [mkT]) ?_;intro x y;cases x with
 |true =>
  simp;refine LpD.turns CP hG [11,15] [] ?_;simp [hl,ht,hp,HN Ho,sb];rw [if_pos uA];simp [hl,ht,hp]
  refine ⟨mkT 103 [],[some (.box [X,.ptr 1 0,.int .i64 d,.bool o]),some (.box (pre++[Y,.slice (.tok 5) 34 (m+1) (xs++cs),.int .i64 mid,Z])),e2,e3,e4,some (.tok (m+1))],AE.put 5 m cs rfl (fun i:Nat=>i) 6 (by simp [hB]) (by
   intro i j hi hj h
   exact h) (by
   intro i hi
   rfl) rfl (by
   intro i hi;rcases (by omega:i=0∨i=1∨i=2∨i=3∨i=4∨i=5) with rfl|rfl|rfl|rfl|rfl|rfl
   ·simp [AH.at,Bu,C8,AJ,ren,AN,rX]
    exact mX
   ·simp [AH.at,Bu,C8,AJ,ren,AN,mY,mZ,mP,rY,rZ,rP,rC,rS,DK,wA,tB]
    exact ⟨mY,mZ⟩
   ·simp [AH.at,m2,r2]
   ·simp [AH.at,m3,r3]
   ·simp [AH.at,m4,r4]
   ·simp [AH.at,Bu,AJ]) si,rfl⟩
 |false =>
  have xa:=fun H fid ow (hk:AH.at H 5=some (.tok m))=>LR (P:=zP) (H:=H) (fid:=fid) (k:=5) (n:=m) (xs:=xs) (ow:=ow) (ys:=cs) Hp hk (by omega) ho
  simp;refine LpD.turns CP hG [14,18] zL1 ?_;simp [hl,ht,hp,HN Ho,xa]
  refine ⟨mkT 103 [],[some (.box [X,.ptr 1 0,.int .i64 d,.bool o]),some (.box (pre++[Y,.slice (.tok 5) 34 (m+1) (xs++cs),.int .i64 mid,Z])),e2,e3,e4,some (.tok (m+1))],AE.put 5 m cs rfl (fun i:Nat=>i) 6 (by simp [hB]) (by
   intro i j hi hj h
   exact h) (by
   intro i hi
   rfl) rfl (by
   intro i hi;rcases (by omega:i=0∨i=1∨i=2∨i=3∨i=4∨i=5) with rfl|rfl|rfl|rfl|rfl|rfl
   ·simp [AH.at,Bu,C8,AJ,ren,AN,rX]
    exact mX
   ·simp [AH.at,Bu,C8,AJ,ren,AN,mY,mZ,mP,rY,rZ,rP,rC,rS,DK,wA,tB]
    exact ⟨mY,mZ⟩
   ·simp [AH.at,m2,r2]
   ·simp [AH.at,m3,r3]
   ·simp [AH.at,m4,r4]
   ·simp [AH.at,Bu,AJ]) si,rfl⟩
end Go.Proofs.YtffcldkblcmmiaaGreatDoor
namespace Go.Proofs.Fw
open Go.RowKit
theorem CS.unmask {P:Program} {E:Env} {f:FuncId} {args:List AV} {v:AV} {H K H':AH} (S:List Nat) (h:CS P E f args (mask H S) v K) (h1:∀id,(id∈S∨H.length≤id)→H'.at id=K.at id)
  (h2:∀id,id ∉ S→id<H.length→H'.at id=H.at id):CS P E f args H v H':=by
 intro g w cargs R hG hA;refine (h g w cargs (R.mask S) hG hA).mono ?_;rintro e w1 ⟨g1,cv,rfl,R1,p1,hr⟩
 have dec:∀id,(id∈S∨H.length≤id)∨(id ∉ S∧id<H.length):=fun id=>by
  by_cases hs:id∈S
  ·exact .inl (.inl hs)
  ·rcases Nat.lt_or_ge id H.length with hl|hl
   ·exact .inr ⟨hs,hl⟩
   ·exact .inl (.inr hl)
 have uC:∀id,id ∉ S→id<H.length→g1.M id=g.M id∧K.at id=some .hid:=fun id hs hl=>p1.hid id (H5 hs hl)
 have zCO:∀b,(∀id e ge,H.at id=some e→e ≠ .hid→g.M id=some ge→ge.block≠b)→∀id e ge,(mask H S).at id=some e→e ≠ .hid→g.M id=some ge→ge.block≠b:=fun b hn id e ge he sU hM=>by
  have:H.at id=some e:=by
   rw [GQ] at he
   split at he
   ·split at he
    ·exact he
    ·injection he with he;exact absurd he.symm sU
   ·cases he
  exact hn id e ge this sU hM
 refine ⟨g1,cv,rfl,⟨R1.imm,?_,?_,R1.inj,R1.blk⟩,⟨p1.le,?_,p1.new,?_,p1.size,p1.os,p1.tape,p1.output⟩,hr⟩
 ·intro id hn
  rcases dec id with hd|⟨hs,hl⟩
  ·rw [h1 id hd] at hn
   exact R1.free id hn
  ·rw [h2 id hs hl] at hn
   rw [(uC id hs hl).1];exact R.free id hn
 ·intro id e he sU
  rcases dec id with hd|⟨hs,hl⟩
  ·rw [h1 id hd] at he
   exact R1.ent id e he sU
  ·rw [h2 id hs hl] at he
   obtain ⟨ge,hM,tI⟩:=R.ent id e he sU;obtain ⟨h4,h5⟩:=uC id hs hl
   obtain ⟨h6,h7⟩:=p1.old ge.block (R.blk id ge hM) (fun id2 e2 ge2 s8 zAK hM2 hb=>by
    have:=R.inj id2 id ge2 ge hM2 hM hb;subst this;rw [H5 hs hl] at s8;injection s8 with s8
    exact zAK s8.symm)
   exact ⟨ge,h4.trans hM,tI.keep p1.le h6 h7⟩
 ·intro id hh
  rcases dec id with hd|⟨hs,hl⟩
  ·have hl:=Db hh
   rcases hd with hs|wR
   ·have hm:(mask H S).at id=some .hid:=by rw [LJ hs hl,hh]
    obtain ⟨h3,h4⟩:=p1.hid id hm;exact ⟨h3,by rw [h1 id (.inl hs),h4]⟩
   ·omega
  ·obtain ⟨h3,h4⟩:=uC id hs hl
   exact ⟨h3,by rw [h2 id hs hl,hh]⟩
 ·exact fun b hb hn=>p1.old b hb (zCO b hn)
theorem CS.graft {P:Program} {E:Env} {f:FuncId} {args:List AV} {v:AV} {k n:Nat} (φ:Nat→Nat) (S:List Nat) {H0 H0' H H':AH} (h:CS P E f args H0 v H0') (hk:H0.length=k) (hk':H0'.length=n) (xB:k≤n)
  (hφ:∀i j,i<n→j<n→φ i=φ j→i=j) (hE:∀i,low 0 (E.glob i)=true) (ha:lowL k args=true) (hv:low n v=true) (hl:AR k H0=true) (hl':AR n H0'=true) (sZ:H'.length=H.length)
  (hH:∀i,i<k→(mask H S).at (φ i)=(H0.at i).map (AJ φ)) (hN:∀i,k≤i→i<n→(mask H S).at (φ i)=none) (hH':∀i,i<n→(mask H' S).at (φ i)=(H0'.at i).map (AJ φ))
  (hO:∀j,(∀i,i<n→φ i≠j)→H'.at j=H.at j) (hS:∀j,j ∉ S→j<H.length→H'.at j=H.at j):CS P E f (AN φ args) H (ren φ v) H':=by
 have h1:=CS.grow φ (H:=mask H S) (H':=mask H' S) h hk hk' xB hφ hE ha hv hl hl' hH hN hH' (by
  intro j hj
  rw [GQ,GQ,sZ,hO j hj])
 refine CS.unmask S h1 ?_ hS;intro id hid;rw [GQ,sZ];rcases hid with hid|hid
 ·by_cases hl:id<H.length
  ·rw [if_pos hl,if_pos (by simpa using hid)]
  ·rw [if_neg hl,Cy (by omega)]
 ·rw [if_neg (by omega),Cy (by omega)]
end Go.Proofs.Fw
namespace Go.Proofs.YtffcldkblcmmiaaGreatDoor
open Go.RowKit Go.Proofs.Fw
set_option maxRecDepth 100000
set_option maxHeartbeats 4000000
theorem mr {H:AH} {b T:Nat} (cs xs:List AV) (m:Nat) (hm:m<137438953472) (hl:cs.length=34) (ho:cs.all AV.one=true) (hc:lowL 0 cs=true) (hx:lowL 0 xs=true) (d:Int) (o:Bool)
  (hb:H.at b=some (.box [.slice (.tok T) 34 m xs,.nilPtr,.int .i64 d,.bool o])) (hT:H.at T=some (.tok m)) :
  CS zP Ac 54 [.ptr b 0,.agg cs] H (.tup []) ((H.set b (some (.box [.slice (.tok T) 34 (m+1) (xs++cs),.nilPtr,.int .i64 d,.bool o]))).set T (some (.tok (m+1)))):=by
 have sU:b≠T:=fun h=>by subst h;rw [hb] at hT;cases hT
 have vd:=Db hb;have hTl:=Db hT;have two:∀{i:Nat},i<2→i=0∨i=1:=fun h=>by omega
 have l2:=fun (l:List AV) (h:lowL 0 l=true)=>Ak (Nat.zero_le 2) l h
 have r0:=fun (l:List AV) (h:lowL 0 l=true)=>BB (fun i:Nat=>if i=0 then b else T) l h
 have hxc:lowL 0 (xs++cs)=true:=by rw [EC,hx,hc];rfl
 have:=CS.embed (k:=2) (fun i=>if i=0 then b else T) (H:=H) (H':=(H.set b (some (.box [.slice (.tok T) 34 (m+1) (xs++cs),.nilPtr,.int .i64 d,.bool o]))).set T (some (.tok (m+1))))
  (me m hm hl ho hc hx d o) rfl rfl (by
   intro i j hi hj h;rcases two hi with rfl|rfl<;>rcases two hj with rfl|rfl
   ·rfl
   ·exact absurd h sU
   ·exact absurd h.symm sU
   ·rfl) Dg (by simp [l2 cs hc]) rfl (by simp [AR,Av,l2 xs hx]) (by simp [AR,Av,l2 xs hx,l2 cs hc]) (by
   intro i hi;rcases two hi with rfl|rfl
   ·rw [if_pos rfl,hb]
    simp [AH.at,AJ,AN,ren,r0 xs hx]
   ·rw [if_neg (by decide),hT]
    simp [AH.at,AJ]) (by
   intro i hi;rcases two hi with rfl|rfl
   ·rw [if_pos rfl,Dx (fun h=>sU h.symm),Hb hb]
    simp [AH.at,AJ,AN,ren,r0 _ hxc]
   ·have:AH.at (H.set b (some (.box [.slice (.tok T) 34 (m+1) (xs++cs),.nilPtr,.int .i64 d,.bool o]))) T=some (.tok m):=by rw [Dx sU,hT]
    rw [if_neg (by decide),Hb this]
    simp [AH.at,AJ]) (by
   intro j hj;have h0:=hj 0 (by decide);have h1:=hj 1 (by decide);simp at h0 h1
   rw [Dx h1,Dx h0])
 simpa [AN,ren,r0 cs hc] using this
end Go.Proofs.YtffcldkblcmmiaaGreatDoor
