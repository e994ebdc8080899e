/- The reference's reader of expressions: subs, factor. The ref .. The program's trees: put at any heap. -/
import Derived.Test.YtmjfldclpijghaaGreatDoorZt6
import Derived.Shelf.Strings.OnBuilder
set_option linter.unusedSimpArgs false
set_option linter.unusedVariables false
namespace Go.Proofs.YtmjfldclpijghaaGreatDoor
open Go.RowKit Go.Proofs.Fw
set_option maxRecDepth 100000
set_option maxHeartbeats 4000000
theorem CS.weak {P:Program} {E:Env} {f:FuncId} {args:List AV} {H H':AH} {v v':AV} (h:CS P E f args H v H') (hw:∀g cv,AA g v cv→AA g v' cv):CS P E f args H v' H':=fun g w cargs R hG hA=>by refine Calls.mono (h g w cargs R hG hA) ?_;rintro e w' ⟨g',cv,rfl,R',p,hr⟩;exact ⟨g',cv,rfl,R',p,hw _ _ hr⟩
theorem M0 {ow:Own} {sz n:Nat} {cs:List AV} (g:Gh) (cv:Value) (h:AA g (.slice ow sz n cs) cv):AA g (.slice .unk sz n cs) cv:=by simp only [AA] at h ⊢;obtain ⟨b,o,cap,vs,hv,h1,h2,h3,h4,h5⟩:=h;exact ⟨b,o,cap,vs,hv,h1,h2,h3,h4,trivial⟩
theorem T0:Bg zP 76 4=true:=by kernel_rfl
def FM (a:List Ex):AV:=if a.length=1 then .slice .full 4 1 (B3 a) else .slice (.tok 1) 4 a.length (B3 a)
def EO (ts:List Wd) (a:List Ex) (r:St):AH:=some (.box (rrC ts r.at_ r.err))::(if a.length=1 then [] else [some (.tok a.length)])
def Ig (a:List Ex):AV:=if a.length=1 then .slice .full 4 1 (B3 a) else .slice .unk 4 a.length (B3 a)
def fv (ts:List Wd) (sum:Rd) (dd n:Nat) (res:List Ex × St) (k:Nat) (t:List AV) (H:AH):Prop :=∃(a:List Ex) (r:St),Dv ts sum k a r=res∧k+a.length=6∧1≤a.length∧a.length≤4∧ts.length-r.at_<n∧r.deep=dd∧BO r.err∧t=mkT 45 [(0,.ptr 0 0),(1,.int .i64 (dd:Int)),(5,FM a)]∧H=EO ts a r
structure T3 (O:Orc) (ts:List Wd) (sum:Rd) (n:Nat):Prop extends LL O ts where
 sign:∀(a:Int) (x:Option (Nat × Nat)) (s:List UInt8) (H:AH),0≤a→BO x→O 105 [.ptr 0 0,.str s] (some (.box [AE ts,.int .i64 a,pAV x,.int .i64 (cI x)])::H) =
  some (.bool (Aa ts ⟨a.toNat,0,x⟩ s),some (.box [AE ts,.int .i64 a,pAV x,.int .i64 (cI x)])::H)
 fail:∀(a:Int) (x:Option (Nat × Nat)) (p e:Int) (H:AH),0≤a→BO x→0≤p→0≤e→O 104 [.ptr 0 0,.int .i64 p,.int .i64 e] (some (.box [AE ts,.int .i64 a,pAV x,.int .i64 (cI x)])::H) =
  some (.tup [],some (.box [AE ts,.int .i64 a,pAV (some (x.getD (p.toNat,e.toNat))),.int .i64 (cI (some (x.getD (p.toNat,e.toNat))))])::H)
 sum:JU O ts 102 sum n
theorem Pg {p e:Nat} (h:e≠0):BO (some (p,e)):=fun q hq=>by simp only [Option.some.injEq,Prod.mk.injEq] at hq;exact h hq.2
theorem fw (ts:List Wd) (oK:ts.length<1000000) {O:Orc} (X:Cx O zP Af) {sum:Rd} {n:Nat} (hO:T3 O ts sum n) (hu:upw sum) (hd:∀r,(sum r).2.deep=r.deep) (o6:okE sum)
  (a dd:Nat) (x:Option (Nat × Nat)) (hx:BO x) (hr:dd≤20) (hn:ts.length-a<n) {H:AH} {id:Nat} (hH:H.at id=some (.box (rrC ts a x))) :
  CS zP Af 87 [.ptr id 0,.int .i64 (dd:Int)] H (Ig (C9 ts sum ⟨a,dd,x⟩).1) (H.set id (some (.box (rrC ts (C9 ts sum ⟨a,dd,x⟩).2.at_ (C9 ts sum ⟨a,dd,x⟩).2.err)))):=by
 refine CS.rd DB Tryz.func87 (by kernel_rfl) 0 (by simp [Tryz.f87]) (fun B hB hG => ?_) (by simp) (by unfold Ig;split<;>simp) (FL _ _ _) (FL _ _ _) hH;have pC:(dd:Int)≤20:=by omega
 have h1:=fun H=>hO.sum a dd x H (by omega) (by omega) pC hx (by simpa using hn)
 simp only [Int.toNat_natCast] at h1;have sV:=hu ⟨a,dd,x⟩;have oi:=hd ⟨a,dd,x⟩;have hk1:=o6 ⟨a,dd,x⟩ hx;simp only [C9];generalize vn:sum ⟨a,dd,x⟩=p at *;obtain ⟨e,q⟩:=p;simp only at h1 sV oi hk1;refine Tr.goD X hG ?_;simp at h1;simp [Tryz.f87,h1];generalize sB:Dv ts sum 5 [e] q=res
 refine LpD.loopN X hG (fv ts sum dd n res) 5 (t':=mkT 45 [(0,.ptr 0 0),(1,.int .i64 (dd:Int)),(5,FM [e])]) (H':=EO ts [e] q)
  (AD.mkK 1 (by simp [hB]) (by simp [FM,B3]) (by simp [EO]) (by simp [EO])) ⟨[e],q,sB,rfl,by simp,by simp,by omega,oi,hk1,rfl,rfl⟩ ?_
 rintro k t H ⟨a',r',oM,tG,qz,oO,hm,pi,o9,rfl,rfl⟩;obtain ⟨b,d,y⟩:=r';simp only at hm pi o9;subst pi;cases k with
 |zero=>omega
 |succ k =>
 have pF:=fun H=>hO.sign b y A4 H (by omega) o9
 simp [A4] at pF;have s9:Dv ts sum (k+1) a' ⟨b,d,y⟩=if Aa ts ⟨b,d,y⟩ A4 then (if 4≤a'.length then (a',(⟨b,d,y⟩:St).fail b 4) else Dv ts sum k (a'++[(sum (⟨b,d,y⟩:St).step).1]) (sum (⟨b,d,y⟩:St).step).2) else (a',CF ts ⟨b,d,y⟩ Aw):=rfl
 rw [s9] at oM;have ol:∀s,Aa ts ⟨b,d,y⟩ s=Aa ts ⟨b,0,y⟩ s:=fun s=>rfl
 simp only [ol] at oM;cases hc:Aa ts ⟨b,0,y⟩ A4 with
 |false =>
  have hc':=hc;simp [A4] at hc';rw [hc] at oM;simp only [Bool.false_eq_true,if_false] at oM;cases hs:Aa ts ⟨b,0,y⟩ Aw with
  |true =>
   have ht:=fun H=>hO.tookT b y Aw H (by omega) o9 (by simpa using hs)
   simp [Aw] at ht;simp only [CF,ol,hs,if_true,St.step] at oM;subst oM
   by_cases ha:a'.length=1
   ·simp [FM,EO,Ig,ha,pF,hc',Bo,ht]
   ·simp [FM,EO,Ig,ha,pF,hc',Bo,ht,Gr]
  |false =>
   have ht:=fun H=>hO.tookF b y Aw H (by omega) o9 (by simpa using hs)
   have oc:=fun H=>hO.fail b y b 2 H (by omega) o9 (by omega) (by omega)
   simp [Aw] at ht;simp at oc;simp only [CF,ol,hs,Bool.false_eq_true,if_false,HN] at oM;subst oM
   by_cases ha:a'.length=1
   ·simp [FM,EO,Ig,ha,pF,hc',Bo,ht,oc]
   ·simp [FM,EO,Ig,ha,pF,hc',Bo,ht,oc,Gr]
 |true =>
  have hl:b<ts.length:=Ew hc;have hc':=hc;simp [A4] at hc';rw [hc] at oM;simp only [if_true] at oM;have w1:IntKind.i64.wrap ((b:Int)+1)=(b:Int)+1:=Ab (by omega) (by omega)
  by_cases h4:4≤a'.length
  ·have h4':(4:Int)≤a'.length:=by omega
   have ha:¬a'.length=1:=by omega
   have oc:=fun H=>hO.fail b y b 4 H (by omega) o9 (by omega) (by omega)
   simp at oc;rw [if_pos h4] at oM;simp only [HN] at oM;subst oM;simp [FM,EO,Ig,ha,pF,hc',h4',oc,Gr]
  ·have h4':¬(4:Int)≤a'.length:=by omega
   rw [if_neg h4] at oM;simp only [St.step] at oM;have h2:=fun H=>hO.sum (b+1:Nat) d y H (by omega) (by omega) pC o9 (by simp only [Int.toNat_natCast];omega)
   have hu2:=hu ⟨b+1,d,y⟩;have ob:=hd ⟨b+1,d,y⟩;have pm:=o6 ⟨b+1,d,y⟩ o9;simp only [Int.toNat_natCast] at h2;generalize sum ⟨b+1,d,y⟩=p at *;obtain ⟨e2,⟨b2,d2,y2⟩⟩:=p;simp only at hu2 ob pm oM;subst ob;simp at h2
   by_cases ha:a'.length=1
   ·have oP:=fun H=>MH (P:=zP) (t:=76) (sz:=4) (n:=1) (m:=1) (H:=H) (fid:=1) (ow := .full) (xs:=B3 a') T0 (by decide) (by decide) (Mq e2)
    have h41:¬(4:Int)≤1:=by decide
    simp [FM,EO,ha,pF,hc',h41,w1,h2,oP]
    refine Nxt.mk k (by omega) (AD.mkK 2 (l':=[(0,.ptr 0 0),(1,.int .i64 (d2:Int)),(5,FM (a'++[e2]))]) (H':=EO ts (a'++[e2]) ⟨b2,d2,y2⟩) (by simp [hB]) (by simp [FM,ha,HM,B3]) (by simp [EO,ha]) (by simp [EO,ha]))
     ⟨a'++[e2],⟨b2,d2,y2⟩,oM,?_,?_,?_,?_,rfl,pm,rfl,rfl⟩
    ·simp only [List.length_append,List.length_cons,List.length_nil] at tG ⊢;omega
    ·simp
    ·simp only [List.length_append,List.length_cons,List.length_nil];omega
    ·simp only;omega
   ·have oP:=fun H (h:AH.at H 1=some (.tok a'.length))=>EZ (P:=zP) (t:=76) (sz:=4) (m:=1) (H:=H) (fid:=2) (ow := .full) (xs:=B3 a') T0 h (by decide) (by omega) (Mq e2)
    have h0:¬a'=[]:=fun h=>by rw [h] at qz;simp at qz
    simp [FM,EO,ha,pF,hc',h4',w1,h2,oP]
    refine Nxt.mk k (by omega) (AD.mkK 2 (l':=[(0,.ptr 0 0),(1,.int .i64 (d2:Int)),(5,FM (a'++[e2]))]) (H':=EO ts (a'++[e2]) ⟨b2,d2,y2⟩) (by simp [hB]) (by simp [FM,h0,HM,B3]) (by simp [EO,h0]) (by simp [EO,h0]))
     ⟨a'++[e2],⟨b2,d2,y2⟩,oM,?_,?_,?_,?_,rfl,pm,rfl,rfl⟩
    ·simp only [List.length_append,List.length_cons,List.length_nil] at tG ⊢;omega
    ·simp
    ·simp only [List.length_append,List.length_cons,List.length_nil];omega
    ·simp only;omega
theorem B8:cI none=0:=AS rfl
structure T4 (O:Orc) (ts:List Wd) (n:Nat):Prop extends LL O ts where
 sign:∀(a:Int) (x:Option (Nat × Nat)) (s:List UInt8) (H:AH),0≤a→BO x→O 105 [.ptr 0 0,.str s] (some (.box [AE ts,.int .i64 a,pAV x,.int .i64 (cI x)])::H) =
  some (.bool (Aa ts ⟨a.toNat,0,x⟩ s),some (.box [AE ts,.int .i64 a,pAV x,.int .i64 (cI x)])::H)
 fail:∀(a:Int) (x:Option (Nat × Nat)) (p e:Int) (H:AH),0≤a→BO x→0≤p→0≤e→O 104 [.ptr 0 0,.int .i64 p,.int .i64 e] (some (.box [AE ts,.int .i64 a,pAV x,.int .i64 (cI x)])::H) =
  some (.tup [],some (.box [AE ts,.int .i64 a,pAV (some (x.getD (p.toNat,e.toNat))),.int .i64 (cI (some (x.getD (p.toNat,e.toNat))))])::H)
 fac:JU O ts 136 (Ax ts n) n
 sum:JU O ts 102 (Bq ts (Ax ts n)) n
 subs:∀(a d:Int) (x:Option (Nat × Nat)) (H:AH),0≤a→0≤d→d≤20→BO x→ts.length-a.toNat<n→O 87 [.ptr 0 0,.int .i64 d] (some (.box [AE ts,.int .i64 a,pAV x,.int .i64 (cI x)])::H) =
  some (.slice .unk 4 (C9 ts (Bq ts (Ax ts n)) ⟨a.toNat,d.toNat,x⟩).1.length (B3 (C9 ts (Bq ts (Ax ts n)) ⟨a.toNat,d.toNat,x⟩).1),some (.box (rrC ts (C9 ts (Bq ts (Ax ts n)) ⟨a.toNat,d.toNat,x⟩).2.at_ (C9 ts (Bq ts (Ax ts n)) ⟨a.toNat,d.toNat,x⟩).2.err))::H)
theorem fx (ts:List Wd) (oK:ts.length<1000000) {n:Nat} {O:Orc} (X:Cx O zP Af) (hO:T4 O ts n) (sx:okE (Bq ts (Ax ts n))) (a dd:Nat) (x:Option (Nat × Nat)) (hx:BO x) (hr:dd≤20) (hn:ts.length-a<n+1) {H:AH} {id:Nat} (hH:H.at id=some (.box (rrC ts a x))) :
  CS zP Af 136 [.ptr id 0,.int .i64 (dd:Int)] H (CH (Ax ts (n+1) ⟨a,dd,x⟩).1) (H.set id (some (.box (rrC ts (Ax ts (n+1) ⟨a,dd,x⟩).2.at_ (Ax ts (n+1) ⟨a,dd,x⟩).2.err)))):=by
 refine CS.rd DB Tryz.func136 (by kernel_rfl) 0 (by simp [Tryz.f136]) (fun B hB hG => ?_) (by simp) (by simp) (FL _ _ _) (FL _ _ _) hH;have pC:(dd:Int)≤20:=by omega
 have vp:Ax ts (n+1) ⟨a,dd,x⟩=CN ts (Bq ts (Ax ts n)) (Ax ts n) ⟨a,dd,x⟩:=rfl;rw [vp];have oc:=fun H=>hO.fail a x a 2 H (by omega) hx (by omega) (by omega)
 simp at oc;refine Tr.goD X hG ?_;cases x with
 |some y =>
  have h1:CN ts (Bq ts (Ax ts n)) (Ax ts n) ⟨a,dd,some y⟩=(.none,⟨a,dd,some y⟩):=by simp [CN,St.fail]
  have h0:(cI (some y)==0)=false:=by rw [beq_eq_false_iff_ne];intro h;have:=(HP hx).1 h;cases this
  have h0':¬cI (some y)=0:=fun h=>by have:=(HP hx).1 h;cases this
  have sW:(cI (some y) != 0)=true:=by simp [bne,h0]
  simp [Tryz.f136,h0,h0',sW,h1,oc]
 |none =>
  by_cases hl:a<ts.length
  ·have hl':(a:Int)<ts.length:=by omega
   have oh:¬((ts.length:Int)≤a):=by omega
   obtain ⟨w,hw⟩:∃w,ts[a]? = some w:=⟨_,List.getElem?_eq_getElem hl⟩
   obtain ⟨c0,c1,c3⟩:=EM hw;obtain ⟨cc1,cc2⟩:=KN ts a w hw;have w1:IntKind.i64.wrap ((a:Int)+1)=(a:Int)+1:=Ab (by omega) (by omega);have wd:IntKind.i64.wrap ((dd:Int)+1)=(dd:Int)+1:=Ab (by omega) (by omega)
   by_cases pm:w.kind=2
   ·have e2:(w.kind:Int)=2:=by omega
    have h1:CN ts (Bq ts (Ax ts n)) (Ax ts n) ⟨a,dd,none⟩=(.num w.n,⟨a+1,dd,none⟩):=by simp only [CN,hw,pm];rfl
    simp [Tryz.f136,B8,hl,hl',oh,cc1,cc2,BA,e2,w1,h1]
   ·have e2:¬(w.kind:Int)=2:=by omega
    have b2:(w.kind==2)=false:=by rw [beq_eq_false_iff_ne];exact pm
    have h0:0≤(a:Int)+1:=by omega
    by_cases hk1:w.kind=1
    ·have e1:(w.kind:Int)=1:=by omega
     cases oz:Aa ts ⟨a+1,0,none⟩ Av with
     |true =>
      have qa:a+1<ts.length:=Ew oz
      have h1:CN ts (Bq ts (Ax ts n)) (Ax ts n) ⟨a,dd,none⟩=(.elem w.text (C9 ts (Bq ts (Ax ts n)) ⟨a+1+1,dd,none⟩).1,(C9 ts (Bq ts (Ax ts n)) ⟨a+1+1,dd,none⟩).2):=by have q6:Aa ts ⟨a+1,dd,none⟩ Av=true:=oz;simp [CN,hw,hk1,St.step,q6]
      have ht:=fun H=>hO.tookT ((a:Int)+1) none Av H h0 Cm (by simpa using oz)
      have vr:=fun H=>hO.subs ((a:Int)+1+1) dd none H (by omega) (by omega) pC Cm (by omega)
      have en:((a:Int)+1+1).toNat=a+1+1:=by omega
      simp [Av,B8] at ht;rw [h1];simp only [en,Int.toNat_natCast] at vr;generalize C9 ts (Bq ts (Ax ts n)) ⟨a+1+1,dd,none⟩=p at *;simp [B8] at vr;simp [Tryz.f136,B8,hl,hl',oh,cc1,cc2,BA,e1,w1,ht];refine LpD.turns X hG [4,6] [(0,4),(1,4)] ?_;simp [vr]
     |false =>
      have h1:CN ts (Bq ts (Ax ts n)) (Ax ts n) ⟨a,dd,none⟩=(.var w.text,⟨a+1,dd,none⟩):=by have q6:Aa ts ⟨a+1,dd,none⟩ Av=false:=oz;simp [CN,hw,hk1,St.step,q6]
      have ht:=fun H=>hO.tookF ((a:Int)+1) none Av H h0 Cm (by simpa using oz)
      simp [Av,B8] at ht;simp [Tryz.f136,B8,hl,hl',oh,cc1,cc2,BA,e1,w1,ht,h1]
    ·have e1:¬(w.kind:Int)=1:=by omega
     have b1:(w.kind==1)=false:=by rw [beq_eq_false_iff_ne];exact hk1
     have nx:∀s,Aa ts ⟨a,0,none⟩ s=isS ts a s:=fun s=>by simp [Aa]
     have pb:=fun H=>hO.sign a none Bb H (by omega) Cm
     have px:=fun H=>hO.sign a none Av H (by omega) Cm
     simp [Bb,nx,B8] at pb;simp [Av,nx,B8] at px;cases qC:isS ts a Bb with
     |true =>
      have rT:=qC;simp [Bb] at rT
      by_cases uN:20≤dd
      ·have sD:(20:Int)≤(dd:Int):=by omega
       have h1:CN ts (Bq ts (Ax ts n)) (Ax ts n) ⟨a,dd,none⟩=(.none,⟨a,dd,some (a,4)⟩):=by simp [CN,hw,b2,b1,qC,uN,St.fail]
       have uO:=fun H=>hO.fail a none a 4 H (by omega) Cm (by omega) (by omega)
       simp [B8] at uO;simp [Tryz.f136,B8,hl,hl',oh,cc1,cc2,BA,e2,e1,pb,px,rT,sD,uO,h1]
      ·have sD:¬(20:Int)≤(dd:Int):=by omega
       have h1:CN ts (Bq ts (Ax ts n)) (Ax ts n) ⟨a,dd,none⟩=(.neg (Ax ts n ⟨a+1,dd+1,none⟩).1,⟨(Ax ts n ⟨a+1,dd+1,none⟩).2.at_,dd,(Ax ts n ⟨a+1,dd+1,none⟩).2.err⟩):=by simp [CN,hw,b2,b1,qC,uN,Fl,St.step]
       have ht:=fun H=>hO.tookT a none Bb H (by omega) Cm (by simp [nx,qC])
       have rL:=fun H=>hO.fac ((a:Int)+1) ((dd:Int)+1) none H h0 (by omega) (by omega) Cm (by omega)
       have en:((a:Int)+1).toNat=a+1:=by omega
       have en2:((dd:Int)+1).toNat=dd+1:=by omega
       simp [Bb,B8] at ht;rw [h1];simp only [en,en2] at rL;generalize Ax ts n ⟨a+1,dd+1,none⟩=p at *;simp [B8] at rL;simp [Tryz.f136,B8,hl,hl',oh,cc1,cc2,BA,e2,e1,pb,px,rT,sD,ht,rL,wd]
     |false =>
      have rT:=qC;simp [Bb] at rT;cases oz:isS ts a Av with
      |true =>
       have q6:=oz;simp [Av] at q6
       by_cases uN:20≤dd
       ·have sD:(20:Int)≤(dd:Int):=by omega
        have h1:CN ts (Bq ts (Ax ts n)) (Ax ts n) ⟨a,dd,none⟩=(.none,⟨a,dd,some (a,4)⟩):=by simp [CN,hw,b2,b1,qC,oz,uN,St.fail]
        have uO:=fun H=>hO.fail a none a 4 H (by omega) Cm (by omega) (by omega)
        simp [B8] at uO;simp [Tryz.f136,B8,hl,hl',oh,cc1,cc2,BA,e2,e1,pb,px,rT,q6,sD,uO,h1]
       ·have sD:¬(20:Int)≤(dd:Int):=by omega
        have h1:CN ts (Bq ts (Ax ts n)) (Ax ts n) ⟨a,dd,none⟩=((Bq ts (Ax ts n) ⟨a+1,dd+1,none⟩).1,CF ts ⟨(Bq ts (Ax ts n) ⟨a+1,dd+1,none⟩).2.at_,dd,(Bq ts (Ax ts n) ⟨a+1,dd+1,none⟩).2.err⟩ Aw):=by simp [CN,hw,b2,b1,qC,oz,uN,Fl,St.step]
        have ht:=fun H=>hO.tookF a none Bb H (by omega) Cm (by simp [nx,qC])
        have rL:=fun H=>hO.sum ((a:Int)+1) ((dd:Int)+1) none H h0 (by omega) (by omega) Cm (by omega)
        have ut:=sx ⟨a+1,dd+1,none⟩ Cm;have en:((a:Int)+1).toNat=a+1:=by omega
        have en2:((dd:Int)+1).toNat=dd+1:=by omega
        simp [Bb,B8] at ht;rw [h1];simp only [en,en2] at rL;generalize Bq ts (Ax ts n) ⟨a+1,dd+1,none⟩=p at *;obtain ⟨e,⟨q,d2,y⟩⟩:=p;simp [B8] at rL;simp only at ut;have ol:Aa ts ⟨q,dd,y⟩ Aw=Aa ts ⟨q,0,y⟩ Aw:=rfl;cases sQ:Aa ts ⟨q,0,y⟩ Aw with
        |true =>
         have qx:=fun H=>hO.tookT q y Aw H (by omega) ut (by simpa using sQ)
         simp [Aw] at qx;simp [Tryz.f136,B8,hl,hl',oh,cc1,cc2,BA,e2,e1,pb,px,rT,q6,sD,ht,rL,wd,w1,qx,CF,ol,sQ,St.step]
        |false =>
         have qx:=fun H=>hO.tookF q y Aw H (by omega) ut (by simpa using sQ)
         have p4:=fun H=>hO.fail q y q 2 H (by omega) ut (by omega) (by omega)
         simp [Aw] at qx;simp at p4;simp [Tryz.f136,B8,hl,hl',oh,cc1,cc2,BA,e2,e1,pb,px,rT,q6,sD,ht,rL,wd,w1,qx,p4,CF,ol,sQ,HN]
      |false =>
       have q6:=oz;simp [Av] at q6;have h1:CN ts (Bq ts (Ax ts n)) (Ax ts n) ⟨a,dd,none⟩=(.none,⟨a,dd,some (a,2)⟩):=by simp [CN,hw,b2,b1,qC,oz,St.fail]
       simp [B8] at oc;simp [Tryz.f136,B8,hl,hl',oh,cc1,cc2,BA,e2,e1,pb,px,rT,q6,oc,h1]
  ·have hw:ts[a]? = none:=List.getElem?_eq_none (by omega)
   have hl':¬(a:Int)<ts.length:=by omega
   have oh:((ts.length:Int)≤a):=by omega
   have h1:CN ts (Bq ts (Ax ts n)) (Ax ts n) ⟨a,dd,none⟩=(.none,⟨a,dd,some (a,2)⟩):=by simp only [CN,hw];rfl
   simp [B8] at oc;simp [Tryz.f136,B8,h1,oc,hl',oh]
theorem LM {r:St} {p e:Nat} (h:BO r.err) (he:e≠0):BO (r.fail p e).err:=by
 rw [HN];cases hx:r.err with
 |none=>exact Pg he
 |some y=>rw [hx] at h;exact h
theorem T5 {ts:List Wd} {r:St} {s:List UInt8} (h:BO r.err):BO (CF ts r s).err:=by
 unfold CF;split
 ·exact h
 ·exact LM h (by decide)
theorem Ph {ts:List Wd} {f:Rd} (h:okE f):∀(n:Nat) (a:List Ex) (r:St),BO r.err→BO (Dv ts f n a r).2.err
 |0,_,_,hr=>hr
 |n+1,a,r,hr=>by
  simp only [Dv]
  split
  ·split
   ·exact LM hr (by decide)
   ·exact Ph h n _ _ (h r.step hr)
  ·exact T5 hr
theorem fy {ts:List Wd} {sf f:Rd} (hs:okE sf) (h:okE f):okE (CN ts sf f):=by
 intro r hr;unfold CN
 split
 ·rename_i t he ht
  split
  ·exact hr
  ·split
   ·split
    ·exact Ph hs 5 _ _ (hs r.step.step hr)
    ·exact hr
   ·split
    ·split
     ·exact LM hr (by decide)
     ·split
      ·exact h ⟨r.step.at_,r.step.deep+1,r.step.err⟩ hr
      ·exact T5 (hs ⟨r.step.at_,r.step.deep+1,r.step.err⟩ hr)
    ·exact LM hr (by decide)
 ·exact LM hr (by decide)
theorem Ih (ts:List Wd):∀n,okE (Ax ts n)
 |0=>fun _ h=>h
 |n+1=>fy (Gu (Gu (Ih ts n))) (Ih ts n)
theorem T6 {ts:List Wd} {f:Rd} (h:upw f):∀(n:Nat) (a:List Ex) (r:St),r.at_≤(Dv ts f n a r).2.at_
 |0,_,_=>Nat.le_refl _
 |n+1,a,r=>by
  simp only [Dv]
  split
  ·split
   ·rw [Ia];exact Nat.le_refl _
   ·have h1:=h r.step
    have h2:=T6 h (ts:=ts) n (a++[(f r.step).1]) (f r.step).2;simp only [St.step] at h1 h2 ⊢;omega
  ·exact Mo ts r Aw
theorem gA {ts:List Wd} {sf f:Rd} (hs:upw sf) (h:upw f):upw (CN ts sf f):=by
 intro r;unfold CN
 split
 ·split
  ·simp [St.step]
  ·split
   ·split
    ·have h1:=hs r.step.step
     have h2:=T6 (ts:=ts) hs 5 [(sf r.step.step).1] (sf r.step.step).2;simp only [C9,St.step] at h1 h2 ⊢;omega
    ·simp [St.step]
   ·split
    ·split
     ·rw [Ia];exact Nat.le_refl _
     ·split
      ·have:=h ⟨r.step.at_,r.step.deep+1,r.step.err⟩
       simp only [Fl,St.step] at this ⊢;omega
      ·have h1:=hs ⟨r.step.at_,r.step.deep+1,r.step.err⟩
       have h2:=Mo ts (Fl sf r.step).2 Aw;simp only [Fl,St.step] at h1 h2 ⊢;omega
    ·rw [Ia];exact Nat.le_refl _
 ·rw [Ia];exact Nat.le_refl _
theorem LN (ts:List Wd):∀n,upw (Ax ts n)
 |0=>fun _=>Nat.le_refl _
 |n+1=>gA (LK (LK (LN ts n))) (LN ts n)
theorem gB (ts:List Wd) (n:Nat):∀r,(Ax ts n r).2.deep=r.deep:=(FG ts n).2.2.2.2
theorem gD (ts:List Wd) (n:Nat):∀r,(Oq ts (Ax ts n) r).2.deep=r.deep:=(KF (ts:=ts) (f:=De) (s:=Df) (FG ts n) (by decide) 7 8).2.2.2.2
theorem T7 (ts:List Wd) (n:Nat):∀r,(Bq ts (Ax ts n) r).2.deep=r.deep:=(IU (ts:=ts) (FG ts n)).2.2.2.2
def GH (ts:List Wd) (of:Rd) (n:Nat) (rest:List AV) (r:St):Option (AV × St):=match rest with
 |[.int .i64 d]=>if 0≤d∧d≤20∧ts.length-r.at_<n then some (CH (of ⟨r.at_,d.toNat,r.err⟩).1,(of ⟨r.at_,d.toNat,r.err⟩).2) else none
 |_=>none
def Ef (ts:List Wd) (g:FuncId) (of:Rd) (n:Nat):Prop:=AT zP Af (oRr ts g (GH ts of n))
theorem Ef.mk' {ts:List Wd} {g:FuncId} {of:Rd} {n:Nat} (h:∀(a dd:Nat) (x:Option (Nat × Nat)),BO x→dd≤20→ts.length-a<n→∀H id,H.at id=some (.box (rrC ts a x)) →
  CS zP Af g [.ptr id 0,.int .i64 (dd:Int)] H (CH (of ⟨a,dd,x⟩).1) (H.set id (some (.box (rrC ts (of ⟨a,dd,x⟩).2.at_ (of ⟨a,dd,x⟩).2.err))))):Ef ts g of n :=
 LJ fun rest r v r' hs h0 hx H id hH=>by
  unfold GH at hs
  split at hs
  ·rename_i d
   split at hs
   ·rename_i hc
    injection hs with hs;simp only [Prod.mk.injEq] at hs;obtain ⟨rfl,rfl⟩:=hs;have:=h r.at_ d.toNat r.err hx (by omega) hc.2.2 H id hH
    rwa [Int.toNat_of_nonneg hc.1] at this
   ·cases hs
  ·cases hs
theorem M1 {ts:List Wd} {g:FuncId} {of:Rd} {n:Nat}:JU (oRr ts g (GH ts of n)) ts g of n:=fun a d x H ha hd ob hx hm=>by rw [Hv hx (KT ha)];simp only [GH,if_pos (And.intro hd (And.intro ob hm)),Option.map_some,List.set_cons_zero]
noncomputable def oTG (ts:List Wd) (g:FuncId) (of:Rd) (n:Nat):Orc:=orElse (oRr ts 106 (Dj ts)) (oRr ts g (GH ts of n))
theorem T8 {ts:List Wd} (oK:ts.length<1000000) {g:FuncId} {of:Rd} {n:Nat} (h:Ef ts g of n):Cx (oTG ts g of n) zP Af:=⟨AT.orElse (Pb ts oK) h,Dh,Ad⟩
theorem T9 {ts:List Wd} {g:FuncId} {of:Rd} {n:Nat}:LL (oTG ts g of n) ts where
 tookT:=fun a x s H ha hx hn=>by simp only [oTG,orElse,Pc s H ha hx hn]
 tookF:=fun a x s H ha hx hn=>by simp only [oTG,orElse,Pd s H ha hx hn]
theorem UA {ts:List Wd} {g:FuncId} {of:Rd} {n:Nat} (hg:g≠106):JU (oTG ts g of n) ts g of n:=fun a d x H ha hd ob hx hm=>by
 have:=M1 (g:=g) (of:=of) (n:=n) a d x H ha hd ob hx hm;have h1:oRr ts 106 (Dj ts) g [.ptr 0 0,.int .i64 d] (some (.box [AE ts,.int .i64 a,pAV x,.int .i64 (cI x)])::H)=none:=by simp [oRr,hg]
 simp only [oTG,orElse,h1,this]
theorem zDM {ts:List Wd} (oK:ts.length<1000000) {n:Nat} (h:Ef ts 136 (Ax ts n) n):Ef ts 125 (Oq ts (Ax ts n)) n :=Ef.mk' fun a dd x hx hr hn H id hH=>fq ts oK (T8 oK h) T9 (UA (by decide)) (LN ts n) (gB ts n) (Ih ts n) a dd x hx hr hn hH
theorem Pi {ts:List Wd} (oK:ts.length<1000000) {n:Nat} (h:Ef ts 136 (Ax ts n) n):Ef ts 102 (Bq ts (Ax ts n)) n :=Ef.mk' fun a dd x hx hr hn H id hH=>fu ts oK (T8 oK (zDM oK h)) T9 (UA (by decide)) (LK (LN ts n)) (gD ts n) (Gu (Ih ts n)) a dd x hx hr hn hH
noncomputable def oSb (ts:List Wd) (n:Nat):Orc:=Ay [(106,oRr ts 106 (Dj ts)),(105,oRr ts 105 (Ed ts)),
 (104,oRr ts 104 Hw),(102,oRr ts 102 (GH ts (Bq ts (Ax ts n)) n))]
theorem gF {ts:List Wd} (oK:ts.length<1000000) {n:Nat} (h:Ef ts 102 (Bq ts (Ax ts n)) n):Cx (oSb ts n) zP Af:=⟨FB (by
 intro p hp;simp only [List.mem_cons,List.not_mem_nil,or_false] at hp;rcases hp with rfl|rfl|rfl|rfl
 ·exact Pb ts oK
 ·exact PY ts
 ·exact PZ ts
 ·exact h),Dh,Ad⟩
theorem gG (ts:List Wd) (n:Nat):T3 (oSb ts n) ts (Bq ts (Ax ts n)) n where
 tookT:=fun a x s H ha hx hn=>by rw [←Pc s H ha hx hn];simp [oSb,Ay,List.lookup]
 tookF:=fun a x s H ha hx hn=>by rw [←Pd s H ha hx hn];simp [oSb,Ay,List.lookup]
 sign:=fun a x s H ha hx=>by rw [←Pa s H ha hx];simp [oSb,Ay,List.lookup]
 fail:=fun a x p e H ha hx hp he=>by rw [←Tz p e H ha hx hp he];simp [oSb,Ay,List.lookup]
 sum:=fun a d x H ha hd ob hx hm=>by rw [←M1 (g:=102) (of:=Bq ts (Ax ts n)) (n:=n) a d x H ha hd ob hx hm];simp [oSb,Ay,List.lookup]
def JV (ts:List Wd) (n:Nat) (rest:List AV) (r:St):Option (AV × St):=match rest with
 |[.int .i64 d]=>if 0≤d∧d≤20∧ts.length-r.at_<n then some (.slice .unk 4 (C9 ts (Bq ts (Ax ts n)) ⟨r.at_,d.toNat,r.err⟩).1.length (B3 (C9 ts (Bq ts (Ax ts n)) ⟨r.at_,d.toNat,r.err⟩).1),(C9 ts (Bq ts (Ax ts n)) ⟨r.at_,d.toNat,r.err⟩).2) else none
 |_=>none
theorem UB {ts:List Wd} (oK:ts.length<1000000) {n:Nat} (h:Ef ts 102 (Bq ts (Ax ts n)) n):AT zP Af (oRr ts 87 (JV ts n)):=LJ fun rest r v r' hs h0 hx H id hH=>by
 unfold JV at hs
 split at hs
 ·rename_i d
  split at hs
  ·rename_i hc
   injection hs with hs;simp only [Prod.mk.injEq] at hs;obtain ⟨rfl,rfl⟩:=hs;have:=fw ts oK (gF oK h) (gG ts n) (LK (LK (LN ts n))) (T7 ts n) (Gu (Gu (Ih ts n))) r.at_ d.toNat r.err hx (by omega) hc.2.2 hH;rw [Int.toNat_of_nonneg hc.1] at this;refine CS.weak this fun g cv hr => ?_
   unfold Ig at hr
   split at hr
   ·rename_i hl
    rw [hl];exact M0 g cv hr
   ·exact hr
  ·cases hs
 ·cases hs
noncomputable def oYf (ts:List Wd) (n:Nat):Orc:=Ay [(106,oRr ts 106 (Dj ts)),(105,oRr ts 105 (Ed ts)),
 (104,oRr ts 104 Hw),(102,oRr ts 102 (GH ts (Bq ts (Ax ts n)) n)),
 (136,oRr ts 136 (GH ts (Ax ts n) n)),(87,oRr ts 87 (JV ts n))]
theorem gH {ts:List Wd} (oK:ts.length<1000000) {n:Nat} (h:Ef ts 136 (Ax ts n) n):Cx (oYf ts n) zP Af:=⟨FB (by
 intro p hp;simp only [List.mem_cons,List.not_mem_nil,or_false] at hp;rcases hp with rfl|rfl|rfl|rfl|rfl|rfl
 ·exact Pb ts oK
 ·exact PY ts
 ·exact PZ ts
 ·exact Pi oK h
 ·exact h
 ·exact UB oK (Pi oK h)),Dh,Ad⟩
theorem zDN (ts:List Wd) (n:Nat):T4 (oYf ts n) ts n where
 tookT:=fun a x s H ha hx hn=>by rw [←Pc s H ha hx hn];simp [oYf,Ay,List.lookup]
 tookF:=fun a x s H ha hx hn=>by rw [←Pd s H ha hx hn];simp [oYf,Ay,List.lookup]
 sign:=fun a x s H ha hx=>by rw [←Pa s H ha hx];simp [oYf,Ay,List.lookup]
 fail:=fun a x p e H ha hx hp he=>by rw [←Tz p e H ha hx hp he];simp [oYf,Ay,List.lookup]
 fac:=fun a d x H ha hd ob hx hm=>by rw [←M1 (g:=136) (of:=Ax ts n) (n:=n) a d x H ha hd ob hx hm];simp [oYf,Ay,List.lookup]
 sum:=fun a d x H ha hd ob hx hm=>by rw [←M1 (g:=102) (of:=Bq ts (Ax ts n)) (n:=n) a d x H ha hd ob hx hm];simp [oYf,Ay,List.lookup]
 subs:=fun a d x H ha hd ob hx hm=>by
  have e1:oYf ts n 87 [.ptr 0 0,.int .i64 d] (some (.box [AE ts,.int .i64 a,pAV x,.int .i64 (cI x)])::H)=oRr ts 87 (JV ts n) 87 [.ptr 0 0,.int .i64 d] (some (.box [AE ts,.int .i64 a,pAV x,.int .i64 (cI x)])::H):=by simp [oYf,Ay,List.lookup]
  rw [e1,Hv hx (KT ha)];simp only [JV,if_pos (And.intro hd (And.intro ob hm)),Option.map_some,List.set_cons_zero]
theorem UC {ts:List Wd} (oK:ts.length<1000000):∀n,Ef ts 136 (Ax ts n) n
 |0=>Ef.mk' fun a dd x _ _ hn=>absurd hn (Nat.not_lt_zero _)
 |n+1=>Ef.mk' fun a dd x hx hr hn H id hH=>fx ts oK (gH oK (UC oK n)) (zDN ts n) (Gu (Gu (Ih ts n))) a dd x hx hr hn hH
theorem Pj {ts:List Wd} (oK:ts.length<1000000):Ef ts 102 (Bv ts) (ts.length+1):=Pi oK (UC oK _)
def DJ (x:Option (Nat × Nat)):AV := .agg [pAV x,.int .i64 (cI x)]
def LO (x:Ex × Nat × Option (Nat × Nat)):AV := .tup [CH x.1,.int .i64 x.2.1,DJ x.2.2]
theorem UD {ts:List Wd} {a d:Int} {x:Option (Nat × Nat)} {e0 e1:Option Ent} (H:AH) (ha:0≤a) (hd:0≤d) (ob:d≤20) (hx:BO x) :
  oRr ts 102 (GH ts (Bv ts) (ts.length+1)) 102 [.ptr 2 0,.int .i64 d] (e0::e1::some (.box [AE ts,.int .i64 a,pAV x,.int .i64 (cI x)])::H) =
   some (CH (Bv ts ⟨a.toNat,d.toNat,x⟩).1,e0::e1::some (.box (rrC ts (Bv ts ⟨a.toNat,d.toNat,x⟩).2.at_ (Bv ts ⟨a.toNat,d.toNat,x⟩).2.err))::H):=by
 have h0:AH.at (e0::e1::some (.box [AE ts,.int .i64 a,pAV x,.int .i64 (cI x)])::H) 2=some (.box (rrC ts (a.toNat:Nat) x)):=by simp [AH.at,Int.toNat_of_nonneg ha]
 rw [Hv hx h0];have h2:ts.length-a.toNat<ts.length+1:=by omega
 simp only [GH,if_pos (And.intro hd (And.intro ob h2)),Option.map_some,List.set_cons_succ,List.set_cons_zero]
@[simp] theorem buRR (ts:List Wd):Aq zP 214 [(0,AE ts)]=some (.agg [AE ts,.int .i64 0,.nilSlice,.int .i64 0]):=by
 unfold AE
 split<;>kernel_rfl
@[simp] theorem buWr:Aq zP 28 []=some (.agg [.nilSlice,.int .i64 0]):=by kernel_rfl
theorem LP:pAV none = .nilSlice:=AS rfl
theorem gJ (ts:List Wd) (oK:ts.length<1000000) (H:AH):CS zP Af 88 [AE ts] H (LO (K9 ts)) H:=by
 have X:Cx (oRr ts 102 (GH ts (Bv ts) (ts.length+1))) zP Af:=⟨Pj oK,Dh,Ad⟩
 refine CS.tr0 DB Tryz.func88 (by kernel_rfl) 0 (by simp [Tryz.f88]) (fun B hB hG => ?_) (by simp [LO,DJ]) (by simp) H;refine Tr.goD X hG ?_;have h1:=fun H e0 e1=>UD (ts:=ts) (a:=0) (d:=0) (x:=none) (e0:=e0) (e1:=e1) H (by omega) (by omega) (by omega) Cm
 have o6:=Gu (ts:=ts) (f:=EI) (s:=Bb) (one:=5) (two:=6) (Gu (ts:=ts) (f:=De) (s:=Df) (one:=7) (two:=8) (Ih ts (ts.length+1))) ⟨0,0,none⟩ Cm;have sX:BO (Bv ts ⟨0,0,none⟩).2.err:=o6;clear o6;simp only [K9];simp [LP,B8] at h1;generalize Bv ts ⟨0,0,none⟩=p at *;obtain ⟨e,⟨b,d,x⟩⟩:=p;simp only at h1 sX;cases x with
 |none =>simp [Tryz.f88,h1,B8];refine LpD.turns X hG [6,8] zL5 ?_;simp [LO,DJ,LP,B8]
 |some y =>
  have h0:(cI (some y)==0)=false:=by rw [beq_eq_false_iff_ne];intro h;have:=(HP sX).1 h;cases this
  have h0':¬cI (some y)=0:=fun h=>by have:=(HP sX).1 h;cases this
  have sW:(cI (some y) != 0)=true:=by simp [bne,h0]
  simp [Tryz.f88,h1,h0,h0',sW];refine LpD.turns X hG [5,7] zL0 ?_;simp [LO,DJ]
def EP (p:List UInt8→Bool):List (List UInt8)→Nat→Int
 |[],_ => -1
 |s::l,i=>if p s=true then (i:Int) else EP p l (i+1)
theorem M2 {p:List UInt8→Bool}:∀(l:List (List UInt8)) (i:Nat),(EP p l i<0)↔∀s∈l,p s=false
 |[],i=>by simp [EP]
 |s::l,i=>by
  unfold EP
  by_cases h:p s=true
  ·rw [if_pos h]
   constructor
   ·intro hh;omega
   ·intro hh
    have:=hh s List.mem_cons_self;rw [h] at this;cases this
  ·rw [if_neg h,M2 l (i+1)]
   simp only [List.mem_cons,forall_eq_or_imp];rw [Bool.not_eq_true] at h;simp [h]
def Dk:List AV:=Cc.map .str
def IdxI (ts:List Wd) (r:St) (res:Int) (k:Nat) (t:List AV) (H:AH):Prop :=∃i,i+k=6∧EP (Aa ts r) (Cc.drop i) i=res∧t=mkT 19 [(0,.slice .full 1 6 Dk),(1,.func (.func 134) [.ptr 0 0] []),(7,.int .i64 6),(8,.int .i64 (i:Int))]∧H=[some (.box (r.cells ts))]
theorem gK (ts:List Wd) (r:St) {H:AH} {id:Nat} (hH:H.at id=some (.box (r.cells ts))) :
  CS zP Af 133 [.slice .full 1 6 Dk,.func (.func 134) [.ptr id 0] []] H (.int .i64 (EP (Aa ts r) Cc 0)) (H.set id (some (.box (r.cells ts)))):=by
 have X:Cx (oRd ts 134 (Ed ts)) zP Af:=⟨Mj ts,Dh,Ad⟩
 have h0:CS zP Af 133 [.slice .full 1 6 Dk,.func (.func 134) [.ptr 0 0] []] [some (.box (r.cells ts))] (.int .i64 (EP (Aa ts r) Cc 0)) [some (.box (r.cells ts))]:=by
  refine CS.of_Tr (c:=Au Tryz.f133) Tryz.func133 (by kernel_rfl) 0 (by simp [Tryz.f133]) (fun B hB hG => ?_) rfl (by simp [St.cells]);refine Tr.goD X hG ?_;simp [Tryz.f133]
  refine LpD.loopN X hG (IdxI ts r (EP (Aa ts r) Cc 0)) 6 (t':=mkT 19 [(0,.slice .full 1 6 Dk),(1,.func (.func 134) [.ptr 0 0] []),(7,.int .i64 6),(8,.int .i64 ((0:Nat):Int))])
   (H':=[some (.box (r.cells ts))]) (AD.mkK 1 (by simp [hB]) (by simp [Dk,Cc]) (by simp) (by simp [St.cells])) ⟨0,rfl,rfl,rfl,rfl⟩ ?_
  rintro k t H ⟨i,oQ,oM,rfl,rfl⟩;cases k with
  |zero =>
   obtain rfl:i=6:=by omega
   have:EP (Aa ts r) (Cc.drop 6) 6 = -1:=rfl;rw [←oM,this];simp [Bo]
  |succ k =>
   have hi:i<6:=by omega
   have hi':(i:Int)<6:=by omega
   have hl:Cc.length=6:=rfl;have hd:Cc.drop i=Cc[i]'(by omega)::Cc.drop (i+1):=List.drop_eq_getElem_cons (by omega)
   have hg:Dk[i]? = some (.str (Cc[i]'(by omega))):=by unfold Dk;rw [List.getElem?_map,List.getElem?_eq_getElem (by omega:i<Cc.length)];rfl
   have ol:=fun H=>Mk (ts:=ts) (a:=r.at_) (d:=r.deep) (x:=r.err) (Cc[i]'(by omega)) H (by omega) (by omega)
   simp only [Int.toNat_natCast] at ol;have w1:IntKind.i64.wrap ((i:Int)+1)=(i:Int)+1:=Ab (by omega) (by omega);rw [hd,EP] at oM;generalize Cc[i]'(by omega)=s at *;cases hn:Aa ts r s with
   |true =>rw [hn] at oM;simp only [if_true] at oM;have hn':Aa ts ⟨r.at_,r.deep,r.err⟩ s=true:=hn;rw [←oM];simp [hi,hi',hg,St.cells,ol,hn']
   |false =>rw [hn] at oM;simp only [Bool.false_eq_true,if_false] at oM;have hn':Aa ts ⟨r.at_,r.deep,r.err⟩ s=false:=hn;simp [hi,hi',hg,St.cells,ol,hn',w1];exact Nxt.mk k (by omega) (AD.mkK 1 (l':=[(0,.slice .full 1 6 Dk),(1,.func (.func 134) [.ptr 0 0] []),(7,.int .i64 6),(8,.int .i64 ((i+1:Nat):Int))]) (H':=[some (.box (r.cells ts))]) (by simp [hB]) (by simp [Dk,Cc]) (by simp [St.cells]) (by simp [St.cells])) ⟨i+1,by omega,oM,rfl,rfl⟩
 have:=CS.embed (k:=1) (fun _=>id) (H:=H) (H':=H.set id (some (.box (r.cells ts)))) h0 rfl rfl (ME id) DB (by simp [Dk,Cc]) rfl (by simp [St.cells]) (by simp [St.cells])
  (fun i hi=>by
   obtain rfl:i=0:=by omega
   simp [AH.at,AI,BZ _ (r.cells ts) (St.cells_low ts r)]
   exact hH)
  (fun i hi=>by
   obtain rfl:i=0:=by omega
   rw [JC hH]
   simp [AH.at,AI,BZ _ (r.cells ts) (St.cells_low ts r)])
  (fun j hj=>aSn (hj 0 (by omega)))
 simpa [AL,ren,Dk,Cc] using this
open Classical in
noncomputable def oIx (ts:List Wd):Orc:=fun f args H=>if f=133 then (match args with
 |[.slice .full 1 6 l,.func (.func g) [.ptr id 0] []]=>if h:l=Dk∧g=134∧∃r:St,H.at id=some (.box (r.cells ts)) then some (.int .i64 (EP (Aa ts h.2.2.choose) Cc 0),H.set id (some (.box (h.2.2.choose.cells ts)))) else none
 |_=>none) else none
theorem gL {ts:List Wd} {id:Nat} {H:AH} {r:St} (h:H.at id=some (.box (r.cells ts))) :
  oIx ts 133 [.slice .full 1 6 Dk,.func (.func 134) [.ptr id 0] []] H=some (.int .i64 (EP (Aa ts r) Cc 0),H.set id (some (.box (r.cells ts)))):=by
 have hx:∃r:St,H.at id=some (.box (r.cells ts)):=⟨r,h⟩
 have hh:Dk=Dk∧134=134∧∃r:St,H.at id=some (.box (r.cells ts)):=⟨rfl,rfl,hx⟩
 have hc:=h.symm.trans hh.2.2.choose_spec;simp only [Option.some.injEq,Ent.box.injEq] at hc;have he:hh.2.2.choose=r:=(St.cells_inj hc).symm;simp only [oIx,if_true,dif_pos hh];rw [he]
theorem gM (ts:List Wd):AT zP Af (oIx ts):=by
 intro f args H v H' ho;unfold oIx at ho
 split at ho
 ·rename_i hf
  subst hf
  split at ho
  ·split at ho
   ·rename_i l g id hx
    injection ho with ho;simp only [Prod.mk.injEq] at ho;obtain ⟨rfl,rfl⟩:=ho;have hs:=hx.2.2.choose_spec;obtain ⟨rfl,rfl,_⟩:=hx;exact ⟨gK ts _ hs,by simp,fun j _ hj=>Mi hs hj⟩
   ·cases ho
  ·cases ho
 ·cases ho
theorem UE {ts:List Wd} {a d:Int} {x:Option (Nat × Nat)} {e0:Option Ent} {H:AH} (ha:0≤a) (hd:0≤d):AH.at (e0::some (.box [AE ts,.int .i64 a,.int .i64 d,eAV x])::H) 1=some (.box ((⟨a.toNat,d.toNat,x⟩:St).cells ts)):=by simp [AH.at,St.cells,Int.toNat_of_nonneg ha,Int.toNat_of_nonneg hd]
noncomputable def oPC (ts:List Wd):Orc:=Ay [(132,oRd ts 132 (Gs ts (B6 ts) (ts.length+1))),(133,oIx ts),(135,oRd ts 135 Fq)]
theorem gN {ts:List Wd} (oK:ts.length<1000000):Cx (oPC ts) zP Af:=⟨FB (by
 intro p hp;simp only [List.mem_cons,List.not_mem_nil,or_false] at hp;rcases hp with rfl|rfl|rfl
 ·exact Tm oK
 ·exact gM ts
 ·exact KP ts),Dh,Ad⟩
theorem M3 {ts:List Wd} {a d:Int} {x:Option (Nat × Nat)} {e0:Option Ent} (H:AH) (ha:0≤a) (hd:0≤d) (ob:d≤20) :
  oPC ts 132 [.ptr 1 0] (e0::some (.box [AE ts,.int .i64 a,.int .i64 d,eAV x])::H)=some (CH (B6 ts ⟨a.toNat,d.toNat,x⟩).1,e0::some (.box ((B6 ts ⟨a.toNat,d.toNat,x⟩).2.cells ts))::H):=by
 rw [←To H ha hd ob];simp [oPC,Ay,List.lookup]
theorem gO {ts:List Wd} {a d:Int} {x:Option (Nat × Nat)} {e0:Option Ent} (H:AH) (ha:0≤a) (hd:0≤d) :
  oPC ts 133 [.slice .full 1 6 Dk,.func (.func 134) [.ptr 1 0] []] (e0::some (.box [AE ts,.int .i64 a,.int .i64 d,eAV x])::H) =
   some (.int .i64 (EP (Aa ts ⟨a.toNat,d.toNat,x⟩) Cc 0),e0::some (.box [AE ts,.int .i64 a,.int .i64 d,eAV x])::H):=by
 have e1:oPC ts 133 [.slice .full 1 6 Dk,.func (.func 134) [.ptr 1 0] []] (e0::some (.box [AE ts,.int .i64 a,.int .i64 d,eAV x])::H)=oIx ts 133 [.slice .full 1 6 Dk,.func (.func 134) [.ptr 1 0] []] (e0::some (.box [AE ts,.int .i64 a,.int .i64 d,eAV x])::H):=by simp [oPC,Ay,List.lookup]
 rw [e1,gL (UE ha hd)];simp [St.cells,Int.toNat_of_nonneg ha,Int.toNat_of_nonneg hd]
theorem gP {ts:List Wd} {a d:Int} {x:Option (Nat × Nat)} {e0:Option Ent} (p e:Int) (H:AH) (ha:0≤a) (hd:0≤d) (hp:0≤p) (he:0≤e) :
  oPC ts 135 [.ptr 1 0,.int .i64 p,.int .i64 e] (e0::some (.box [AE ts,.int .i64 a,.int .i64 d,eAV x])::H) =
   some (.tup [],e0::some (.box [AE ts,.int .i64 a,.int .i64 d,eAV (some (x.getD (p.toNat,e.toNat)))])::H):=by
 have e1:oPC ts 135 [.ptr 1 0,.int .i64 p,.int .i64 e] (e0::some (.box [AE ts,.int .i64 a,.int .i64 d,eAV x])::H)=oRd ts 135 Fq 135 [.ptr 1 0,.int .i64 p,.int .i64 e] (e0::some (.box [AE ts,.int .i64 a,.int .i64 d,eAV x])::H):=by simp [oPC,Ay,List.lookup]
 rw [e1,Ht (UE ha hd)];simp [Fq,HN,St.cells,Int.toNat_of_nonneg ha,Int.toNat_of_nonneg hd,hp,he]
def Eg (c:List UInt8 × Ex × Ex):AV := .agg (.str c.1::(exC c.2.1++exC c.2.2))
def JW (x:(List UInt8 × Ex × Ex) × Nat × Option (Nat × Nat)):AV := .tup [Eg x.1,.int .i64 x.2.1,eAV x.2.2]
@[simp] theorem buC0:Aq zP 90 []=some (.agg [.str [],.int .i64 0,.int .i64 0,.str [],.nilSlice,.int .i64 0,.int .i64 0,.str [],.nilSlice]):=by kernel_rfl
@[simp] theorem buC1 (a b c d:AV):Aq zP 90 [(1,.agg [a,b,c,d])]=some (.agg [.str [],a,b,c,d,.int .i64 0,.int .i64 0,.str [],.nilSlice]):=by kernel_rfl
@[simp] theorem bsRel:CK zP 25 6 [(0,.str [60]),(1,.str [60,61]),(2,.str [62]),(3,.str [62,61]),(4,.str [61,61]),(5,.str [47,61])]=some (.slice .full 1 6 [.str [60],.str [60,61],.str [62],.str [62,61],.str [61,61],.str [47,61]]):=by kernel_rfl
theorem gQ (ts:List Wd) (b d:Nat):(∃w,ts[b]? = some w∧EP (Aa ts ⟨b,d,none⟩) Cc 0≥0∧CQ ts ⟨b,d,none⟩=(w.text,⟨b+1,d,none⟩)) ∨
  (EP (Aa ts ⟨b,d,none⟩) Cc 0<0∧CQ ts ⟨b,d,none⟩=([],⟨b,d,some (b,2)⟩)):=by
 have nx:∀s,Aa ts ⟨b,d,none⟩ s=isS ts b s:=fun s=>by simp [Aa]
 cases hw:ts[b]? with
 |none =>right;refine ⟨(M2 _ _).2 fun s _=>by rw [nx];simp [isS,hw],?_⟩;simp [CQ,hw,St.fail]
 |some w =>
  by_cases hr:(w.kind==3&&Fk w.text)=true
  ·left
   refine ⟨w,rfl,?_,?_⟩
   ·rcases Int.lt_or_le (EP (Aa ts ⟨b,d,none⟩) Cc 0) 0 with h|h
    ·have h1:=(M2 _ _).1 h
     simp only [Bool.and_eq_true,Fk,List.contains_iff_mem] at hr;have h2:=h1 w.text hr.2;rw [nx] at h2;simp [isS,hw,hr.1] at h2
    ·exact h
   ·simp [CQ,hw,hr,St.step]
  ·right
   refine ⟨(M2 _ _).2 fun s hs => ?_,?_⟩
   ·rw [nx]
    simp only [isS,hw];rw [Bool.eq_false_iff];intro hh;apply hr;simp only [Bool.and_eq_true,beq_iff_eq] at hh ⊢;refine ⟨hh.1,?_⟩;rw [hh.2];simpa [Fk] using hs
   ·rw [Bool.not_eq_true] at hr
    simp [CQ,hw,hr,St.fail]
theorem gR (ts:List Wd):∀r,(B6 ts r).2.deep=r.deep:=PN ts _
theorem gS (ts:List Wd) (oK:ts.length<1000000) (H:AH):CS zP Af 119 [AE ts] H (JW (CR ts)) H:=by
 have X:=gN oK;refine CS.tr0 DB Tryz.func119 (by kernel_rfl) 0 (by simp [Tryz.f119]) (fun B hB hG => ?_) (by simp [JW,Eg]) (by simp) H;refine Tr.goD X hG ?_;have h1:=fun H e0=>M3 (ts:=ts) (a:=0) (d:=0) (x:=none) (e0:=e0) H (by omega) (by omega) (by omega)
 have pi:=gR ts ⟨0,0,none⟩;simp only [CR];simp [St.cells,Mr] at h1;generalize B6 ts ⟨0,0,none⟩=p at *;obtain ⟨e,⟨b,d,x⟩⟩:=p;simp only at h1 pi;subst pi;cases x with
 |some y =>
  have h2:=fun H e0=>M3 (ts:=ts) (a:=b) (d:=0) (x:=some y) (e0:=e0) H (by omega) (by omega) (by omega)
  have hk:(B6 ts ⟨b,0,some y⟩).2.err=some y:=(IU (ts:=ts) (FG ts (ts.length+1))).2.1 _ _ rfl;simp [St.cells] at h2;have qE:CQ ts ⟨b,0,some y⟩=([],⟨b,0,some y⟩):=rfl;rw [qE];simp only;generalize B6 ts ⟨b,0,some y⟩=p2 at *;obtain ⟨e2,⟨b2,d2,x2⟩⟩:=p2;simp only at h2 hk;subst hk;simp [Tryz.f119,h1,h2];refine LpD.turns X hG [5] zL0 ?_;simp [JW,Eg]
 |none =>
  have uu:=fun H e0=>gO (ts:=ts) (a:=b) (d:=0) (x:=none) (e0:=e0) H (by omega) (by omega)
  simp [Dk] at uu;have yF:List.map AV.str Cc=[.str [60],.str [60,61],.str [62],.str [62,61],.str [61,61],.str [47,61]]:=rfl;rw [yF] at uu;rcases gQ ts b 0 with ⟨w,hw,rj,qE⟩|⟨oX,qE⟩
  ·have hl:b<ts.length:=(List.getElem?_eq_some_iff.1 hw).1
   have hl':(b:Int)<ts.length:=by omega
   obtain ⟨c0,c1,c3⟩:=EM hw;have w1:IntKind.i64.wrap ((b:Int)+1)=(b:Int)+1:=Ab (by omega) (by omega);have yG:¬EP (Aa ts ⟨b,0,none⟩) Cc 0<0:=by omega
   have h2:=fun H e0=>M3 (ts:=ts) (a:=(b:Int)+1) (d:=0) (x:=none) (e0:=e0) H (by omega) (by omega) (by omega)
   have en:((b:Int)+1).toNat=b+1:=by omega
   simp only [en] at h2;rw [qE];simp only;simp [St.cells] at h2;generalize B6 ts ⟨b+1,0,none⟩=p2 at *;obtain ⟨e2,⟨b2,d2,x2⟩⟩:=p2;simp only at h2;simp [Tryz.f119,h1,uu,yG];refine LpD.turns X hG [12] [] ?_;simp [hl,hl',c1];cases x2 with
   |none =>simp [w1,h2];refine LpD.turns X hG [5] zL0 ?_;simp [JW,Eg,Mr]
   |some y =>simp [w1,h2];refine LpD.turns X hG [5] zL0 ?_;simp [JW,Eg]
  ·have oc:=fun H e0=>gP (ts:=ts) (a:=b) (d:=0) (x:=none) (e0:=e0) b 2 H (by omega) (by omega) (by omega) (by omega)
   simp at oc;have h2:=fun H e0=>M3 (ts:=ts) (a:=b) (d:=0) (x:=some (b,2)) (e0:=e0) H (by omega) (by omega) (by omega)
   have hk:(B6 ts ⟨b,0,some (b,2)⟩).2.err=some (b,2):=(IU (ts:=ts) (FG ts (ts.length+1))).2.1 _ _ rfl;simp [St.cells] at h2;rw [qE];simp only;generalize B6 ts ⟨b,0,some (b,2)⟩=p2 at *;obtain ⟨e2,⟨b2,d2,x2⟩⟩:=p2;simp only at h2 hk;subst hk;simp [Tryz.f119,h1,uu,oX,oc,h2];refine LpD.turns X hG [5] zL0 ?_;simp [JW,Eg]
theorem gU {s:List UInt8} (h:Fk s=false):(s==[60])=false∧(s==[60,61])=false∧(s==[62])=false∧(s==[62,61])=false∧(s==[61,61])=false∧(s==[47,61])=false:=by simpa [Fk,Cc] using h
theorem gV {s:List UInt8} (h:Fk s=true):s=[60]∨s=[60,61]∨s=[62]∨s=[62,61]∨s=[61,61]∨s=[47,61]:=by simpa [Fk,Cc] using h
theorem gW (s:List UInt8) (H:AH):CS zP Af 103 [.str s] H (.bool (Fk s)) H:=by
 refine CS.tr0 DB Tryz.func103 (by kernel_rfl) 0 (by simp [Tryz.f103]) (fun B hB hG => ?_) rfl rfl H;refine Tr.goD KM hG ?_;cases h:Fk s with
 |true =>rcases gV h with rfl|rfl|rfl|rfl|rfl|rfl<;>simp [Tryz.f103]
 |false =>obtain ⟨h1,h2,h3,h4,h5,h6⟩:=gU h;simp [Tryz.f103,h1,h2,h3,h4,h5,h6]
def Pk:Orc:=Bp 103 (fun args=>match args with
 |[.str s]=>some s
 |_=>none) fun s => .bool (Fk s)
theorem gX:AT zP Af Pk:=Dp fun args x H h=>by
 split at h
 ·injection h with h
  subst h;exact gW _ H
 ·cases h
theorem gY {ts:List Wd} {a:Int} {x:Option (Nat × Nat)} {e0 e1:Option Ent} {H:AH} (ha:0≤a):AH.at (e0::e1::some (.box [AE ts,.int .i64 a,pAV x,.int .i64 (cI x)])::H) 2=some (.box (rrC ts (a.toNat:Nat) x)):=by simp [AH.at,Int.toNat_of_nonneg ha]
noncomputable def oYC (ts:List Wd):Orc:=Ay [(102,oRr ts 102 (GH ts (Bv ts) (ts.length+1))),(103,Pk),(104,oRr ts 104 Hw)]
theorem gZ {ts:List Wd} (oK:ts.length<1000000):Cx (oYC ts) zP Af:=⟨FB (by
 intro p hp;simp only [List.mem_cons,List.not_mem_nil,or_false] at hp;rcases hp with rfl|rfl|rfl
 ·exact Pj oK
 ·exact gX
 ·exact PZ ts),Dh,Ad⟩
theorem UF {ts:List Wd} {a d:Int} {x:Option (Nat × Nat)} {e0 e1:Option Ent} (H:AH) (ha:0≤a) (hd:0≤d) (ob:d≤20) (hx:BO x) :
  oYC ts 102 [.ptr 2 0,.int .i64 d] (e0::e1::some (.box [AE ts,.int .i64 a,pAV x,.int .i64 (cI x)])::H) =
   some (CH (Bv ts ⟨a.toNat,d.toNat,x⟩).1,e0::e1::some (.box (rrC ts (Bv ts ⟨a.toNat,d.toNat,x⟩).2.at_ (Bv ts ⟨a.toNat,d.toNat,x⟩).2.err))::H):=by
 rw [←UD H ha hd ob hx];simp [oYC,Ay,List.lookup]
theorem Pl {ts:List Wd} (s:List UInt8) (H:AH):oYC ts 103 [.str s] H=some (.bool (Fk s),H):=by simp [oYC,Ay,List.lookup,Pk,Bp]
theorem z7 {ts:List Wd} {a:Int} {x:Option (Nat × Nat)} {e0 e1:Option Ent} (p e:Int) (H:AH) (ha:0≤a) (hx:BO x) (hp:0≤p) (he:0≤e) :
  oYC ts 104 [.ptr 2 0,.int .i64 p,.int .i64 e] (e0::e1::some (.box [AE ts,.int .i64 a,pAV x,.int .i64 (cI x)])::H) =
   some (.tup [],e0::e1::some (.box [AE ts,.int .i64 a,pAV (some (x.getD (p.toNat,e.toNat))),.int .i64 (cI (some (x.getD (p.toNat,e.toNat))))])::H):=by
 have e2:oYC ts 104 [.ptr 2 0,.int .i64 p,.int .i64 e] (e0::e1::some (.box [AE ts,.int .i64 a,pAV x,.int .i64 (cI x)])::H)=oRr ts 104 Hw 104 [.ptr 2 0,.int .i64 p,.int .i64 e] (e0::e1::some (.box [AE ts,.int .i64 a,pAV x,.int .i64 (cI x)])::H):=by simp [oYC,Ay,List.lookup]
 rw [e2,Hv hx (gY ha)];simp [Hw,hp,he,Int.toNat_of_nonneg ha]
def Hx (x:(List UInt8 × Ex × Ex) × Nat × Option (Nat × Nat)):AV := .tup [Eg x.1,.int .i64 x.2.1,DJ x.2.2]
@[simp] theorem buD0:Aq zP 80 []=some (.agg [.str [],.int .i64 0,.int .i64 0,.str [],.nilSlice,.int .i64 0,.int .i64 0,.str [],.nilSlice]):=by kernel_rfl
@[simp] theorem buD1 (a b c d:AV):Aq zP 80 [(1,.agg [a,b,c,d])]=some (.agg [.str [],a,b,c,d,.int .i64 0,.int .i64 0,.str [],.nilSlice]):=by kernel_rfl
theorem gb (ts:List Wd):∀r,(Bv ts r).2.deep=r.deep:=T7 ts _
theorem JX (ts:List Wd):okE (Bv ts):=Gu (Gu (Ih ts _))
theorem gf (ts:List Wd) (oK:ts.length<1000000) (H:AH):CS zP Af 84 [AE ts] H (Hx (LA ts)) H:=by
 have X:=gZ oK;refine CS.tr0 DB Tryz.func84 (by kernel_rfl) 0 (by simp [Tryz.f84]) (fun B hB hG => ?_) (by simp [Hx,Eg,DJ]) (by simp) H;refine Tr.goD X hG ?_;have h1:=fun H e0 e1=>UF (ts:=ts) (a:=0) (d:=0) (x:=none) (e0:=e0) (e1:=e1) H (by omega) (by omega) (by omega) Cm
 have pi:=gb ts ⟨0,0,none⟩;have sX:=JX ts ⟨0,0,none⟩ Cm;simp only [LA];simp [LP,B8] at h1;generalize Bv ts ⟨0,0,none⟩=p at *;obtain ⟨e,⟨b,d,x⟩⟩:=p;simp only at h1 pi sX;subst pi;cases x with
 |some y =>
  have h0:(cI (some y)==0)=false:=by rw [beq_eq_false_iff_ne];intro h;have:=(HP sX).1 h;cases this
  have h0':¬cI (some y)=0:=fun h=>by have:=(HP sX).1 h;cases this
  have sW:(cI (some y) != 0)=true:=by simp [bne,h0]
  have qE:CQ ts ⟨b,0,some y⟩=([],⟨b,0,some y⟩):=rfl;rw [qE];simp only;simp [Tryz.f84,h1,h0,h0',sW];refine LpD.turns X hG [5,7] zL0 ?_;simp [Hx,Eg,DJ]
 |none =>
  have oc:=fun H e0 e1=>z7 (ts:=ts) (a:=b) (x:=none) (e0:=e0) (e1:=e1) b 2 H (by omega) Cm (by omega) (by omega)
  simp [B8] at oc;have c2:cI (some (b,2))=2:=rfl
  by_cases hl:b<ts.length
  ·have hl':(b:Int)<ts.length:=by omega
   have oh:¬((ts.length:Int)≤b):=by omega
   obtain ⟨w,hw⟩:∃w,ts[b]? = some w:=⟨_,List.getElem?_eq_getElem hl⟩
   obtain ⟨c0,c1,c3⟩:=EM hw
   by_cases hk:w.kind=3
   ·have hk':(w.kind:Int)=3:=by omega
    cases uP:Fk w.text with
    |true =>
     have qE:CQ ts ⟨b,0,none⟩=(w.text,⟨b+1,0,none⟩):=by simp [CQ,hw,hk,uP,St.step]
     have w1:IntKind.i64.wrap ((b:Int)+1)=(b:Int)+1:=Ab (by omega) (by omega);have h2:=fun H e0 e1=>UF (ts:=ts) (a:=(b:Int)+1) (d:=0) (x:=none) (e0:=e0) (e1:=e1) H (by omega) (by omega) (by omega) Cm
     have vt:=JX ts ⟨b+1,0,none⟩ Cm;have en:((b:Int)+1).toNat=b+1:=by omega
     simp only [en] at h2;rw [qE];simp only;simp [B8] at h2;generalize Bv ts ⟨b+1,0,none⟩=p2 at *;obtain ⟨e2,⟨b2,d2,x2⟩⟩:=p2;simp only at h2 vt;cases x2 with
     |none =>simp [Tryz.f84,h1,B8,hl,hl',oh,c0,c1,hk',Pl,uP,w1,h2];refine LpD.turns X hG [6,8] zL5 ?_;simp [Hx,Eg,DJ,LP,B8]
     |some y =>
      have h0:(cI (some y)==0)=false:=by rw [beq_eq_false_iff_ne];intro h;have:=(HP vt).1 h;cases this
      have h0':¬cI (some y)=0:=fun h=>by have:=(HP vt).1 h;cases this
      have sW:(cI (some y) != 0)=true:=by simp [bne,h0]
      simp [Tryz.f84,h1,B8,hl,hl',oh,c0,c1,hk',Pl,uP,w1,h2,h0,h0',sW];refine LpD.turns X hG [5,7] zL0 ?_;simp [Hx,Eg,DJ]
    |false =>
     have qE:CQ ts ⟨b,0,none⟩=([],⟨b,0,some (b,2)⟩):=by simp [CQ,hw,hk,uP,St.fail]
     rw [qE];simp only;simp [Tryz.f84,h1,B8,hl,hl',oh,c0,c1,hk',Pl,uP,oc,c2];refine LpD.turns X hG [5,7] zL0 ?_;simp [Hx,Eg,DJ,c2]
   ·have hk':((w.kind:Int)==3)=false:=by rw [beq_eq_false_iff_ne];omega
    have pm:¬(w.kind:Int)=3:=by omega
    have pn:((w.kind:Int) != 3)=true:=by simp [bne,hk']
    have qE:CQ ts ⟨b,0,none⟩=([],⟨b,0,some (b,2)⟩):=by simp [CQ,hw,hk,St.fail]
    rw [qE];simp only;simp [Tryz.f84,h1,B8,hl,hl',oh,c0,c1,hk',pm,pn,oc,c2];refine LpD.turns X hG [5,7] zL0 ?_;simp [Hx,Eg,DJ,c2]
  ·have hw:ts[b]? = none:=List.getElem?_eq_none (by omega)
   have hl':¬(b:Int)<ts.length:=by omega
   have oh:((ts.length:Int)≤b):=by omega
   have qE:CQ ts ⟨b,0,none⟩=([],⟨b,0,some (b,2)⟩):=by simp [CQ,hw,St.fail]
   rw [qE];simp only;simp [Tryz.f84,h1,B8,hl',oh,oc,c2];refine LpD.turns X hG [5,7] zL0 ?_;simp [Hx,Eg,DJ,c2]
inductive Tn where
 |lf (k n:Int) (s:List UInt8)
 |nd (k n:Int) (s:List UInt8) (a:List Tn)
 deriving Inhabited
mutual
def tC:Tn→List AV
 |.lf k n s=>[.int .i64 k,.int .i64 n,.str s,.nilSlice]
 |.nd k n s a=>[.int .i64 k,.int .i64 n,.str s,.slice .unk 4 a.length (tsC a)]
def tsC:List Tn→List AV
 |[]=>[]
 |t::l=>tC t++tsC l
end
def Tn.k:Tn→Int
 |.lf k _ _=>k
 |.nd k _ _ _=>k
def Tn.n:Tn→Int
 |.lf _ n _=>n
 |.nd _ n _ _=>n
def Tn.s:Tn→List UInt8
 |.lf _ _ s=>s
 |.nd _ _ s _=>s
def Tn.kids:Tn→List Tn
 |.lf _ _ _=>[]
 |.nd _ _ _ a=>a
def Tn.ar (t:Tn):AV:=(tC t).getD 3 .undef
@[simp] theorem CB (t:Tn):tC t=[.int .i64 t.k,.int .i64 t.n,.str t.s,t.ar]:=by cases t<;>rfl
theorem Pm:∀a b:List Tn,tsC (a++b)=tsC a++tsC b
 |[],b=>rfl
 |t::a,b=>by rw [List.cons_append,tsC,tsC,Pm a b,List.append_assoc]
mutual
theorem Pn:∀t:Tn,lowL 0 (tC t)=true
 |.lf _ _ _=>rfl
 |.nd _ _ _ a=>by rw [tC];have:=KU a;simp [this]
theorem KU:∀l:List Tn,lowL 0 (tsC l)=true
 |[]=>rfl
 |t::l=>by rw [tsC,Dd,Pn t,KU l];rfl
end
@[simp ↓ high] theorem gg (t:Tn):low 0 t.ar=true:=by have:=Pn t;rw [CB] at this;simpa using this
@[simp ↓ high] theorem nD (m:Nat) (t:Tn):low m t.ar=true:=Mm m (gg t)
@[simp ↓ high] theorem nE (t:Tn):BN t.ar=[]:=by cases t<;>rfl
@[simp ↓ high] theorem nF (t:Tn):t.ar.known=true:=by cases t<;>rfl
@[simp ↓ high] theorem nG (t:Tn):t.ar.one=true:=by cases t<;>rfl
@[simp ↓ high] theorem nH (t:Tn):An t.ar=[t.ar]:=by cases t<;>rfl
theorem LQ:∀l:List Tn,(tsC l).length=l.length*4
 |[]=>rfl
 |t::l=>by rw [tsC,List.length_append,LQ l,CB];simp;omega
theorem M4:∀(l:List Tn) (i:Nat) {t:Tn},l[i]? = some t→((tsC l).drop (i*4)).take 4=tC t∧i*4+4≤(tsC l).length
 |[],i,t,h=>by simp at h
 |x::l,i,t,h=>by
  have hc:tsC (x::l)=tC x++tsC l:=rfl;have hx:(tC x).length=4:=by simp
  cases i with
  |zero =>simp only [List.getElem?_cons_zero,Option.some.injEq] at h;subst h;rw [hc];refine ⟨?_,by rw [List.length_append,hx];omega⟩;rw [Nat.zero_mul,List.drop_zero,List.take_append_of_le_length (by omega),List.take_of_length_le (by omega)]
  |succ i =>simp only [List.getElem?_cons_succ] at h;obtain ⟨h1,h2⟩:=M4 l i h;rw [hc];refine ⟨?_,by simp only [List.length_append,hx];omega⟩;rw [List.drop_append,List.drop_of_length_le (by omega),hx,List.nil_append,show (i+1)*4-4=i*4 by omega];exact h1
mutual
theorem KV:∀(t u:Tn),tC t=tC u→t=u
 |.lf _ _ _,.lf _ _ _,h=>by simp only [tC,List.cons.injEq,AV.int.injEq,AV.str.injEq,true_and,and_true] at h;obtain ⟨rfl,rfl,rfl⟩:=h;rfl
 |.lf _ _ _,.nd _ _ _ _,h=>by simp [tC] at h
 |.nd _ _ _ _,.lf _ _ _,h=>by simp [tC] at h
 |.nd _ _ _ a,.nd _ _ _ b,h=>by simp only [tC,List.cons.injEq,AV.int.injEq,AV.str.injEq,AV.slice.injEq,true_and,and_true] at h;obtain ⟨rfl,rfl,rfl,_,h⟩:=h;rw [UG a b h]
theorem UG:∀(a b:List Tn),tsC a=tsC b→a=b
 |[],[],_=>rfl
 |[],t::b,h=>by rw [tsC,tsC,CB] at h;simp at h
 |t::a,[],h=>by rw [tsC,tsC,CB] at h;simp at h
 |t::a,u::b,h=>by rw [tsC,tsC] at h;have:=List.append_inj h (by simp);rw [KV t u this.1,UG a b this.2]
end
mutual
def okT:Tn→Bool
 |.lf _ _ _=>true
 |.nd _ _ _ a=>decide (a.length<4294967296)&&KW a
def KW:List Tn→Bool
 |[]=>true
 |t::l=>okT t&&KW l
end
theorem UH:∀{l:List Tn},KW l=true→∀t∈l,okT t=true
 |[],_,_,h=>by cases h
 |u::l,h,t,ht=>by
  simp only [KW,Bool.and_eq_true] at h;rcases List.mem_cons.1 ht with rfl|ht
  ·exact h.1
  ·exact UH h.2 t ht
theorem Po {t:Tn} (h:okT t=true):t.kids.length<4294967296:=by
 cases t with
 |lf=>simp [Tn.kids]
 |nd k n s a=>simp only [okT,Bool.and_eq_true,decide_eq_true_eq] at h;exact h.1
theorem gh {t u:Tn} (h:okT t=true) (hu:u∈t.kids):okT u=true:=by
 cases t with
 |lf=>simp [Tn.kids] at hu
 |nd k n s a=>simp only [okT,Bool.and_eq_true,decide_eq_true_eq] at h;exact UH h.2 u hu
theorem gi {t u:Tn} (hu:u∈t.kids):SizeOf.sizeOf u<SizeOf.sizeOf t:=by
 cases t with
 |lf=>simp [Tn.kids] at hu
 |nd k n s a =>have:=List.sizeOf_lt_of_mem (show u∈a from hu);simp only [Tn.nd.sizeOf_spec];omega
@[simp high] theorem nI (t:Tn):alen zP 86 t.ar=some (.int .i64 t.kids.length):=by cases t<;>simp [Tn.ar,tC,Tn.kids,alen]
@[simp high] theorem nJ (t:Tn):alen zP 76 t.ar=some (.int .i64 t.kids.length):=by cases t<;>simp [Tn.ar,tC,Tn.kids,alen]
@[simp high] theorem nK {t:Tn} {i:Nat} (h:i<t.kids.length):Ao zP 86 t.ar (.int .i64 (i:Int))=some (.vptr (tsC t.kids) (i*4)):=by
 cases t with
 |lf=>simp [Tn.kids] at h
 |nd k n s a =>
  have h':i<a.length:=h;have:(i:Int)<a.length:=by omega
  simp [Tn.ar,tC,Tn.kids,Ao,h',this]
@[simp high] theorem nL {t:Tn} {i:Nat} (h:i<t.kids.length):Ao zP 76 t.ar (.int .i64 (i:Int))=some (.vptr (tsC t.kids) (i*4)):=by
 cases t with
 |lf=>simp [Tn.kids] at h
 |nd k n s a =>
  have h':i<a.length:=h;have:(i:Int)<a.length:=by omega
  simp [Tn.ar,tC,Tn.kids,Ao,h',this]
open Classical in
noncomputable def oTn (f0:FuncId) (S:Tn→Prop) (out:Tn→AV):Orc:=fun f args H=>if h:f=f0∧∃t,S t∧args=[.agg (tC t)] then some (out h.2.choose,H) else none
theorem gj {f0:FuncId} {S:Tn→Prop} {out:Tn→AV} {t:Tn} (h:S t) (H:AH):oTn f0 S out f0 [.agg (tC t)] H=some (out t,H):=by
 have hh:f0=f0∧∃u,S u∧[AV.agg (tC t)]=[.agg (tC u)]:=⟨rfl,t,h,rfl⟩
 have hc:=hh.2.choose_spec.2;injection hc with hc _;injection hc with hc;have he:hh.2.choose=t:=(KV _ _ hc).symm;simp only [oTn,dif_pos hh];rw [he]
theorem gk {E:Env} {f0:FuncId} {S:Tn→Prop} {out:Tn→AV} (h:∀t,S t→∀H,CS zP E f0 [.agg (tC t)] H (out t) H):AT zP E (oTn f0 S out):=by
 intro f args H v H' ho;unfold oTn at ho
 split at ho
 ·rename_i hx
  injection ho with ho;simp only [Prod.mk.injEq] at ho;obtain ⟨rfl,rfl⟩:=ho;have hs:=hx.2.choose_spec;generalize hx.2.choose=u at *;obtain ⟨rfl,_⟩:=hx;rw [hs.2];exact ⟨h _ hs.1 _,Nat.le_refl _,fun _ _ h=>h⟩
 ·cases ho
@[simp] theorem immXT:Af.imm 78=true:=by decide
mutual
def ofT:Tn→Tn
 |.lf k n s => .lf k n s
 |.nd k n s [] => .lf k n s
 |.nd k n s (a::l) => .nd k n s (ofT a::D0 l)
def D0:List Tn→List Tn
 |[]=>[]
 |a::l=>ofT a::D0 l
end
theorem LR:∀l:List Tn,(D0 l).length=l.length
 |[]=>rfl
 |a::l=>by rw [D0,List.length_cons,List.length_cons,LR l]
theorem UI:∀a b:List Tn,D0 (a++b)=D0 a++D0 b
 |[],b=>rfl
 |t::a,b=>by rw [List.cons_append,D0,D0,UI a b,List.cons_append]
theorem gl (t:Tn):tC (ofT t)=[.int .i64 t.k,.int .i64 t.n,.str t.s,if t.kids=[] then .nilSlice else .slice .unk 4 t.kids.length (tsC (D0 t.kids))]:=by
 cases t with
 |lf k n s=>rfl
 |nd k n s a =>
  cases a with
  |nil=>rfl
  |cons b l=>simp only [ofT,tC,Tn.k,Tn.n,Tn.s,Tn.kids,List.length_cons,LR,D0];rfl
@[simp] theorem buT3 (k n:Int) (s:List UInt8):Aq zP 78 [(0,.int .i64 k),(1,.int .i64 n),(2,.str s)]=some (.agg [.int .i64 k,.int .i64 n,.str s,.nilSlice]):=by kernel_rfl
def Gv (i:Nat) (l:List Tn):AV:=if l=[] then .nilSlice else .slice (.tok i) 4 l.length (tsC l)
@[simp high] theorem nM (l:List Wd):alen zP 157 (AE l)=some (.int .i64 l.length):=by
 unfold AE
 split
 ·rename_i h;subst h;simp [alen]
 ·simp [alen]
@[simp high] theorem nN {l:List Wd} {i:Nat} (h:i<l.length):Ao zP 157 (AE l) (.int .i64 (i:Int))=some (.vptr (A3 l) (i*4)):=by
 have oL:l≠[]:=by rintro rfl;simp at h
 have:(i:Int)<l.length:=by omega
 simp [AE,oL,Ao,h]
@[simp] theorem buWd (k n a:Int) (s:List UInt8):Aq zP 221 [(0,.int .i64 k),(1,.str s),(2,.int .i64 a),(3,.int .i64 n)]=some (.agg [.int .i64 k,.str s,.int .i64 a,.int .i64 n]):=by kernel_rfl
@[simp] theorem bsWd (a b c d:AV):CK zP 171 1 [(0,.agg [a,b,c,d])]=some (.slice .full 4 1 [a,b,c,d]):=by kernel_rfl
mutual
def Ex.tn:Ex→Tn
 |.none => .lf 0 0 []
 |.num n => .lf 1 n []
 |.var s => .lf 2 0 s
 |.elem s a => .nd 3 0 s (Ex.tns a)
 |.neg e => .nd 4 0 [] [e.tn]
 |.bin k a b => .nd k 0 [] [a.tn,b.tn]
def Ex.tns:List Ex→List Tn
 |[]=>[]
 |e::l=>e.tn::Ex.tns l
end
theorem LS:∀l:List Ex,(Ex.tns l).length=l.length
 |[]=>rfl
 |a::l=>by rw [Ex.tns,List.length_cons,List.length_cons,LS l]
theorem M5 {g:Gh}:∀{xs ys:List AV} {vs:List Value},AB g (xs++ys) vs→∃v1 v2,vs=v1++v2∧AB g xs v1∧AB g ys v2
 |[],ys,vs,h=>⟨[],vs,rfl,rfl,h⟩
 |a::xs,ys,vs,h=>by obtain ⟨v,ws,rfl,h1,h2⟩:=h;obtain ⟨v1,v2,rfl,h3,h4⟩:=M5 h2;exact ⟨v::v1,v2,rfl,⟨v,v1,rfl,h1,h3⟩,h4⟩
mutual
theorem JY (g:Gh):∀(e:Ex) (vs:List Value),AB g (exC e) vs→AB g (tC e.tn) vs
 |.none,_,h=>h
 |.num _,_,h=>h
 |.var _,_,h=>h
 |.elem s a,vs,h=>by have key:=Pp g a;rw [exC] at h;rw [Ex.tn,tC,LS];obtain ⟨v0,_,rfl,h0,v1,_,rfl,h1,v2,_,rfl,h2,v3,_,rfl,h3,h4⟩:=h;refine ⟨v0,_,rfl,h0,v1,_,rfl,h1,v2,_,rfl,h2,v3,_,rfl,?_,h4⟩;simp only [AA] at h3 ⊢;obtain ⟨b,o,cap,us,hv,q1,q2,q3,q4,q5⟩:=h3;exact ⟨b,o,cap,us,hv,key us q1,q2,by rw [LQ,LS],q4,trivial⟩
 |.neg e,vs,h=>by have key:=JY g e;rw [exC] at h;rw [Ex.tn,tC];obtain ⟨v0,_,rfl,h0,v1,_,rfl,h1,v2,_,rfl,h2,v3,_,rfl,h3,h4⟩:=h;refine ⟨v0,_,rfl,h0,v1,_,rfl,h1,v2,_,rfl,h2,v3,_,rfl,?_,h4⟩;simp only [AA] at h3 ⊢;obtain ⟨b,o,cap,us,hv,q1,q2,q3,q4,q5⟩:=h3;refine ⟨b,o,cap,us,hv,?_,q2,by rw [LQ],q4,trivial⟩;rw [tsC,tsC,List.append_nil];exact key us q1
 |.bin k x y,vs,h=>by have key1:=JY g x;have key2:=JY g y;rw [exC] at h;rw [Ex.tn,tC];obtain ⟨v0,_,rfl,h0,v1,_,rfl,h1,v2,_,rfl,h2,v3,_,rfl,h3,h4⟩:=h;refine ⟨v0,_,rfl,h0,v1,_,rfl,h1,v2,_,rfl,h2,v3,_,rfl,?_,h4⟩;simp only [AA] at h3 ⊢;obtain ⟨b,o,cap,us,hv,q1,q2,q3,q4,q5⟩:=h3;refine ⟨b,o,cap,us,hv,?_,q2,by rw [LQ],q4,trivial⟩;obtain ⟨u1,u2,rfl,r1,r2⟩:=M5 q1;rw [tsC,tsC,tsC,List.append_nil];exact (key1 u1 r1).append (key2 u2 r2)
theorem Pp (g:Gh):∀(l:List Ex) (vs:List Value),AB g (B3 l) vs→AB g (tsC (Ex.tns l)) vs
 |[],_,h=>h
 |e::l,vs,h=>by have k1:=JY g e;have k2:=Pp g l;rw [B3] at h;rw [Ex.tns,tsC];obtain ⟨v1,v2,rfl,h1,h2⟩:=M5 h;exact (k1 v1 h1).append (k2 v2 h2)
end
mutual
theorem wf:∀t:Tn,okT t=true→okT (ofT t)=true
 |.lf _ _ _,_=>rfl
 |.nd _ _ _ [],_=>rfl
 |.nd k n s (a::l),h=>by simp only [okT,KW,Bool.and_eq_true,decide_eq_true_eq,List.length_cons] at h;have h1:=wf a h.2.1;have h2:=zCO l h.2.2;simp only [ofT,okT,KW,Bool.and_eq_true,decide_eq_true_eq,List.length_cons,LR];exact ⟨h.1,h1,h2⟩
theorem zCO:∀l:List Tn,KW l=true→KW (D0 l)=true
 |[],_=>rfl
 |a::l,h=>by simp only [KW,Bool.and_eq_true] at h;simp only [D0,KW,Bool.and_eq_true];exact ⟨wf a h.1,zCO l h.2⟩
end
open Go.Shelf
def M6:List AV:=(List.range 20).map fun i => .int .u64 ((10 ^ i:Nat):Int)
def M7:List (Nat × AV):=(6,.vptr M6 0)::KI
def AJ:Env:=⟨HD M7,KJ,fun t=>Af.imm t || t==90,fun _=>false,fun _=>false⟩
@[simp] theorem nO (t:TypeId):AJ.soft t=false:=AS rfl
theorem B4:Ch zP AJ:=JO
theorem Bh:∀i,low 0 (AJ.glob i)=true:=OW (by
 intro x hx;simp only [M7,KI,JI,List.mem_cons,List.not_mem_nil,or_false] at hx;rcases hx with rfl|rfl|rfl|rfl
 ·show lowL 0 M6=true
  kernel_rfl
 ·rfl
 ·show lowL 0 K5=true
  kernel_rfl
 ·rfl)
theorem gm {g:Gh} (h:Al AJ g):Al Af g:=by
 intro i
 by_cases hi:i=6
 ·subst hi
  have:Af.glob 6 = .undef:=by rfl
  rw [this];trivial
 ·have:Af.glob i=AJ.glob i:=by
   simp only [Af,AJ,Ca,HD,M7,List.find?_cons];rw [show ((6:Nat)==i)=false by simp;omega]
  rw [this];exact h i
theorem CS.toF {f:FuncId} {args:List AV} {H H':AH} {v:AV} (h:CS zP Af f args H v H'):CS zP AJ f args H v H':=fun g w cargs R hG hA=>h g w cargs R (gm hG) hA
theorem AT.toF {O:Orc} (h:AT zP Af O):AT zP AJ O:=fun f args H v H' ho=>by obtain ⟨h1,h2,h3⟩:=h f args H v H' ho;exact ⟨CS.toF h1,h2,h3⟩
@[simp] theorem immFE:AJ.imm 88=true:=by decide
@[simp] theorem immFC:AJ.imm 90=true:=by decide
theorem GI:Cx Bu zP AJ:=⟨Fe,B4,Ad⟩
def fzN:FuncId→Nat:=fun _=>0
@[simp] theorem bsStr (a:List UInt8):CK zP 25 1 [(0,.str a)]=some (.slice .full 1 1 [.str a]):=by kernel_rfl
@[simp] theorem nP:Ae zP 9=some (.str []):=by kernel_rfl
def KX (a:List AV) (H:AH):Option (AV × AH) :=
 match a with
 |[.iface t x,.iface tt (.ptr id 0)]=>(match H.at id with
  |some (.box [_])=>if t=102∧tt=104 then (match x with | .vptr cs 0=>some (.bool true,H.set id (some (.box [.vptr cs 0])))|_=>none)
   else if t=101∧tt=109 then (match x with | .int .i64 n=>some (.bool true,H.set id (some (.box [.int .i64 n])))|_=>none)
   else if t=101∧tt=104 then (match x with | .int .i64 _=>some (.bool false,H)|_=>none) else none
  |_=>none)
 |_=>none
theorem UJ {H:AH} {i j:Nat} {e x:Ent} (hx:H.at i=some x) (hj:H.at j=none):AH.at (H.set i (some e)) j=none:=by
 have vm:i≠j:=fun h=>by subst h;rw [hx] at hj;cases hj
 unfold AH.at at hj ⊢;rw [List.getElem?_set_ne vm];exact hj
theorem gn {a:List AV} {H H':AH} {v:AV} (h:KX a H=some (v,H')):CS zP Ca 27 a H v H'∧H.length≤H'.length∧∀id,id<H.length→H.at id=none→H'.at id=none:=by
 unfold KX at h
 split at h
 ·split at h
  ·rename_i t x tt id y hH
   split at h
   ·rename_i ht
    obtain ⟨rfl,rfl⟩:=ht
    split at h
    ·injection h with h
     simp only [Prod.mk.injEq] at h;obtain ⟨rfl,rfl⟩:=h;exact ⟨TP hH,by simp,fun j _ hj=>UJ hH hj⟩
    ·cases h
   ·split at h
    ·rename_i ht
     obtain ⟨rfl,rfl⟩:=ht
     split at h
     ·injection h with h
      simp only [Prod.mk.injEq] at h;obtain ⟨rfl,rfl⟩:=h;exact ⟨dP hH,by simp,fun j _ hj=>UJ hH hj⟩
     ·cases h
    ·split at h
     ·rename_i ht
      obtain ⟨rfl,rfl⟩:=ht
      split at h
      ·injection h with h
       simp only [Prod.mk.injEq] at h;obtain ⟨rfl,rfl⟩:=h;exact ⟨dQ,Nat.le_refl _,fun _ _ hj=>hj⟩
      ·cases h
     ·cases h
  ·cases h
 ·cases h
open Classical in
noncomputable def oTl (l:List (List UInt8 × Int)) (c:Int):Orc:=fun f a H =>if f=26 then (if a=[Ac l c,.iface 101 (.int .i64 c)] then some (.bool true,H) else none) else if f=27 then KX a H else none
theorem gp (l:List (List UInt8 × Int)) (c:Int):AT zP Ca (oTl l c):=by
 intro f a H v H' h;unfold oTl at h
 split at h
 ·rename_i hf
  subst hf
  split at h
  ·rename_i ha
   subst ha;injection h with h;simp only [Prod.mk.injEq] at h;obtain ⟨rfl,rfl⟩:=h;have:=dO l c c H;rw [show (c==c)=true by simp] at this;exact ⟨this,Nat.le_refl _,fun _ _ hj=>hj⟩
  ·cases h
 ·split at h
  ·rename_i hf
   subst hf;exact gn h
  ·cases h
theorem JZ (l:List (List UInt8 × Int)) (c:Int):Cx (oTl l c) zP Ca:=⟨gp l c,JO,Ad⟩
theorem gq (l:List (List UInt8 × Int)) (c:Int) (H:AH):oTl l c 26 [Ac l c,.iface 101 (.int .i64 c)] H=some (.bool true,H):=by simp [oTl]
theorem UK (l:List (List UInt8 × Int)) (c:Int) (a:List AV) (H:AH):oTl l c 27 a H=KX a H:=by simp [oTl]
def CI:List (List UInt8 × Int)→List AV
 |[]=>[]
 |(w,p)::l => .str w :: .int .i64 p::CI l
@[simp] theorem gr:∀(l:List (List UInt8 × Int)) (c:Int),BN (Ac l c)=[]
 |[],c=>rfl
 |(w,p)::l,c=>by simp [Ac,BN,ED,gr l c]
@[simp high] theorem clos0:DD [some (.box [.nilPtr])] 4 [0]=[0]:=by
 have h:F6 [some (.box [.nilPtr])] [0]=[]:=by simp [F6,Kq,AH.at,BN,ED]
 simp [DD,h]
@[simp high] theorem mask0:mask [some (.box [.nilPtr])] [0]=[some (.box [.nilPtr])]:=by simp [mask,GX]
@[simp high] theorem clos1 (w:List UInt8) (p:Int) (l:List (List UInt8 × Int)) (c:Int):DD [some (.box [.vptr [.str w,.int .i64 p,Ac l c] 0])] 4 [0]=[0]:=by
 have h:F6 [some (.box [.vptr [.str w,.int .i64 p,Ac l c] 0])] [0]=[]:=by simp [F6,Kq,AH.at,BN,ED]
 simp [DD,h]
@[simp high] theorem mask1 (x:AV):mask [some (.box [x])] [0]=[some (.box [x])]:=by simp [mask,GX]
theorem UL:∀(l:List (List UInt8 × Int)) (i:Nat) {w:List UInt8} {p:Int} {r:List (List UInt8 × Int)},l.drop i=(w,p)::r→(CI l)[i*2]? = some (.str w)∧(CI l)[i*2+1]? = some (.int .i64 p)
 |[],i,w,p,r,h=>by simp at h
 |(a,b)::l,0,w,p,r,h=>by simp only [List.drop_zero,List.cons.injEq,Prod.mk.injEq] at h;obtain ⟨⟨rfl,rfl⟩,_⟩:=h;simp [CI]
 |(a,b)::l,i+1,w,p,r,h=>by have:=UL l i (by simpa using h);rw [show (i+1)*2=i*2+1+1 by omega];simpa [CI] using this
def TlI (l:List (List UInt8 × Int)) (c:Int) (sv:AV) (k:Nat) (t:List AV) (H:AH):Prop :=∃i,i+k=l.length∧t=mkT 88 [(0,Ac (l.drop i) c),(3,.vptr [sv,.int .i64 c] 0),(5,.int .i64 ((i:Nat):Int))]∧H=[]
theorem z8 (l:List (List UInt8 × Int)) (c:Int) (hc:c≠0) (hl:l.length<1000) (ow:Own) (p7:ow = .unk∨ow = .full) (H:AH) :
  CS zP Ca 13 [Ac l c,.agg [.slice ow 2 l.length (CI l),.int .i64 c]] H (.bool true) H:=by
 have yH:lowL 0 (CI l)=true:=by
  clear hl
  induction l with
  |nil=>rfl
  |cons x l ih=>obtain ⟨w,p⟩:=x;simp [CI,ih]
 have uQ:low 0 (.slice ow 2 l.length (CI l))=true:=by rcases p7 with rfl|rfl<;>simp [yH]
 clear p7;refine CS.tr0 LB Tryz.func13 (by kernel_rfl) 0 (by simp [Tryz.f13]) (fun B hB hG => ?_) rfl (by simp [Fp,uQ]) H;refine Tr.go (JZ l c) hG (by kernel_rfl) ?_;simp [Tryz.f13,hc,gq];refine Tr.less (t':=mkT 88 [(0,Ac (l.drop 0) c),(3,.vptr [.slice ow 2 l.length (CI l),.int .i64 c] 0),(5,.int .i64 ((0:Nat):Int))]) (H':=[]) (AD.mk0 hB (by simp [Fp,uQ])) (Tr.loop (TlI l c (.slice ow 2 l.length (CI l))) l.length ⟨0,by omega,rfl,rfl⟩ ?_);rintro k t H ⟨i,oQ,rfl,rfl⟩;refine Tr.seqD rfl ?_;refine Tr.go (JZ l c) hG (by kernel_rfl) ?_;cases k with
 |zero =>
  obtain rfl:i=l.length:=by omega
  simp [Bo,Ac,UK,KX,AH.at]
 |succ k =>
  have e1:i<l.length:=by omega
  have e2:(i:Int)<l.length:=by omega
  obtain ⟨w,p,hd⟩:∃w p,l.drop i=(w,p)::l.drop (i+1):=⟨l[i].1,l[i].2,List.drop_eq_getElem_cons e1⟩
  simp [e2];refine Tr.seqD rfl (Tr.blockD rfl (Tr.seqD rfl ?_));refine Tr.go (JZ l c) hG (by kernel_rfl) ?_;simp;rw [hd];refine Tr.seqD rfl (Tr.seqD rfl (Tr.solid (JZ l c) hG 2 (by kernel_rfl) ?_));simp [Ac];refine ⟨_,.bool true,[(0,.box [.vptr [.str w,.int .i64 p,Ac (l.drop (i+1)) c] 0])],[0],rfl,?_,?_⟩
  ·simp [CX,BG,callee,UK,KX,AH.at]
  ·obtain ⟨pc0,pc1⟩:=UL l i hd
   simp [AR,Ac,e1,pc0,pc1];refine Tr.go (JZ l c) hG (by kernel_rfl) ?_;simp;refine Tr.go (JZ l c) hG (by kernel_rfl) ?_;simp;refine Tr.go (JZ l c) hG (by kernel_rfl) ?_;have w1:IntKind.i64.wrap ((i:Int)+1)=(i:Int)+1:=Ab (by omega) (by omega);simp [w1];exact ⟨k,by omega,_,_,AD.mk0 (l':=[(0,Ac (l.drop (i+1)) c),(3,.vptr [.slice ow 2 l.length (CI l),.int .i64 c] 0),(5,.int .i64 ((i+1:Nat):Int))]) hB (by simp [Fp,uQ]),⟨i+1,by omega,rfl,rfl⟩⟩
set_option maxHeartbeats 1000000
def UM:Nat→Nat→List Wd→Prop
 |p,e,[]=>p≤e
 |p,e,w::r=>p≤w.at_∧UM (w.at_+w.text.length) e r
theorem gu:∀(n:Nat) (s:List UInt8) (p:Nat) (b:Bool) (l:List Wd),s.length<n→lex n s p b = .ok l→UM p (p+s.length) l∧l.length≤s.length:=by
 intro n
 induction n with
 |zero=>intro s p b l h;omega
 |succ n ih =>
  intro s p b l hn h;cases s with
  |nil =>simp only [lex] at h;injection h with h;subst h;exact ⟨Nat.le_refl _,Nat.le_refl _⟩
  |cons c r =>
   simp only [List.length_cons] at hn ⊢;cases hb:Dt c with
   |true =>
    simp only [lex,hb,if_true] at h;obtain ⟨h1,h2⟩:=ih r (p+1) false l (by omega) h;refine ⟨?_,by omega⟩;rw [show p+(r.length+1)=p+1+r.length by omega];cases l with
    |nil=>have:p+1≤_:=h1;show p≤_;omega
    |cons w l=>exact ⟨by have:=h1.1;omega,h1.2⟩
   |false =>
    rw [GD _ _ _ _ _ hb] at h
    split at h
    ·cases h
    ·rename_i he
     have hp:=Md (r:=r) (PF (by simpa using he));have oO:=Me c r;simp only [List.length_cons] at oO;cases hx:lex n ((c::r).drop (A9 (c::r)).1.2.1.length) (p+(A9 (c::r)).1.2.1.length) ((A9 (c::r)).1.1==2) with
     |error x=>rw [hx] at h;cases h
     |ok l' =>rw [hx] at h;simp only [Dg,List.singleton_append] at h;injection h with h;subst h;obtain ⟨h1,h2⟩:=ih _ _ _ l' (by rw [List.length_drop,List.length_cons];omega) hx;rw [List.length_drop,List.length_cons] at h1 h2;refine ⟨⟨Nat.le_refl _,?_⟩,by simp only [List.length_cons];omega⟩;rw [show p+(r.length+1)=p+(A9 (c::r)).1.2.1.length+(r.length+1-(A9 (c::r)).1.2.1.length) by omega];exact h1
theorem UN:∀(n:Nat) (s:List UInt8) (p:Nat) (b:Bool) (q e:Nat),lex n s p b = .error (q,e)→e≠0:=by
 intro n
 induction n with
 |zero=>intro s p b q e h;cases h
 |succ n ih =>
  intro s p b q e h;cases s with
  |nil=>cases h
  |cons c r =>
   cases hb:Dt c with
   |true =>simp only [lex,hb,if_true] at h;exact ih r _ _ _ _ h
   |false =>
    rw [GD _ _ _ _ _ hb] at h
    split at h
    ·rename_i he
     injection h with h;simp only [Prod.mk.injEq] at h;rw [←h.2];exact he
    ·cases hx:lex n ((c::r).drop (A9 (c::r)).1.2.1.length) (p+(A9 (c::r)).1.2.1.length) ((A9 (c::r)).1.1==2) with
     |error x =>rw [hx] at h;simp only [Dg] at h;injection h with h;subst h;exact ih _ _ _ _ _ hx
     |ok l'=>rw [hx] at h;cases h
@[simp] theorem nQ:BN AV.nothing=[]:=AS rfl
theorem gv {a b:Wd} (h:BA a=BA b):a=b:=by
 obtain ⟨k,s,p,n⟩:=a;obtain ⟨k',s',p',n'⟩:=b;simp only [BA,List.cons.injEq,AV.int.injEq,AV.str.injEq,true_and,and_true] at h;obtain ⟨h1,h2,h3,h4⟩:=h;have e1:k=k':=by omega
 have e2:p=p':=by omega
 have e3:n=n':=by omega
 rw [e1,h2,e2,e3]
theorem UO:∀{a b:List Wd},A3 a=A3 b→a=b
 |[],[],_=>rfl
 |[],x::b,h=>by have hc:A3 (x::b)=BA x++A3 b:=rfl;rw [hc] at h;simp [BA,A3] at h
 |x::a,[],h=>by have hc:A3 (x::a)=BA x++A3 a:=rfl;rw [hc] at h;simp [BA,A3] at h
 |x::a,y::b,h=>by have hc:A3 (x::a)=BA x++A3 a:=rfl;have hd:A3 (y::b)=BA y++A3 b:=rfl;rw [hc,hd] at h;have:=List.append_inj h rfl;rw [gv this.1,UO this.2]
theorem Pq {a b:List Wd} (h:AE a=AE b):a=b:=by
 unfold AE at h
 split at h
 ·split at h
  ·rename_i h1 h2;rw [h1,h2]
  ·cases h
 ·split at h
  ·cases h
  ·injection h with _ _ _ h
   exact UO h
def Eh (x:Ex × Nat × Option (Nat × Nat)):AV := .tup [.agg (tC x.1.tn),.int .i64 x.2.1,eAV x.2.2]
def KY (x:Ex × Nat × Option (Nat × Nat)):AV := .tup [.agg (tC x.1.tn),.int .i64 x.2.1,DJ x.2.2]
def Ey (c:List UInt8 × Ex × Ex):AV := .agg (.str c.1::(tC c.2.1.tn++tC c.2.2.tn))
def KZ (x:(List UInt8 × Ex × Ex) × Nat × Option (Nat × Nat)):AV := .tup [Ey x.1,.int .i64 x.2.1,eAV x.2.2]
def Ka (x:(List UInt8 × Ex × Ex) × Nat × Option (Nat × Nat)):AV := .tup [Ey x.1,.int .i64 x.2.1,DJ x.2.2]
theorem UP (g:Gh) (e:Ex) (v:Value) (h:AA g (CH e) v):AA g (.agg (tC e.tn)) v:=by unfold CH at h;simp only [AA] at h ⊢;obtain ⟨vs,rfl,h⟩:=h;exact ⟨vs,rfl,JY g e vs h⟩
theorem UQ (g:Gh) (c:List UInt8 × Ex × Ex) (v:Value) (h:AA g (Eg c) v):AA g (Ey c) v:=by unfold Eg at h;unfold Ey;simp only [AA] at h ⊢;obtain ⟨vs,rfl,u,us,rfl,h1,h2⟩:=h;obtain ⟨v1,v2,rfl,h3,h4⟩:=M5 h2;exact ⟨_,rfl,u,_,rfl,h1,(JY g _ v1 h3).append (JY g _ v2 h4)⟩
theorem gx (ts:List Wd) (oK:ts.length<1000000) (H:AH):CS zP AJ 123 [AE ts] H (Eh (B0 ts)) H:=CS.toF (CS.weak (v':=Eh (B0 ts)) (fN ts oK H) fun g cv h=>by
 unfold LG at h;unfold Eh;simp only [AA] at h ⊢;obtain ⟨vs,rfl,u,us,rfl,h1,h2⟩:=h
 exact ⟨_,rfl,u,us,rfl,UP g _ _ h1,h2⟩)
theorem gy (ts:List Wd) (oK:ts.length<1000000) (H:AH):CS zP AJ 88 [AE ts] H (KY (B0 ts)) H:=by
 have:=gJ ts oK H;rw [S9] at this
 exact CS.toF (CS.weak (v':=KY (B0 ts)) this fun g cv h=>by
  unfold LO at h;unfold KY;simp only [AA] at h ⊢;obtain ⟨vs,rfl,u,us,rfl,h1,h2⟩:=h
  exact ⟨_,rfl,u,us,rfl,UP g _ _ h1,h2⟩)
theorem gz (ts:List Wd) (oK:ts.length<1000000) (H:AH):CS zP AJ 119 [AE ts] H (KZ (CR ts)) H:=CS.toF (CS.weak (v':=KZ (CR ts)) (gS ts oK H) fun g cv h=>by
 unfold JW at h;unfold KZ;simp only [AA] at h ⊢;obtain ⟨vs,rfl,u,us,rfl,h1,h2⟩:=h
 exact ⟨_,rfl,u,us,rfl,UQ g _ _ h1,h2⟩)
theorem zDO (ts:List Wd) (oK:ts.length<1000000) (H:AH):CS zP AJ 84 [AE ts] H (Ka (CR ts)) H:=by
 have:=gf ts oK H;rw [TB] at this
 exact CS.toF (CS.weak (v':=Ka (CR ts)) this fun g cv h=>by
  unfold Hx at h;unfold Ka;simp only [AA] at h ⊢;obtain ⟨vs,rfl,u,us,rfl,h1,h2⟩:=h
  exact ⟨_,rfl,u,us,rfl,UQ g _ _ h1,h2⟩)
theorem zDP (x:Option (Nat × Nat)) (hx:BO x) (H:AH):CS zP AJ 13 [eAV x,DJ x] H (.bool true) H:=by
 cases x with
 |none =>
  refine CS.tr0 Bh Tryz.func13 (by kernel_rfl) 0 (by simp [Tryz.f13]) (fun B hB hG => ?_) rfl (by simp [DJ,eAV,pAV]) H;refine Tr.goD GI hG ?_;have hi:AJ.imm 28=true:=by decide
  simp [Tryz.f13,DJ,LP,B8,Mr,hi]
 |some y =>
  obtain ⟨p,c⟩:=y
  have hc:(c:Int)≠0:=by
   intro h;have:c=0:=by omega
   subst this;exact hx p rfl
  exact CS.toF (CS.toX (z8 [(Di,(p:Int))] c hc (by simp) .full (.inr rfl) H))
theorem UR {s:List UInt8} {l:List Wd} (hs:s.length<1000000) (h:lex (s.length+1) s 0 false = .ok l):l.length<1000000:=by have:=(gu _ _ _ _ _ (by omega) h).2;omega
def sA:List UInt8:=[45,40,120,32,43,32,50,41,42,97,40,105,44,32,40,106,41,41,47,40,51,42,52,41]
def RI (s:List UInt8) (k:Nat) (t:List AV) (H:AH):Prop :=∃i l,i+k=s.length∧t=tR s l i∧H=HR l∧l.length≤i∧lex (s.length+1) s 0 false=Dg l (lex (k+1) (s.drop i) i false)
theorem g9 (n:Nat) (s:List UInt8) (p:Nat) (h:∀c r,s=c::r→Bz c=false) (b:Bool):lex n s p b=lex n s p false:=by
 cases n with
 |zero=>rfl
 |succ n =>
  cases s with
  |nil=>rfl
  |cons c r =>
   have:=h c r rfl;cases hb:Dt c with
   |true=>simp only [lex,hb,if_true]
   |false =>
    rw [GD n c r p b hb,GD n c r p false hb];have:C6 b c r=C6 false c r:=by simp [C6,this]
    rw [this]
theorem Pr {s:List UInt8} {i k:Nat} {l:List Wd} {c:UInt8} {r:List UInt8} (oQ:i+(k+1)=s.length) (hd:s.drop i=c::r) (hb:Dt c=false) (he:(A9 (c::r)).2=0) (ox:l.length≤i)
  (pR:lex (s.length+1) s 0 false=Dg l (lex (k+1+1) (s.drop i) i false)) (w:Wd) (hw:w=⟨(A9 (c::r)).1.1,(A9 (c::r)).1.2.1,i,(A9 (c::r)).1.2.2⟩) (L:Nat) (hL:(A9 (c::r)).1.2.1.length=L)
  (hx:(A9 (c::r)).1.1=2→∀h:i+L<s.length,Bz s[i+L]=false) :
  ∃j,j<k+1∧RI s j (tR s (l++[w]) (i+L)) (HR (l++[w])):=by
 subst hw;have h1:=Md (r:=r) he;have h2:=Me c r;have oT:(c::r).length=k+1:=by rw [←hd,List.length_drop];omega
 rw [hL] at h1 h2;have he':C6 false c r=0:=by simpa [C6] using he
 refine ⟨k+1-L,by omega,i+L,_,by omega,rfl,rfl,?_,?_⟩
 ·simp only [List.length_append,List.length_cons,List.length_nil];omega
 ·rw [pR,hd,GD _ _ _ _ _ hb,if_neg (by simp [he']),TR,hL]
  have r9:s.drop (i+L)=(c::r).drop L:=by rw [←hd,List.drop_drop]
  rw [←r9]
  congr 1
  have qc:(s.drop (i+L)).length=k+1-L:=by rw [List.length_drop];omega
  rw [TQ (k+1) (k+1-L+1) _ _ _ (by omega) (by omega)];cases hk:(A9 (c::r)).1.1==2 with
  |false=>rfl
  |true =>
   refine g9 _ _ _ (fun c2 r2 h => ?_) true
   have oX:i+L<s.length:=by
    have:(s.drop (i+L)).length=(c2::r2).length:=by rw [h]
    rw [List.length_drop,List.length_cons] at this;omega
   have h5:=List.drop_eq_getElem_cons oX;rw [h] at h5;injection h5 with h5 _;rw [h5];exact hx (by simpa using hk) oX
theorem hD (x:Except (Nat × Nat) (List Wd)):low 0 (Cu x)=true:=by
 cases x with
 |error x=>rfl
 |ok l =>
  simp only [Cu,AE,LI]
  split
  ·rfl
  ·simp [Hq]
theorem hJ (B:Bs) (hB:B.H=[]) (hG:Al AM B.g) (s:List UInt8) (hs:s.length<Br) (k i:Nat) (l:List Wd) (oQ:i+(k+1)=s.length) (ox:l.length≤i)
  (pR:lex (s.length+1) s 0 false=Dg l (lex (k+1+1) (s.drop i) i false)) (Q:AEx→List AV→AH→Prop)
  (hN:∀t H,(∃j t2 H2,j<k+1∧AD B t H t2 H2∧RI s j t2 H2)→Q .normal t H)
  (hE:∀t H,Fin zP F10 0 1 (Cu (lex (s.length+1) s 0 false)) [] .ret t H→Q .ret t H) :
  Go oR zP AM (LpT zP B) EN [] (tR s l i) (HR l) Q:=by
 have hi:i<s.length:=by omega
 rw [Dx] at hs;obtain ⟨c,r,hd⟩:∃c r,s.drop i=c::r:=⟨s[i],s.drop (i+1),List.drop_eq_getElem_cons hi⟩
 have hc:s[i]=c:=by have:=List.drop_eq_getElem_cons hi;rw [hd] at this;injection this with this _;exact this.symm
 cases hb:Dt c with
 |true =>
  refine z6 B hB hG s l i hi hs (by rw [hc];simpa [Dt] using hb) Q (fun t H oO=>hN _ _ ⟨k,_,_,by omega,oO,i+1,l,by omega,rfl,rfl,by omega,?_⟩);have:s.drop (i+1)=r:=by rw [←List.drop_drop,hd];rfl
  rw [pR,hd,this];simp only [lex,hb,if_true]
 |false =>
  have oZ:¬(s[i].toNat:Int)=32:=by rw [hc];simp only [Dt,Bool.or_eq_false_iff,beq_eq_false_iff_ne] at hb;omega
  have oW:¬(s[i].toNat:Int)=9:=by rw [hc];simp only [Dt,Bool.or_eq_false_iff,beq_eq_false_iff_ne] at hb;omega
  have tE:(A9 (c::r)).2≠0→lex (s.length+1) s 0 false = .error (i,(A9 (c::r)).2):=fun h=>by rw [pR,hd,GD _ _ _ _ _ hb,if_pos (by simpa [C6] using h)];simp [C6,Dg]
  have oT:(c::r).length=k+1:=by rw [←hd,List.length_drop];omega
  have qe:∀n,n≤(c::r).length→((c::r).take n).length=n:=fun n h=>by rw [List.length_take];omega
  cases pE:Bz c with
  |true =>
   have oc:=Fc Bi (c::r);have hw:A9 (c::r)=((if C5 ((c::r).take (Ak Bi (c::r))) then 4 else 1,(c::r).take (Ak Bi (c::r)),0),if 31<Ak Bi (c::r) then 4 else 0):=by simp [A9,pE]
   refine fZ B hB hG s l i _ hi hs ox oZ oW (by rw [hc];exact pE) rfl Q _ rfl (fun h t H oO => ?_) (fun h t H hf=>hE _ _ ?_)
   ·rw [hd] at h oO
    obtain ⟨j,hj,hI⟩:=Pr oQ hd hb (by rw [hw];simp;omega) ox pR _ rfl _ rfl (fun h2=>by rw [hw] at h2;simp only at h2;split at h2<;>cases h2);rw [hw] at hI;simp only [qe _ oc] at hI;exact hN _ _ ⟨j,_,_,hj,oO,hI⟩
   ·rw [hd] at h
    rw [tE (by rw [hw];simp [h]),hw];simpa [h] using hf
  |false =>
   cases qD:A2 c with
   |true =>
    have oc:=Fc A2 (c::r);refine fa B hB hG s l i _ hi hs ox oZ oW (by rw [hc];exact pE) (by rw [hc];exact qD) rfl Q (fun h hx t H oO => ?_) (fun h t H hf=>hE _ _ ?_) (fun h hx t H hf=>hE _ _ ?_)
    ·rw [hd] at h hx oO
     have hw:A9 (c::r)=((2,(c::r).take (Ak A2 (c::r)),Ba ((c::r).take (Ak A2 (c::r)))),0):=by simp [A9,pE,qD,h]
     obtain ⟨j,hj,hI⟩:=Pr oQ hd hb (by rw [hw]) ox pR _ rfl (Ak A2 (c::r)) (by rw [hw];exact qe _ oc) (fun _=>hx);rw [hw] at hI;exact hN _ _ ⟨j,_,_,hj,oO,hI⟩
    ·rw [hd] at h
     have hw:(A9 (c::r)).2=5:=by simp [A9,pE,qD,h]
     rw [tE (by rw [hw];decide),hw];exact hf
    ·rw [hd] at h hx hf
     obtain ⟨hx,vu⟩:=hx;have hw:A9 (c::r)=((2,(c::r).take (Ak A2 (c::r)),Ba ((c::r).take (Ak A2 (c::r)))),0):=by simp [A9,pE,qD,h]
     have oM:lex (s.length+1) s 0 false = .error (i+Ak A2 (c::r),3):=by
      rw [pR,hd,GD _ _ _ _ _ hb,if_neg (by simp [C6,hw]),hw];simp only [qe _ oc]
      have r9:(c::r).drop (Ak A2 (c::r))=s[i+Ak A2 (c::r)]::s.drop (i+Ak A2 (c::r)+1):=by rw [←List.drop_eq_getElem_cons hx,←List.drop_drop,hd]
      rw [r9,GD _ _ _ _ _ (by
       have:=vu;simp only [Bz,Bool.and_eq_true,decide_eq_true_eq] at this;simp only [Dt,Bool.or_eq_false_iff,beq_eq_false_iff_ne]
       omega),if_pos (by simp [C6,vu])]
      simp [Dg,C6,vu]
     rw [oM];exact hf
   |false =>
    refine fb B hB hG s l i _ hi hs ox oZ oW (by rw [hc];exact pE) (by rw [hc];exact qD) rfl Q (fun h t H oO => ?_) (fun h t H hf=>hE _ _ ?_)
    ·rw [hd] at h oO
     have hw:A9 (c::r)=((3,(c::r).take (CZ (c::r)),0),0):=by simp [A9,pE,qD,h]
     obtain ⟨j,hj,hI⟩:=Pr oQ hd hb (by rw [hw]) ox pR _ rfl (CZ (c::r)) (by rw [hw];exact qe _ (Mc _)) (fun h2=>by rw [hw] at h2;cases h2);rw [hw] at hI;exact hN _ _ ⟨j,_,_,hj,oO,hI⟩
    ·rw [hd] at h
     have hw:(A9 (c::r)).2=3:=by simp [A9,pE,qD,h]
     rw [tE (by rw [hw];decide),hw];exact hf
theorem iA (s:List UInt8) (hs:s.length<Br) (H:AH):CS zP AM 49 [.str s] H (Cu (lex (s.length+1) s 0 false)) H:=by
 refine CS.tr0 Eb Tryz.func49 (by kernel_rfl) 1 (by simp [Tryz.f49]) (fun B hB hG => ?_) (hD _) rfl H;refine Tr.pre Ic hG 3 (R:=Ee) rfl (by kernel_rfl) (by kernel_rfl) ?_;rw [DX];simp [Tryz.f49];refine Tr.seqD (a:=Fs) (b:=PU) (by kernel_rfl) ?_;refine Tr.less (t':=tR s [] 0) (H':=HR []) (GG hB (by simp) (by simp) (by simp [FJ]) (by simp) (by simp [HR,B7])) ?_;refine Tr.forD (a:=EN) (id:=0) (by kernel_rfl) (RI s) s.length ⟨0,[],by omega,rfl,rfl,by simp,?_⟩ ?_
 ·rw [List.drop_zero]
  cases lex (s.length+1) s 0 false<;>rfl
 rintro k t H ⟨i,l,oQ,rfl,rfl,ox,pR⟩;refine Tr.go Ic hG (by kernel_rfl) ?_;cases k with
 |succ k=>exact hJ B hB hG s hs k i l oQ ox pR _ (fun t H h=>h) (fun t H h=>h)
 |zero =>
  obtain rfl:i=s.length:=by omega
  have oM:lex (s.length+1) s 0 false = .ok l:=by rw [pR,List.drop_length];simp [lex,Dg]
  rw [oM];rcases Gt l with ⟨hl,hH⟩|⟨hl,hH⟩
  ·rw [hH]
   simp [EN,Fs,Ee,c10,Tryz.f49,tR,Bo];refine Tr.go Ic hG (by kernel_rfl) ?_;simp [PU,Ee,c10,Tryz.f49,buW,B7,Cu,AE,FJ,hl,LI]
  ·rw [hH]
   simp [EN,Fs,Ee,c10,Tryz.f49,tR,Bo];refine Tr.go Ic hG (by kernel_rfl) ?_;simp [PU,Ee,c10,Tryz.f49,buW,B7,Cu,AE,FJ,hl,LI,Hq]
theorem zDQ {k:Nat} {a b:Ex} (ha:okT a.tn=true) (hb:okT b.tn=true):okT (Ex.bin k a b).tn=true:=by simp [Ex.tn,okT,KW,ha,hb]
theorem Ps (ts:List Wd):BO (B0 ts).2.2:=by
 rw [←S9];unfold K9
 split
 ·exact Cm
 ·rename_i x hx
  have:=JX ts ⟨0,0,none⟩ Cm;rw [hx] at this;exact this
theorem iB (ts:List Wd) (r:St) (h:BO r.err):BO (CQ ts r).2.err:=by
 unfold CQ
 split
 ·exact h
 ·split
  ·split
   ·exact h
   ·simp only [St.fail,‹r.err=none›]
    exact Pg (by decide)
  ·simp only [St.fail,‹r.err=none›]
   exact Pg (by decide)
theorem Pt (ts:List Wd):BO (CR ts).2.2:=by
 rw [←TB];unfold LA;have h1:=iB ts _ (JX ts ⟨0,0,none⟩ Cm)
 split
 ·rename_i x hx
  rw [hx] at h1;exact h1
 ·split
  ·exact Cm
  ·rename_i x hx
   have:=JX ts _ h1;rw [hx] at this;exact this
end Go.Proofs.YtmjfldclpijghaaGreatDoor
namespace Go.Proofs.YtmjfldclpijghaaGreatDoor.Tp
open Go.RowKit Go.Proofs.Fw
set_option maxRecDepth 100000
theorem zz17:AZ zP 85=some 1∧Aj zP 85=some false∧Ae zP 85=some (.nilSlice)∧Bg zP 85 2=true∧AZ zP 134=some 2∧Aj zP 134=some true∧Ae zP 134=some (.agg [.str [],.nilSlice])∧fI zP 134 0=(0,9,true)∧fI zP 134 1=(1,48,true)∧AZ zP 174=some 1∧Aj zP 174=some false∧Ae zP 174=some (.nilPtr)∧AZ zP 176=some 3∧Aj zP 176=some true∧Ae zP 176=some (.agg [.nilSlice,.int .i64 0,.nilIface])∧fI zP 176 0=(0,171,true)∧fI zP 176 1=(1,3,true)∧fI zP 176 2=(2,35,true)∧AZ zP 292=some 24∧Aj zP 292=some true∧Ae zP 292=some (.agg [.int .u8 0,.int .u8 0,.int .u8 0,.int .u8 0,.int .u8 0,.int .u8 0,.int .u8 0,.int .u8 0,.int .u8 0,.int .u8 0,.int .u8 0,.int .u8 0,.int .u8 0,.int .u8 0,.int .u8 0,.int .u8 0,.int .u8 0,.int .u8 0,.int .u8 0,.int .u8 0,.int .u8 0,.int .u8 0,.int .u8 0,.int .u8 0])∧AZ zP 299=some 20∧Aj zP 299=some true∧Ae zP 299=some (.agg [.int .u64 0,.int .u64 0,.int .u64 0,.int .u64 0,.int .u64 0,.int .u64 0,.int .u64 0,.int .u64 0,.int .u64 0,.int .u64 0,.int .u64 0,.int .u64 0,.int .u64 0,.int .u64 0,.int .u64 0,.int .u64 0,.int .u64 0,.int .u64 0,.int .u64 0,.int .u64 0]):=by and_intros<;>kernel_rfl
theorem zz18:AG zP 30=true∧AG zP 59=true∧AG zP 61=true∧AG zP 62=true∧AG zP 63=true∧AG zP 93=true∧AG zP 94=true∧AG zP 95=true∧AG zP 96=true∧AG zP 115=true∧AG zP 116=true∧AG zP 117=true∧AG zP 118=true∧AG zP 120=true∧AG zP 121=true∧AG zP 122=true∧AG zP 131=true∧AG zP 160=true∧AG zP 161=true∧AG zP 162=true∧AG zP 163=true∧AG zP 165=true∧AG zP 166=true∧AG zP 167=true:=by and_intros<;>kernel_rfl
attribute [simp] zz17 Tryz.underlying85 Tryz.underlying134 Tryz.underlying174
attribute [simp] Tryz.underlying176 Tryz.underlying292 Tryz.underlying299 zz18
end Go.Proofs.YtmjfldclpijghaaGreatDoor.Tp
namespace Go.Proofs.YtmjfldclpijghaaGreatDoor
open Go.RowKit Go.Proofs.Fw
set_option maxRecDepth 100000
set_option maxHeartbeats 4000000
def Cn (l:List (List UInt8 × Nat)):List (List UInt8 × Int):=l.map fun x=>(x.1,(x.2:Int))
def AP (e:Er):Prop:=∀l c,e=some (l,c)→l≠[]∧c≠0
theorem Bx:AP none:=fun _ _ h=>by cases h
theorem Ii {l:List (List UInt8 × Nat)} {c:Nat} (hl:l≠[]) (hc:c≠0):AP (some (l,c)):=fun l' c' h=>by injection h with h;injection h with h1 h2;subst h1;subst h2;exact ⟨hl,hc⟩
theorem US {e:Er} (h:AP e) {l:List (List UInt8 × Nat)} {c:Nat} (hl:l≠[]) (hc:c≠0):AP (some (e.getD (l,c))):=by
 cases e with
 |none=>exact Ii hl hc
 |some x=>exact h
theorem Pu:∀{a b:List (List UInt8 × Nat)},Cn a=Cn b→a=b
 |[],[],_=>rfl
 |[],x::b,h=>by simp [Cn] at h
 |x::a,[],h=>by simp [Cn] at h
 |(w,p)::a,(w',p')::b,h=>by
  simp only [Cn,List.map_cons,List.cons.injEq,Prod.mk.injEq] at h;obtain ⟨⟨rfl,h1⟩,h2⟩:=h;have:p=p':=by omega
  rw [this,Pu h2]
def AN:Enc Int where
 sz:=1
 c:=fun n=>[.int .i64 n]
 pos:=by decide
 len:=fun _=>rfl
 low:=fun _=>rfl
 one:=fun _=>rfl
 inj:=fun x y h=>by simpa using h
def itE:Enc It where
 sz:=2
 c:=fun x=>[.str x.name,AN.av x.dims]
 pos:=by decide
 len:=fun _=>rfl
 low:=fun x=>by simp
 one:=fun x=>by simp
 inj:=fun x y h=>by simp only [List.cons.injEq,AV.str.injEq,and_true] at h;obtain ⟨a,b⟩:=x;obtain ⟨a',b'⟩:=y;simp only at h;rw [h.1,AN.av_inj h.2]
def BL:Enc (List UInt8) where
 sz:=1
 c:=fun s=>[.str s]
 pos:=by decide
 len:=fun _=>rfl
 low:=fun _=>rfl
 one:=fun _=>rfl
 inj:=fun x y h=>by simpa using h
theorem Pv:AN.sz=1:=rfl
theorem Pw:itE.sz=2:=rfl
theorem LU (n:Int):AN.c n=[.int .i64 n]:=rfl
theorem GJ (x:It):itE.c x=[.str x.name,AN.av x.dims]:=rfl
structure Sx where
 kind:Int
 items:List It
 to:Tn
 e:Tn
 op:List UInt8
 ca:Tn
 cb:Tn
 name:List UInt8
 lo:Tn
 hi:Tn
 step:Int
def Sm.x (m:Sm):Sx:=⟨m.kind,m.items,m.to.tn,m.e.tn,m.op,m.ca.tn,m.cb.tn,m.name,m.lo.tn,m.hi.tn,m.step⟩
def Sx.c (x:Sx):List AV:=[.int .i64 x.kind,itE.av x.items,.int .i64 x.to.k,.int .i64 x.to.n,.str x.to.s,x.to.ar,.int .i64 x.e.k,.int .i64 x.e.n,.str x.e.s,x.e.ar,.str x.op,
 .int .i64 x.ca.k,.int .i64 x.ca.n,.str x.ca.s,x.ca.ar,.int .i64 x.cb.k,.int .i64 x.cb.n,.str x.cb.s,x.cb.ar,.str x.name,.int .i64 x.lo.k,.int .i64 x.lo.n,.str x.lo.s,x.lo.ar,.int .i64 x.hi.k,.int .i64 x.hi.n,.str x.hi.s,x.hi.ar,.int .i64 x.step]
theorem Sx.c_low (x:Sx):lowL 0 x.c=true:=by simp [Sx.c]
def sxE:Enc Sx where
 sz:=29
 c:=Sx.c
 pos:=by decide
 len:=fun _=>rfl
 low:=Sx.c_low
 one:=fun x=>by simp [Sx.c]
 inj:=fun x y h=>by
  have tn_ext:∀a b:Tn,a.k=b.k→a.n=b.n→a.s=b.s→a.ar=b.ar→a=b:=fun a b h1 h2 h3 h4=>KV a b (by rw [CB,CB,h1,h2,h3,h4])
  simp only [Sx.c,List.cons.injEq,AV.int.injEq,AV.str.injEq,true_and,and_true] at h;obtain ⟨h1,h2,a1,a2,a3,a4,b1,b2,b3,b4,h3,c1,c2,c3,c4,d1,d2,d3,d4,h4,e1,e2,e3,e4,f1,f2,f3,f4,h5⟩:=h;obtain ⟨_,_,_,_,_,_,_,_,_,_,_⟩:=x;obtain ⟨_,_,_,_,_,_,_,_,_,_,_⟩:=y;simp only at *;rw [h1,itE.av_inj h2,tn_ext _ _ a1 a2 a3 a4,tn_ext _ _ b1 b2 b3 b4,h3,tn_ext _ _ c1 c2 c3 c4,tn_ext _ _ d1 d2 d3 d4,h4,tn_ext _ _ e1 e2 e3 e4,tn_ext _ _ f1 f2 f3 f4,h5]
def t0:Tn := .lf 0 0 []
@[simp] theorem t0_k:t0.k=0:=AS rfl
@[simp] theorem t0_n:t0.n=0:=AS rfl
@[simp] theorem t0_s:t0.s=[]:=AS rfl
@[simp] theorem t0_ar:t0.ar = .nilSlice:=AS rfl
theorem Bm:Ex.none.tn=t0:=rfl
theorem UT {ts:List Wd} {i:Nat} {w:Wd} (hw:ts[i]? = some w) {s:List UInt8} (hs:s≠[]) (k:Nat):isK ts i k s=(w.kind==k&&w.text==s):=by
 have:(s==[])=false:=by rw [beq_eq_false_iff_ne];exact hs
 simp only [isK,hw,this,Bool.false_or]
theorem Sr.fail_ok {r:Sr} (h:AP r.err) (p:Nat) {c:Nat} (hc:c≠0):AP (r.fail p c).err:=US h (by simp) hc
theorem Dl {ts:List Wd} {r:Sr} {k:Nat} {s:List UInt8} (h:isW ts r k s=true):r.at_<ts.length∧r.err=none:=by
 simp only [isW,isK,Bool.and_eq_true,Option.isNone_iff_eq_none] at h;refine ⟨?_,h.1⟩;have h2:=h.2
 split at h2
 ·rename_i hw;exact (List.getElem?_eq_some_iff.1 hw).1
 ·cases h2
theorem Px {ts:List Wd} {r:Sr} (he:r.err=none) {w:Wd} (hw:ts[r.at_]? = some w) (k:Nat):isW ts r k []=(w.kind==k):=by simp [isW,isK,he,hw]
def xE (x:Option (Nat × Nat)):Er:=x.map fun y=>([(Hr,y.1)],y.2)
theorem iC {x:Option (Nat × Nat)} (h:BO x):AP (xE x):=by
 cases x with
 |none=>exact Bx
 |some y =>obtain ⟨p,c⟩:=y;exact Ii (by simp) fun hc=>h p (by simp only at hc;rw [hc])
theorem Gw {ts:List Wd} {r:Sr} {k:Nat} {s:List UInt8} (h:isW ts r k s=true):CG ts r k s=r.step:=by simp [CG,h]
theorem Gx {ts:List Wd} {r:Sr} {k:Nat} {s:List UInt8} (h:isW ts r k s=false):CG ts r k s=r:=by simp [CG,h]
theorem Ij:Bg zP 48 1=true:=by kernel_rfl
@[simp] theorem bsDim (n:Int):CK zP 48 1 [(0,.int .i64 n)]=some (.slice .full 1 1 [.int .i64 n]):=by kernel_rfl
@[simp high] theorem nR (k:Nat) (l:List Int):alen zP 48 (AN.tk k l)=some (.int .i64 l.length):=AN.tk_len Tryz.underlying48 k l
def bS (ts:List Wd) (r:St):Prop:=r.at_≤ts.length∧∀p c,r.err=some (p,c)→p≤ts.length
def bR (ts:List Wd) (of:Rd):Prop:=∀r,bS ts r→bS ts (of r).2
theorem bS.step {ts:List Wd} {r:St} (h:bS ts r) (hl:r.at_<ts.length):bS ts r.step:=⟨hl,h.2⟩
theorem bS.next {ts:List Wd} {r:St} (h:bS ts r) {s:List UInt8} (hn:Aa ts r s=true):bS ts r.step:=h.step (Ew hn)
theorem bS.fail {ts:List Wd} {r:St} (h:bS ts r) {p:Nat} (hp:p≤ts.length) (e:Nat):bS ts (r.fail p e):=by
 unfold St.fail
 split
 ·refine ⟨h.1,fun q c hq => ?_⟩
  simp only [Option.some.injEq,Prod.mk.injEq] at hq;omega
 ·exact h
theorem bS.must {ts:List Wd} {r:St} (h:bS ts r) (s:List UInt8):bS ts (CF ts r s):=by
 unfold CF
 split
 ·exact h.next ‹_›
 ·exact h.fail h.1 2
theorem Py {ts:List Wd} {of:Rd} (ho:bR ts of) {f:List UInt8} {one:Nat} {s:List UInt8} {two:Nat}:∀(n:Nat) (e:Ex) (r:St),bS ts r→bS ts (DF ts of f one s two n e r).2
 |0,e,r,h=>h
 |n+1,e,r,h=>by
  simp only [DF]
  split
  ·exact h
  ·split
   ·exact Py ho n _ _ (ho _ (h.next ‹_›))
   ·split
    ·exact Py ho n _ _ (ho _ (h.next ‹_›))
    ·exact h
theorem M8 {ts:List Wd} {of:Rd} (ho:bR ts of) {f:List UInt8} {one:Nat} {s:List UInt8} {two:Nat}:bR ts (Ev ts of f one s two):=fun r h=>Py ho _ _ _ (ho r h)
theorem UU {ts:List Wd} {sum:Rd} (ho:bR ts sum):∀(n:Nat) (a:List Ex) (r:St),bS ts r→bS ts (DG ts sum n a r).2
 |0,a,r,h=>h
 |n+1,a,r,h=>by
  have h1:=ho r h;simp only [DG]
  split
  ·rename_i hn
   refine UU ho n _ _ ?_
   split
   ·have h2:=h1.fail h1.1 4
    have hl:=Ew hn;refine h2.step ?_;rw [show ((sum r).2.fail (sum r).2.at_ 4).at_=(sum r).2.at_ by unfold St.fail;split<;>rfl];exact hl
   ·exact h1.next hn
  ·exact h1
theorem UV {ts:List Wd} {p:Nat} {of:Rd} (ho:bR ts of) (hp:p≤ts.length):bR ts (inF p of):=fun r h=>by
 simp only [inF]
 have h2:bS ts (if r.deep+1>20 then (⟨r.at_,r.deep+1,r.err⟩:St).fail p 4 else ⟨r.at_,r.deep+1,r.err⟩):=by
  split
  ·exact bS.fail (r:=⟨r.at_,r.deep+1,r.err⟩) ⟨h.1,h.2⟩ hp 4
  ·exact ⟨h.1,h.2⟩
 generalize (if r.deep+1>20 then (⟨r.at_,r.deep+1,r.err⟩:St).fail p 4 else ⟨r.at_,r.deep+1,r.err⟩)=r2 at *
 split
 ·have:=ho r2 h2
  exact ⟨this.1,this.2⟩
 ·exact ⟨h2.1,h2.2⟩
theorem iD {ts:List Wd} {sum:Rd} (ho:bR ts sum) (s:List UInt8) {r:St} (h:bS ts r) (hl:r.at_<ts.length):bS ts (EJ ts sum s r).2:=by
 simp only [EJ]
 split
 ·rename_i hn
  exact (UU ho 6 [] _ ((h.step hl).next hn)).must _
 ·exact h.step hl
theorem iE {ts:List Wd} {sum fac:Rd} (hs:bR ts sum) (hf:bR ts fac):bR ts (Cl ts sum fac):=fun r h=>by
 unfold Cl
 split
 ·rename_i w he hw
  have hl:r.at_<ts.length:=(List.getElem?_eq_some_iff.1 hw).1
  split
  ·exact h.step hl
  ·split
   ·exact iD hs _ h hl
   ·split
    ·exact UV hf h.1 _ (h.step hl)
    ·split
     ·exact bS.must (UV hs h.1 _ (h.step hl)) _
     ·exact h.fail h.1 2
 ·exact h.fail h.1 2
theorem Pz (ts:List Wd):∀n,bR ts (fac ts n)
 |0=>fun _ h=>h
 |n+1=>iE (M8 (M8 (Pz ts n))) (Pz ts n)
theorem M9 (ts:List Wd):bR ts (B6 ts):=M8 (M8 (Pz ts _))
theorem bS0 (ts:List Wd):bS ts ⟨0,0,none⟩:=⟨Nat.zero_le _,fun p c h=>by cases h⟩
theorem Kb (ts:List Wd):(B0 ts).2.1≤ts.length∧∀p c,(B0 ts).2.2=some (p,c)→p≤ts.length:=by
 have h:=M9 ts _ (bS0 ts);unfold B0
 split
 ·exact ⟨h.1,fun p c hq=>by cases hq⟩
 ·rename_i x hx
  exact ⟨Nat.zero_le _,fun p c hq=>h.2 p c (by rw [hx];exact hq)⟩
theorem iF {ts:List Wd} {r:St} (h:bS ts r):bS ts (CQ ts r).2:=by
 unfold CQ
 split
 ·exact h
 ·split
  ·rename_i w hw
   split
   ·exact h.step (List.getElem?_eq_some_iff.1 hw).1
   ·exact h.fail h.1 2
  ·exact h.fail h.1 2
theorem NA (ts:List Wd):(CR ts).2.1≤ts.length∧∀p c,(CR ts).2.2=some (p,c)→p≤ts.length:=by
 have h:=M9 ts _ (iF (M9 ts _ (bS0 ts)));unfold CR;simp only
 split
 ·exact ⟨h.1,fun p c hq=>by cases hq⟩
 ·rename_i x hx
  exact ⟨Nat.zero_le _,fun p c hq=>h.2 p c (by rw [hx];exact hq)⟩
inductive Nd where
 |mk (line end_:Int) (st:Sx) (body els:List Nd) (mid:Int)
mutual
def ndC:Nd→List AV
 |.mk l e s b c m => .int .i64 l :: .int .i64 e::(s.c++[if b.isEmpty then .nilSlice else .slice .unk 34 b.length (FN b),if c.isEmpty then .nilSlice else .slice .unk 34 c.length (FN c),.int .i64 m])
def FN:List Nd→List AV
 |[]=>[]
 |n::r=>ndC n++FN r
end
def Nd.line:Nd→Int | .mk l _ _ _ _ _=>l
def Nd.end_:Nd→Int | .mk _ e _ _ _ _=>e
def Nd.st:Nd→Sx | .mk _ _ s _ _ _=>s
def Nd.body:Nd→List Nd | .mk _ _ _ b _ _=>b
def Nd.els:Nd→List Nd | .mk _ _ _ _ c _=>c
def Nd.mid:Nd→Int | .mk _ _ _ _ _ m=>m
theorem Sx.c_len (x:Sx):x.c.length=29:=rfl
theorem HQ (n:Nd):(ndC n).length=34:=by cases n;rw [ndC];simp [Sx.c_len]
mutual
theorem Co:∀n:Nd,lowL 0 (ndC n)=true
 |.mk l e s b c m=>by
  have h1:=P0 b;have h2:=P0 c;have h3:=Sx.c_low s;rw [ndC];simp only [lowL,low,Dd,h3,Bool.true_and,Bool.and_true,Bool.and_eq_true]
  constructor
  ·split
   ·rfl
   ·exact h1
  ·split
   ·rfl
   ·exact h2
theorem P0:∀l:List Nd,lowL 0 (FN l)=true
 |[]=>rfl
 |n::r=>by rw [FN,Dd,Co n,P0 r];rfl
end
theorem Hy (n:Nd):(ndC n).all AV.one=true:=by
 cases n with
 |mk l e s b c m =>
  rw [ndC];have h3:=sxE.one s;have h4:s.c.all AV.one=true:=h3;simp only [List.all_cons,List.all_append,h4,AV.one,Bool.true_and,List.all_nil,Bool.and_true,Bool.and_eq_true]
  constructor
  ·cases b<;>rfl
  ·cases c<;>rfl
theorem LV:∀l:List Nd,(FN l).length=l.length*34
 |[]=>rfl
 |n::r=>by rw [FN,List.length_append,HQ,LV r,List.length_cons];omega
mutual
theorem P1:∀a b:Nd,ndC a=ndC b→a=b
 |.mk l e s b c m,.mk l' e' s' b' c' m',h=>by
  simp only [ndC,List.cons.injEq,AV.int.injEq,true_and] at h;obtain ⟨h1,h2,h3⟩:=h;obtain ⟨h4,h5⟩:=List.append_inj h3 (by rw [Sx.c_len,Sx.c_len]);simp only [List.cons.injEq,AV.int.injEq,true_and,and_true] at h5
  have k1:b=b':=by
   cases b with
   |nil=>cases b' with
    |nil=>rfl
    |cons=>simp at h5
   |cons x b=>cases b' with
    |nil=>simp at h5
    |cons y b' =>simp only [List.isEmpty_cons,Bool.false_eq_true,if_false,AV.slice.injEq,true_and] at h5;exact P2 _ _ h5.1.2
  have k2:c=c':=by
   cases c with
   |nil=>cases c' with
    |nil=>rfl
    |cons=>simp at h5
   |cons x c=>cases c' with
    |nil=>simp at h5
    |cons y c' =>simp only [List.isEmpty_cons,Bool.false_eq_true,if_false,AV.slice.injEq,true_and] at h5;exact P2 _ _ h5.2.1.2
  rw [h1,h2,sxE.inj s s' h4,k1,k2,h5.2.2]
theorem P2:∀a b:List Nd,FN a=FN b→a=b
 |[],[],_=>rfl
 |[],n::b,h=>by have:=congrArg List.length h;rw [LV,LV] at this;simp at this
 |n::a,[],h=>by have:=congrArg List.length h;rw [LV,LV] at this;simp at this
 |n::a,m::b,h=>by rw [FN,FN] at h;obtain ⟨h1,h2⟩:=List.append_inj h (by rw [HQ,HQ]);rw [P1 n m h1,P2 a b h2]
end
def ndE:Enc Nd where
 sz:=34
 c:=ndC
 pos:=by decide
 len:=HQ
 low:=Co
 one:=Hy
 inj:=P1
theorem UW:∀l:List Nd,ndE.row l=FN l
 |[]=>rfl
 |n::r=>by rw [Enc.row,FN,UW r];rfl
theorem UX (l:List Nd):(if l.isEmpty then AV.nilSlice else .slice .unk 34 l.length (FN l))=ndE.av l:=by
 cases l with
 |nil=>rfl
 |cons n r=>rw [Enc.av_ne _ (by simp),UW];rfl
theorem GK (n:Nd):ndC n = .int .i64 n.line :: .int .i64 n.end_::(n.st.c++[ndE.av n.body,ndE.av n.els,.int .i64 n.mid]):=by
 cases n with
 |mk l e s b c m=>rw [ndC,UX,UX];rfl
end Go.Proofs.YtmjfldclpijghaaGreatDoor
namespace Go.Proofs.YtmjfldclpijghaaGreatDoor.Tq
open Go.RowKit Go.Proofs.Fw
set_option maxRecDepth 100000
theorem zz19:AZ zP 265=some 1∧Aj zP 265=some false∧Ae zP 265=some (.int .u32 0)∧AG zP 50=true:=by and_intros<;>kernel_rfl
attribute [simp] zz19 Tryz.underlying265
end Go.Proofs.YtmjfldclpijghaaGreatDoor.Tq
namespace Go.Proofs.YtmjfldclpijghaaGreatDoor.Tv
open Go.RowKit Go.Proofs.Fw
set_option maxRecDepth 100000
theorem zz20:AZ zP 75=some 1∧Aj zP 75=some false∧Ae zP 75=some (.nilSlice)∧Bg zP 75 2=true∧AZ zP 161=some 1∧Aj zP 161=some false∧Ae zP 161=some (.nilPtr)∧AZ zP 163=some 4∧Aj zP 163=some true∧Ae zP 163=some (.agg [.nilSlice,.int .i64 0,.nilSlice,.int .i64 0])∧fI zP 163 0=(0,157,true)∧fI zP 163 1=(1,3,true)∧fI zP 163 2=(2,28,true)∧AG zP 28=true:=by and_intros<;>kernel_rfl
theorem go48:AG zP 48=true:=by kernel_rfl
theorem zz21:AG zP 51=true∧AG zP 52=true:=by and_intros<;>kernel_rfl
theorem go53:AG zP 53=true:=by kernel_rfl
theorem go54:AG zP 54=true:=by kernel_rfl
theorem go55:AG zP 55=true:=by kernel_rfl
theorem zz22:AG zP 81=true∧AG zP 82=true∧AG zP 83=true∧AG zP 85=true∧AG zP 86=true∧AG zP 89=true∧AG zP 90=true∧AG zP 99=true∧AG zP 100=true∧AG zP 101=true∧AG zP 107=true∧AG zP 108=true∧AG zP 126=true:=by and_intros<;>kernel_rfl
attribute [simp] zz20 Tryz.underlying75 Tryz.underlying161 Tryz.underlying163 go48 zz21
attribute [simp] go53 go54 go55 zz22
end Go.Proofs.YtmjfldclpijghaaGreatDoor.Tv
namespace Go.Proofs.YtmjfldclpijghaaGreatDoor.Tt
open Go.RowKit Go.Proofs.Fw
set_option maxRecDepth 100000
theorem zz23:AZ zP 24=some 1∧Aj zP 24=some false∧Ae zP 24=some (.nilSlice)∧Bg zP 24 34=true∧AZ zP 84=some 34∧Aj zP 84=some true∧Ae zP 84=some (.agg [.int .i64 0,.int .i64 0,.int .i64 0,.nilSlice,.int .i64 0,.int .i64 0,.str [],.nilSlice,.int .i64 0,.int .i64 0,.str [],.nilSlice,.str [],.int .i64 0,.int .i64 0,.str [],.nilSlice,.int .i64 0,.int .i64 0,.str [],.nilSlice,.str [],.int .i64 0,.int .i64 0,.str [],.nilSlice,.int .i64 0,.int .i64 0,.str [],.nilSlice,.int .i64 0,.nilSlice,.nilSlice,.int .i64 0])∧fI zP 84 0=(0,3,true)∧fI zP 84 1=(1,3,true)∧fI zP 84 2=(2,82,true)∧fI zP 84 3=(31,24,true)∧fI zP 84 4=(32,24,true)∧fI zP 84 5=(33,3,true)∧AZ zP 111=some 1∧Aj zP 111=some false∧Ae zP 111=some (.nilPtr)∧AZ zP 112=some 1∧Aj zP 112=some false∧Ae zP 112=some (.nilSlice)∧Bg zP 112 29=true∧AZ zP 113=some 1∧Aj zP 113=some false∧Ae zP 113=some (.nilSlice)∧Bg zP 113 2=true:=by and_intros<;>kernel_rfl
theorem zz24:AZ zP 115=some 7∧Aj zP 115=some true∧Ae zP 115=some (.agg [.nilSlice,.nilSlice,.nilSlice,.int .i64 0,.nilSlice,.int .i64 0,.bool false])∧fI zP 115 0=(0,25,true)∧fI zP 115 1=(1,112,true)∧fI zP 115 2=(2,113,true)∧fI zP 115 3=(3,3,true)∧fI zP 115 4=(4,28,true)∧fI zP 115 5=(6,4,true)∧AG zP 9=true∧AG zP 19=true∧AG zP 22=true∧AG zP 29=true:=by and_intros<;>kernel_rfl
theorem go33:AG zP 33=true:=by kernel_rfl
theorem zz25:AG zP 56=true∧AG zP 57=true∧AG zP 58=true:=by and_intros<;>kernel_rfl
attribute [simp] zz23 Tryz.underlying24 Tryz.underlying84 Tryz.underlying111
attribute [simp] Tryz.underlying112 Tryz.underlying113 zz24 Tryz.underlying115
attribute [simp] go33 zz25
end Go.Proofs.YtmjfldclpijghaaGreatDoor.Tt
namespace Go.Proofs.YtmjfldclpijghaaGreatDoor.Ts
open Go.RowKit Go.Proofs.Fw
set_option maxRecDepth 100000
theorem sz40:AZ zP 40=some 1:=by kernel_rfl
theorem ag40:Aj zP 40=some false:=by kernel_rfl
theorem zz26:Ae zP 40=some (.nilSlice)∧Bg zP 40 4=true∧AZ zP 96=some 1∧Aj zP 96=some false∧Ae zP 96=some (.nilPtr)∧AZ zP 98=some 5∧Aj zP 98=some true∧Ae zP 98=some (.agg [.nilSlice,.int .i64 0,.nilSlice,.int .i64 0,.int .i64 0])∧fI zP 98 0=(0,42,true)∧fI zP 98 1=(2,28,true)∧fI zP 98 2=(4,3,true)∧AG zP 12=true∧AG zP 17=true:=by and_intros<;>kernel_rfl
theorem go25:AG zP 25=true:=by kernel_rfl
theorem zz27:AG zP 36=true∧AG zP 37=true∧AG zP 38=true∧AG zP 39=true∧AG zP 40=true∧AG zP 41=true∧AG zP 72=true:=by and_intros<;>kernel_rfl
attribute [simp] sz40 ag40 zz26 Tryz.underlying40 Tryz.underlying96 Tryz.underlying98 go25 zz27
end Go.Proofs.YtmjfldclpijghaaGreatDoor.Ts
namespace Go.Proofs.YtmjfldclpijghaaGreatDoor.Th
open Go.RowKit Go.Proofs.Fw
set_option maxRecDepth 100000
theorem zz28:AZ zP 38=some 1∧Aj zP 38=some false∧Ae zP 38=some (.nilSlice)∧Bg zP 38 34=true∧AZ zP 95=some 34∧Aj zP 95=some true:=by and_intros<;>kernel_rfl
theorem zv95:Ae zP 95=some (.agg [.int .i64 0,.int .i64 0,.int .i64 0,.nilSlice,.int .i64 0,.int .i64 0,.str [],.nilSlice,.int .i64 0,.int .i64 0,.str [],.nilSlice,.str [],.int .i64 0,.int .i64 0,.str [],.nilSlice,.int .i64 0,.int .i64 0,.str [],.nilSlice,.str [],.int .i64 0,.int .i64 0,.str [],.nilSlice,.int .i64 0,.int .i64 0,.str [],.nilSlice,.int .i64 0,.nilSlice,.nilSlice,.int .i64 0]):=by kernel_rfl
theorem zz29:fI zP 95 0=(0,3,true)∧fI zP 95 1=(1,3,true)∧fI zP 95 2=(2,92,true)∧fI zP 95 3=(31,38,true)∧fI zP 95 4=(32,38,true)∧fI zP 95 5=(33,3,true)∧AZ zP 119=some 1∧Aj zP 119=some false∧Ae zP 119=some (.nilPtr)∧AZ zP 120=some 1∧Aj zP 120=some false∧Ae zP 120=some (.nilPtr)∧AZ zP 122=some 4∧Aj zP 122=some true∧Ae zP 122=some (.agg [.nilSlice,.nilPtr,.int .i64 0,.bool false])∧fI zP 122 0=(0,38,true)∧fI zP 122 1=(1,120,true)∧fI zP 122 2=(2,3,true)∧fI zP 122 3=(3,4,true)∧AZ zP 128=some 35∧Aj zP 128=some true∧Ae zP 128=some (.agg [.int .i64 0,.int .i64 0,.int .i64 0,.nilSlice,.int .i64 0,.int .i64 0,.str [],.nilSlice,.int .i64 0,.int .i64 0,.str [],.nilSlice,.str [],.int .i64 0,.int .i64 0,.str [],.nilSlice,.int .i64 0,.int .i64 0,.str [],.nilSlice,.str [],.int .i64 0,.int .i64 0,.str [],.nilSlice,.int .i64 0,.int .i64 0,.str [],.nilSlice,.int .i64 0,.nilSlice,.nilSlice,.int .i64 0,.nilPtr])∧fI zP 128 0=(0,95,true)∧fI zP 128 1=(34,120,true):=by and_intros<;>kernel_rfl
theorem go21:AG zP 21=true:=by kernel_rfl
theorem go31:AG zP 31=true:=by kernel_rfl
theorem go32:AG zP 32=true:=by kernel_rfl
theorem zz30:AG zP 64=true∧AG zP 65=true:=by and_intros<;>kernel_rfl
attribute [simp] zz28 Tryz.underlying38 zv95 zz29 Tryz.underlying95 Tryz.underlying119
attribute [simp] Tryz.underlying120 Tryz.underlying122 Tryz.underlying128 go21 go31 go32
attribute [simp] zz30
end Go.Proofs.YtmjfldclpijghaaGreatDoor.Th
namespace Go.Proofs.YtmjfldclpijghaaGreatDoor
open Go.RowKit Go.Proofs.Fw
set_option maxRecDepth 100000
set_option maxHeartbeats 4000000
def A7:Env:=⟨AJ.glob,KJ,AJ.imm,fun t=>t==38,fun _=>false⟩
theorem NB:Ch zP A7:=JO
theorem HS:∀i,low 0 (A7.glob i)=true:=Bh
theorem CS.toS {f:FuncId} {args:List AV} {H H':AH} {v:AV} (h:CS zP AJ f args H v H'):CS zP A7 f args H v H':=fun g w cargs R hG hA=>h g w cargs R hG hA
theorem CS.ofS {f:FuncId} {args:List AV} {H H':AH} {v:AV} (h:CS zP A7 f args H v H'):CS zP AJ f args H v H':=fun g w cargs R hG hA=>h g w cargs R hG hA
@[simp] theorem HT:A7.soft 38=true:=by decide
@[simp] theorem immSb:A7.imm 122=false:=by decide
@[simp] theorem immSo:A7.imm 128=false:=by decide
@[simp] theorem immSn:A7.imm 95=false:=by decide
@[simp] theorem immSx:A7.imm 92=false:=by decide
theorem DK:Cx Bu zP A7:=⟨Fe,NB,Ad⟩
theorem GL:Bg zP 38 34=true:=by kernel_rfl
@[simp] theorem bsNdP (cs:List AV) (hl:cs.length=34):CK zP 38 1 [(0,.agg cs)]=some (.slice .full 34 1 cs):=by
 have h1:AZ zP 95=some 34:=by kernel_rfl
 obtain ⟨z,h2,h3⟩:∃z,Ae zP 95=some (.agg z)∧z.length=34:=⟨_,Th.zv95,rfl⟩
 simp [CK,Tryz.underlying38,h1,h2,h3,E5,D5,hl,I0,An]
section
variable {cs:List AV}
theorem iG (hl:cs.length=34) (ho:cs.all AV.one=true) (hc:lowL 0 cs=true) (d:Int) (o:Bool) :
  CS zP A7 65 [.ptr 0 0,.agg cs] [some (.box [.nilSlice,.nilPtr,.int .i64 d,.bool o])] (.tup []) [some (.box [.slice (.tok 1) 34 1 cs,.nilPtr,.int .i64 d,.bool o]),some (.tok 1)]:=by
 refine CS.of_TrN (H0:=[some (.box [.nilSlice,.nilPtr,.int .i64 d,.bool o])]) (H1:=[some (.box [.slice (.tok 1) 34 1 cs,.nilPtr,.int .i64 d,.bool o]),some (.tok 1)]) 2 (by simp) (c:=Au Tryz.f65) Tryz.func65 (by kernel_rfl) 0 (by simp [Tryz.f65]) (fun B hB hG => ?_) (by simp) (by simp [AU,At,Am (Nat.zero_le 2) cs hc]);refine Tr.post ?_;refine Tr.goD DK hG ?_;simp [Tryz.f65];refine LpD.turns DK hG [7,9,12] zL6 ?_;have oP:=fun H fid ow ys (h:ys.all AV.one=true)=>yc (P:=zP) (H:=H) (fid:=fid) (ow:=ow) (ys:=ys) GL h
 have ht:cs.take 34=cs:=List.take_of_length_le (by omega);have pS:∀x∈cs,AV.one x=true:=fun x hx=>List.all_eq_true.1 ho x hx
 simp only [AV.one] at pS;simp [hl,ht,G4 HT,oP];rw [if_pos pS];simp [hl,ht]
 refine ⟨mkT 103 [],[some (.box [.slice (.tok 1) 34 1 cs,.nilPtr,.int .i64 d,.bool o]),some (.tok 1)],AD.put 2 0 cs rfl (fun i=>if i=0 then 0 else 2) 2 (by simp [hB]) (by
  intro i j hi hj h
  rcases (by omega:i=0∨i=1) with rfl|rfl<;>rcases (by omega:j=0∨j=1) with rfl|rfl<;>simp at h ⊢) (by simp [hB]) rfl (by
  intro i hi;rcases (by omega:i=0∨i=1) with rfl|rfl
  ·simp [AH.at,Bj,Cr,AI,ren,AL,BZ _ cs hc]
  ·simp [AH.at,Bj,AI]) (by simp [Am (Nat.zero_le 2) cs hc]),rfl⟩
theorem iH {xs:List AV} (m:Nat) (hm:m<137438953472) (hl:cs.length=34) (ho:cs.all AV.one=true) (hc:lowL 0 cs=true) (hx:lowL 0 xs=true) (d:Int) (o:Bool) :
  CS zP A7 65 [.ptr 0 0,.agg cs] [some (.box [.slice (.tok 1) 34 m xs,.nilPtr,.int .i64 d,.bool o]),some (.tok m)] (.tup []) [some (.box [.slice (.tok 1) 34 (m+1) (xs++cs),.nilPtr,.int .i64 d,.bool o]),some (.tok (m+1))]:=by
 refine CS.of_TrN (H0:=[some (.box [.slice (.tok 1) 34 m xs,.nilPtr,.int .i64 d,.bool o]),some (.tok m)]) (H1:=[some (.box [.slice (.tok 1) 34 (m+1) (xs++cs),.nilPtr,.int .i64 d,.bool o]),some (.tok (m+1))]) 2 (by simp) (c:=Au Tryz.f65) Tryz.func65 (by kernel_rfl) 0 (by simp [Tryz.f65]) (fun B hB hG => ?_) (by simp) (by simp [AU,At,Am (Nat.zero_le 2) cs hc,Am (Nat.zero_le 2) xs hx]);refine Tr.post ?_;refine Tr.goD DK hG ?_;simp [Tryz.f65];refine LpD.turns DK hG [7,9,12] zL6 ?_;have oP:=fun H fid ow ys (hk:AH.at H 1=some (.tok m)) (h:ys.all AV.one=true)=>Kz (P:=zP) (H:=H) (fid:=fid) (k:=1) (n:=m) (xs:=xs) (ow:=ow) (ys:=ys) GL hk (by omega) h
 have ht:cs.take 34=cs:=List.take_of_length_le (by omega);have pS:∀x∈cs,AV.one x=true:=fun x hx=>List.all_eq_true.1 ho x hx
 simp only [AV.one] at pS;simp [hl,ht,G4 HT,oP];rw [if_pos pS];simp [hl,ht]
 refine ⟨mkT 103 [],[some (.box [.slice (.tok 1) 34 (m+1) (xs++cs),.nilPtr,.int .i64 d,.bool o]),some (.tok (m+1))],AD.put 1 m cs rfl (fun i=>i) 2 (by simp [hB]) (by
  intro i j hi hj h
  exact h) (by simp) rfl (by
  intro i hi;rcases (by omega:i=0∨i=1) with rfl|rfl
  ·simp [AH.at,Bj,Cr,AI,ren,AL,BZ _ _ hc,BZ _ _ hx,BZ _ (xs++cs) (by simp [Dd,hc,hx])]
  ·simp [AH.at,Bj,AI]) (by simp [Am (Nat.zero_le 2) cs hc,Am (Nat.zero_le 2) xs hx]),rfl⟩
end
end Go.Proofs.YtmjfldclpijghaaGreatDoor
namespace Go.Proofs.Fw
open Go.RowKit
abbrev DL (a c:Tmp) (tb:TypeId) (p:String):Array Oper :=
 #[{dst:=some a,op := .alloc tb,type:=0,pos:=p,after := #[],guard:=none},
  {dst:=none,op := .store tb (.tmp a) (.const (.bool true)),type:=0,pos:=p,after := #[⟨0,.data⟩,⟨2,.gcOnly .appendInPlace⟩],guard:=none},
  {dst:=none,op := .store tb (.tmp a) (.const (.bool false)),type:=0,pos:=p,after := #[⟨0,.data⟩,⟨1,.textOnly .appendInPlace⟩],guard:=none},
  {dst:=some c,op := .load tb (.tmp a),type:=tb,pos:=p,after := #[⟨0,.data⟩,⟨0,.phase⟩,⟨1,.phase⟩,⟨2,.phase⟩],guard:=none}]
section
variable {a c:Tmp} {tb:TypeId} {p:String}
theorem UY:Region.ready .any (DL a c tb p) (Array.replicate 4 false)=[0]:=by kernel_rfl
theorem UZ:Region.ready .any (DL a c tb p) ((Array.replicate 4 false).setIfInBounds 0 true)=[1,2]:=by kernel_rfl
theorem Ua:Region.ready .any (DL a c tb p) (((Array.replicate 4 false).setIfInBounds 0 true).setIfInBounds 1 true)=[2]:=by kernel_rfl
theorem Ub:Region.ready .any (DL a c tb p) (((Array.replicate 4 false).setIfInBounds 0 true).setIfInBounds 2 true)=[1]:=by kernel_rfl
theorem iI:Region.ready .any (DL a c tb p) ((((Array.replicate 4 false).setIfInBounds 0 true).setIfInBounds 1 true).setIfInBounds 2 true)=[3]:=by kernel_rfl
theorem iJ:Region.ready .any (DL a c tb p) ((((Array.replicate 4 false).setIfInBounds 0 true).setIfInBounds 2 true).setIfInBounds 1 true)=[3]:=by kernel_rfl
theorem iK:Region.ready .any (DL a c tb p) (((((Array.replicate 4 false).setIfInBounds 0 true).setIfInBounds 1 true).setIfInBounds 2 true).setIfInBounds 3 true)=[]:=by kernel_rfl
theorem iL:Region.ready .any (DL a c tb p) (((((Array.replicate 4 false).setIfInBounds 0 true).setIfInBounds 2 true).setIfInBounds 1 true).setIfInBounds 3 true)=[]:=by kernel_rfl
variable {O:Orc} {P:Program} {E:Env} {t:List AV} {H:AH} {K:List AV→AH→Prop}
theorem iM (hz:Ae P tb=some (.bool false)) (hs:AZ P tb=some 1) (hg:Aj P tb=some false) (ha:a<t.length)
  (h:∀x y:Bool,K (AX (AX t (some a) (.ptr H.length 0)) (some c) (.bool x)) (H++[some (.box [.bool y])])) :
  J4 O P E (DL a c tb p) ((AY E (DL a c tb p).toList H.length).map (·.2)) 4 (Array.replicate 4 false) t (H++[none]) K:=by
 have hH:AH.at (H++[none]) H.length=none:=by simp [AH.at]
 have ht:(AX t (some a) (.ptr H.length 0))[a]? = some (.ptr H.length 0):=by simp [AX,ha]
 generalize hT:AX t (some a) (.ptr H.length 0)=T at h ht;have tB:∀e:Env,AC e T (.tmp a) = .ptr H.length 0:=fun e=>by simp [AC,List.getD_eq_getElem?_getD,ht]
 have qF:∀(e:Option Ent) (x:Option Ent),(H++[e]).set H.length x=H++[x]:=fun e x=>by rw [List.set_append_right _ _ (Nat.le_refl _)];simp
 have xa:∀x:Ent,AH.at (H++[some x]) H.length=some x:=fun x=>by simp [AH.at]
 have load:∀(x:Bool) (fid:Nat),CX O P E (DL a c tb p) T (H++[some (.box [.bool x])]) ({dst:=some c,op := .load tb (.tmp a),type:=tb,pos:=p,after := #[⟨0,.data⟩,⟨0,.phase⟩,⟨1,.phase⟩,⟨2,.phase⟩],guard:=none},fid)=some (.bool x,[],[H.length]):=by
  intro x fid
  have hv:BB E (H++[some (.box [.bool x])]) (AC E T) ({dst:=some c,op := .load tb (.tmp a),type:=tb,pos:=p,after := #[⟨0,.data⟩,⟨0,.phase⟩,⟨1,.phase⟩,⟨2,.phase⟩],guard:=none},fid)=[H.length]:=by
   show DD (H++[some (.box [.bool x])]) 0 (ED [AC E T (.tmp a)])=_
   rw [tB,SH];rfl
  have hl:A8 P (mask (H++[some (.box [.bool x])]) [H.length]) tb (.ptr H.length 0)=some (.bool x):=by rw [Sf P tb (by intro i hi;exact hi)];unfold A8;simp only [xa];unfold BI;rw [hg];rfl
  have oS:BG O P E (AC E T) (mask (H++[some (.box [.bool x])]) [H.length]) fid [H.length] {dst:=some c,op := .load tb (.tmp a),type:=tb,pos:=p,after := #[⟨0,.data⟩,⟨0,.phase⟩,⟨1,.phase⟩,⟨2,.phase⟩],guard:=none}=(A8 P (mask (H++[some (.box [.bool x])]) [H.length]) tb (AC E T (.tmp a))).map (fun a=>(a,[])):=rfl;rw [tB,hl] at oS;unfold CX;simp only [Ap,hv,oS];rfl
 have store:∀(x y:Bool) (fid:Nat) (af:Array Edge),CX O P E (DL a c tb p) T (H++[some (.box [.bool x])]) ({dst:=none,op := .store tb (.tmp a) (.const (.bool y)),type:=0,pos:=p,after:=af,guard:=none},fid)=some (.nothing,[(H.length,.box [.bool y])],[H.length]):=by
  intro x y fid af
  have hv:BB E (H++[some (.box [.bool x])]) (AC E T) ({dst:=none,op := .store tb (.tmp a) (.const (.bool y)),type:=0,pos:=p,after:=af,guard:=none},fid)=[H.length]:=by
   show ED [AC E T (.tmp a)]=_
   rw [tB];rfl
  have hl:DC P (mask (H++[some (.box [.bool x])]) [H.length]) tb (.ptr H.length 0) (.bool y)=some (.nothing,[(H.length,.box [.bool y])]):=by rw [Sg P tb (by intro i hi;exact hi)];unfold DC;simp only [xa,hs];rfl
  have oS:BG O P E (AC E T) (mask (H++[some (.box [.bool x])]) [H.length]) fid [H.length] {dst:=none,op := .store tb (.tmp a) (.const (.bool y)),type:=0,pos:=p,after:=af,guard:=none}=DC P (mask (H++[some (.box [.bool x])]) [H.length]) tb (AC E T (.tmp a)) (.bool y):=rfl;rw [tB,hl] at oS;unfold CX;simp only [Ap,hv,oS];simp
 have alloc:CX O P E (DL a c tb p) t (H++[none]) ({dst:=some a,op := .alloc tb,type:=0,pos:=p,after := #[],guard:=none},H.length)=some (.ptr H.length 0,[(H.length,.box [.bool false])],[H.length]):=by
  have oS:∀S,BG O P E (AC E t) (mask (H++[none]) S) H.length S {dst:=some a,op := .alloc tb,type:=0,pos:=p,after := #[],guard:=none}=(match Ae P tb with|some z=>some (.ptr H.length 0,[(H.length,.box (An z))])|none=>none):=fun _=>rfl
  have hv:BB E (H++[none]) (AC E t) ({dst:=some a,op := .alloc tb,type:=0,pos:=p,after := #[],guard:=none},H.length)=[H.length]:=by
   show H.length::DD (H++[none]) 4 []=_
   rw [SI]
  unfold CX;simp only [Ap,hv,oS,hz];simp [An]
 have fin:∀(x:Bool) (l:Array Bool),Region.ready .any (DL a c tb p) l=[3]→Region.ready .any (DL a c tb p) (l.setIfInBounds 3 true)=[]→J4 O P E (DL a c tb p) ((AY E (DL a c tb p).toList H.length).map (·.2)) 1 l T (H++[some (.box [.bool x])]) K:=by intro x l h1 h2;refine ⟨by rw [h1];simp,fun i hi => ?_⟩;rw [h1] at hi;simp only [List.mem_singleton] at hi;subst hi;exact ⟨{dst:=some c,op := .load tb (.tmp a),type:=tb,pos:=p,after := #[⟨0,.data⟩,⟨0,.phase⟩,⟨1,.phase⟩,⟨2,.phase⟩],guard:=none},_,_,_,rfl,fun hn=>by simp [Ai] at hn,load x _,h2,h x x⟩
 refine ⟨by rw [UY];simp,fun i hi => ?_⟩;rw [UY] at hi;simp only [List.mem_singleton] at hi;subst hi;refine ⟨{dst:=some a,op := .alloc tb,type:=0,pos:=p,after := #[],guard:=none},_,_,_,rfl,fun _ => ?_,alloc,?_⟩
 ·exact ⟨by simp [DL,AY],by first|(simp [DL,AY];done)|(simpa [DL,AY] using hH)⟩
 simp only [hT,AR,qF];refine ⟨by rw [UZ];simp,fun i hi => ?_⟩;rw [UZ] at hi;simp only [List.mem_cons,List.not_mem_nil,or_false] at hi;rcases hi with rfl|rfl
 ·refine ⟨{dst:=none,op := .store tb (.tmp a) (.const (.bool true)),type:=0,pos:=p,after := #[⟨0,.data⟩,⟨2,.gcOnly .appendInPlace⟩],guard:=none},_,_,_,rfl,fun hn=>by simp [Ai] at hn,store _ true _ _,?_⟩
  simp only [AX,AR,qF];refine ⟨by rw [Ua];simp,fun i hi => ?_⟩;rw [Ua] at hi;simp only [List.mem_singleton] at hi;subst hi;refine ⟨{dst:=none,op := .store tb (.tmp a) (.const (.bool false)),type:=0,pos:=p,after := #[⟨0,.data⟩,⟨1,.textOnly .appendInPlace⟩],guard:=none},_,_,_,rfl,fun hn=>by simp [Ai] at hn,store _ false _ _,?_⟩;simp only [AX,AR,qF];exact fin false _ iI iK
 ·refine ⟨{dst:=none,op := .store tb (.tmp a) (.const (.bool false)),type:=0,pos:=p,after := #[⟨0,.data⟩,⟨1,.textOnly .appendInPlace⟩],guard:=none},_,_,_,rfl,fun hn=>by simp [Ai] at hn,store _ false _ _,?_⟩
  simp only [AX,AR,qF];refine ⟨by rw [Ub];simp,fun i hi => ?_⟩;rw [Ub] at hi;simp only [List.mem_singleton] at hi;subst hi;refine ⟨{dst:=none,op := .store tb (.tmp a) (.const (.bool true)),type:=0,pos:=p,after := #[⟨0,.data⟩,⟨2,.gcOnly .appendInPlace⟩],guard:=none},_,_,_,rfl,fun hn=>by simp [Ai] at hn,store _ true _ _,?_⟩;simp only [AX,AR,qF];exact fin true _ iJ iL
theorem LpD.coin {B:Bs} {Lp:EH} {ks0:List Fr} (X:Cx O P E) (hG:Al E B.g) {id:Nat} {Q:AEx→List AV→AH→Prop} (hz:Ae P tb=some (.bool false)) (hs:AZ P tb=some 1) (hg:Aj P tb=some false) (ha:a<t.length)
  (h:∀x y:Bool,Go O P E Lp .skip ks0 (AX (AX t (some a) (.ptr H.length 0)) (some c) (.bool x)) (H++[some (.box [.bool y])]) Q):LpD P B (.scope (.region id (DL a c tb p) true)) t H (unwind O P E Lp ks0 Q):=by
 refine LpD.orders X hG ?_;have hn:Ag E (DL a c tb p).toList=1:=rfl;rw [hn,I8];exact iM hz hs hg ha h
end
end Go.Proofs.Fw
namespace Go.Proofs.YtmjfldclpijghaaGreatDoor
open Go.RowKit Go.Proofs.Fw
set_option maxRecDepth 100000
set_option maxHeartbeats 4000000
theorem iN (cs pre:List AV) (X Y Z:AV) (e2 e3 e4:Option Ent) (mid:Int) (pg:mid<0) (hp:pre.length=31) (hl:cs.length=34) (ho:cs.all AV.one=true) (hc:lowL 0 cs=true) (hx:low 5 X=true) (hy:low 5 Y=true) (hz:low 5 Z=true)
  (pY:lowL 0 pre=true) (h2:At 5 e2=true) (h3:At 5 e3=true) (h4:At 5 e4=true) (d:Int) (o:Bool) :
  CS zP A7 65 [.ptr 0 0,.agg cs] [some (.box [X,.ptr 1 0,.int .i64 d,.bool o]),some (.box (pre++[.nilSlice,Y,.int .i64 mid,Z])),e2,e3,e4] (.tup []) [some (.box [X,.ptr 1 0,.int .i64 d,.bool o]),some (.box (pre++[.slice (.tok 5) 34 1 cs,Y,.int .i64 mid,Z])),e2,e3,e4,some (.tok 1)]:=by
 have lE6:∀{e:Option Ent},At 5 e=true→At 6 e=true:=fun {e} h=>by
  cases e with
  |none=>rfl
  |some e=>cases e with
   |box cs=>exact Am (by omega) _ h
   |loose n cs=>exact Am (by omega) _ h
   |stk n cs=>exact Am (by omega) _ h
   |_=>rfl
 have oV:AU 6 [some (.box [X,.ptr 1 0,.int .i64 d,.bool o]),some (.box (pre++[.slice (.tok 5) 34 1 cs,Y,.int .i64 mid,Z])),e2,e3,e4,some (.tok 1)]=true:=by simp only [AU,lE6 h2,lE6 h3,lE6 h4,Bool.and_true,Bool.true_and];simp [CA (by omega:5≤6) X hx,CA (by omega:5≤6) Y hy,CA (by omega:5≤6) Z hz,Am (Nat.zero_le 6) pre pY,Am (Nat.zero_le 6) cs hc]
 refine CS.of_TrN (H0:=[some (.box [X,.ptr 1 0,.int .i64 d,.bool o]),some (.box (pre++[.nilSlice,Y,.int .i64 mid,Z])),e2,e3,e4]) (H1:=[some (.box [X,.ptr 1 0,.int .i64 d,.bool o]),some (.box (pre++[.slice (.tok 5) 34 1 cs,Y,.int .i64 mid,Z])),e2,e3,e4,some (.tok 1)]) 6 (by simp) (c:=Au Tryz.f65) Tryz.func65 (by kernel_rfl) 0 (by simp [Tryz.f65]) (fun B hB hG => ?_) (by simp) oV;refine Tr.post ?_;refine Tr.goD DK hG ?_;have qV:¬(0≤mid):=by omega
 simp [Tryz.f65,hp,qV];have hf:∀i,i<5→(fun i:Nat=>if i=5 then 7 else i) i=i:=fun i hi=>if_neg (by omega)
 have l7:∀{a:AV},low 5 a=true→low 7 a=true:=fun h=>CA (by omega) _ h
 have mX:=Fg (t:=7) (n:=0) (xs:=cs) (l7 hx);have mY:=Fg (t:=7) (n:=0) (xs:=cs) (l7 hy);have mZ:=Fg (t:=7) (n:=0) (xs:=cs) (l7 hz);have mP:=J3 (t:=7) (n:=0) (xs:=cs) (Am (Nat.zero_le 7) pre pY)
 have lE:∀{e:Option Ent},At 5 e=true→At 7 e=true:=fun {e} h=>by
  cases e with
  |none=>rfl
  |some e=>cases e with
   |box cs=>exact Am (by omega) _ h
   |loose n cs=>exact Am (by omega) _ h
   |stk n cs=>exact Am (by omega) _ h
   |_=>rfl
 have m2:=GA (t:=7) (n:=0) (xs:=cs) (lE h2);have m3:=GA (t:=7) (n:=0) (xs:=cs) (lE h3);have m4:=GA (t:=7) (n:=0) (xs:=cs) (lE h4);have rX:=FC hf X hx;have rY:=FC hf Y hy;have rZ:=FC hf Z hz;have rP:=BZ (fun i:Nat=>if i=5 then 7 else i) pre pY;have rC:=BZ (fun i:Nat=>if i=5 then 7 else i) cs hc
 skip
 have r2:=Et hf h2;have r3:=Et hf h3;have r4:=Et hf h4
 have Dn:∀(φ:Nat→Nat) (a b:List AV),AL φ (a++b)=AL φ a++AL φ b:=fun φ a b=>by induction a with
  |nil=>rfl
  |cons x a ih=>simp [AL,ih]
 have q7:∀(r:AV),List.drop 32 (pre++[r,Y,.int .i64 mid,Z])=[Y,.int .i64 mid,Z]:=fun r=>by rw [List.drop_append,List.drop_eq_nil_of_le (by omega),hp];rfl
 have oo:∀(a b c e:AV),List.take 32 (pre++[a,b,c,e])=pre++[a]:=fun a b c e=>by rw [List.take_append,List.take_of_length_le (by omega),hp];rfl
 have oP:=fun H fid ow ys (h:ys.all AV.one=true)=>yc (P:=zP) (H:=H) (fid:=fid) (ow:=ow) (ys:=ys) GL h
 have ht:cs.take 34=cs:=List.take_of_length_le (by omega);have pS:∀x∈cs,AV.one x=true:=fun x hx=>List.all_eq_true.1 ho x hx
 simp only [AV.one] at pS;refine LpD.coin DK hG (by kernel_rfl) (by kernel_rfl) (by kernel_rfl) (by simp [mkT]) ?_;intro x y;cases x with
 |true =>
  simp;refine LpD.turns DK hG [11,15] [] ?_;simp [hl,ht,hp,G4 HT,oP];rw [if_pos pS];simp [hl,ht,hp]
  refine ⟨mkT 103 [],[some (.box [X,.ptr 1 0,.int .i64 d,.bool o]),some (.box (pre++[.slice (.tok 5) 34 1 cs,Y,.int .i64 mid,Z])),e2,e3,e4,some (.tok 1)],AD.put 7 0 cs rfl (fun i:Nat=>if i=5 then 7 else i) 6 (by simp [hB]) (by
   intro i j hi hj h
   rcases (by omega:i=0∨i=1∨i=2∨i=3∨i=4∨i=5) with rfl|rfl|rfl|rfl|rfl|rfl<;>rcases (by omega:j=0∨j=1∨j=2∨j=3∨j=4∨j=5) with rfl|rfl|rfl|rfl|rfl|rfl<;>simp at h ⊢) (by
   intro i hi;rw [hB] at hi;simp at hi
   rw [if_neg (by omega)]) rfl (by
   intro i hi;rcases (by omega:i=0∨i=1∨i=2∨i=3∨i=4∨i=5) with rfl|rfl|rfl|rfl|rfl|rfl
   ·simp [AH.at,Bj,Cr,AI,ren,AL,rX]
    exact mX
   ·simp [AH.at,Bj,Cr,AI,ren,AL,mY,mZ,mP,rY,rZ,rP,rC,Dn,q7,oo]
    exact ⟨mY,mZ⟩
   ·simp [AH.at,m2,r2]
   ·simp [AH.at,m3,r3]
   ·simp [AH.at,m4,r4]
   ·simp [AH.at,Bj,AI]) oV,rfl⟩
 |false =>
  have sY:=fun H fid ow=>yc (P:=zP) (H:=H) (fid:=fid) (ow:=ow) (ys:=cs) GL ho
  simp;refine LpD.turns DK hG [14,18] zL2 ?_;simp [hl,ht,hp,G4 HT,sY]
  refine ⟨mkT 103 [],[some (.box [X,.ptr 1 0,.int .i64 d,.bool o]),some (.box (pre++[.slice (.tok 5) 34 1 cs,Y,.int .i64 mid,Z])),e2,e3,e4,some (.tok 1)],AD.put 7 0 cs rfl (fun i:Nat=>if i=5 then 7 else i) 6 (by simp [hB]) (by
   intro i j hi hj h
   rcases (by omega:i=0∨i=1∨i=2∨i=3∨i=4∨i=5) with rfl|rfl|rfl|rfl|rfl|rfl<;>rcases (by omega:j=0∨j=1∨j=2∨j=3∨j=4∨j=5) with rfl|rfl|rfl|rfl|rfl|rfl<;>simp at h ⊢) (by
   intro i hi;rw [hB] at hi;simp at hi
   rw [if_neg (by omega)]) rfl (by
   intro i hi;rcases (by omega:i=0∨i=1∨i=2∨i=3∨i=4∨i=5) with rfl|rfl|rfl|rfl|rfl|rfl
   ·simp [AH.at,Bj,Cr,AI,ren,AL,rX]
    exact mX
   ·simp [AH.at,Bj,Cr,AI,ren,AL,mY,mZ,mP,rY,rZ,rP,rC,Dn,q7,oo]
    exact ⟨mY,mZ⟩
   ·simp [AH.at,m2,r2]
   ·simp [AH.at,m3,r3]
   ·simp [AH.at,m4,r4]
   ·simp [AH.at,Bj,AI]) oV,rfl⟩
theorem iO (cs pre:List AV) (xs:List AV) (m:Nat) (hm:m<137438953472) (o8:lowL 0 xs=true) (X Y Z:AV) (e2 e3 e4:Option Ent) (mid:Int) (pg:mid<0) (hp:pre.length=31) (hl:cs.length=34) (ho:cs.all AV.one=true) (hc:lowL 0 cs=true) (hx:low 5 X=true) (hy:low 5 Y=true) (hz:low 5 Z=true)
  (pY:lowL 0 pre=true) (h2:At 5 e2=true) (h3:At 5 e3=true) (h4:At 5 e4=true) (d:Int) (o:Bool) :
  CS zP A7 65 [.ptr 0 0,.agg cs] [some (.box [X,.ptr 1 0,.int .i64 d,.bool o]),some (.box (pre++[.slice (.tok 5) 34 m xs,Y,.int .i64 mid,Z])),e2,e3,e4,some (.tok m)] (.tup []) [some (.box [X,.ptr 1 0,.int .i64 d,.bool o]),some (.box (pre++[.slice (.tok 5) 34 (m+1) (xs++cs),Y,.int .i64 mid,Z])),e2,e3,e4,some (.tok (m+1))]:=by
 have lE6:∀{e:Option Ent},At 5 e=true→At 6 e=true:=fun {e} h=>by
  cases e with
  |none=>rfl
  |some e=>cases e with
   |box cs=>exact Am (by omega) _ h
   |loose n cs=>exact Am (by omega) _ h
   |stk n cs=>exact Am (by omega) _ h
   |_=>rfl
 have oV:AU 6 [some (.box [X,.ptr 1 0,.int .i64 d,.bool o]),some (.box (pre++[.slice (.tok 5) 34 (m+1) (xs++cs),Y,.int .i64 mid,Z])),e2,e3,e4,some (.tok (m+1))]=true:=by simp only [AU,lE6 h2,lE6 h3,lE6 h4,Bool.and_true,Bool.true_and];simp [CA (by omega:5≤6) X hx,CA (by omega:5≤6) Y hy,CA (by omega:5≤6) Z hz,Am (Nat.zero_le 6) pre pY,Am (Nat.zero_le 6) cs hc,Am (Nat.zero_le 6) xs o8]
 refine CS.of_TrN (H0:=[some (.box [X,.ptr 1 0,.int .i64 d,.bool o]),some (.box (pre++[.slice (.tok 5) 34 m xs,Y,.int .i64 mid,Z])),e2,e3,e4,some (.tok m)]) (H1:=[some (.box [X,.ptr 1 0,.int .i64 d,.bool o]),some (.box (pre++[.slice (.tok 5) 34 (m+1) (xs++cs),Y,.int .i64 mid,Z])),e2,e3,e4,some (.tok (m+1))]) 6 (by simp) (c:=Au Tryz.f65) Tryz.func65 (by kernel_rfl) 0 (by simp [Tryz.f65]) (fun B hB hG => ?_) (by simp) oV;refine Tr.post ?_;refine Tr.goD DK hG ?_;have qV:¬(0≤mid):=by omega
 simp [Tryz.f65,hp,qV];have hf:∀i,i<5→(fun i:Nat=>i) i=i:=fun i hi=>rfl
 have l7:∀{a:AV},low 5 a=true→low 5 a=true:=fun h=>CA (by omega) _ h
 have mX:=Fg (t:=5) (n:=m) (xs:=cs) (l7 hx);have mY:=Fg (t:=5) (n:=m) (xs:=cs) (l7 hy);have mZ:=Fg (t:=5) (n:=m) (xs:=cs) (l7 hz);have mP:=J3 (t:=5) (n:=m) (xs:=cs) (Am (Nat.zero_le 5) pre pY)
 have lE:∀{e:Option Ent},At 5 e=true→At 5 e=true:=fun {e} h=>by
  cases e with
  |none=>rfl
  |some e=>cases e with
   |box cs=>exact Am (by omega) _ h
   |loose n cs=>exact Am (by omega) _ h
   |stk n cs=>exact Am (by omega) _ h
   |_=>rfl
 have m2:=GA (t:=5) (n:=m) (xs:=cs) (lE h2);have m3:=GA (t:=5) (n:=m) (xs:=cs) (lE h3);have m4:=GA (t:=5) (n:=m) (xs:=cs) (lE h4);have rX:=FC hf X hx;have rY:=FC hf Y hy;have rZ:=FC hf Z hz;have rP:=BZ (fun i:Nat=>i) pre pY;have rC:=BZ (fun i:Nat=>i) cs hc;have rS:=BZ (fun i:Nat=>i) xs o8;have r2:=Et hf h2;have r3:=Et hf h3;have r4:=Et hf h4
 have Dn:∀(φ:Nat→Nat) (a b:List AV),AL φ (a++b)=AL φ a++AL φ b:=fun φ a b=>by induction a with
  |nil=>rfl
  |cons x a ih=>simp [AL,ih]
 have q7:∀(r:AV),List.drop 32 (pre++[r,Y,.int .i64 mid,Z])=[Y,.int .i64 mid,Z]:=fun r=>by rw [List.drop_append,List.drop_eq_nil_of_le (by omega),hp];rfl
 have oo:∀(a b c e:AV),List.take 32 (pre++[a,b,c,e])=pre++[a]:=fun a b c e=>by rw [List.take_append,List.take_of_length_le (by omega),hp];rfl
 have oP:=fun H fid ow ys (hk:AH.at H 5=some (.tok m)) (h:ys.all AV.one=true)=>Kz (P:=zP) (H:=H) (fid:=fid) (k:=5) (n:=m) (xs:=xs) (ow:=ow) (ys:=ys) GL hk (by omega) h
 have ht:cs.take 34=cs:=List.take_of_length_le (by omega);have pS:∀x∈cs,AV.one x=true:=fun x hx=>List.all_eq_true.1 ho x hx
 simp only [AV.one] at pS;refine LpD.coin DK hG (by kernel_rfl) (by kernel_rfl) (by kernel_rfl) (by simp [mkT]) ?_;intro x y;cases x with
 |true =>
  simp;refine LpD.turns DK hG [11,15] [] ?_;simp [hl,ht,hp,G4 HT,oP];rw [if_pos pS];simp [hl,ht,hp]
  refine ⟨mkT 103 [],[some (.box [X,.ptr 1 0,.int .i64 d,.bool o]),some (.box (pre++[.slice (.tok 5) 34 (m+1) (xs++cs),Y,.int .i64 mid,Z])),e2,e3,e4,some (.tok (m+1))],AD.put 5 m cs rfl (fun i:Nat=>i) 6 (by simp [hB]) (by
   intro i j hi hj h
   exact h) (by
   intro i hi
   rfl) rfl (by
   intro i hi;rcases (by omega:i=0∨i=1∨i=2∨i=3∨i=4∨i=5) with rfl|rfl|rfl|rfl|rfl|rfl
   ·simp [AH.at,Bj,Cr,AI,ren,AL,rX]
    exact mX
   ·simp [AH.at,Bj,Cr,AI,ren,AL,mY,mZ,mP,rY,rZ,rP,rC,rS,Dn,q7,oo]
    exact ⟨mY,mZ⟩
   ·simp [AH.at,m2,r2]
   ·simp [AH.at,m3,r3]
   ·simp [AH.at,m4,r4]
   ·simp [AH.at,Bj,AI]) oV,rfl⟩
 |false =>
  have sY:=fun H fid ow (hk:AH.at H 5=some (.tok m))=>Kz (P:=zP) (H:=H) (fid:=fid) (k:=5) (n:=m) (xs:=xs) (ow:=ow) (ys:=cs) GL hk (by omega) ho
  simp;refine LpD.turns DK hG [14,18] zL2 ?_;simp [hl,ht,hp,G4 HT,sY]
  refine ⟨mkT 103 [],[some (.box [X,.ptr 1 0,.int .i64 d,.bool o]),some (.box (pre++[.slice (.tok 5) 34 (m+1) (xs++cs),Y,.int .i64 mid,Z])),e2,e3,e4,some (.tok (m+1))],AD.put 5 m cs rfl (fun i:Nat=>i) 6 (by simp [hB]) (by
   intro i j hi hj h
   exact h) (by
   intro i hi
   rfl) rfl (by
   intro i hi;rcases (by omega:i=0∨i=1∨i=2∨i=3∨i=4∨i=5) with rfl|rfl|rfl|rfl|rfl|rfl
   ·simp [AH.at,Bj,Cr,AI,ren,AL,rX]
    exact mX
   ·simp [AH.at,Bj,Cr,AI,ren,AL,mY,mZ,mP,rY,rZ,rP,rC,rS,Dn,q7,oo]
    exact ⟨mY,mZ⟩
   ·simp [AH.at,m2,r2]
   ·simp [AH.at,m3,r3]
   ·simp [AH.at,m4,r4]
   ·simp [AH.at,Bj,AI]) oV,rfl⟩
theorem iP (cs pre:List AV) (X Y Z:AV) (e2 e3 e4:Option Ent) (mid:Int) (pg:0≤mid) (hp:pre.length=31) (hl:cs.length=34) (ho:cs.all AV.one=true) (hc:lowL 0 cs=true) (hx:low 5 X=true) (hy:low 5 Y=true) (hz:low 5 Z=true)
  (pY:lowL 0 pre=true) (h2:At 5 e2=true) (h3:At 5 e3=true) (h4:At 5 e4=true) (d:Int) (o:Bool) :
  CS zP A7 65 [.ptr 0 0,.agg cs] [some (.box [X,.ptr 1 0,.int .i64 d,.bool o]),some (.box (pre++[Y,.nilSlice,.int .i64 mid,Z])),e2,e3,e4] (.tup []) [some (.box [X,.ptr 1 0,.int .i64 d,.bool o]),some (.box (pre++[Y,.slice (.tok 5) 34 1 cs,.int .i64 mid,Z])),e2,e3,e4,some (.tok 1)]:=by
 have lE6:∀{e:Option Ent},At 5 e=true→At 6 e=true:=fun {e} h=>by
  cases e with
  |none=>rfl
  |some e=>cases e with
   |box cs=>exact Am (by omega) _ h
   |loose n cs=>exact Am (by omega) _ h
   |stk n cs=>exact Am (by omega) _ h
   |_=>rfl
 have oV:AU 6 [some (.box [X,.ptr 1 0,.int .i64 d,.bool o]),some (.box (pre++[Y,.slice (.tok 5) 34 1 cs,.int .i64 mid,Z])),e2,e3,e4,some (.tok 1)]=true:=by simp only [AU,lE6 h2,lE6 h3,lE6 h4,Bool.and_true,Bool.true_and];simp [CA (by omega:5≤6) X hx,CA (by omega:5≤6) Y hy,CA (by omega:5≤6) Z hz,Am (Nat.zero_le 6) pre pY,Am (Nat.zero_le 6) cs hc]
 refine CS.of_TrN (H0:=[some (.box [X,.ptr 1 0,.int .i64 d,.bool o]),some (.box (pre++[Y,.nilSlice,.int .i64 mid,Z])),e2,e3,e4]) (H1:=[some (.box [X,.ptr 1 0,.int .i64 d,.bool o]),some (.box (pre++[Y,.slice (.tok 5) 34 1 cs,.int .i64 mid,Z])),e2,e3,e4,some (.tok 1)]) 6 (by simp) (c:=Au Tryz.f65) Tryz.func65 (by kernel_rfl) 0 (by simp [Tryz.f65]) (fun B hB hG => ?_) (by simp) oV;refine Tr.post ?_;refine Tr.goD DK hG ?_;have qV:0≤mid:=pg;simp [Tryz.f65,hp,qV];have hf:∀i,i<5→(fun i:Nat=>if i=5 then 7 else i) i=i:=fun i hi=>if_neg (by omega)
 have l7:∀{a:AV},low 5 a=true→low 7 a=true:=fun h=>CA (by omega) _ h
 have mX:=Fg (t:=7) (n:=0) (xs:=cs) (l7 hx);have mY:=Fg (t:=7) (n:=0) (xs:=cs) (l7 hy);have mZ:=Fg (t:=7) (n:=0) (xs:=cs) (l7 hz);have mP:=J3 (t:=7) (n:=0) (xs:=cs) (Am (Nat.zero_le 7) pre pY)
 have lE:∀{e:Option Ent},At 5 e=true→At 7 e=true:=fun {e} h=>by
  cases e with
  |none=>rfl
  |some e=>cases e with
   |box cs=>exact Am (by omega) _ h
   |loose n cs=>exact Am (by omega) _ h
   |stk n cs=>exact Am (by omega) _ h
   |_=>rfl
 have m2:=GA (t:=7) (n:=0) (xs:=cs) (lE h2);have m3:=GA (t:=7) (n:=0) (xs:=cs) (lE h3);have m4:=GA (t:=7) (n:=0) (xs:=cs) (lE h4);have rX:=FC hf X hx;have rY:=FC hf Y hy;have rZ:=FC hf Z hz;have rP:=BZ (fun i:Nat=>if i=5 then 7 else i) pre pY;have rC:=BZ (fun i:Nat=>if i=5 then 7 else i) cs hc
 skip
 have r2:=Et hf h2;have r3:=Et hf h3;have r4:=Et hf h4
 have Dn:∀(φ:Nat→Nat) (a b:List AV),AL φ (a++b)=AL φ a++AL φ b:=fun φ a b=>by induction a with
  |nil=>rfl
  |cons x a ih=>simp [AL,ih]
 have q7:∀(r:AV),List.drop 33 (pre++[Y,r,.int .i64 mid,Z])=[.int .i64 mid,Z]:=fun r=>by rw [List.drop_append,List.drop_eq_nil_of_le (by omega),hp];rfl
 have oo:∀(a b c e:AV),List.take 32 (pre++[a,b,c,e])=pre++[a]:=fun a b c e=>by rw [List.take_append,List.take_of_length_le (by omega),hp];rfl
 have oP:=fun H fid ow ys (h:ys.all AV.one=true)=>yc (P:=zP) (H:=H) (fid:=fid) (ow:=ow) (ys:=ys) GL h
 have ht:cs.take 34=cs:=List.take_of_length_le (by omega);have pS:∀x∈cs,AV.one x=true:=fun x hx=>List.all_eq_true.1 ho x hx
 simp only [AV.one] at pS;refine LpD.coin DK hG (by kernel_rfl) (by kernel_rfl) (by kernel_rfl) (by simp [mkT]) ?_;intro x y;cases x with
 |true =>
  simp;refine LpD.turns DK hG [11,15] [] ?_;simp [hl,ht,hp,G4 HT,oP];rw [if_pos pS];simp [hl,ht,hp]
  refine ⟨mkT 103 [],[some (.box [X,.ptr 1 0,.int .i64 d,.bool o]),some (.box (pre++[Y,.slice (.tok 5) 34 1 cs,.int .i64 mid,Z])),e2,e3,e4,some (.tok 1)],AD.put 7 0 cs rfl (fun i:Nat=>if i=5 then 7 else i) 6 (by simp [hB]) (by
   intro i j hi hj h
   rcases (by omega:i=0∨i=1∨i=2∨i=3∨i=4∨i=5) with rfl|rfl|rfl|rfl|rfl|rfl<;>rcases (by omega:j=0∨j=1∨j=2∨j=3∨j=4∨j=5) with rfl|rfl|rfl|rfl|rfl|rfl<;>simp at h ⊢) (by
   intro i hi;rw [hB] at hi;simp at hi
   rw [if_neg (by omega)]) rfl (by
   intro i hi;rcases (by omega:i=0∨i=1∨i=2∨i=3∨i=4∨i=5) with rfl|rfl|rfl|rfl|rfl|rfl
   ·simp [AH.at,Bj,Cr,AI,ren,AL,rX]
    exact mX
   ·simp [AH.at,Bj,Cr,AI,ren,AL,mY,mZ,mP,rY,rZ,rP,rC,Dn,q7,oo]
    exact ⟨mY,mZ⟩
   ·simp [AH.at,m2,r2]
   ·simp [AH.at,m3,r3]
   ·simp [AH.at,m4,r4]
   ·simp [AH.at,Bj,AI]) oV,rfl⟩
 |false =>
  have sY:=fun H fid ow=>yc (P:=zP) (H:=H) (fid:=fid) (ow:=ow) (ys:=cs) GL ho
  simp;refine LpD.turns DK hG [14,18] zL2 ?_;simp [hl,ht,hp,G4 HT,sY]
  refine ⟨mkT 103 [],[some (.box [X,.ptr 1 0,.int .i64 d,.bool o]),some (.box (pre++[Y,.slice (.tok 5) 34 1 cs,.int .i64 mid,Z])),e2,e3,e4,some (.tok 1)],AD.put 7 0 cs rfl (fun i:Nat=>if i=5 then 7 else i) 6 (by simp [hB]) (by
   intro i j hi hj h
   rcases (by omega:i=0∨i=1∨i=2∨i=3∨i=4∨i=5) with rfl|rfl|rfl|rfl|rfl|rfl<;>rcases (by omega:j=0∨j=1∨j=2∨j=3∨j=4∨j=5) with rfl|rfl|rfl|rfl|rfl|rfl<;>simp at h ⊢) (by
   intro i hi;rw [hB] at hi;simp at hi
   rw [if_neg (by omega)]) rfl (by
   intro i hi;rcases (by omega:i=0∨i=1∨i=2∨i=3∨i=4∨i=5) with rfl|rfl|rfl|rfl|rfl|rfl
   ·simp [AH.at,Bj,Cr,AI,ren,AL,rX]
    exact mX
   ·simp [AH.at,Bj,Cr,AI,ren,AL,mY,mZ,mP,rY,rZ,rP,rC,Dn,q7,oo]
    exact ⟨mY,mZ⟩
   ·simp [AH.at,m2,r2]
   ·simp [AH.at,m3,r3]
   ·simp [AH.at,m4,r4]
   ·simp [AH.at,Bj,AI]) oV,rfl⟩
theorem iQ (cs pre:List AV) (xs:List AV) (m:Nat) (hm:m<137438953472) (o8:lowL 0 xs=true) (X Y Z:AV) (e2 e3 e4:Option Ent) (mid:Int) (pg:0≤mid) (hp:pre.length=31) (hl:cs.length=34) (ho:cs.all AV.one=true) (hc:lowL 0 cs=true) (hx:low 5 X=true) (hy:low 5 Y=true) (hz:low 5 Z=true)
  (pY:lowL 0 pre=true) (h2:At 5 e2=true) (h3:At 5 e3=true) (h4:At 5 e4=true) (d:Int) (o:Bool) :
  CS zP A7 65 [.ptr 0 0,.agg cs] [some (.box [X,.ptr 1 0,.int .i64 d,.bool o]),some (.box (pre++[Y,.slice (.tok 5) 34 m xs,.int .i64 mid,Z])),e2,e3,e4,some (.tok m)] (.tup []) [some (.box [X,.ptr 1 0,.int .i64 d,.bool o]),some (.box (pre++[Y,.slice (.tok 5) 34 (m+1) (xs++cs),.int .i64 mid,Z])),e2,e3,e4,some (.tok (m+1))]:=by
 have lE6:∀{e:Option Ent},At 5 e=true→At 6 e=true:=fun {e} h=>by
  cases e with
  |none=>rfl
  |some e=>cases e with
   |box cs=>exact Am (by omega) _ h
   |loose n cs=>exact Am (by omega) _ h
   |stk n cs=>exact Am (by omega) _ h
   |_=>rfl
 have oV:AU 6 [some (.box [X,.ptr 1 0,.int .i64 d,.bool o]),some (.box (pre++[Y,.slice (.tok 5) 34 (m+1) (xs++cs),.int .i64 mid,Z])),e2,e3,e4,some (.tok (m+1))]=true:=by simp only [AU,lE6 h2,lE6 h3,lE6 h4,Bool.and_true,Bool.true_and];simp [CA (by omega:5≤6) X hx,CA (by omega:5≤6) Y hy,CA (by omega:5≤6) Z hz,Am (Nat.zero_le 6) pre pY,Am (Nat.zero_le 6) cs hc,Am (Nat.zero_le 6) xs o8]
 refine CS.of_TrN (H0:=[some (.box [X,.ptr 1 0,.int .i64 d,.bool o]),some (.box (pre++[Y,.slice (.tok 5) 34 m xs,.int .i64 mid,Z])),e2,e3,e4,some (.tok m)]) (H1:=[some (.box [X,.ptr 1 0,.int .i64 d,.bool o]),some (.box (pre++[Y,.slice (.tok 5) 34 (m+1) (xs++cs),.int .i64 mid,Z])),e2,e3,e4,some (.tok (m+1))]) 6 (by simp) (c:=Au Tryz.f65) Tryz.func65 (by kernel_rfl) 0 (by simp [Tryz.f65]) (fun B hB hG => ?_) (by simp) oV;refine Tr.post ?_;refine Tr.goD DK hG ?_;have qV:0≤mid:=pg;simp [Tryz.f65,hp,qV];have hf:∀i,i<5→(fun i:Nat=>i) i=i:=fun i hi=>rfl
 have l7:∀{a:AV},low 5 a=true→low 5 a=true:=fun h=>CA (by omega) _ h
 have mX:=Fg (t:=5) (n:=m) (xs:=cs) (l7 hx);have mY:=Fg (t:=5) (n:=m) (xs:=cs) (l7 hy);have mZ:=Fg (t:=5) (n:=m) (xs:=cs) (l7 hz);have mP:=J3 (t:=5) (n:=m) (xs:=cs) (Am (Nat.zero_le 5) pre pY)
 have lE:∀{e:Option Ent},At 5 e=true→At 5 e=true:=fun {e} h=>by
  cases e with
  |none=>rfl
  |some e=>cases e with
   |box cs=>exact Am (by omega) _ h
   |loose n cs=>exact Am (by omega) _ h
   |stk n cs=>exact Am (by omega) _ h
   |_=>rfl
 have m2:=GA (t:=5) (n:=m) (xs:=cs) (lE h2);have m3:=GA (t:=5) (n:=m) (xs:=cs) (lE h3);have m4:=GA (t:=5) (n:=m) (xs:=cs) (lE h4);have rX:=FC hf X hx;have rY:=FC hf Y hy;have rZ:=FC hf Z hz;have rP:=BZ (fun i:Nat=>i) pre pY;have rC:=BZ (fun i:Nat=>i) cs hc;have rS:=BZ (fun i:Nat=>i) xs o8;have r2:=Et hf h2;have r3:=Et hf h3;have r4:=Et hf h4
 have Dn:∀(φ:Nat→Nat) (a b:List AV),AL φ (a++b)=AL φ a++AL φ b:=fun φ a b=>by induction a with
  |nil=>rfl
  |cons x a ih=>simp [AL,ih]
 have q7:∀(r:AV),List.drop 33 (pre++[Y,r,.int .i64 mid,Z])=[.int .i64 mid,Z]:=fun r=>by rw [List.drop_append,List.drop_eq_nil_of_le (by omega),hp];rfl
 have oo:∀(a b c e:AV),List.take 32 (pre++[a,b,c,e])=pre++[a]:=fun a b c e=>by rw [List.take_append,List.take_of_length_le (by omega),hp];rfl
 have oP:=fun H fid ow ys (hk:AH.at H 5=some (.tok m)) (h:ys.all AV.one=true)=>Kz (P:=zP) (H:=H) (fid:=fid) (k:=5) (n:=m) (xs:=xs) (ow:=ow) (ys:=ys) GL hk (by omega) h
 have ht:cs.take 34=cs:=List.take_of_length_le (by omega);have pS:∀x∈cs,AV.one x=true:=fun x hx=>List.all_eq_true.1 ho x hx
 simp only [AV.one] at pS;refine LpD.coin DK hG (by kernel_rfl) (by kernel_rfl) (by kernel_rfl) (by simp [mkT]) ?_;intro x y;cases x with
 |true =>
  simp;refine LpD.turns DK hG [11,15] [] ?_;simp [hl,ht,hp,G4 HT,oP];rw [if_pos pS];simp [hl,ht,hp]
  refine ⟨mkT 103 [],[some (.box [X,.ptr 1 0,.int .i64 d,.bool o]),some (.box (pre++[Y,.slice (.tok 5) 34 (m+1) (xs++cs),.int .i64 mid,Z])),e2,e3,e4,some (.tok (m+1))],AD.put 5 m cs rfl (fun i:Nat=>i) 6 (by simp [hB]) (by
   intro i j hi hj h
   exact h) (by
   intro i hi
   rfl) rfl (by
   intro i hi;rcases (by omega:i=0∨i=1∨i=2∨i=3∨i=4∨i=5) with rfl|rfl|rfl|rfl|rfl|rfl
   ·simp [AH.at,Bj,Cr,AI,ren,AL,rX]
    exact mX
   ·simp [AH.at,Bj,Cr,AI,ren,AL,mY,mZ,mP,rY,rZ,rP,rC,rS,Dn,q7,oo]
    exact ⟨mY,mZ⟩
   ·simp [AH.at,m2,r2]
   ·simp [AH.at,m3,r3]
   ·simp [AH.at,m4,r4]
   ·simp [AH.at,Bj,AI]) oV,rfl⟩
 |false =>
  have sY:=fun H fid ow (hk:AH.at H 5=some (.tok m))=>Kz (P:=zP) (H:=H) (fid:=fid) (k:=5) (n:=m) (xs:=xs) (ow:=ow) (ys:=cs) GL hk (by omega) ho
  simp;refine LpD.turns DK hG [14,18] zL2 ?_;simp [hl,ht,hp,G4 HT,sY]
  refine ⟨mkT 103 [],[some (.box [X,.ptr 1 0,.int .i64 d,.bool o]),some (.box (pre++[Y,.slice (.tok 5) 34 (m+1) (xs++cs),.int .i64 mid,Z])),e2,e3,e4,some (.tok (m+1))],AD.put 5 m cs rfl (fun i:Nat=>i) 6 (by simp [hB]) (by
   intro i j hi hj h
   exact h) (by
   intro i hi
   rfl) rfl (by
   intro i hi;rcases (by omega:i=0∨i=1∨i=2∨i=3∨i=4∨i=5) with rfl|rfl|rfl|rfl|rfl|rfl
   ·simp [AH.at,Bj,Cr,AI,ren,AL,rX]
    exact mX
   ·simp [AH.at,Bj,Cr,AI,ren,AL,mY,mZ,mP,rY,rZ,rP,rC,rS,Dn,q7,oo]
    exact ⟨mY,mZ⟩
   ·simp [AH.at,m2,r2]
   ·simp [AH.at,m3,r3]
   ·simp [AH.at,m4,r4]
   ·simp [AH.at,Bj,AI]) oV,rfl⟩
end Go.Proofs.YtmjfldclpijghaaGreatDoor
namespace Go.Proofs.Fw
open Go.RowKit
theorem CS.unmask {P:Program} {E:Env} {f:FuncId} {args:List AV} {v:AV} {H K H':AH} (S:List Nat) (h:CS P E f args (mask H S) v K) (h1:∀id,(id∈S∨H.length≤id)→H'.at id=K.at id)
  (h2:∀id,id ∉ S→id<H.length→H'.at id=H.at id):CS P E f args H v H':=by
 intro g w cargs R hG hA;refine (h g w cargs (R.mask S) hG hA).mono ?_;rintro e w1 ⟨g1,cv,rfl,R1,p1,hr⟩
 have dec:∀id,(id∈S∨H.length≤id)∨(id ∉ S∧id<H.length):=fun id=>by
  by_cases hs:id∈S
  ·exact .inl (.inl hs)
  ·rcases Nat.lt_or_ge id H.length with hl|hl
   ·exact .inr ⟨hs,hl⟩
   ·exact .inl (.inr hl)
 have rI:∀id,id ∉ S→id<H.length→g1.M id=g.M id∧K.at id=some .hid:=fun id hs hl=>p1.hid id (I9 hs hl)
 have yI:∀b,(∀id e ge,H.at id=some e→e ≠ .hid→g.M id=some ge→ge.block≠b)→∀id e ge,(mask H S).at id=some e→e ≠ .hid→g.M id=some ge→ge.block≠b:=fun b hn id e ge he oL hM=>by
  have:H.at id=some e:=by
   rw [fd] at he
   split at he
   ·split at he
    ·exact he
    ·injection he with he;exact absurd he.symm oL
   ·cases he
  exact hn id e ge this oL hM
 refine ⟨g1,cv,rfl,⟨R1.imm,?_,?_,R1.inj,R1.blk⟩,⟨p1.le,?_,p1.new,?_,p1.size,p1.os,p1.tape,p1.output⟩,hr⟩
 ·intro id hn
  rcases dec id with hd|⟨hs,hl⟩
  ·rw [h1 id hd] at hn
   exact R1.free id hn
  ·rw [h2 id hs hl] at hn
   rw [(rI id hs hl).1];exact R.free id hn
 ·intro id e he oL
  rcases dec id with hd|⟨hs,hl⟩
  ·rw [h1 id hd] at he
   exact R1.ent id e he oL
  ·rw [h2 id hs hl] at he
   obtain ⟨ge,hM,o7⟩:=R.ent id e he oL;obtain ⟨h4,h5⟩:=rI id hs hl
   obtain ⟨h6,h7⟩:=p1.old ge.block (R.blk id ge hM) (fun id2 e2 ge2 ot vb vc hb=>by
    have:=R.inj id2 id ge2 ge vc hM hb;subst this;rw [I9 hs hl] at ot;injection ot with ot
    exact vb ot.symm)
   exact ⟨ge,h4.trans hM,o7.keep p1.le h6 h7⟩
 ·intro id hh
  rcases dec id with hd|⟨hs,hl⟩
  ·have hl:=DQ hh
   rcases hd with hs|rj
   ·have hm:(mask H S).at id=some .hid:=by rw [Kr hs hl,hh]
    obtain ⟨h3,h4⟩:=p1.hid id hm;exact ⟨h3,by rw [h1 id (.inl hs),h4]⟩
   ·omega
  ·obtain ⟨h3,h4⟩:=rI id hs hl
   exact ⟨h3,by rw [h2 id hs hl,hh]⟩
 ·exact fun b hb hn=>p1.old b hb (yI b hn)
theorem CS.graft {P:Program} {E:Env} {f:FuncId} {args:List AV} {v:AV} {k n:Nat} (φ:Nat→Nat) (S:List Nat) {H0 H0' H H':AH} (h:CS P E f args H0 v H0') (hk:H0.length=k) (hk':H0'.length=n) (ry:k≤n)
  (hφ:∀i j,i<n→j<n→φ i=φ j→i=j) (hE:∀i,low 0 (E.glob i)=true) (ha:lowL k args=true) (hv:low n v=true) (hl:AU k H0=true) (hl':AU n H0'=true) (oT:H'.length=H.length)
  (hH:∀i,i<k→(mask H S).at (φ i)=(H0.at i).map (AI φ)) (hN:∀i,k≤i→i<n→(mask H S).at (φ i)=none) (hH':∀i,i<n→(mask H' S).at (φ i)=(H0'.at i).map (AI φ))
  (hO:∀j,(∀i,i<n→φ i≠j)→H'.at j=H.at j) (hS:∀j,j ∉ S→j<H.length→H'.at j=H.at j):CS P E f (AL φ args) H (ren φ v) H':=by
 have h1:=CS.grow φ (H:=mask H S) (H':=mask H' S) h hk hk' ry hφ hE ha hv hl hl' hH hN hH' (by
  intro j hj
  rw [fd,fd,oT,hO j hj])
 refine CS.unmask S h1 ?_ hS;intro id hid;rw [fd,oT];rcases hid with hid|hid
 ·by_cases hl:id<H.length
  ·rw [if_pos hl,if_pos (by simpa using hid)]
  ·rw [if_neg hl,C7 (by omega)]
 ·rw [if_neg (by omega),C7 (by omega)]
end Go.Proofs.Fw
namespace Go.Proofs.YtmjfldclpijghaaGreatDoor
open Go.RowKit Go.Proofs.Fw
set_option maxRecDepth 100000
set_option maxHeartbeats 4000000
theorem iR {H:AH} {b T:Nat} (cs xs:List AV) (m:Nat) (hm:m<137438953472) (hl:cs.length=34) (ho:cs.all AV.one=true) (hc:lowL 0 cs=true) (hx:lowL 0 xs=true) (d:Int) (o:Bool)
  (hb:H.at b=some (.box [.slice (.tok T) 34 m xs,.nilPtr,.int .i64 d,.bool o])) (hT:H.at T=some (.tok m)) :
  CS zP A7 65 [.ptr b 0,.agg cs] H (.tup []) ((H.set b (some (.box [.slice (.tok T) 34 (m+1) (xs++cs),.nilPtr,.int .i64 d,.bool o]))).set T (some (.tok (m+1)))):=by
 have oL:b≠T:=fun h=>by subst h;rw [hb] at hT;cases hT
 have rn:=DQ hb;have hTl:=DQ hT;have two:∀{i:Nat},i<2→i=0∨i=1:=fun h=>by omega
 have l2:=fun (l:List AV) (h:lowL 0 l=true)=>Am (Nat.zero_le 2) l h
 have r0:=fun (l:List AV) (h:lowL 0 l=true)=>BZ (fun i:Nat=>if i=0 then b else T) l h
 have hxc:lowL 0 (xs++cs)=true:=by rw [Dd,hx,hc];rfl
 have:=CS.embed (k:=2) (fun i=>if i=0 then b else T) (H:=H) (H':=(H.set b (some (.box [.slice (.tok T) 34 (m+1) (xs++cs),.nilPtr,.int .i64 d,.bool o]))).set T (some (.tok (m+1))))
  (iH m hm hl ho hc hx d o) rfl rfl (by
   intro i j hi hj h;rcases two hi with rfl|rfl<;>rcases two hj with rfl|rfl
   ·rfl
   ·exact absurd h oL
   ·exact absurd h.symm oL
   ·rfl) HS (by simp [l2 cs hc]) rfl (by simp [AU,At,l2 xs hx]) (by simp [AU,At,l2 xs hx,l2 cs hc]) (by
   intro i hi;rcases two hi with rfl|rfl
   ·rw [if_pos rfl,hb]
    simp [AH.at,AI,AL,ren,r0 xs hx]
   ·rw [if_neg (by decide),hT]
    simp [AH.at,AI]) (by
   intro i hi;rcases two hi with rfl|rfl
   ·rw [if_pos rfl,aSn (fun h=>oL h.symm),JC hb]
    simp [AH.at,AI,AL,ren,r0 _ hxc]
   ·have:AH.at (H.set b (some (.box [.slice (.tok T) 34 (m+1) (xs++cs),.nilPtr,.int .i64 d,.bool o]))) T=some (.tok m):=by rw [aSn oL,hT]
    rw [if_neg (by decide),JC this]
    simp [AH.at,AI]) (by
   intro j hj;have h0:=hj 0 (by decide);have h1:=hj 1 (by decide);simp at h0 h1
   rw [aSn h1,aSn h0])
 simpa [AL,ren,r0 cs hc] using this
end Go.Proofs.YtmjfldclpijghaaGreatDoor
