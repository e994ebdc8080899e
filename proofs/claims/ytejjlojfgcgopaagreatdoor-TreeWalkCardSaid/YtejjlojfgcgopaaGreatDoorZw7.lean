/- The reference's reader of expressions: subs, factor. The ref .. The program's trees: put at any heap. -/
import Derived.Test.YtejjlojfgcgopaaGreatDoorZw6
import Derived.Shelf.Strings.OnBuilder
set_option linter.unusedSimpArgs false
set_option linter.unusedVariables false
namespace Go.Proofs.YtejjlojfgcgopaaGreatDoor
open Go.RowKit Go.Proofs.Fw
set_option maxRecDepth 100000
set_option maxHeartbeats 4000000
theorem CS.weak {P:Program} {E:Env} {f:FuncId} {args:List AV} {H H':AH} {v v':AV} (h:CS P E f args H v H') (hw:∀g cv,AA g v cv→AA g v' cv):CS P E f args H v' H':=fun g w cargs R hG hA=>by refine Calls.mono (h g w cargs R hG hA) ?_;rintro e w' ⟨g',cv,rfl,R',p,hr⟩;exact ⟨g',cv,rfl,R',p,hw _ _ hr⟩
theorem NJ {ow:Own} {sz n:Nat} {cs:List AV} (g:Gh) (cv:Value) (h:AA g (.slice ow sz n cs) cv):AA g (.slice .unk sz n cs) cv:=by simp only [AA] at h ⊢;obtain ⟨b,o,cap,vs,hv,h1,h2,h3,h4,h5⟩:=h;exact ⟨b,o,cap,vs,hv,h1,h2,h3,h4,trivial⟩
theorem Ue:Bu zP 40 4=true:=by kernel_rfl
def FY (a:List Ex):AV:=if a.length=1 then .slice .full 4 1 (B7 a) else .slice (.tok 1) 4 a.length (B7 a)
def Ec (ts:List Wd) (a:List Ex) (r:St):AH:=some (.box (rrC ts r.at_ r.err))::(if a.length=1 then [] else [some (.tok a.length)])
def Ih (a:List Ex):AV:=if a.length=1 then .slice .full 4 1 (B7 a) else .slice .unk 4 a.length (B7 a)
def jA (ts:List Wd) (sum:Rd) (dd n:Nat) (res:List Ex × St) (k:Nat) (t:List AV) (H:AH):Prop :=∃(a:List Ex) (r:St),Dh ts sum k a r=res∧k+a.length=6∧1≤a.length∧a.length≤4∧ts.length-r.at_<n∧r.deep=dd∧BO r.err∧t=mkT 45 [(0,.ptr 0 0),(1,.int .i64 (dd:Int)),(5,FY a)]∧H=Ec ts a r
structure Uf (O:Orc) (ts:List Wd) (sum:Rd) (n:Nat):Prop extends yLT O ts where
 sign:∀(a:Int) (x:Option (Nat × Nat)) (s:List UInt8) (H:AH),0≤a→BO x→O 196 [.ptr 0 0,.str s] (some (.box [AD ts,.int .i64 a,pAV x,.int .i64 (cI x)])::H) =
  some (.bool (Ac ts ⟨a.toNat,0,x⟩ s),some (.box [AD ts,.int .i64 a,pAV x,.int .i64 (cI x)])::H)
 fail:∀(a:Int) (x:Option (Nat × Nat)) (p e:Int) (H:AH),0≤a→BO x→0≤p→0≤e→O 195 [.ptr 0 0,.int .i64 p,.int .i64 e] (some (.box [AD ts,.int .i64 a,pAV x,.int .i64 (cI x)])::H) =
  some (.tup [],some (.box [AD ts,.int .i64 a,pAV (some (x.getD (p.toNat,e.toNat))),.int .i64 (cI (some (x.getD (p.toNat,e.toNat))))])::H)
 sum:JU O ts 193 sum n
theorem P6 {p e:Nat} (h:e≠0):BO (some (p,e)):=fun q hq=>by simp only [Option.some.injEq,Prod.mk.injEq] at hq;exact h hq.2
theorem jB (ts:List Wd) (po:ts.length<1000000) {O:Orc} (X:Cx O zP Ag) {sum:Rd} {n:Nat} (hO:Uf O ts sum n) (hu:upw sum) (hd:∀r,(sum r).2.deep=r.deep) (qR:okE sum)
  (a dd:Nat) (x:Option (Nat × Nat)) (hx:BO x) (hr:dd≤20) (hn:ts.length-a<n) {H:AH} {id:Nat} (hH:H.at id=some (.box (rrC ts a x))) :
  CS zP Ag 168 [.ptr id 0,.int .i64 (dd:Int)] H (Ih (C8 ts sum ⟨a,dd,x⟩).1) (H.set id (some (.box (rrC ts (C8 ts sum ⟨a,dd,x⟩).2.at_ (C8 ts sum ⟨a,dd,x⟩).2.err)))):=by
 refine CS.rd DO Tryz.func168 (by kernel_rfl) 0 (by simp [Tryz.f168]) (fun B hB hG => ?_) (by simp) (by unfold Ih;split<;>simp) (FX _ _ _) (FX _ _ _) hH;have rL:(dd:Int)≤20:=by omega
 have h1:=fun H=>hO.sum a dd x H (by omega) (by omega) rL hx (by simpa using hn)
 simp only [Int.toNat_natCast] at h1;have uf:=hu ⟨a,dd,x⟩;have qJ:=hd ⟨a,dd,x⟩;have rH:=qR ⟨a,dd,x⟩ hx;simp only [C8];generalize x4:sum ⟨a,dd,x⟩=p at *;obtain ⟨e,q⟩:=p;simp only at h1 uf qJ rH;refine Tr.goD X hG (by kernel_rfl) ?_;simp at h1;simp [Tryz.f168,h1];generalize uN:Dh ts sum 5 [e] q=res
 refine LpD.loopN X hG (by kernel_rfl) (jA ts sum dd n res) 5 (t':=mkT 45 [(0,.ptr 0 0),(1,.int .i64 (dd:Int)),(5,FY [e])]) (H':=Ec ts [e] q)
  (AF.mkK 1 (by simp [hB]) (by simp [FY,B7]) (by simp [Ec]) (by simp [Ec])) ⟨[e],q,uN,rfl,by simp,by simp,by omega,qJ,rH,rfl,rfl⟩ ?_
 rintro k t H ⟨a',r',pq,vL,tB,pv,hm,qu,qe,rfl,rfl⟩;obtain ⟨b,d,y⟩:=r';simp only at hm qu qe;subst qu;cases k with
 | zero=>omega
 | succ k =>
 have qk:=fun H=>hO.sign b y A7 H (by omega) qe
 simp [A7] at qk;have vH:Dh ts sum (k+1) a' ⟨b,d,y⟩=if Ac ts ⟨b,d,y⟩ A7 then (if 4≤a'.length then (a',(⟨b,d,y⟩:St).fail b 4) else Dh ts sum k (a'++[(sum (⟨b,d,y⟩:St).step).1]) (sum (⟨b,d,y⟩:St).step).2) else (a',CL ts ⟨b,d,y⟩ A0):=rfl
 rw [vH] at pq;have qO:∀s,Ac ts ⟨b,d,y⟩ s=Ac ts ⟨b,0,y⟩ s:=fun s=>rfl
 simp only [qO] at pq;cases hc:Ac ts ⟨b,0,y⟩ A7 with
 | false =>
  have hc':=hc;simp [A7] at hc';rw [hc] at pq;simp only [Bool.false_eq_true,if_false] at pq;cases hs:Ac ts ⟨b,0,y⟩ A0 with
  | true =>
   have ht:=fun H=>hO.tookT b y A0 H (by omega) qe (by simpa using hs)
   simp [A0] at ht;simp only [CL,qO,hs,if_true,St.step] at pq;subst pq
   by_cases ha:a'.length=1
   ·simp [FY,Ec,Ih,ha,qk,hc',Bt,ht]
   ·simp [FY,Ec,Ih,ha,qk,hc',Bt,ht,Gw]
  | false =>
   have ht:=fun H=>hO.tookF b y A0 H (by omega) qe (by simpa using hs)
   have qG:=fun H=>hO.fail b y b 2 H (by omega) qe (by omega) (by omega)
   simp [A0] at ht;simp at qG;simp only [CL,qO,hs,Bool.false_eq_true,if_false,HW] at pq;subst pq
   by_cases ha:a'.length=1
   ·simp [FY,Ec,Ih,ha,qk,hc',Bt,ht,qG]
   ·simp [FY,Ec,Ih,ha,qk,hc',Bt,ht,qG,Gw]
 | true =>
  have hl:b<ts.length:=FE hc;have hc':=hc;simp [A7] at hc';rw [hc] at pq;simp only [if_true] at pq;have w1:IntKind.i64.wrap ((b:Int)+1)=(b:Int)+1:=Ab (by omega) (by omega)
  by_cases h4:4≤a'.length
  ·have h4':(4:Int)≤a'.length:=by omega
   have ha:¬a'.length=1:=by omega
   have qG:=fun H=>hO.fail b y b 4 H (by omega) qe (by omega) (by omega)
   simp at qG;rw [if_pos h4] at pq;simp only [HW] at pq;subst pq;simp [FY,Ec,Ih,ha,qk,hc',h4',qG,Gw]
  ·have h4':¬(4:Int)≤a'.length:=by omega
   rw [if_neg h4] at pq;simp only [St.step] at pq;have h2:=fun H=>hO.sum (b+1:Nat) d y H (by omega) (by omega) rL qe (by simp only [Int.toNat_natCast];omega)
   have hu2:=hu ⟨b+1,d,y⟩;have qD:=hd ⟨b+1,d,y⟩;have rU:=qR ⟨b+1,d,y⟩ qe;simp only [Int.toNat_natCast] at h2;generalize sum ⟨b+1,d,y⟩=p at *;obtain ⟨e2,⟨b2,d2,y2⟩⟩:=p;simp only at hu2 qD rU pq;subst qD;simp at h2
   by_cases ha:a'.length=1
   ·have py:=fun H=>O5 (P:=zP) (t:=40) (sz:=4) (n:=1) (m:=1) (H:=H) (fid:=1) (ow := .full) (xs:=B7 a') Ue (by decide) (by decide) (NA e2)
    have h41:¬(4:Int)≤1:=by decide
    simp [FY,Ec,ha,qk,hc',h41,w1,h2,py]
    refine Nxt.mk k (by omega) (AF.mkK 2 (l':=[(0,.ptr 0 0),(1,.int .i64 (d2:Int)),(5,FY (a'++[e2]))]) (H':=Ec ts (a'++[e2]) ⟨b2,d2,y2⟩) (by simp [hB]) (by simp [FY,ha,HV,B7]) (by simp [Ec,ha]) (by simp [Ec,ha]))
     ⟨a'++[e2],⟨b2,d2,y2⟩,pq,?_,?_,?_,?_,rfl,rU,rfl,rfl⟩
    ·simp only [List.length_append,List.length_cons,List.length_nil] at vL ⊢;omega
    ·simp
    ·simp only [List.length_append,List.length_cons,List.length_nil];omega
    ·simp only;omega
   ·have py:=fun H (h:AH.at H 1=some (.tok a'.length))=>Em (P:=zP) (t:=40) (sz:=4) (m:=1) (H:=H) (fid:=2) (ow := .full) (xs:=B7 a') Ue h (by decide) (by omega) (NA e2)
    have h0:¬a'=[]:=fun h=>by rw [h] at tB;simp at tB
    simp [FY,Ec,ha,qk,hc',h4',w1,h2,py]
    refine Nxt.mk k (by omega) (AF.mkK 2 (l':=[(0,.ptr 0 0),(1,.int .i64 (d2:Int)),(5,FY (a'++[e2]))]) (H':=Ec ts (a'++[e2]) ⟨b2,d2,y2⟩) (by simp [hB]) (by simp [FY,h0,HV,B7]) (by simp [Ec,h0]) (by simp [Ec,h0]))
     ⟨a'++[e2],⟨b2,d2,y2⟩,pq,?_,?_,?_,?_,rfl,rU,rfl,rfl⟩
    ·simp only [List.length_append,List.length_cons,List.length_nil] at vL ⊢;omega
    ·simp
    ·simp only [List.length_append,List.length_cons,List.length_nil];omega
    ·simp only;omega
theorem CC:cI none=0:=AR rfl
structure Ug (O:Orc) (ts:List Wd) (n:Nat):Prop extends yLT O ts where
 sign:∀(a:Int) (x:Option (Nat × Nat)) (s:List UInt8) (H:AH),0≤a→BO x→O 196 [.ptr 0 0,.str s] (some (.box [AD ts,.int .i64 a,pAV x,.int .i64 (cI x)])::H) =
  some (.bool (Ac ts ⟨a.toNat,0,x⟩ s),some (.box [AD ts,.int .i64 a,pAV x,.int .i64 (cI x)])::H)
 fail:∀(a:Int) (x:Option (Nat × Nat)) (p e:Int) (H:AH),0≤a→BO x→0≤p→0≤e→O 195 [.ptr 0 0,.int .i64 p,.int .i64 e] (some (.box [AD ts,.int .i64 a,pAV x,.int .i64 (cI x)])::H) =
  some (.tup [],some (.box [AD ts,.int .i64 a,pAV (some (x.getD (p.toNat,e.toNat))),.int .i64 (cI (some (x.getD (p.toNat,e.toNat))))])::H)
 fac:JU O ts 225 (Az ts n) n
 sum:JU O ts 193 (Bx ts (Az ts n)) n
 subs:∀(a d:Int) (x:Option (Nat × Nat)) (H:AH),0≤a→0≤d→d≤20→BO x→ts.length-a.toNat<n→O 168 [.ptr 0 0,.int .i64 d] (some (.box [AD ts,.int .i64 a,pAV x,.int .i64 (cI x)])::H) =
  some (.slice .unk 4 (C8 ts (Bx ts (Az ts n)) ⟨a.toNat,d.toNat,x⟩).1.length (B7 (C8 ts (Bx ts (Az ts n)) ⟨a.toNat,d.toNat,x⟩).1),some (.box (rrC ts (C8 ts (Bx ts (Az ts n)) ⟨a.toNat,d.toNat,x⟩).2.at_ (C8 ts (Bx ts (Az ts n)) ⟨a.toNat,d.toNat,x⟩).2.err))::H)
theorem jC (ts:List Wd) (po:ts.length<1000000) {n:Nat} {O:Orc} (X:Cx O zP Ag) (hO:Ug O ts n) (vD:okE (Bx ts (Az ts n))) (a dd:Nat) (x:Option (Nat × Nat)) (hx:BO x) (hr:dd≤20) (hn:ts.length-a<n+1) {H:AH} {id:Nat} (hH:H.at id=some (.box (rrC ts a x))) :
  CS zP Ag 225 [.ptr id 0,.int .i64 (dd:Int)] H (CN (Az ts (n+1) ⟨a,dd,x⟩).1) (H.set id (some (.box (rrC ts (Az ts (n+1) ⟨a,dd,x⟩).2.at_ (Az ts (n+1) ⟨a,dd,x⟩).2.err)))):=by
 refine CS.rd DO Tryz.func225 (by kernel_rfl) 0 (by simp [Tryz.f225]) (fun B hB hG => ?_) (by simp) (by simp) (FX _ _ _) (FX _ _ _) hH;have rL:(dd:Int)≤20:=by omega
 have x6:Az ts (n+1) ⟨a,dd,x⟩=CF ts (Bx ts (Az ts n)) (Az ts n) ⟨a,dd,x⟩:=rfl;rw [x6];have qG:=fun H=>hO.fail a x a 2 H (by omega) hx (by omega) (by omega)
 simp at qG;refine Tr.goD X hG (by kernel_rfl) ?_;cases x with
 | some y =>
  have h1:CF ts (Bx ts (Az ts n)) (Az ts n) ⟨a,dd,some y⟩=(.none,⟨a,dd,some y⟩):=by simp [CF,St.fail]
  have h0:(cI (some y)==0)=false:=by rw [beq_eq_false_iff_ne];intro h;have:=(HY hx).1 h;cases this
  have h0':¬cI (some y)=0:=fun h=>by have:=(HY hx).1 h;cases this
  have ug:(cI (some y) != 0)=true:=by simp [bne,h0]
  simp [Tryz.f225,h0,h0',ug,h1,qG]
 | none =>
  by_cases hl:a<ts.length
  ·have hl':(a:Int)<ts.length:=by omega
   have p6:¬((ts.length:Int)≤a):=by omega
   obtain ⟨w,hw⟩:∃w,ts[a]? = some w:=⟨_,List.getElem?_eq_getElem hl⟩
   obtain ⟨c0,c1,c3⟩:=Ea hw;obtain ⟨cc1,cc2⟩:=KN ts a w hw;have w1:IntKind.i64.wrap ((a:Int)+1)=(a:Int)+1:=Ab (by omega) (by omega);have wd:IntKind.i64.wrap ((dd:Int)+1)=(dd:Int)+1:=Ab (by omega) (by omega)
   by_cases rU:w.kind=2
   ·have e2:(w.kind:Int)=2:=by omega
    have h1:CF ts (Bx ts (Az ts n)) (Az ts n) ⟨a,dd,none⟩=(.num w.n,⟨a+1,dd,none⟩):=by simp only [CF,hw,rU];rfl
    simp [Tryz.f225,CC,hl,hl',p6,cc1,cc2,BD,e2,w1,h1]
   ·have e2:¬(w.kind:Int)=2:=by omega
    have b2:(w.kind==2)=false:=by rw [beq_eq_false_iff_ne];exact rU
    have h0:0≤(a:Int)+1:=by omega
    by_cases rH:w.kind=1
    ·have e1:(w.kind:Int)=1:=by omega
     cases qX:Ac ts ⟨a+1,0,none⟩ Ay with
     | true =>
      have qI:a+1<ts.length:=FE qX
      have h1:CF ts (Bx ts (Az ts n)) (Az ts n) ⟨a,dd,none⟩=(.elem w.text (C8 ts (Bx ts (Az ts n)) ⟨a+1+1,dd,none⟩).1,(C8 ts (Bx ts (Az ts n)) ⟨a+1+1,dd,none⟩).2):=by have tD:Ac ts ⟨a+1,dd,none⟩ Ay=true:=qX;simp [CF,hw,rH,St.step,tD]
      have ht:=fun H=>hO.tookT ((a:Int)+1) none Ay H h0 Ct (by simpa using qX)
      have x8:=fun H=>hO.subs ((a:Int)+1+1) dd none H (by omega) (by omega) rL Ct (by omega)
      have en:((a:Int)+1+1).toNat=a+1+1:=by omega
      simp [Ay,CC] at ht;rw [h1];simp only [en,Int.toNat_natCast] at x8;generalize C8 ts (Bx ts (Az ts n)) ⟨a+1+1,dd,none⟩=p at *;simp [CC] at x8;simp [Tryz.f225,CC,hl,hl',p6,cc1,cc2,BD,e1,w1,ht];refine LpD.turns X hG [4,6] [(0,4),(1,4)] (by kernel_rfl) ?_;simp [x8]
     | false =>
      have h1:CF ts (Bx ts (Az ts n)) (Az ts n) ⟨a,dd,none⟩=(.var w.text,⟨a+1,dd,none⟩):=by have tD:Ac ts ⟨a+1,dd,none⟩ Ay=false:=qX;simp [CF,hw,rH,St.step,tD]
      have ht:=fun H=>hO.tookF ((a:Int)+1) none Ay H h0 Ct (by simpa using qX)
      simp [Ay,CC] at ht;simp [Tryz.f225,CC,hl,hl',p6,cc1,cc2,BD,e1,w1,ht,h1]
    ·have e1:¬(w.kind:Int)=1:=by omega
     have b1:(w.kind==1)=false:=by rw [beq_eq_false_iff_ne];exact rH
     have nx:∀s,Ac ts ⟨a,0,none⟩ s=isS ts a s:=fun s=>by simp [Ac]
     have rF:=fun H=>hO.sign a none Bb H (by omega) Ct
     have rk:=fun H=>hO.sign a none Ay H (by omega) Ct
     simp [Bb,nx,CC] at rF;simp [Ay,nx,CC] at rk;cases sC:isS ts a Bb with
     | true =>
      have tq:=sC;simp [Bb] at tq
      by_cases wE:20≤dd
      ·have uP:(20:Int)≤(dd:Int):=by omega
       have h1:CF ts (Bx ts (Az ts n)) (Az ts n) ⟨a,dd,none⟩=(.none,⟨a,dd,some (a,4)⟩):=by simp [CF,hw,b2,b1,sC,wE,St.fail]
       have wF:=fun H=>hO.fail a none a 4 H (by omega) Ct (by omega) (by omega)
       simp [CC] at wF;simp [Tryz.f225,CC,hl,hl',p6,cc1,cc2,BD,e2,e1,rF,rk,tq,uP,wF,h1]
      ·have uP:¬(20:Int)≤(dd:Int):=by omega
       have h1:CF ts (Bx ts (Az ts n)) (Az ts n) ⟨a,dd,none⟩=(.neg (Az ts n ⟨a+1,dd+1,none⟩).1,⟨(Az ts n ⟨a+1,dd+1,none⟩).2.at_,dd,(Az ts n ⟨a+1,dd+1,none⟩).2.err⟩):=by simp [CF,hw,b2,b1,sC,wE,FR,St.step]
       have ht:=fun H=>hO.tookT a none Bb H (by omega) Ct (by simp [nx,sC])
       have tW:=fun H=>hO.fac ((a:Int)+1) ((dd:Int)+1) none H h0 (by omega) (by omega) Ct (by omega)
       have en:((a:Int)+1).toNat=a+1:=by omega
       have en2:((dd:Int)+1).toNat=dd+1:=by omega
       simp [Bb,CC] at ht;rw [h1];simp only [en,en2] at tW;generalize Az ts n ⟨a+1,dd+1,none⟩=p at *;simp [CC] at tW;simp [Tryz.f225,CC,hl,hl',p6,cc1,cc2,BD,e2,e1,rF,rk,tq,uP,ht,tW,wd]
     | false =>
      have tq:=sC;simp [Bb] at tq;cases qX:isS ts a Ay with
      | true =>
       have tD:=qX;simp [Ay] at tD
       by_cases wE:20≤dd
       ·have uP:(20:Int)≤(dd:Int):=by omega
        have h1:CF ts (Bx ts (Az ts n)) (Az ts n) ⟨a,dd,none⟩=(.none,⟨a,dd,some (a,4)⟩):=by simp [CF,hw,b2,b1,sC,qX,wE,St.fail]
        have wF:=fun H=>hO.fail a none a 4 H (by omega) Ct (by omega) (by omega)
        simp [CC] at wF;simp [Tryz.f225,CC,hl,hl',p6,cc1,cc2,BD,e2,e1,rF,rk,tq,tD,uP,wF,h1]
       ·have uP:¬(20:Int)≤(dd:Int):=by omega
        have h1:CF ts (Bx ts (Az ts n)) (Az ts n) ⟨a,dd,none⟩=((Bx ts (Az ts n) ⟨a+1,dd+1,none⟩).1,CL ts ⟨(Bx ts (Az ts n) ⟨a+1,dd+1,none⟩).2.at_,dd,(Bx ts (Az ts n) ⟨a+1,dd+1,none⟩).2.err⟩ A0):=by simp [CF,hw,b2,b1,sC,qX,wE,FR,St.step]
        have ht:=fun H=>hO.tookF a none Bb H (by omega) Ct (by simp [nx,sC])
        have tW:=fun H=>hO.sum ((a:Int)+1) ((dd:Int)+1) none H h0 (by omega) (by omega) Ct (by omega)
        have ww:=vD ⟨a+1,dd+1,none⟩ Ct;have en:((a:Int)+1).toNat=a+1:=by omega
        have en2:((dd:Int)+1).toNat=dd+1:=by omega
        simp [Bb,CC] at ht;rw [h1];simp only [en,en2] at tW;generalize Bx ts (Az ts n) ⟨a+1,dd+1,none⟩=p at *;obtain ⟨e,⟨q,d2,y⟩⟩:=p;simp [CC] at tW;simp only at ww;have qO:Ac ts ⟨q,dd,y⟩ A0=Ac ts ⟨q,0,y⟩ A0:=rfl;cases wG:Ac ts ⟨q,0,y⟩ A0 with
        | true =>
         have tA:=fun H=>hO.tookT q y A0 H (by omega) ww (by simpa using wG)
         simp [A0] at tA;simp [Tryz.f225,CC,hl,hl',p6,cc1,cc2,BD,e2,e1,rF,rk,tq,tD,uP,ht,tW,wd,w1,tA,CL,qO,wG,St.step]
        | false =>
         have tA:=fun H=>hO.tookF q y A0 H (by omega) ww (by simpa using wG)
         have rp:=fun H=>hO.fail q y q 2 H (by omega) ww (by omega) (by omega)
         simp [A0] at tA;simp at rp;simp [Tryz.f225,CC,hl,hl',p6,cc1,cc2,BD,e2,e1,rF,rk,tq,tD,uP,ht,tW,wd,w1,tA,rp,CL,qO,wG,HW]
      | false =>
       have tD:=qX;simp [Ay] at tD;have h1:CF ts (Bx ts (Az ts n)) (Az ts n) ⟨a,dd,none⟩=(.none,⟨a,dd,some (a,2)⟩):=by simp [CF,hw,b2,b1,sC,qX,St.fail]
       simp [CC] at qG;simp [Tryz.f225,CC,hl,hl',p6,cc1,cc2,BD,e2,e1,rF,rk,tq,tD,qG,h1]
  ·have hw:ts[a]? = none:=List.getElem?_eq_none (by omega)
   have hl':¬(a:Int)<ts.length:=by omega
   have p6:((ts.length:Int)≤a):=by omega
   have h1:CF ts (Bx ts (Az ts n)) (Az ts n) ⟨a,dd,none⟩=(.none,⟨a,dd,some (a,2)⟩):=by simp only [CF,hw];rfl
   simp [CC] at qG;simp [Tryz.f225,CC,h1,qG,hl',p6]
theorem LU {r:St} {p e:Nat} (h:BO r.err) (he:e≠0):BO (r.fail p e).err:=by
 rw [HW];cases hx:r.err with
 | none=>exact P6 he
 | some y=>rw [hx] at h;exact h
theorem Uh {ts:List Wd} {r:St} {s:List UInt8} (h:BO r.err):BO (CL ts r s).err:=by
 unfold CL;split
 ·exact h
 ·exact LU h (by decide)
theorem P7 {ts:List Wd} {f:Rd} (h:okE f):∀(n:Nat) (a:List Ex) (r:St),BO r.err→BO (Dh ts f n a r).2.err
 | 0,_,_,hr=>hr
 | n+1,a,r,hr=>by
  simp only [Dh]
  split
  ·split
   ·exact LU hr (by decide)
   ·exact P7 h n _ _ (h r.step hr)
  ·exact Uh hr
theorem jD {ts:List Wd} {sf f:Rd} (hs:okE sf) (h:okE f):okE (CF ts sf f):=by
 intro r hr;unfold CF
 split
 ·rename_i t he ht
  split
  ·exact hr
  ·split
   ·split
    ·exact P7 hs 5 _ _ (hs r.step.step hr)
    ·exact hr
   ·split
    ·split
     ·exact LU hr (by decide)
     ·split
      ·exact h ⟨r.step.at_,r.step.deep+1,r.step.err⟩ hr
      ·exact Uh (hs ⟨r.step.at_,r.step.deep+1,r.step.err⟩ hr)
    ·exact LU hr (by decide)
 ·exact LU hr (by decide)
theorem Ii (ts:List Wd):∀n,okE (Az ts n)
 | 0=>fun _ h=>h
 | n+1=>jD (Gz (Gz (Ii ts n))) (Ii ts n)
theorem Ui {ts:List Wd} {f:Rd} (h:upw f):∀(n:Nat) (a:List Ex) (r:St),r.at_≤(Dh ts f n a r).2.at_
 | 0,_,_=>Nat.le_refl _
 | n+1,a,r=>by
  simp only [Dh]
  split
  ·split
   ·rw [Ic];exact Nat.le_refl _
   ·have h1:=h r.step
    have h2:=Ui h (ts:=ts) n (a++[(f r.step).1]) (f r.step).2;simp only [St.step] at h1 h2 ⊢;omega
  ·exact M8 ts r A0
theorem jE {ts:List Wd} {sf f:Rd} (hs:upw sf) (h:upw f):upw (CF ts sf f):=by
 intro r;unfold CF
 split
 ·split
  ·simp [St.step]
  ·split
   ·split
    ·have h1:=hs r.step.step
     have h2:=Ui (ts:=ts) hs 5 [(sf r.step.step).1] (sf r.step.step).2;simp only [C8,St.step] at h1 h2 ⊢;omega
    ·simp [St.step]
   ·split
    ·split
     ·rw [Ic];exact Nat.le_refl _
     ·split
      ·have:=h ⟨r.step.at_,r.step.deep+1,r.step.err⟩
       simp only [FR,St.step] at this ⊢;omega
      ·have h1:=hs ⟨r.step.at_,r.step.deep+1,r.step.err⟩
       have h2:=M8 ts (FR sf r.step).2 A0;simp only [FR,St.step] at h1 h2 ⊢;omega
    ·rw [Ic];exact Nat.le_refl _
 ·rw [Ic];exact Nat.le_refl _
theorem LV (ts:List Wd):∀n,upw (Az ts n)
 | 0=>fun _=>Nat.le_refl _
 | n+1=>jE (LS (LS (LV ts n))) (LV ts n)
theorem jG (ts:List Wd) (n:Nat):∀r,(Az ts n r).2.deep=r.deep:=(FS ts n).2.2.2.2
theorem jH (ts:List Wd) (n:Nat):∀r,(PJ ts (Az ts n) r).2.deep=r.deep:=(KF (ts:=ts) (f:=Du) (s:=Dv) (FS ts n) (by decide) 7 8).2.2.2.2
theorem Uj (ts:List Wd) (n:Nat):∀r,(Bx ts (Az ts n) r).2.deep=r.deep:=(IW (ts:=ts) (FS ts n)).2.2.2.2
def GT (ts:List Wd) (of:Rd) (n:Nat) (rest:List AV) (r:St):Option (AV × St):=match rest with
 | [.int .i64 d]=>if 0≤d∧d≤20∧ts.length-r.at_<n then some (CN (of ⟨r.at_,d.toNat,r.err⟩).1,(of ⟨r.at_,d.toNat,r.err⟩).2) else none
 | _=>none
def Ew (ts:List Wd) (g:FuncId) (of:Rd) (n:Nat):Prop:=AS zP Ag (oRr ts g (GT ts of n))
theorem Ew.mk' {ts:List Wd} {g:FuncId} {of:Rd} {n:Nat} (h:∀(a dd:Nat) (x:Option (Nat × Nat)),BO x→dd≤20→ts.length-a<n→∀H id,H.at id=some (.box (rrC ts a x)) →
  CS zP Ag g [.ptr id 0,.int .i64 (dd:Int)] H (CN (of ⟨a,dd,x⟩).1) (H.set id (some (.box (rrC ts (of ⟨a,dd,x⟩).2.at_ (of ⟨a,dd,x⟩).2.err))))):Ew ts g of n :=
 LR fun rest r v r' hs h0 hx H id hH=>by
  unfold GT at hs
  split at hs
  ·rename_i d
   split at hs
   ·rename_i hc
    injection hs with hs;simp only [Prod.mk.injEq] at hs;obtain ⟨rfl,rfl⟩:=hs;have:=h r.at_ d.toNat r.err hx (by omega) hc.2.2 H id hH
    rwa [Int.toNat_of_nonneg hc.1] at this
   ·cases hs
  ·cases hs
theorem NK {ts:List Wd} {g:FuncId} {of:Rd} {n:Nat}:JU (oRr ts g (GT ts of n)) ts g of n:=fun a d x H ha hd qD hx hm=>by rw [Hz hx (KT ha)];simp only [GT,if_pos (And.intro hd (And.intro qD hm)),Option.map_some,List.set_cons_zero]
noncomputable def oTG (ts:List Wd) (g:FuncId) (of:Rd) (n:Nat):Orc:=orElse (oRr ts 197 (Dz ts)) (oRr ts g (GT ts of n))
theorem Uk {ts:List Wd} (po:ts.length<1000000) {g:FuncId} {of:Rd} {n:Nat} (h:Ew ts g of n):Cx (oTG ts g of n) zP Ag:=⟨AS.orElse (Pz ts po) h,Dx,Af⟩
theorem Ul {ts:List Wd} {g:FuncId} {of:Rd} {n:Nat}:yLT (oTG ts g of n) ts where
 tookT:=fun a x s H ha hx hn=>by simp only [oTG,orElse,P0 s H ha hx hn]
 tookF:=fun a x s H ha hx hn=>by simp only [oTG,orElse,P1 s H ha hx hn]
theorem Um {ts:List Wd} {g:FuncId} {of:Rd} {n:Nat} (hg:g≠197):JU (oTG ts g of n) ts g of n:=fun a d x H ha hd qD hx hm=>by
 have:=NK (g:=g) (of:=of) (n:=n) a d x H ha hd qD hx hm;have h1:oRr ts 197 (Dz ts) g [.ptr 0 0,.int .i64 d] (some (.box [AD ts,.int .i64 a,pAV x,.int .i64 (cI x)])::H)=none:=by simp [oRr,hg]
 simp only [oTG,orElse,h1,this]
theorem jI {ts:List Wd} (po:ts.length<1000000) {n:Nat} (h:Ew ts 225 (Az ts n) n):Ew ts 215 (PJ ts (Az ts n)) n :=Ew.mk' fun a dd x hx hr hn H id hH=>i7 ts po (Uk po h) Ul (Um (by decide)) (LV ts n) (jG ts n) (Ii ts n) a dd x hx hr hn hH
theorem P8 {ts:List Wd} (po:ts.length<1000000) {n:Nat} (h:Ew ts 225 (Az ts n) n):Ew ts 193 (Bx ts (Az ts n)) n :=Ew.mk' fun a dd x hx hr hn H id hH=>i9 ts po (Uk po (jI po h)) Ul (Um (by decide)) (LS (LV ts n)) (jH ts n) (Gz (Ii ts n)) a dd x hx hr hn hH
noncomputable def oSb (ts:List Wd) (n:Nat):Orc:=A4 [(197,oRr ts 197 (Dz ts)),(196,oRr ts 196 (Eu ts)),
 (195,oRr ts 195 H5),(193,oRr ts 193 (GT ts (Bx ts (Az ts n)) n))]
theorem jJ {ts:List Wd} (po:ts.length<1000000) {n:Nat} (h:Ew ts 193 (Bx ts (Az ts n)) n):Cx (oSb ts n) zP Ag:=⟨FM (by
 intro p hp;simp only [List.mem_cons,List.not_mem_nil,or_false] at hp;rcases hp with rfl|rfl|rfl|rfl
 ·exact Pz ts po
 ·exact Pw ts
 ·exact Px ts
 ·exact h),Dx,Af⟩
theorem jK (ts:List Wd) (n:Nat):Uf (oSb ts n) ts (Bx ts (Az ts n)) n where
 tookT:=fun a x s H ha hx hn=>by rw [←P0 s H ha hx hn];simp [oSb,A4,List.lookup]
 tookF:=fun a x s H ha hx hn=>by rw [←P1 s H ha hx hn];simp [oSb,A4,List.lookup]
 sign:=fun a x s H ha hx=>by rw [←Py s H ha hx];simp [oSb,A4,List.lookup]
 fail:=fun a x p e H ha hx hp he=>by rw [←Ud p e H ha hx hp he];simp [oSb,A4,List.lookup]
 sum:=fun a d x H ha hd qD hx hm=>by rw [←NK (g:=193) (of:=Bx ts (Az ts n)) (n:=n) a d x H ha hd qD hx hm];simp [oSb,A4,List.lookup]
def JV (ts:List Wd) (n:Nat) (rest:List AV) (r:St):Option (AV × St):=match rest with
 | [.int .i64 d]=>if 0≤d∧d≤20∧ts.length-r.at_<n then some (.slice .unk 4 (C8 ts (Bx ts (Az ts n)) ⟨r.at_,d.toNat,r.err⟩).1.length (B7 (C8 ts (Bx ts (Az ts n)) ⟨r.at_,d.toNat,r.err⟩).1),(C8 ts (Bx ts (Az ts n)) ⟨r.at_,d.toNat,r.err⟩).2) else none
 | _=>none
theorem Un {ts:List Wd} (po:ts.length<1000000) {n:Nat} (h:Ew ts 193 (Bx ts (Az ts n)) n):AS zP Ag (oRr ts 168 (JV ts n)):=LR fun rest r v r' hs h0 hx H id hH=>by
 unfold JV at hs
 split at hs
 ·rename_i d
  split at hs
  ·rename_i hc
   injection hs with hs;simp only [Prod.mk.injEq] at hs;obtain ⟨rfl,rfl⟩:=hs;have:=jB ts po (jJ po h) (jK ts n) (LS (LS (LV ts n))) (Uj ts n) (Gz (Gz (Ii ts n))) r.at_ d.toNat r.err hx (by omega) hc.2.2 hH;rw [Int.toNat_of_nonneg hc.1] at this;refine CS.weak this fun g cv hr => ?_
   unfold Ih at hr
   split at hr
   ·rename_i hl
    rw [hl];exact NJ g cv hr
   ·exact hr
  ·cases hs
 ·cases hs
noncomputable def oYf (ts:List Wd) (n:Nat):Orc:=A4 [(197,oRr ts 197 (Dz ts)),(196,oRr ts 196 (Eu ts)),
 (195,oRr ts 195 H5),(193,oRr ts 193 (GT ts (Bx ts (Az ts n)) n)),
 (225,oRr ts 225 (GT ts (Az ts n) n)),(168,oRr ts 168 (JV ts n))]
theorem jL {ts:List Wd} (po:ts.length<1000000) {n:Nat} (h:Ew ts 225 (Az ts n) n):Cx (oYf ts n) zP Ag:=⟨FM (by
 intro p hp;simp only [List.mem_cons,List.not_mem_nil,or_false] at hp;rcases hp with rfl|rfl|rfl|rfl|rfl|rfl
 ·exact Pz ts po
 ·exact Pw ts
 ·exact Px ts
 ·exact P8 po h
 ·exact h
 ·exact Un po (P8 po h)),Dx,Af⟩
theorem jM (ts:List Wd) (n:Nat):Ug (oYf ts n) ts n where
 tookT:=fun a x s H ha hx hn=>by rw [←P0 s H ha hx hn];simp [oYf,A4,List.lookup]
 tookF:=fun a x s H ha hx hn=>by rw [←P1 s H ha hx hn];simp [oYf,A4,List.lookup]
 sign:=fun a x s H ha hx=>by rw [←Py s H ha hx];simp [oYf,A4,List.lookup]
 fail:=fun a x p e H ha hx hp he=>by rw [←Ud p e H ha hx hp he];simp [oYf,A4,List.lookup]
 fac:=fun a d x H ha hd qD hx hm=>by rw [←NK (g:=225) (of:=Az ts n) (n:=n) a d x H ha hd qD hx hm];simp [oYf,A4,List.lookup]
 sum:=fun a d x H ha hd qD hx hm=>by rw [←NK (g:=193) (of:=Bx ts (Az ts n)) (n:=n) a d x H ha hd qD hx hm];simp [oYf,A4,List.lookup]
 subs:=fun a d x H ha hd qD hx hm=>by
  have e1:oYf ts n 168 [.ptr 0 0,.int .i64 d] (some (.box [AD ts,.int .i64 a,pAV x,.int .i64 (cI x)])::H)=oRr ts 168 (JV ts n) 168 [.ptr 0 0,.int .i64 d] (some (.box [AD ts,.int .i64 a,pAV x,.int .i64 (cI x)])::H):=by simp [oYf,A4,List.lookup]
  rw [e1,Hz hx (KT ha)];simp only [JV,if_pos (And.intro hd (And.intro qD hm)),Option.map_some,List.set_cons_zero]
theorem Uo {ts:List Wd} (po:ts.length<1000000):∀n,Ew ts 225 (Az ts n) n
 | 0=>Ew.mk' fun a dd x _ _ hn=>absurd hn (Nat.not_lt_zero _)
 | n+1=>Ew.mk' fun a dd x hx hr hn H id hH=>jC ts po (jL po (Uo po n)) (jM ts n) (Gz (Gz (Ii ts n))) a dd x hx hr hn hH
theorem P9 {ts:List Wd} (po:ts.length<1000000):Ew ts 193 (B2 ts) (ts.length+1):=P8 po (Uo po _)
def DY (x:Option (Nat × Nat)):AV := .agg [pAV x,.int .i64 (cI x)]
def LW (x:Ex × Nat × Option (Nat × Nat)):AV := .tup [CN x.1,.int .i64 x.2.1,DY x.2.2]
theorem Up {ts:List Wd} {a d:Int} {x:Option (Nat × Nat)} {e0 e1:Option Ent} (H:AH) (ha:0≤a) (hd:0≤d) (qD:d≤20) (hx:BO x) :
  oRr ts 193 (GT ts (B2 ts) (ts.length+1)) 193 [.ptr 2 0,.int .i64 d] (e0::e1::some (.box [AD ts,.int .i64 a,pAV x,.int .i64 (cI x)])::H) =
   some (CN (B2 ts ⟨a.toNat,d.toNat,x⟩).1,e0::e1::some (.box (rrC ts (B2 ts ⟨a.toNat,d.toNat,x⟩).2.at_ (B2 ts ⟨a.toNat,d.toNat,x⟩).2.err))::H):=by
 have h0:AH.at (e0::e1::some (.box [AD ts,.int .i64 a,pAV x,.int .i64 (cI x)])::H) 2=some (.box (rrC ts (a.toNat:Nat) x)):=by simp [AH.at,Int.toNat_of_nonneg ha]
 rw [Hz hx h0];have h2:ts.length-a.toNat<ts.length+1:=by omega
 simp only [GT,if_pos (And.intro hd (And.intro qD h2)),Option.map_some,List.set_cons_succ,List.set_cons_zero]
@[simp] theorem buRR (ts:List Wd):A3 zP 293 [(0,AD ts)]=some (.agg [AD ts,.int .i64 0,.nilSlice,.int .i64 0]):=by
 unfold AD
 split<;>kernel_rfl
@[simp] theorem buWr:A3 zP 57 []=some (.agg [.nilSlice,.int .i64 0]):=by kernel_rfl
theorem LX:pAV none = .nilSlice:=AR rfl
theorem jN (ts:List Wd) (po:ts.length<1000000) (H:AH):CS zP Ag 169 [AD ts] H (LW (LG ts)) H:=by
 have X:Cx (oRr ts 193 (GT ts (B2 ts) (ts.length+1))) zP Ag:=⟨P9 po,Dx,Af⟩
 refine CS.tr0 DO Tryz.func169 (by kernel_rfl) 0 (by simp [Tryz.f169]) (fun B hB hG => ?_) (by simp [LW,DY]) (by simp) H;refine Tr.goD X hG (by kernel_rfl) ?_;have h1:=fun H e0 e1=>Up (ts:=ts) (a:=0) (d:=0) (x:=none) (e0:=e0) (e1:=e1) H (by omega) (by omega) (by omega) Ct
 have qR:=Gz (ts:=ts) (f:=EX) (s:=Bb) (one:=5) (two:=6) (Gz (ts:=ts) (f:=Du) (s:=Dv) (one:=7) (two:=8) (Ii ts (ts.length+1))) ⟨0,0,none⟩ Ct;have uh:BO (B2 ts ⟨0,0,none⟩).2.err:=qR;clear qR;simp only [LG];simp [LX,CC] at h1;generalize B2 ts ⟨0,0,none⟩=p at *;obtain ⟨e,⟨b,d,x⟩⟩:=p;simp only at h1 uh;cases x with
 | none =>simp [Tryz.f169,h1,CC];refine LpD.turns X hG [6,8] [(1,6),(2,6),(3,6),(4,6),(5,6)] (by kernel_rfl) ?_;simp [LW,DY,LX,CC]
 | some y =>
  have h0:(cI (some y)==0)=false:=by rw [beq_eq_false_iff_ne];intro h;have:=(HY uh).1 h;cases this
  have h0':¬cI (some y)=0:=fun h=>by have:=(HY uh).1 h;cases this
  have ug:(cI (some y) != 0)=true:=by simp [bne,h0]
  simp [Tryz.f169,h1,h0,h0',ug];refine LpD.turns X hG [5,7] [(1,5),(2,5),(3,5),(4,5)] (by kernel_rfl) ?_;simp [LW,DY]
def Ed (p:List UInt8→Bool):List (List UInt8)→Nat→Int
 | [],_ => -1
 | s::l,i=>if p s=true then (i:Int) else Ed p l (i+1)
theorem NL {p:List UInt8→Bool}:∀(l:List (List UInt8)) (i:Nat),(Ed p l i<0)↔∀s∈l,p s=false
 | [],i=>by simp [Ed]
 | s::l,i=>by
  unfold Ed
  by_cases h:p s=true
  ·rw [if_pos h]
   constructor
   ·intro hh;omega
   ·intro hh
    have:=hh s List.mem_cons_self;rw [h] at this;cases this
  ·rw [if_neg h,NL l (i+1)]
   simp only [List.mem_cons,forall_eq_or_imp];rw [Bool.not_eq_true] at h;simp [h]
def D0:List AV:=Ck.map .str
def IdxI (ts:List Wd) (r:St) (res:Int) (k:Nat) (t:List AV) (H:AH):Prop :=∃i,i+k=6∧Ed (Ac ts r) (Ck.drop i) i=res∧t=mkT 19 [(0,.slice .full 1 6 D0),(1,.func (.func 180) [.ptr 0 0] []),(7,.int .i64 6),(8,.int .i64 (i:Int))]∧H=[some (.box (r.cells ts))]
theorem jO (ts:List Wd) (r:St) {H:AH} {id:Nat} (hH:H.at id=some (.box (r.cells ts))) :
  CS zP Ag 179 [.slice .full 1 6 D0,.func (.func 180) [.ptr id 0] []] H (.int .i64 (Ed (Ac ts r) Ck 0)) (H.set id (some (.box (r.cells ts)))):=by
 have X:Cx (oRd ts 180 (Eu ts)) zP Ag:=⟨M3 ts,Dx,Af⟩
 have h0:CS zP Ag 179 [.slice .full 1 6 D0,.func (.func 180) [.ptr 0 0] []] [some (.box (r.cells ts))] (.int .i64 (Ed (Ac ts r) Ck 0)) [some (.box (r.cells ts))]:=by
  refine CS.of_Tr (c:=Ar Tryz.f179) Tryz.func179 (by kernel_rfl) 0 (by simp [Tryz.f179]) (fun B hB hG => ?_) rfl (by simp [St.cells]);refine Tr.goD X hG (by kernel_rfl) ?_;simp [Tryz.f179]
  refine LpD.loopN X hG (by kernel_rfl) (IdxI ts r (Ed (Ac ts r) Ck 0)) 6 (t':=mkT 19 [(0,.slice .full 1 6 D0),(1,.func (.func 180) [.ptr 0 0] []),(7,.int .i64 6),(8,.int .i64 ((0:Nat):Int))])
   (H':=[some (.box (r.cells ts))]) (AF.mkK 1 (by simp [hB]) (by simp [D0,Ck]) (by simp) (by simp [St.cells])) ⟨0,rfl,rfl,rfl,rfl⟩ ?_
  rintro k t H ⟨i,px,pq,rfl,rfl⟩;cases k with
  | zero =>
   obtain rfl:i=6:=by omega
   have:Ed (Ac ts r) (Ck.drop 6) 6 = -1:=rfl;rw [←pq,this];simp [Bt]
  | succ k =>
   have hi:i<6:=by omega
   have hi':(i:Int)<6:=by omega
   have hl:Ck.length=6:=rfl;have hd:Ck.drop i=Ck[i]'(by omega)::Ck.drop (i+1):=List.drop_eq_getElem_cons (by omega)
   have hg:D0[i]? = some (.str (Ck[i]'(by omega))):=by unfold D0;rw [List.getElem?_map,List.getElem?_eq_getElem (by omega:i<Ck.length)];rfl
   have qO:=fun H=>M4 (ts:=ts) (a:=r.at_) (d:=r.deep) (x:=r.err) (Ck[i]'(by omega)) H (by omega) (by omega)
   simp only [Int.toNat_natCast] at qO;have w1:IntKind.i64.wrap ((i:Int)+1)=(i:Int)+1:=Ab (by omega) (by omega);rw [hd,Ed] at pq;generalize Ck[i]'(by omega)=s at *;cases hn:Ac ts r s with
   | true =>rw [hn] at pq;simp only [if_true] at pq;have hn':Ac ts ⟨r.at_,r.deep,r.err⟩ s=true:=hn;rw [←pq];simp [hi,hi',hg,St.cells,qO,hn']
   | false =>rw [hn] at pq;simp only [Bool.false_eq_true,if_false] at pq;have hn':Ac ts ⟨r.at_,r.deep,r.err⟩ s=false:=hn;simp [hi,hi',hg,St.cells,qO,hn',w1];exact Nxt.mk k (by omega) (AF.mkK 1 (l':=[(0,.slice .full 1 6 D0),(1,.func (.func 180) [.ptr 0 0] []),(7,.int .i64 6),(8,.int .i64 ((i+1:Nat):Int))]) (H':=[some (.box (r.cells ts))]) (by simp [hB]) (by simp [D0,Ck]) (by simp [St.cells]) (by simp [St.cells])) ⟨i+1,by omega,pq,rfl,rfl⟩
 have:=CS.embed (k:=1) (fun _=>id) (H:=H) (H':=H.set id (some (.box (r.cells ts)))) h0 rfl rfl (MY id) DO (by simp [D0,Ck]) rfl (by simp [St.cells]) (by simp [St.cells])
  (fun i hi=>by
   obtain rfl:i=0:=by omega
   simp [AH.at,AI,BA _ (r.cells ts) (St.cells_low ts r)]
   exact hH)
  (fun i hi=>by
   obtain rfl:i=0:=by omega
   rw [Fs hH]
   simp [AH.at,AI,BA _ (r.cells ts) (St.cells_low ts r)])
  (fun j hj=>CZ (hj 0 (by omega)))
 simpa [AM,ren,D0,Ck] using this
open Classical in
noncomputable def oIx (ts:List Wd):Orc:=fun f args H=>if f=179 then (match args with
 | [.slice .full 1 6 l,.func (.func g) [.ptr id 0] []]=>if h:l=D0∧g=180∧∃r:St,H.at id=some (.box (r.cells ts)) then some (.int .i64 (Ed (Ac ts h.2.2.choose) Ck 0),H.set id (some (.box (h.2.2.choose.cells ts)))) else none
 | _=>none) else none
theorem jP {ts:List Wd} {id:Nat} {H:AH} {r:St} (h:H.at id=some (.box (r.cells ts))) :
  oIx ts 179 [.slice .full 1 6 D0,.func (.func 180) [.ptr id 0] []] H=some (.int .i64 (Ed (Ac ts r) Ck 0),H.set id (some (.box (r.cells ts)))):=by
 have hx:∃r:St,H.at id=some (.box (r.cells ts)):=⟨r,h⟩
 have hh:D0=D0∧180=180∧∃r:St,H.at id=some (.box (r.cells ts)):=⟨rfl,rfl,hx⟩
 have hc:=h.symm.trans hh.2.2.choose_spec;simp only [Option.some.injEq,Ent.box.injEq] at hc;have he:hh.2.2.choose=r:=(St.cells_inj hc).symm;simp only [oIx,if_true,dif_pos hh];rw [he]
theorem jQ (ts:List Wd):AS zP Ag (oIx ts):=by
 intro f args H v H' ho;unfold oIx at ho
 split at ho
 ·rename_i hf
  subst hf
  split at ho
  ·split at ho
   ·rename_i l g id hx
    injection ho with ho;simp only [Prod.mk.injEq] at ho;obtain ⟨rfl,rfl⟩:=ho;have hs:=hx.2.2.choose_spec;obtain ⟨rfl,rfl,_⟩:=hx;exact ⟨jO ts _ hs,by simp,fun j _ hj=>M2 hs hj⟩
   ·cases ho
  ·cases ho
 ·cases ho
theorem Uq {ts:List Wd} {a d:Int} {x:Option (Nat × Nat)} {e0:Option Ent} {H:AH} (ha:0≤a) (hd:0≤d):AH.at (e0::some (.box [AD ts,.int .i64 a,.int .i64 d,eAV x])::H) 1=some (.box ((⟨a.toNat,d.toNat,x⟩:St).cells ts)):=by simp [AH.at,St.cells,Int.toNat_of_nonneg ha,Int.toNat_of_nonneg hd]
noncomputable def oPC (ts:List Wd):Orc:=A4 [(178,oRd ts 178 (Gx ts (B6 ts) (ts.length+1))),(179,oIx ts),(181,oRd ts 181 F1)]
theorem jR {ts:List Wd} (po:ts.length<1000000):Cx (oPC ts) zP Ag:=⟨FM (by
 intro p hp;simp only [List.mem_cons,List.not_mem_nil,or_false] at hp;rcases hp with rfl|rfl|rfl
 ·exact UU po
 ·exact jQ ts
 ·exact KP ts),Dx,Af⟩
theorem NM {ts:List Wd} {a d:Int} {x:Option (Nat × Nat)} {e0:Option Ent} (H:AH) (ha:0≤a) (hd:0≤d) (qD:d≤20) :
  oPC ts 178 [.ptr 1 0] (e0::some (.box [AD ts,.int .i64 a,.int .i64 d,eAV x])::H)=some (CN (B6 ts ⟨a.toNat,d.toNat,x⟩).1,e0::some (.box ((B6 ts ⟨a.toNat,d.toNat,x⟩).2.cells ts))::H):=by
 rw [←UV H ha hd qD];simp [oPC,A4,List.lookup]
theorem jS {ts:List Wd} {a d:Int} {x:Option (Nat × Nat)} {e0:Option Ent} (H:AH) (ha:0≤a) (hd:0≤d) :
  oPC ts 179 [.slice .full 1 6 D0,.func (.func 180) [.ptr 1 0] []] (e0::some (.box [AD ts,.int .i64 a,.int .i64 d,eAV x])::H) =
   some (.int .i64 (Ed (Ac ts ⟨a.toNat,d.toNat,x⟩) Ck 0),e0::some (.box [AD ts,.int .i64 a,.int .i64 d,eAV x])::H):=by
 have e1:oPC ts 179 [.slice .full 1 6 D0,.func (.func 180) [.ptr 1 0] []] (e0::some (.box [AD ts,.int .i64 a,.int .i64 d,eAV x])::H)=oIx ts 179 [.slice .full 1 6 D0,.func (.func 180) [.ptr 1 0] []] (e0::some (.box [AD ts,.int .i64 a,.int .i64 d,eAV x])::H):=by simp [oPC,A4,List.lookup]
 rw [e1,jP (Uq ha hd)];simp [St.cells,Int.toNat_of_nonneg ha,Int.toNat_of_nonneg hd]
theorem jT {ts:List Wd} {a d:Int} {x:Option (Nat × Nat)} {e0:Option Ent} (p e:Int) (H:AH) (ha:0≤a) (hd:0≤d) (hp:0≤p) (he:0≤e) :
  oPC ts 181 [.ptr 1 0,.int .i64 p,.int .i64 e] (e0::some (.box [AD ts,.int .i64 a,.int .i64 d,eAV x])::H) =
   some (.tup [],e0::some (.box [AD ts,.int .i64 a,.int .i64 d,eAV (some (x.getD (p.toNat,e.toNat)))])::H):=by
 have e1:oPC ts 181 [.ptr 1 0,.int .i64 p,.int .i64 e] (e0::some (.box [AD ts,.int .i64 a,.int .i64 d,eAV x])::H)=oRd ts 181 F1 181 [.ptr 1 0,.int .i64 p,.int .i64 e] (e0::some (.box [AD ts,.int .i64 a,.int .i64 d,eAV x])::H):=by simp [oPC,A4,List.lookup]
 rw [e1,Hx (Uq ha hd)];simp [F1,HW,St.cells,Int.toNat_of_nonneg ha,Int.toNat_of_nonneg hd,hp,he]
def Ey (c:List UInt8 × Ex × Ex):AV := .agg (.str c.1::(exC c.2.1++exC c.2.2))
def JW (x:(List UInt8 × Ex × Ex) × Nat × Option (Nat × Nat)):AV := .tup [Ey x.1,.int .i64 x.2.1,eAV x.2.2]
@[simp] theorem buC0:A3 zP 29 []=some (.agg [.str [],.int .i64 0,.int .i64 0,.str [],.nilSlice,.int .i64 0,.int .i64 0,.str [],.nilSlice]):=by kernel_rfl
@[simp] theorem buC1 (a b c d:AV):A3 zP 29 [(1,.agg [a,b,c,d])]=some (.agg [.str [],a,b,c,d,.int .i64 0,.int .i64 0,.str [],.nilSlice]):=by kernel_rfl
@[simp] theorem bsRel:Ch zP 23 6 [(0,.str [60]),(1,.str [60,61]),(2,.str [62]),(3,.str [62,61]),(4,.str [61,61]),(5,.str [47,61])]=some (.slice .full 1 6 [.str [60],.str [60,61],.str [62],.str [62,61],.str [61,61],.str [47,61]]):=by kernel_rfl
theorem jU (ts:List Wd) (b d:Nat):(∃w,ts[b]? = some w∧Ed (Ac ts ⟨b,d,none⟩) Ck 0≥0∧Ca ts ⟨b,d,none⟩=(w.text,⟨b+1,d,none⟩)) ∨
  (Ed (Ac ts ⟨b,d,none⟩) Ck 0<0∧Ca ts ⟨b,d,none⟩=([],⟨b,d,some (b,2)⟩)):=by
 have nx:∀s,Ac ts ⟨b,d,none⟩ s=isS ts b s:=fun s=>by simp [Ac]
 cases hw:ts[b]? with
 | none =>right;refine ⟨(NL _ _).2 fun s _=>by rw [nx];simp [isS,hw],?_⟩;simp [Ca,hw,St.fail]
 | some w =>
  by_cases hr:(w.kind==3&&Fy w.text)=true
  ·left
   refine ⟨w,rfl,?_,?_⟩
   ·rcases Int.lt_or_le (Ed (Ac ts ⟨b,d,none⟩) Ck 0) 0 with h|h
    ·have h1:=(NL _ _).1 h
     simp only [Bool.and_eq_true,Fy,List.contains_iff_mem] at hr;have h2:=h1 w.text hr.2;rw [nx] at h2;simp [isS,hw,hr.1] at h2
    ·exact h
   ·simp [Ca,hw,hr,St.step]
  ·right
   refine ⟨(NL _ _).2 fun s hs => ?_,?_⟩
   ·rw [nx]
    simp only [isS,hw];rw [Bool.eq_false_iff];intro hh;apply hr;simp only [Bool.and_eq_true,beq_iff_eq] at hh ⊢;refine ⟨hh.1,?_⟩;rw [hh.2];simpa [Fy] using hs
   ·rw [Bool.not_eq_true] at hr
    simp [Ca,hw,hr,St.fail]
theorem jV (ts:List Wd):∀r,(B6 ts r).2.deep=r.deep:=Pl ts _
theorem jW (ts:List Wd) (po:ts.length<1000000) (H:AH):CS zP Ag 141 [AD ts] H (JW (CE ts)) H:=by
 have X:=jR po;refine CS.tr0 DO Tryz.func141 (by kernel_rfl) 0 (by simp [Tryz.f141]) (fun B hB hG => ?_) (by simp [JW,Ey]) (by simp) H;refine Tr.goD X hG (by kernel_rfl) ?_;have h1:=fun H e0=>NM (ts:=ts) (a:=0) (d:=0) (x:=none) (e0:=e0) H (by omega) (by omega) (by omega)
 have qu:=jV ts ⟨0,0,none⟩;simp only [CE];simp [St.cells,NB] at h1;generalize B6 ts ⟨0,0,none⟩=p at *;obtain ⟨e,⟨b,d,x⟩⟩:=p;simp only at h1 qu;subst qu;cases x with
 | some y =>
  have h2:=fun H e0=>NM (ts:=ts) (a:=b) (d:=0) (x:=some y) (e0:=e0) H (by omega) (by omega) (by omega)
  have hk:(B6 ts ⟨b,0,some y⟩).2.err=some y:=(IW (ts:=ts) (FS ts (ts.length+1))).2.1 _ _ rfl;simp [St.cells] at h2;have sE:Ca ts ⟨b,0,some y⟩=([],⟨b,0,some y⟩):=rfl;rw [sE];simp only;generalize B6 ts ⟨b,0,some y⟩=p2 at *;obtain ⟨e2,⟨b2,d2,x2⟩⟩:=p2;simp only at h2 hk;subst hk;simp [Tryz.f141,h1,h2];refine LpD.turns X hG [5] [(1,5),(2,5),(3,5),(4,5)] (by kernel_rfl) ?_;simp [JW,Ey]
 | none =>
  have wx:=fun H e0=>jS (ts:=ts) (a:=b) (d:=0) (x:=none) (e0:=e0) H (by omega) (by omega)
  simp [D0] at wx;have z6:List.map AV.str Ck=[.str [60],.str [60,61],.str [62],.str [62,61],.str [61,61],.str [47,61]]:=rfl;rw [z6] at wx;rcases jU ts b 0 with ⟨w,hw,tY,sE⟩|⟨p9,sE⟩
  ·have hl:b<ts.length:=(List.getElem?_eq_some_iff.1 hw).1
   have hl':(b:Int)<ts.length:=by omega
   obtain ⟨c0,c1,c3⟩:=Ea hw;have w1:IntKind.i64.wrap ((b:Int)+1)=(b:Int)+1:=Ab (by omega) (by omega);have z7:¬Ed (Ac ts ⟨b,0,none⟩) Ck 0<0:=by omega
   have h2:=fun H e0=>NM (ts:=ts) (a:=(b:Int)+1) (d:=0) (x:=none) (e0:=e0) H (by omega) (by omega) (by omega)
   have en:((b:Int)+1).toNat=b+1:=by omega
   simp only [en] at h2;rw [sE];simp only;simp [St.cells] at h2;generalize B6 ts ⟨b+1,0,none⟩=p2 at *;obtain ⟨e2,⟨b2,d2,x2⟩⟩:=p2;simp only at h2;simp [Tryz.f141,h1,wx,z7];refine LpD.turns X hG [12] [] (by kernel_rfl) ?_;simp [hl,hl',c1];cases x2 with
   | none =>simp [w1,h2];refine LpD.turns X hG [5] [(1,5),(2,5),(3,5),(4,5)] (by kernel_rfl) ?_;simp [JW,Ey,NB]
   | some y =>simp [w1,h2];refine LpD.turns X hG [5] [(1,5),(2,5),(3,5),(4,5)] (by kernel_rfl) ?_;simp [JW,Ey]
  ·have qG:=fun H e0=>jT (ts:=ts) (a:=b) (d:=0) (x:=none) (e0:=e0) b 2 H (by omega) (by omega) (by omega) (by omega)
   simp at qG;have h2:=fun H e0=>NM (ts:=ts) (a:=b) (d:=0) (x:=some (b,2)) (e0:=e0) H (by omega) (by omega) (by omega)
   have hk:(B6 ts ⟨b,0,some (b,2)⟩).2.err=some (b,2):=(IW (ts:=ts) (FS ts (ts.length+1))).2.1 _ _ rfl;simp [St.cells] at h2;rw [sE];simp only;generalize B6 ts ⟨b,0,some (b,2)⟩=p2 at *;obtain ⟨e2,⟨b2,d2,x2⟩⟩:=p2;simp only at h2 hk;subst hk;simp [Tryz.f141,h1,wx,p9,qG,h2];refine LpD.turns X hG [5] [(1,5),(2,5),(3,5),(4,5)] (by kernel_rfl) ?_;simp [JW,Ey]
theorem jX {s:List UInt8} (h:Fy s=false):(s==[60])=false∧(s==[60,61])=false∧(s==[62])=false∧(s==[62,61])=false∧(s==[61,61])=false∧(s==[47,61])=false:=by simpa [Fy,Ck] using h
theorem jY {s:List UInt8} (h:Fy s=true):s=[60]∨s=[60,61]∨s=[62]∨s=[62,61]∨s=[61,61]∨s=[47,61]:=by simpa [Fy,Ck] using h
theorem jZ (s:List UInt8) (H:AH):CS zP Ag 194 [.str s] H (.bool (Fy s)) H:=by
 refine CS.tr0 DO Tryz.func194 (by kernel_rfl) 0 (by simp [Tryz.f194]) (fun B hB hG => ?_) rfl rfl H;refine Tr.goD KM hG (by kernel_rfl) ?_;cases h:Fy s with
 | true =>rcases jY h with rfl|rfl|rfl|rfl|rfl|rfl<;>simp [Tryz.f194]
 | false =>obtain ⟨h1,h2,h3,h4,h5,h6⟩:=jX h;simp [Tryz.f194,h1,h2,h3,h4,h5,h6]
def QA:Orc:=Bw 194 (fun args=>match args with
 | [.str s]=>some s
 | _=>none) fun s => .bool (Fy s)
theorem ja:AS zP Ag QA:=D7 fun args x H h=>by
 split at h
 ·injection h with h
  subst h;exact jZ _ H
 ·cases h
theorem jb {ts:List Wd} {a:Int} {x:Option (Nat × Nat)} {e0 e1:Option Ent} {H:AH} (ha:0≤a):AH.at (e0::e1::some (.box [AD ts,.int .i64 a,pAV x,.int .i64 (cI x)])::H) 2=some (.box (rrC ts (a.toNat:Nat) x)):=by simp [AH.at,Int.toNat_of_nonneg ha]
noncomputable def oYC (ts:List Wd):Orc:=A4 [(193,oRr ts 193 (GT ts (B2 ts) (ts.length+1))),(194,QA),(195,oRr ts 195 H5)]
theorem jc {ts:List Wd} (po:ts.length<1000000):Cx (oYC ts) zP Ag:=⟨FM (by
 intro p hp;simp only [List.mem_cons,List.not_mem_nil,or_false] at hp;rcases hp with rfl|rfl|rfl
 ·exact P9 po
 ·exact ja
 ·exact Px ts),Dx,Af⟩
theorem Ur {ts:List Wd} {a d:Int} {x:Option (Nat × Nat)} {e0 e1:Option Ent} (H:AH) (ha:0≤a) (hd:0≤d) (qD:d≤20) (hx:BO x) :
  oYC ts 193 [.ptr 2 0,.int .i64 d] (e0::e1::some (.box [AD ts,.int .i64 a,pAV x,.int .i64 (cI x)])::H) =
   some (CN (B2 ts ⟨a.toNat,d.toNat,x⟩).1,e0::e1::some (.box (rrC ts (B2 ts ⟨a.toNat,d.toNat,x⟩).2.at_ (B2 ts ⟨a.toNat,d.toNat,x⟩).2.err))::H):=by
 rw [←Up H ha hd qD hx];simp [oYC,A4,List.lookup]
theorem QB {ts:List Wd} (s:List UInt8) (H:AH):oYC ts 194 [.str s] H=some (.bool (Fy s),H):=by simp [oYC,A4,List.lookup,QA,Bw]
theorem jd {ts:List Wd} {a:Int} {x:Option (Nat × Nat)} {e0 e1:Option Ent} (p e:Int) (H:AH) (ha:0≤a) (hx:BO x) (hp:0≤p) (he:0≤e) :
  oYC ts 195 [.ptr 2 0,.int .i64 p,.int .i64 e] (e0::e1::some (.box [AD ts,.int .i64 a,pAV x,.int .i64 (cI x)])::H) =
   some (.tup [],e0::e1::some (.box [AD ts,.int .i64 a,pAV (some (x.getD (p.toNat,e.toNat))),.int .i64 (cI (some (x.getD (p.toNat,e.toNat))))])::H):=by
 have e2:oYC ts 195 [.ptr 2 0,.int .i64 p,.int .i64 e] (e0::e1::some (.box [AD ts,.int .i64 a,pAV x,.int .i64 (cI x)])::H)=oRr ts 195 H5 195 [.ptr 2 0,.int .i64 p,.int .i64 e] (e0::e1::some (.box [AD ts,.int .i64 a,pAV x,.int .i64 (cI x)])::H):=by simp [oYC,A4,List.lookup]
 rw [e2,Hz hx (jb ha)];simp [H5,hp,he,Int.toNat_of_nonneg ha]
def H7 (x:(List UInt8 × Ex × Ex) × Nat × Option (Nat × Nat)):AV := .tup [Ey x.1,.int .i64 x.2.1,DY x.2.2]
@[simp] theorem buD0:A3 zP 44 []=some (.agg [.str [],.int .i64 0,.int .i64 0,.str [],.nilSlice,.int .i64 0,.int .i64 0,.str [],.nilSlice]):=by kernel_rfl
@[simp] theorem buD1 (a b c d:AV):A3 zP 44 [(1,.agg [a,b,c,d])]=some (.agg [.str [],a,b,c,d,.int .i64 0,.int .i64 0,.str [],.nilSlice]):=by kernel_rfl
theorem je (ts:List Wd):∀r,(B2 ts r).2.deep=r.deep:=Uj ts _
theorem JX (ts:List Wd):okE (B2 ts):=Gz (Gz (Ii ts _))
theorem jf (ts:List Wd) (po:ts.length<1000000) (H:AH):CS zP Ag 165 [AD ts] H (H7 (LH ts)) H:=by
 have X:=jc po;refine CS.tr0 DO Tryz.func165 (by kernel_rfl) 0 (by simp [Tryz.f165]) (fun B hB hG => ?_) (by simp [H7,Ey,DY]) (by simp) H;refine Tr.goD X hG (by kernel_rfl) ?_;have h1:=fun H e0 e1=>Ur (ts:=ts) (a:=0) (d:=0) (x:=none) (e0:=e0) (e1:=e1) H (by omega) (by omega) (by omega) Ct
 have qu:=je ts ⟨0,0,none⟩;have uh:=JX ts ⟨0,0,none⟩ Ct;simp only [LH];simp [LX,CC] at h1;generalize B2 ts ⟨0,0,none⟩=p at *;obtain ⟨e,⟨b,d,x⟩⟩:=p;simp only at h1 qu uh;subst qu;cases x with
 | some y =>
  have h0:(cI (some y)==0)=false:=by rw [beq_eq_false_iff_ne];intro h;have:=(HY uh).1 h;cases this
  have h0':¬cI (some y)=0:=fun h=>by have:=(HY uh).1 h;cases this
  have ug:(cI (some y) != 0)=true:=by simp [bne,h0]
  have sE:Ca ts ⟨b,0,some y⟩=([],⟨b,0,some y⟩):=rfl;rw [sE];simp only;simp [Tryz.f165,h1,h0,h0',ug];refine LpD.turns X hG [5,7] [(1,5),(2,5),(3,5),(4,5)] (by kernel_rfl) ?_;simp [H7,Ey,DY]
 | none =>
  have qG:=fun H e0 e1=>jd (ts:=ts) (a:=b) (x:=none) (e0:=e0) (e1:=e1) b 2 H (by omega) Ct (by omega) (by omega)
  simp [CC] at qG;have c2:cI (some (b,2))=2:=rfl
  by_cases hl:b<ts.length
  ·have hl':(b:Int)<ts.length:=by omega
   have p6:¬((ts.length:Int)≤b):=by omega
   obtain ⟨w,hw⟩:∃w,ts[b]? = some w:=⟨_,List.getElem?_eq_getElem hl⟩
   obtain ⟨c0,c1,c3⟩:=Ea hw
   by_cases hk:w.kind=3
   ·have hk':(w.kind:Int)=3:=by omega
    cases wH:Fy w.text with
    | true =>
     have sE:Ca ts ⟨b,0,none⟩=(w.text,⟨b+1,0,none⟩):=by simp [Ca,hw,hk,wH,St.step]
     have w1:IntKind.i64.wrap ((b:Int)+1)=(b:Int)+1:=Ab (by omega) (by omega);have h2:=fun H e0 e1=>Ur (ts:=ts) (a:=(b:Int)+1) (d:=0) (x:=none) (e0:=e0) (e1:=e1) H (by omega) (by omega) (by omega) Ct
     have u6:=JX ts ⟨b+1,0,none⟩ Ct;have en:((b:Int)+1).toNat=b+1:=by omega
     simp only [en] at h2;rw [sE];simp only;simp [CC] at h2;generalize B2 ts ⟨b+1,0,none⟩=p2 at *;obtain ⟨e2,⟨b2,d2,x2⟩⟩:=p2;simp only at h2 u6;cases x2 with
     | none =>simp [Tryz.f165,h1,CC,hl,hl',p6,c0,c1,hk',QB,wH,w1,h2];refine LpD.turns X hG [6,8] [(1,6),(2,6),(3,6),(4,6),(5,6)] (by kernel_rfl) ?_;simp [H7,Ey,DY,LX,CC]
     | some y =>
      have h0:(cI (some y)==0)=false:=by rw [beq_eq_false_iff_ne];intro h;have:=(HY u6).1 h;cases this
      have h0':¬cI (some y)=0:=fun h=>by have:=(HY u6).1 h;cases this
      have ug:(cI (some y) != 0)=true:=by simp [bne,h0]
      simp [Tryz.f165,h1,CC,hl,hl',p6,c0,c1,hk',QB,wH,w1,h2,h0,h0',ug];refine LpD.turns X hG [5,7] [(1,5),(2,5),(3,5),(4,5)] (by kernel_rfl) ?_;simp [H7,Ey,DY]
    | false =>
     have sE:Ca ts ⟨b,0,none⟩=([],⟨b,0,some (b,2)⟩):=by simp [Ca,hw,hk,wH,St.fail]
     rw [sE];simp only;simp [Tryz.f165,h1,CC,hl,hl',p6,c0,c1,hk',QB,wH,qG,c2];refine LpD.turns X hG [5,7] [(1,5),(2,5),(3,5),(4,5)] (by kernel_rfl) ?_;simp [H7,Ey,DY,c2]
   ·have hk':((w.kind:Int)==3)=false:=by rw [beq_eq_false_iff_ne];omega
    have rU:¬(w.kind:Int)=3:=by omega
    have rV:((w.kind:Int) != 3)=true:=by simp [bne,hk']
    have sE:Ca ts ⟨b,0,none⟩=([],⟨b,0,some (b,2)⟩):=by simp [Ca,hw,hk,St.fail]
    rw [sE];simp only;simp [Tryz.f165,h1,CC,hl,hl',p6,c0,c1,hk',rU,rV,qG,c2];refine LpD.turns X hG [5,7] [(1,5),(2,5),(3,5),(4,5)] (by kernel_rfl) ?_;simp [H7,Ey,DY,c2]
  ·have hw:ts[b]? = none:=List.getElem?_eq_none (by omega)
   have hl':¬(b:Int)<ts.length:=by omega
   have p6:((ts.length:Int)≤b):=by omega
   have sE:Ca ts ⟨b,0,none⟩=([],⟨b,0,some (b,2)⟩):=by simp [Ca,hw,St.fail]
   rw [sE];simp only;simp [Tryz.f165,h1,CC,hl',p6,qG,c2];refine LpD.turns X hG [5,7] [(1,5),(2,5),(3,5),(4,5)] (by kernel_rfl) ?_;simp [H7,Ey,DY,c2]
inductive Tn where
 | lf (k n:Int) (s:List UInt8)
 | nd (k n:Int) (s:List UInt8) (a:List Tn)
 deriving Inhabited
mutual
def tC:Tn→List AV
 | .lf k n s=>[.int .i64 k,.int .i64 n,.str s,.nilSlice]
 | .nd k n s a=>[.int .i64 k,.int .i64 n,.str s,.slice .unk 4 a.length (tsC a)]
def tsC:List Tn→List AV
 | []=>[]
 | t::l=>tC t++tsC l
end
def Tn.k:Tn→Int
 | .lf k _ _=>k
 | .nd k _ _ _=>k
def Tn.n:Tn→Int
 | .lf _ n _=>n
 | .nd _ n _ _=>n
def Tn.s:Tn→List UInt8
 | .lf _ _ s=>s
 | .nd _ _ s _=>s
def Tn.kids:Tn→List Tn
 | .lf _ _ _=>[]
 | .nd _ _ _ a=>a
def Tn.ar (t:Tn):AV:=(tC t).getD 3 .undef
@[simp] theorem CT (t:Tn):tC t=[.int .i64 t.k,.int .i64 t.n,.str t.s,t.ar]:=by cases t<;>rfl
theorem QC:∀a b:List Tn,tsC (a++b)=tsC a++tsC b
 | [],b=>rfl
 | t::a,b=>by rw [List.cons_append,tsC,tsC,QC a b,List.append_assoc]
mutual
theorem QD:∀t:Tn,lowL 0 (tC t)=true
 | .lf _ _ _=>rfl
 | .nd _ _ _ a=>by rw [tC];have:=KU a;simp [this]
theorem KU:∀l:List Tn,lowL 0 (tsC l)=true
 | []=>rfl
 | t::l=>by rw [tsC,Dt,QD t,KU l];rfl
end
@[simp ↓ high] theorem jg (t:Tn):low 0 t.ar=true:=by have:=QD t;rw [CT] at this;simpa using this
@[simp ↓ high] theorem oi (m:Nat) (t:Tn):low m t.ar=true:=M6 m (jg t)
@[simp ↓ high] theorem oj (t:Tn):Bg t.ar=[]:=by cases t<;>rfl
@[simp ↓ high] theorem ol (t:Tn):t.ar.known=true:=by cases t<;>rfl
@[simp ↓ high] theorem om (t:Tn):t.ar.one=true:=by cases t<;>rfl
@[simp ↓ high] theorem oo (t:Tn):At t.ar=[t.ar]:=by cases t<;>rfl
theorem LY:∀l:List Tn,(tsC l).length=l.length*4
 | []=>rfl
 | t::l=>by rw [tsC,List.length_append,LY l,CT];simp;omega
theorem Us:∀(l:List Tn) (i:Nat) {t:Tn},l[i]? = some t→((tsC l).drop (i*4)).take 4=tC t∧i*4+4≤(tsC l).length
 | [],i,t,h=>by simp at h
 | x::l,i,t,h=>by
  have hc:tsC (x::l)=tC x++tsC l:=rfl;have hx:(tC x).length=4:=by simp
  cases i with
  | zero =>simp only [List.getElem?_cons_zero,Option.some.injEq] at h;subst h;rw [hc];refine ⟨?_,by rw [List.length_append,hx];omega⟩;rw [Nat.zero_mul,List.drop_zero,List.take_append_of_le_length (by omega),List.take_of_length_le (by omega)]
  | succ i =>simp only [List.getElem?_cons_succ] at h;obtain ⟨h1,h2⟩:=Us l i h;rw [hc];refine ⟨?_,by simp only [List.length_append,hx];omega⟩;rw [List.drop_append,List.drop_of_length_le (by omega),hx,List.nil_append,show (i+1)*4-4=i*4 by omega];exact h1
mutual
theorem NN:∀(t u:Tn),tC t=tC u→t=u
 | .lf _ _ _,.lf _ _ _,h=>by simp only [tC,List.cons.injEq,AV.int.injEq,AV.str.injEq,true_and,and_true] at h;obtain ⟨rfl,rfl,rfl⟩:=h;rfl
 | .lf _ _ _,.nd _ _ _ _,h=>by simp [tC] at h
 | .nd _ _ _ _,.lf _ _ _,h=>by simp [tC] at h
 | .nd _ _ _ a,.nd _ _ _ b,h=>by simp only [tC,List.cons.injEq,AV.int.injEq,AV.str.injEq,AV.slice.injEq,true_and,and_true] at h;obtain ⟨rfl,rfl,rfl,_,h⟩:=h;rw [Ut a b h]
theorem Ut:∀(a b:List Tn),tsC a=tsC b→a=b
 | [],[],_=>rfl
 | [],t::b,h=>by rw [tsC,tsC,CT] at h;simp at h
 | t::a,[],h=>by rw [tsC,tsC,CT] at h;simp at h
 | t::a,u::b,h=>by rw [tsC,tsC] at h;have:=List.append_inj h (by simp);rw [NN t u this.1,Ut a b this.2]
end
mutual
def okT:Tn→Bool
 | .lf _ _ _=>true
 | .nd _ _ _ a=>decide (a.length<4294967296)&&Di a
def Di:List Tn→Bool
 | []=>true
 | t::l=>okT t&&Di l
end
theorem Uu:∀{l:List Tn},Di l=true→∀t∈l,okT t=true
 | [],_,_,h=>by cases h
 | u::l,h,t,ht=>by
  simp only [Di,Bool.and_eq_true] at h;rcases List.mem_cons.1 ht with rfl|ht
  ·exact h.1
  ·exact Uu h.2 t ht
theorem jh {t:Tn} (h:okT t=true):t.kids.length<4294967296:=by
 cases t with
 | lf=>simp [Tn.kids]
 | nd k n s a=>simp only [okT,Bool.and_eq_true,decide_eq_true_eq] at h;exact h.1
theorem ji {t u:Tn} (h:okT t=true) (hu:u∈t.kids):okT u=true:=by
 cases t with
 | lf=>simp [Tn.kids] at hu
 | nd k n s a=>simp only [okT,Bool.and_eq_true,decide_eq_true_eq] at h;exact Uu h.2 u hu
theorem jj {t u:Tn} (hu:u∈t.kids):SizeOf.sizeOf u<SizeOf.sizeOf t:=by
 cases t with
 | lf=>simp [Tn.kids] at hu
 | nd k n s a =>have:=List.sizeOf_lt_of_mem (show u∈a from hu);simp only [Tn.nd.sizeOf_spec];omega
@[simp high] theorem oq (t:Tn):alen zP 25 t.ar=some (.int .i64 t.kids.length):=by cases t<;>simp [Tn.ar,tC,Tn.kids,alen]
@[simp high] theorem ot (t:Tn):alen zP 40 t.ar=some (.int .i64 t.kids.length):=by cases t<;>simp [Tn.ar,tC,Tn.kids,alen]
@[simp high] theorem ou {t:Tn} {i:Nat} (h:i<t.kids.length):Av zP 25 t.ar (.int .i64 (i:Int))=some (.vptr (tsC t.kids) (i*4)):=by
 cases t with
 | lf=>simp [Tn.kids] at h
 | nd k n s a =>
  have h':i<a.length:=h;have:(i:Int)<a.length:=by omega
  simp [Tn.ar,tC,Tn.kids,Av,h',this]
@[simp high] theorem ox {t:Tn} {i:Nat} (h:i<t.kids.length):Av zP 40 t.ar (.int .i64 (i:Int))=some (.vptr (tsC t.kids) (i*4)):=by
 cases t with
 | lf=>simp [Tn.kids] at h
 | nd k n s a =>
  have h':i<a.length:=h;have:(i:Int)<a.length:=by omega
  simp [Tn.ar,tC,Tn.kids,Av,h',this]
open Classical in
noncomputable def oTn (f0:FuncId) (S:Tn→Prop) (out:Tn→AV):Orc:=fun f args H=>if h:f=f0∧∃t,S t∧args=[.agg (tC t)] then some (out h.2.choose,H) else none
theorem jk {f0:FuncId} {S:Tn→Prop} {out:Tn→AV} {t:Tn} (h:S t) (H:AH):oTn f0 S out f0 [.agg (tC t)] H=some (out t,H):=by
 have hh:f0=f0∧∃u,S u∧[AV.agg (tC t)]=[.agg (tC u)]:=⟨rfl,t,h,rfl⟩
 have hc:=hh.2.choose_spec.2;injection hc with hc _;injection hc with hc;have he:hh.2.choose=t:=(NN _ _ hc).symm;simp only [oTn,dif_pos hh];rw [he]
theorem jl {E:Env} {f0:FuncId} {S:Tn→Prop} {out:Tn→AV} (h:∀t,S t→∀H,CS zP E f0 [.agg (tC t)] H (out t) H):AS zP E (oTn f0 S out):=by
 intro f args H v H' ho;unfold oTn at ho
 split at ho
 ·rename_i hx
  injection ho with ho;simp only [Prod.mk.injEq] at ho;obtain ⟨rfl,rfl⟩:=ho;have hs:=hx.2.choose_spec;generalize hx.2.choose=u at *;obtain ⟨rfl,_⟩:=hx;rw [hs.2];exact ⟨h _ hs.1 _,Nat.le_refl _,fun _ _ h=>h⟩
 ·cases ho
@[simp] theorem immXT:Ag.imm 42=true:=by decide
mutual
def ofT:Tn→Tn
 | .lf k n s => .lf k n s
 | .nd k n s [] => .lf k n s
 | .nd k n s (a::l) => .nd k n s (ofT a::EH l)
def EH:List Tn→List Tn
 | []=>[]
 | a::l=>ofT a::EH l
end
theorem LZ:∀l:List Tn,(EH l).length=l.length
 | []=>rfl
 | a::l=>by rw [EH,List.length_cons,List.length_cons,LZ l]
theorem Uv:∀a b:List Tn,EH (a++b)=EH a++EH b
 | [],b=>rfl
 | t::a,b=>by rw [List.cons_append,EH,EH,Uv a b,List.cons_append]
theorem jm (t:Tn):tC (ofT t)=[.int .i64 t.k,.int .i64 t.n,.str t.s,if t.kids=[] then .nilSlice else .slice .unk 4 t.kids.length (tsC (EH t.kids))]:=by
 cases t with
 | lf k n s=>rfl
 | nd k n s a =>
  cases a with
  | nil=>rfl
  | cons b l=>simp only [ofT,tC,Tn.k,Tn.n,Tn.s,Tn.kids,List.length_cons,LZ,EH];rfl
@[simp] theorem buT3 (k n:Int) (s:List UInt8):A3 zP 42 [(0,.int .i64 k),(1,.int .i64 n),(2,.str s)]=some (.agg [.int .i64 k,.int .i64 n,.str s,.nilSlice]):=by kernel_rfl
def G0 (i:Nat) (l:List Tn):AV:=if l=[] then .nilSlice else .slice (.tok i) 4 l.length (tsC l)
@[simp high] theorem oy (l:List Wd):alen zP 54 (AD l)=some (.int .i64 l.length):=by
 unfold AD
 split
 ·rename_i h;subst h;simp [alen]
 ·simp [alen]
@[simp high] theorem oz {l:List Wd} {i:Nat} (h:i<l.length):Av zP 54 (AD l) (.int .i64 (i:Int))=some (.vptr (A6 l) (i*4)):=by
 have pp:l≠[]:=by rintro rfl;simp at h
 have:(i:Int)<l.length:=by omega
 simp [AD,pp,Av,h]
@[simp] theorem buWd (k n a:Int) (s:List UInt8):A3 zP 192 [(0,.int .i64 k),(1,.str s),(2,.int .i64 a),(3,.int .i64 n)]=some (.agg [.int .i64 k,.str s,.int .i64 a,.int .i64 n]):=by kernel_rfl
@[simp] theorem bsWd (a b c d:AV):Ch zP 125 1 [(0,.agg [a,b,c,d])]=some (.slice .full 4 1 [a,b,c,d]):=by kernel_rfl
mutual
def Ex.tn:Ex→Tn
 | .none => .lf 0 0 []
 | .num n => .lf 1 n []
 | .var s => .lf 2 0 s
 | .elem s a => .nd 3 0 s (Ex.tns a)
 | .neg e => .nd 4 0 [] [e.tn]
 | .bin k a b => .nd k 0 [] [a.tn,b.tn]
def Ex.tns:List Ex→List Tn
 | []=>[]
 | e::l=>e.tn::Ex.tns l
end
theorem JY:∀l:List Ex,(Ex.tns l).length=l.length
 | []=>rfl
 | a::l=>by rw [Ex.tns,List.length_cons,List.length_cons,JY l]
theorem NO {g:Gh}:∀{xs ys:List AV} {vs:List Value},AB g (xs++ys) vs→∃v1 v2,vs=v1++v2∧AB g xs v1∧AB g ys v2
 | [],ys,vs,h=>⟨[],vs,rfl,rfl,h⟩
 | a::xs,ys,vs,h=>by obtain ⟨v,ws,rfl,h1,h2⟩:=h;obtain ⟨v1,v2,rfl,h3,h4⟩:=NO h2;exact ⟨v::v1,v2,rfl,⟨v,v1,rfl,h1,h3⟩,h4⟩
mutual
theorem JZ (g:Gh):∀(e:Ex) (vs:List Value),AB g (exC e) vs→AB g (tC e.tn) vs
 | .none,_,h=>h
 | .num _,_,h=>h
 | .var _,_,h=>h
 | .elem s a,vs,h=>by have key:=QE g a;rw [exC] at h;rw [Ex.tn,tC,JY];obtain ⟨v0,_,rfl,h0,v1,_,rfl,h1,v2,_,rfl,h2,v3,_,rfl,h3,h4⟩:=h;refine ⟨v0,_,rfl,h0,v1,_,rfl,h1,v2,_,rfl,h2,v3,_,rfl,?_,h4⟩;simp only [AA] at h3 ⊢;obtain ⟨b,o,cap,us,hv,q1,q2,q3,q4,q5⟩:=h3;exact ⟨b,o,cap,us,hv,key us q1,q2,by rw [LY,JY],q4,trivial⟩
 | .neg e,vs,h=>by have key:=JZ g e;rw [exC] at h;rw [Ex.tn,tC];obtain ⟨v0,_,rfl,h0,v1,_,rfl,h1,v2,_,rfl,h2,v3,_,rfl,h3,h4⟩:=h;refine ⟨v0,_,rfl,h0,v1,_,rfl,h1,v2,_,rfl,h2,v3,_,rfl,?_,h4⟩;simp only [AA] at h3 ⊢;obtain ⟨b,o,cap,us,hv,q1,q2,q3,q4,q5⟩:=h3;refine ⟨b,o,cap,us,hv,?_,q2,by rw [LY],q4,trivial⟩;rw [tsC,tsC,List.append_nil];exact key us q1
 | .bin k x y,vs,h=>by have key1:=JZ g x;have key2:=JZ g y;rw [exC] at h;rw [Ex.tn,tC];obtain ⟨v0,_,rfl,h0,v1,_,rfl,h1,v2,_,rfl,h2,v3,_,rfl,h3,h4⟩:=h;refine ⟨v0,_,rfl,h0,v1,_,rfl,h1,v2,_,rfl,h2,v3,_,rfl,?_,h4⟩;simp only [AA] at h3 ⊢;obtain ⟨b,o,cap,us,hv,q1,q2,q3,q4,q5⟩:=h3;refine ⟨b,o,cap,us,hv,?_,q2,by rw [LY],q4,trivial⟩;obtain ⟨u1,u2,rfl,r1,r2⟩:=NO q1;rw [tsC,tsC,tsC,List.append_nil];exact (key1 u1 r1).append (key2 u2 r2)
theorem QE (g:Gh):∀(l:List Ex) (vs:List Value),AB g (B7 l) vs→AB g (tsC (Ex.tns l)) vs
 | [],_,h=>h
 | e::l,vs,h=>by have k1:=JZ g e;have k2:=QE g l;rw [B7] at h;rw [Ex.tns,tsC];obtain ⟨v1,v2,rfl,h1,h2⟩:=NO h;exact (k1 v1 h1).append (k2 v2 h2)
end
open Go.Shelf
def NP:List AV:=(List.range 20).map fun i => .int .u64 ((10 ^ i:Nat):Int)
def NQ:List (Nat × AV):=(1,.vptr NP 0)::KI
def AJ:Env:=⟨HL NQ,LI,fun t=>Ag.imm t || t==29,fun _=>false,fun _=>false⟩
@[simp] theorem o4 (t:TypeId):AJ.soft t=false:=AR rfl
theorem Bz:Cz zP AJ:=KJ
theorem BY:∀i,low 0 (AJ.glob i)=true:=Ox (by
 intro x hx;simp only [NQ,KI,JJ,List.mem_cons,List.not_mem_nil,or_false] at hx;rcases hx with rfl|rfl|rfl|rfl
 ·show lowL 0 NP=true
  kernel_rfl
 ·rfl
 ·show lowL 0 LC=true
  kernel_rfl
 ·rfl)
theorem jn {g:Gh} (h:An AJ g):An Ag g:=by
 intro i
 by_cases hi:i=1
 ·subst hi
  have:Ag.glob 1 = .undef:=by rfl
  rw [this];trivial
 ·have:Ag.glob i=AJ.glob i:=by
   simp only [Ag,AJ,Cg,HL,NQ,List.find?_cons];rw [show ((1:Nat)==i)=false by simp;omega]
  rw [this];exact h i
theorem CS.toF {f:FuncId} {args:List AV} {H H':AH} {v:AV} (h:CS zP Ag f args H v H'):CS zP AJ f args H v H':=fun g w cargs R hG hA=>h g w cargs R (jn hG) hA
theorem AS.toF {O:Orc} (h:AS zP Ag O):AS zP AJ O:=fun f args H v H' ho=>by obtain ⟨h1,h2,h3⟩:=h f args H v H' ho;exact ⟨CS.toF h1,h2,h3⟩
@[simp] theorem immFE:AJ.imm 27=true:=by decide
@[simp] theorem immFC:AJ.imm 29=true:=by decide
theorem FF:Cx Bk zP AJ:=⟨JI,Bz,Af⟩
def fzN:FuncId→Nat:=fun _=>0
@[simp] theorem bsStr (a:List UInt8):Ch zP 23 1 [(0,.str a)]=some (.slice .full 1 1 [.str a]):=by kernel_rfl
@[simp] theorem o5:Ae zP 9=some (.str []):=by kernel_rfl
def KV (a:List AV) (H:AH):Option (AV × AH) :=
 match a with
 | [.iface t x,.iface tt (.ptr id 0)]=>(match H.at id with
  | some (.box [_])=>if t=152∧tt=154 then (match x with | .vptr cs 0=>some (.bool true,H.set id (some (.box [.vptr cs 0])))|_=>none)
   else if t=134∧tt=159 then (match x with | .int .i64 n=>some (.bool true,H.set id (some (.box [.int .i64 n])))|_=>none)
   else if t=134∧tt=154 then (match x with | .int .i64 _=>some (.bool false,H)|_=>none) else none
  | _=>none)
 | _=>none
theorem Uw {H:AH} {i j:Nat} {e x:Ent} (hx:H.at i=some x) (hj:H.at j=none):AH.at (H.set i (some e)) j=none:=by
 have x3:i≠j:=fun h=>by subst h;rw [hx] at hj;cases hj
 unfold AH.at at hj ⊢;rw [List.getElem?_set_ne x3];exact hj
theorem jo {a:List AV} {H H':AH} {v:AV} (h:KV a H=some (v,H')):CS zP Cg 71 a H v H'∧H.length≤H'.length∧∀id,id<H.length→H.at id=none→H'.at id=none:=by
 unfold KV at h
 split at h
 ·split at h
  ·rename_i t x tt id y hH
   split at h
   ·rename_i ht
    obtain ⟨rfl,rfl⟩:=ht
    split at h
    ·injection h with h
     simp only [Prod.mk.injEq] at h;obtain ⟨rfl,rfl⟩:=h;exact ⟨T7 hH,by simp,fun j _ hj=>Uw hH hj⟩
    ·cases h
   ·split at h
    ·rename_i ht
     obtain ⟨rfl,rfl⟩:=ht
     split at h
     ·injection h with h
      simp only [Prod.mk.injEq] at h;obtain ⟨rfl,rfl⟩:=h;exact ⟨fa hH,by simp,fun j _ hj=>Uw hH hj⟩
     ·cases h
    ·split at h
     ·rename_i ht
      obtain ⟨rfl,rfl⟩:=ht
      split at h
      ·injection h with h
       simp only [Prod.mk.injEq] at h;obtain ⟨rfl,rfl⟩:=h;exact ⟨fb,Nat.le_refl _,fun _ _ hj=>hj⟩
      ·cases h
     ·cases h
  ·cases h
 ·cases h
open Classical in
noncomputable def oTl (l:List (List UInt8 × Int)) (c:Int):Orc:=fun f a H =>if f=70 then (if a=[AZ l c,.iface 134 (.int .i64 c)] then some (.bool true,H) else none) else if f=71 then KV a H else none
theorem jp (l:List (List UInt8 × Int)) (c:Int):AS zP Cg (oTl l c):=by
 intro f a H v H' h;unfold oTl at h
 split at h
 ·rename_i hf
  subst hf
  split at h
  ·rename_i ha
   subst ha;injection h with h;simp only [Prod.mk.injEq] at h;obtain ⟨rfl,rfl⟩:=h;have:=fZ l c c H;rw [show (c==c)=true by simp] at this;exact ⟨this,Nat.le_refl _,fun _ _ hj=>hj⟩
  ·cases h
 ·split at h
  ·rename_i hf
   subst hf;exact jo h
  ·cases h
theorem Ja (l:List (List UInt8 × Int)) (c:Int):Cx (oTl l c) zP Cg:=⟨jp l c,KJ,Af⟩
theorem jq (l:List (List UInt8 × Int)) (c:Int) (H:AH):oTl l c 70 [AZ l c,.iface 134 (.int .i64 c)] H=some (.bool true,H):=by simp [oTl]
theorem Ux (l:List (List UInt8 × Int)) (c:Int) (a:List AV) (H:AH):oTl l c 71 a H=KV a H:=by simp [oTl]
def B0:List (List UInt8 × Int)→List AV
 | []=>[]
 | (w,p)::l => .str w :: .int .i64 p::B0 l
@[simp] theorem jr:∀(l:List (List UInt8 × Int)) (c:Int),Bg (AZ l c)=[]
 | [],c=>rfl
 | (w,p)::l,c=>by simp [AZ,Bg,ES,jr l c]
@[simp high] theorem clos0:DV [some (.box [.nilPtr])] 4 [0]=[0]:=by
 have h:GE [some (.box [.nilPtr])] [0]=[]:=by simp [GE,Kw,AH.at,Bg,ES]
 simp [DV,h]
@[simp high] theorem mask0:mask [some (.box [.nilPtr])] [0]=[some (.box [.nilPtr])]:=by simp [mask,Gf]
@[simp high] theorem clos1 (w:List UInt8) (p:Int) (l:List (List UInt8 × Int)) (c:Int):DV [some (.box [.vptr [.str w,.int .i64 p,AZ l c] 0])] 4 [0]=[0]:=by
 have h:GE [some (.box [.vptr [.str w,.int .i64 p,AZ l c] 0])] [0]=[]:=by simp [GE,Kw,AH.at,Bg,ES]
 simp [DV,h]
@[simp high] theorem mask1 (x:AV):mask [some (.box [x])] [0]=[some (.box [x])]:=by simp [mask,Gf]
theorem Uy:∀(l:List (List UInt8 × Int)) (i:Nat) {w:List UInt8} {p:Int} {r:List (List UInt8 × Int)},l.drop i=(w,p)::r→(B0 l)[i*2]? = some (.str w)∧(B0 l)[i*2+1]? = some (.int .i64 p)
 | [],i,w,p,r,h=>by simp at h
 | (a,b)::l,0,w,p,r,h=>by simp only [List.drop_zero,List.cons.injEq,Prod.mk.injEq] at h;obtain ⟨⟨rfl,rfl⟩,_⟩:=h;simp [B0]
 | (a,b)::l,i+1,w,p,r,h=>by have:=Uy l i (by simpa using h);rw [show (i+1)*2=i*2+1+1 by omega];simpa [B0] using this
def TlI (l:List (List UInt8 × Int)) (c:Int) (sv:AV) (k:Nat) (t:List AV) (H:AH):Prop :=∃i,i+k=l.length∧t=mkT 88 [(0,AZ (l.drop i) c),(3,.vptr [sv,.int .i64 c] 0),(5,.int .i64 ((i:Nat):Int))]∧H=[]
theorem js (l:List (List UInt8 × Int)) (c:Int) (hc:c≠0) (hl:l.length<1000) (ow:Own) (rx:ow = .unk∨ow = .full) (H:AH) :
  CS zP Cg 23 [AZ l c,.agg [.slice ow 2 l.length (B0 l),.int .i64 c]] H (.bool true) H:=by
 have z8:lowL 0 (B0 l)=true:=by
  clear hl
  induction l with
  | nil=>rfl
  | cons x l ih=>obtain ⟨w,p⟩:=x;simp [B0,ih]
 have uw:low 0 (.slice ow 2 l.length (B0 l))=true:=by rcases rx with rfl|rfl<;>simp [z8]
 clear rx;refine CS.tr0 LJ Tryz.func23 (by kernel_rfl) 0 (by simp [Tryz.f23]) (fun B hB hG => ?_) rfl (by simp [GO,uw]) H;refine Tr.go (Ja l c) hG (by kernel_rfl) ?_;simp [Tryz.f23,hc,jq];refine Tr.less (t':=mkT 88 [(0,AZ (l.drop 0) c),(3,.vptr [.slice ow 2 l.length (B0 l),.int .i64 c] 0),(5,.int .i64 ((0:Nat):Int))]) (H':=[]) (AF.mk0 hB (by simp [GO,uw])) (Tr.loop (TlI l c (.slice ow 2 l.length (B0 l))) l.length ⟨0,by omega,rfl,rfl⟩ ?_);rintro k t H ⟨i,px,rfl,rfl⟩;refine Tr.seqD rfl ?_;refine Tr.go (Ja l c) hG (by kernel_rfl) ?_;cases k with
 | zero =>
  obtain rfl:i=l.length:=by omega
  simp [Bt,AZ,Ux,KV,AH.at]
 | succ k =>
  have e1:i<l.length:=by omega
  have e2:(i:Int)<l.length:=by omega
  obtain ⟨w,p,hd⟩:∃w p,l.drop i=(w,p)::l.drop (i+1):=⟨l[i].1,l[i].2,List.drop_eq_getElem_cons e1⟩
  simp [e2];refine Tr.seqD rfl (Tr.blockD rfl (Tr.seqD rfl ?_));refine Tr.go (Ja l c) hG (by kernel_rfl) ?_;simp;rw [hd];refine Tr.seqD rfl (Tr.seqD rfl (Tr.solid (Ja l c) hG 2 (by kernel_rfl) ?_));simp [AZ];refine ⟨_,.bool true,[(0,.box [.vptr [.str w,.int .i64 p,AZ (l.drop (i+1)) c] 0])],[0],rfl,?_,?_⟩
  ·simp [Ce,BJ,callee,Ux,KV,AH.at]
  ·obtain ⟨pc0,pc1⟩:=Uy l i hd
   simp [AQ,AZ,e1,pc0,pc1];refine Tr.go (Ja l c) hG (by kernel_rfl) ?_;simp;refine Tr.go (Ja l c) hG (by kernel_rfl) ?_;simp;refine Tr.go (Ja l c) hG (by kernel_rfl) ?_;have w1:IntKind.i64.wrap ((i:Int)+1)=(i:Int)+1:=Ab (by omega) (by omega);simp [w1];exact ⟨k,by omega,_,_,AF.mk0 (l':=[(0,AZ (l.drop (i+1)) c),(3,.vptr [.slice ow 2 l.length (B0 l),.int .i64 c] 0),(5,.int .i64 ((i+1:Nat):Int))]) hB (by simp [GO,uw]),⟨i+1,by omega,rfl,rfl⟩⟩
set_option maxHeartbeats 1000000
def Uz:Nat→Nat→List Wd→Prop
 | p,e,[]=>p≤e
 | p,e,w::r=>p≤w.at_∧Uz (w.at_+w.text.length) e r
theorem jt:∀(n:Nat) (s:List UInt8) (p:Nat) (b:Bool) (l:List Wd),s.length<n→lex n s p b = .ok l→Uz p (p+s.length) l∧l.length≤s.length:=by
 intro n
 induction n with
 | zero=>intro s p b l h;omega
 | succ n ih =>
  intro s p b l hn h;cases s with
  | nil =>simp only [lex] at h;injection h with h;subst h;exact ⟨Nat.le_refl _,Nat.le_refl _⟩
  | cons c r =>
   simp only [List.length_cons] at hn ⊢;cases hb:EB c with
   | true =>
    simp only [lex,hb,if_true] at h;obtain ⟨h1,h2⟩:=ih r (p+1) false l (by omega) h;refine ⟨?_,by omega⟩;rw [show p+(r.length+1)=p+1+r.length by omega];cases l with
    | nil=>have:p+1≤_:=h1;show p≤_;omega
    | cons w l=>exact ⟨by have:=h1.1;omega,h1.2⟩
   | false =>
    rw [GP _ _ _ _ _ hb] at h
    split at h
    ·cases h
    ·rename_i he
     have hp:=Mx (r:=r) (Pd (by simpa using he));have pv:=My c r;simp only [List.length_cons] at pv;cases hx:lex n ((c::r).drop (BC (c::r)).1.2.1.length) (p+(BC (c::r)).1.2.1.length) ((BC (c::r)).1.1==2) with
     | error x=>rw [hx] at h;cases h
     | ok l' =>rw [hx] at h;simp only [Do,List.singleton_append] at h;injection h with h;subst h;obtain ⟨h1,h2⟩:=ih _ _ _ l' (by rw [List.length_drop,List.length_cons];omega) hx;rw [List.length_drop,List.length_cons] at h1 h2;refine ⟨⟨Nat.le_refl _,?_⟩,by simp only [List.length_cons];omega⟩;rw [show p+(r.length+1)=p+(BC (c::r)).1.2.1.length+(r.length+1-(BC (c::r)).1.2.1.length) by omega];exact h1
theorem U0:∀(n:Nat) (s:List UInt8) (p:Nat) (b:Bool) (q e:Nat),lex n s p b = .error (q,e)→e≠0:=by
 intro n
 induction n with
 | zero=>intro s p b q e h;cases h
 | succ n ih =>
  intro s p b q e h;cases s with
  | nil=>cases h
  | cons c r =>
   cases hb:EB c with
   | true =>simp only [lex,hb,if_true] at h;exact ih r _ _ _ _ h
   | false =>
    rw [GP _ _ _ _ _ hb] at h
    split at h
    ·rename_i he
     injection h with h;simp only [Prod.mk.injEq] at h;rw [←h.2];exact he
    ·cases hx:lex n ((c::r).drop (BC (c::r)).1.2.1.length) (p+(BC (c::r)).1.2.1.length) ((BC (c::r)).1.1==2) with
     | error x =>rw [hx] at h;simp only [Do] at h;injection h with h;subst h;exact ih _ _ _ _ _ hx
     | ok l'=>rw [hx] at h;cases h
@[simp] theorem o6:Bg AV.nothing=[]:=AR rfl
theorem ju {a b:Wd} (h:BD a=BD b):a=b:=by
 obtain ⟨k,s,p,n⟩:=a;obtain ⟨k',s',p',n'⟩:=b;simp only [BD,List.cons.injEq,AV.int.injEq,AV.str.injEq,true_and,and_true] at h;obtain ⟨h1,h2,h3,h4⟩:=h;have e1:k=k':=by omega
 have e2:p=p':=by omega
 have e3:n=n':=by omega
 rw [e1,h2,e2,e3]
theorem U1:∀{a b:List Wd},A6 a=A6 b→a=b
 | [],[],_=>rfl
 | [],x::b,h=>by have hc:A6 (x::b)=BD x++A6 b:=rfl;rw [hc] at h;simp [BD,A6] at h
 | x::a,[],h=>by have hc:A6 (x::a)=BD x++A6 a:=rfl;rw [hc] at h;simp [BD,A6] at h
 | x::a,y::b,h=>by have hc:A6 (x::a)=BD x++A6 a:=rfl;have hd:A6 (y::b)=BD y++A6 b:=rfl;rw [hc,hd] at h;have:=List.append_inj h rfl;rw [ju this.1,U1 this.2]
theorem QF {a b:List Wd} (h:AD a=AD b):a=b:=by
 unfold AD at h
 split at h
 ·split at h
  ·rename_i h1 h2;rw [h1,h2]
  ·cases h
 ·split at h
  ·cases h
  ·injection h with _ _ _ h
   exact U1 h
def Ez (x:Ex × Nat × Option (Nat × Nat)):AV := .tup [.agg (tC x.1.tn),.int .i64 x.2.1,eAV x.2.2]
def KW (x:Ex × Nat × Option (Nat × Nat)):AV := .tup [.agg (tC x.1.tn),.int .i64 x.2.1,DY x.2.2]
def FG (c:List UInt8 × Ex × Ex):AV := .agg (.str c.1::(tC c.2.1.tn++tC c.2.2.tn))
def KX (x:(List UInt8 × Ex × Ex) × Nat × Option (Nat × Nat)):AV := .tup [FG x.1,.int .i64 x.2.1,eAV x.2.2]
def KY (x:(List UInt8 × Ex × Ex) × Nat × Option (Nat × Nat)):AV := .tup [FG x.1,.int .i64 x.2.1,DY x.2.2]
theorem U2 (g:Gh) (e:Ex) (v:Value) (h:AA g (CN e) v):AA g (.agg (tC e.tn)) v:=by unfold CN at h;simp only [AA] at h ⊢;obtain ⟨vs,rfl,h⟩:=h;exact ⟨vs,rfl,JZ g e vs h⟩
theorem U3 (g:Gh) (c:List UInt8 × Ex × Ex) (v:Value) (h:AA g (Ey c) v):AA g (FG c) v:=by unfold Ey at h;unfold FG;simp only [AA] at h ⊢;obtain ⟨vs,rfl,u,us,rfl,h1,h2⟩:=h;obtain ⟨v1,v2,rfl,h3,h4⟩:=NO h2;exact ⟨_,rfl,u,_,rfl,h1,(JZ g _ v1 h3).append (JZ g _ v2 h4)⟩
theorem jv (ts:List Wd) (po:ts.length<1000000) (H:AH):CS zP AJ 145 [AD ts] H (Ez (B1 ts)) H:=CS.toF (CS.weak (v':=Ez (B1 ts)) (iX ts po H) fun g cv h=>by
 unfold LN at h;unfold Ez;simp only [AA] at h ⊢;obtain ⟨vs,rfl,u,us,rfl,h1,h2⟩:=h
 exact ⟨_,rfl,u,us,rfl,U2 g _ _ h1,h2⟩)
theorem jw (ts:List Wd) (po:ts.length<1000000) (H:AH):CS zP AJ 169 [AD ts] H (KW (B1 ts)) H:=by
 have:=jN ts po H;rw [Tm] at this
 exact CS.toF (CS.weak (v':=KW (B1 ts)) this fun g cv h=>by
  unfold LW at h;unfold KW;simp only [AA] at h ⊢;obtain ⟨vs,rfl,u,us,rfl,h1,h2⟩:=h
  exact ⟨_,rfl,u,us,rfl,U2 g _ _ h1,h2⟩)
theorem jx (ts:List Wd) (po:ts.length<1000000) (H:AH):CS zP AJ 141 [AD ts] H (KX (CE ts)) H:=CS.toF (CS.weak (v':=KX (CE ts)) (jW ts po H) fun g cv h=>by
 unfold JW at h;unfold KX;simp only [AA] at h ⊢;obtain ⟨vs,rfl,u,us,rfl,h1,h2⟩:=h
 exact ⟨_,rfl,u,us,rfl,U3 g _ _ h1,h2⟩)
theorem jy (ts:List Wd) (po:ts.length<1000000) (H:AH):CS zP AJ 165 [AD ts] H (KY (CE ts)) H:=by
 have:=jf ts po H;rw [Tp] at this
 exact CS.toF (CS.weak (v':=KY (CE ts)) this fun g cv h=>by
  unfold H7 at h;unfold KY;simp only [AA] at h ⊢;obtain ⟨vs,rfl,u,us,rfl,h1,h2⟩:=h
  exact ⟨_,rfl,u,us,rfl,U3 g _ _ h1,h2⟩)
theorem QG {s:List UInt8} {l:List Wd} (hs:s.length<1000000) (h:lex (s.length+1) s 0 false = .ok l):l.length<1000000:=by have:=(jt _ _ _ _ _ (by omega) h).2;omega
def sA:List UInt8:=[45,40,120,32,43,32,50,41,42,97,40,105,44,32,40,106,41,41,47,40,51,42,52,41]
def RI (s:List UInt8) (k:Nat) (t:List AV) (H:AH):Prop :=∃i l,i+k=s.length∧t=tR s l i∧H=HR l∧l.length≤i∧lex (s.length+1) s 0 false=Do l (lex (k+1) (s.drop i) i false)
theorem jz (n:Nat) (s:List UInt8) (p:Nat) (h:∀c r,s=c::r→B5 c=false) (b:Bool):lex n s p b=lex n s p false:=by
 cases n with
 | zero=>rfl
 | succ n =>
  cases s with
  | nil=>rfl
  | cons c r =>
   have:=h c r rfl;cases hb:EB c with
   | true=>simp only [lex,hb,if_true]
   | false =>
    rw [GP n c r p b hb,GP n c r p false hb];have:DG b c r=DG false c r:=by simp [DG,this]
    rw [this]
theorem QH {s:List UInt8} {i k:Nat} {l:List Wd} {c:UInt8} {r:List UInt8} (px:i+(k+1)=s.length) (hd:s.drop i=c::r) (hb:EB c=false) (he:(BC (c::r)).2=0) (qZ:l.length≤i)
  (q9:lex (s.length+1) s 0 false=Do l (lex (k+1+1) (s.drop i) i false)) (w:Wd) (hw:w=⟨(BC (c::r)).1.1,(BC (c::r)).1.2.1,i,(BC (c::r)).1.2.2⟩) (L:Nat) (hL:(BC (c::r)).1.2.1.length=L)
  (hx:(BC (c::r)).1.1=2→∀h:i+L<s.length,B5 s[i+L]=false) :
  ∃j,j<k+1∧RI s j (tR s (l++[w]) (i+L)) (HR (l++[w])):=by
 subst hw;have h1:=Mx (r:=r) he;have h2:=My c r;have pw:(c::r).length=k+1:=by rw [←hd,List.length_drop];omega
 rw [hL] at h1 h2;have he':DG false c r=0:=by simpa [DG] using he
 refine ⟨k+1-L,by omega,i+L,_,by omega,rfl,rfl,?_,?_⟩
 ·simp only [List.length_append,List.length_cons,List.length_nil];omega
 ·rw [q9,hd,GP _ _ _ _ _ hb,if_neg (by simp [he']),UB,hL]
  have uM:s.drop (i+L)=(c::r).drop L:=by rw [←hd,List.drop_drop]
  rw [←uM]
  congr 1
  have tV:(s.drop (i+L)).length=k+1-L:=by rw [List.length_drop];omega
  rw [UA (k+1) (k+1-L+1) _ _ _ (by omega) (by omega)];cases hk:(BC (c::r)).1.1==2 with
  | false=>rfl
  | true =>
   refine jz _ _ _ (fun c2 r2 h => ?_) true
   have p9:i+L<s.length:=by
    have:(s.drop (i+L)).length=(c2::r2).length:=by rw [h]
    rw [List.length_drop,List.length_cons] at this;omega
   have h5:=List.drop_eq_getElem_cons p9;rw [h] at h5;injection h5 with h5 _;rw [h5];exact hx (by simpa using hk) p9
theorem j1 (x:Except (Nat × Nat) (List Wd)):low 0 (C3 x)=true:=by
 cases x with
 | error x=>rfl
 | ok l =>
  simp only [C3,AD,LP]
  split
  ·rfl
  ·simp [Hu]
theorem j3 (B:Bs) (hB:B.H=[]) (hG:An AN B.g) (s:List UInt8) (hs:s.length<By) (k i:Nat) (l:List Wd) (px:i+(k+1)=s.length) (qZ:l.length≤i)
  (q9:lex (s.length+1) s 0 false=Do l (lex (k+1+1) (s.drop i) i false)) (Q:AEx→List AV→AH→Prop)
  (hN:∀t H,(∃j t2 H2,j<k+1∧AF B t H t2 H2∧RI s j t2 H2)→Q .normal t H)
  (hE:∀t H,Fin zP F10 0 1 (C3 (lex (s.length+1) s 0 false)) [] .ret t H→Q .ret t H) :
  Go oR zP AN (LpT zP B) Eb [] (tR s l i) (HR l) Q:=by
 have hi:i<s.length:=by omega
 rw [EE] at hs;obtain ⟨c,r,hd⟩:∃c r,s.drop i=c::r:=⟨s[i],s.drop (i+1),List.drop_eq_getElem_cons hi⟩
 have hc:s[i]=c:=by have:=List.drop_eq_getElem_cons hi;rw [hd] at this;injection this with this _;exact this.symm
 cases hb:EB c with
 | true =>
  refine iq B hB hG s l i hi hs (by rw [hc];simpa [EB] using hb) Q (fun t H pv=>hN _ _ ⟨k,_,_,by omega,pv,i+1,l,by omega,rfl,rfl,by omega,?_⟩);have:s.drop (i+1)=r:=by rw [←List.drop_drop,hd];rfl
  rw [q9,hd,this];simp only [lex,hb,if_true]
 | false =>
  have qF:¬(s[i].toNat:Int)=32:=by rw [hc];simp only [EB,Bool.or_eq_false_iff,beq_eq_false_iff_ne] at hb;omega
  have qA:¬(s[i].toNat:Int)=9:=by rw [hc];simp only [EB,Bool.or_eq_false_iff,beq_eq_false_iff_ne] at hb;omega
  have vK:(BC (c::r)).2≠0→lex (s.length+1) s 0 false = .error (i,(BC (c::r)).2):=fun h=>by rw [q9,hd,GP _ _ _ _ _ hb,if_pos (by simpa [DG] using h)];simp [DG,Do]
  have pw:(c::r).length=k+1:=by rw [←hd,List.length_drop];omega
  have sn:∀n,n≤(c::r).length→((c::r).take n).length=n:=fun n h=>by rw [List.length_take];omega
  cases qj:B5 c with
  | true =>
   have qG:=Fq Bi (c::r);have hw:BC (c::r)=((if DE ((c::r).take (Ap Bi (c::r))) then 4 else 1,(c::r).take (Ap Bi (c::r)),0),if 31<Ap Bi (c::r) then 4 else 0):=by simp [BC,qj]
   refine im B hB hG s l i _ hi hs qZ qF qA (by rw [hc];exact qj) rfl Q _ rfl (fun h t H pv => ?_) (fun h t H hf=>hE _ _ ?_)
   ·rw [hd] at h pv
    obtain ⟨j,hj,hI⟩:=QH px hd hb (by rw [hw];simp;omega) qZ q9 _ rfl _ rfl (fun h2=>by rw [hw] at h2;simp only at h2;split at h2<;>cases h2);rw [hw] at hI;simp only [sn _ qG] at hI;exact hN _ _ ⟨j,_,_,hj,pv,hI⟩
   ·rw [hd] at h
    rw [vK (by rw [hw];simp [h]),hw];simpa [h] using hf
  | false =>
   cases sD:A5 c with
   | true =>
    have qG:=Fq A5 (c::r);refine io B hB hG s l i _ hi hs qZ qF qA (by rw [hc];exact qj) (by rw [hc];exact sD) rfl Q (fun h hx t H pv => ?_) (fun h t H hf=>hE _ _ ?_) (fun h hx t H hf=>hE _ _ ?_)
    ·rw [hd] at h hx pv
     have hw:BC (c::r)=((2,(c::r).take (Ap A5 (c::r)),Ba ((c::r).take (Ap A5 (c::r)))),0):=by simp [BC,qj,sD,h]
     obtain ⟨j,hj,hI⟩:=QH px hd hb (by rw [hw]) qZ q9 _ rfl (Ap A5 (c::r)) (by rw [hw];exact sn _ qG) (fun _=>hx);rw [hw] at hI;exact hN _ _ ⟨j,_,_,hj,pv,hI⟩
    ·rw [hd] at h
     have hw:(BC (c::r)).2=5:=by simp [BC,qj,sD,h]
     rw [vK (by rw [hw];decide),hw];exact hf
    ·rw [hd] at h hx hf
     obtain ⟨hx,x9⟩:=hx;have hw:BC (c::r)=((2,(c::r).take (Ap A5 (c::r)),Ba ((c::r).take (Ap A5 (c::r)))),0):=by simp [BC,qj,sD,h]
     have pq:lex (s.length+1) s 0 false = .error (i+Ap A5 (c::r),3):=by
      rw [q9,hd,GP _ _ _ _ _ hb,if_neg (by simp [DG,hw]),hw];simp only [sn _ qG]
      have uM:(c::r).drop (Ap A5 (c::r))=s[i+Ap A5 (c::r)]::s.drop (i+Ap A5 (c::r)+1):=by rw [←List.drop_eq_getElem_cons hx,←List.drop_drop,hd]
      rw [uM,GP _ _ _ _ _ (by
       have:=x9;simp only [B5,Bool.and_eq_true,decide_eq_true_eq] at this;simp only [EB,Bool.or_eq_false_iff,beq_eq_false_iff_ne]
       omega),if_pos (by simp [DG,x9])]
      simp [Do,DG,x9]
     rw [pq];exact hf
   | false =>
    refine ip B hB hG s l i _ hi hs qZ qF qA (by rw [hc];exact qj) (by rw [hc];exact sD) rfl Q (fun h t H pv => ?_) (fun h t H hf=>hE _ _ ?_)
    ·rw [hd] at h pv
     have hw:BC (c::r)=((3,(c::r).take (Cf (c::r)),0),0):=by simp [BC,qj,sD,h]
     obtain ⟨j,hj,hI⟩:=QH px hd hb (by rw [hw]) qZ q9 _ rfl (Cf (c::r)) (by rw [hw];exact sn _ (Mw _)) (fun h2=>by rw [hw] at h2;cases h2);rw [hw] at hI;exact hN _ _ ⟨j,_,_,hj,pv,hI⟩
    ·rw [hd] at h
     have hw:(BC (c::r)).2=3:=by simp [BC,qj,sD,h]
     rw [vK (by rw [hw];decide),hw];exact hf
theorem j5 (s:List UInt8) (hs:s.length<By) (H:AH):CS zP AN 20 [.str s] H (C3 (lex (s.length+1) s 0 false)) H:=by
 refine CS.tr0 yEq Tryz.func20 (by kernel_rfl) 1 (by simp [Tryz.f20]) (fun B hB hG => ?_) (j1 _) rfl H;refine Tr.pre Ie hG 3 (R:=Ev) rfl (by kernel_rfl) (by kernel_rfl) ?_;rw [Dm];simp [Tryz.f20];refine Tr.seqD (a:=F2) (b:=Ps) (by kernel_rfl) ?_;refine Tr.less (t':=tR s [] 0) (H':=HR []) (GS hB (by simp) (by simp) (by simp [FV]) (by simp) (by simp [HR,CB])) ?_;refine Tr.forD (a:=Eb) (id:=0) (by kernel_rfl) (RI s) s.length ⟨0,[],by omega,rfl,rfl,by simp,?_⟩ ?_
 ·rw [List.drop_zero]
  cases lex (s.length+1) s 0 false<;>rfl
 rintro k t H ⟨i,l,px,rfl,rfl,qZ,q9⟩;refine Tr.go Ie hG (by kernel_rfl) ?_;cases k with
 | succ k=>exact j3 B hB hG s hs k i l px qZ q9 _ (fun t H h=>h) (fun t H h=>h)
 | zero =>
  obtain rfl:i=s.length:=by omega
  have pq:lex (s.length+1) s 0 false = .ok l:=by rw [q9,List.drop_length];simp [lex,Do]
  rw [pq];rcases Gy l with ⟨hl,hH⟩|⟨hl,hH⟩
  ·rw [hH]
   simp [Eb,F2,Ev,c10,Tryz.f20,tR,Bt];refine Tr.go Ie hG (by kernel_rfl) ?_;simp [Ps,Ev,c10,Tryz.f20,buW,CB,C3,AD,FV,hl,LP]
  ·rw [hH]
   simp [Eb,F2,Ev,c10,Tryz.f20,tR,Bt];refine Tr.go Ie hG (by kernel_rfl) ?_;simp [Ps,Ev,c10,Tryz.f20,buW,CB,C3,AD,FV,hl,LP,Hu]
def DP (f:Rd):Prop:=∀r,okT (f r).1.tn=true
theorem NR {k:Nat} {a b:Ex} (ha:okT a.tn=true) (hb:okT b.tn=true):okT (Ex.bin k a b).tn=true:=by simp [Ex.tn,okT,Di,ha,hb]
theorem QI {ts:List Wd} {of:Rd} (h:DP of) {f:List UInt8} {one:Nat} {s:List UInt8} {two:Nat}:∀(n:Nat) (e:Ex) (r:St),okT e.tn=true→okT (DF ts of f one s two n e r).1.tn=true
 | 0,e,r,he=>he
 | n+1,e,r,he=>by
  simp only [DF]
  split
  ·rfl
  ·split
   ·exact QI h n _ _ (NR he (h _))
   ·split
    ·exact QI h n _ _ (NR he (h _))
    ·exact he
theorem NS {ts:List Wd} {of:Rd} (h:DP of) {f:List UInt8} {one:Nat} {s:List UInt8} {two:Nat}:DP (Et ts of f one s two):=fun r=>QI h _ _ _ (h r)
theorem QJ:∀{a b:List Tn},Di a=true→Di b=true→Di (a++b)=true
 | [],_,_,h=>h
 | t::a,b,h1,h2=>by simp only [Di,Bool.and_eq_true] at h1;simp only [List.cons_append,Di,Bool.and_eq_true];exact ⟨h1.1,QJ h1.2 h2⟩
theorem QK:∀a b:List Ex,Ex.tns (a++b)=Ex.tns a++Ex.tns b
 | [],b=>rfl
 | e::a,b=>by rw [List.cons_append,Ex.tns,Ex.tns,QK a b,List.cons_append]
theorem U4 {ts:List Wd} {sum:Rd} (h:DP sum):∀(n:Nat) (a:List Ex) (r:St),Di (Ex.tns a)=true→Di (Ex.tns (C7 ts sum n a r).1)=true∧(C7 ts sum n a r).1.length≤a.length+n
 | 0,a,r,ha=>⟨ha,Nat.le_refl _⟩
 | n+1,a,r,ha=>by
  have h1:Di (Ex.tns (a++[(sum r).1]))=true:=by rw [QK];refine QJ ha ?_;simp only [Ex.tns,Di,h r,Bool.and_self]
  simp only [C7]
  split
  ·obtain ⟨h2,h3⟩:=U4 h n (a++[(sum r).1]) _ h1
   refine ⟨h2,?_⟩;rw [List.length_append] at h3;simp only [List.length_cons,List.length_nil] at h3;exact Nat.le_trans h3 (by omega)
  ·refine ⟨h1,?_⟩
   rw [List.length_append];simp only [List.length_cons,List.length_nil];omega
theorem U5 {p:Nat} {of:Rd} (h:DP of):DP (inF p of):=fun r=>by
 simp only [inF];generalize (if r.deep+1>20 then (⟨r.at_,r.deep+1,r.err⟩:St).fail p 4 else ⟨r.at_,r.deep+1,r.err⟩)=r2
 split
 ·exact h _
 ·rfl
theorem j7 {ts:List Wd} {sum:Rd} (h:DP sum) (s:List UInt8):DP (Dw ts sum s):=fun r=>by
 simp only [Dw]
 split
 ·obtain ⟨h1,h2⟩:=U4 h (ts:=ts) 6 [] r.step.step rfl
  simp only [Ex.tn,okT,JY,h1,Bool.and_true,decide_eq_true_eq];simp only [List.length_nil] at h2;omega
 ·rfl
theorem j8 {ts:List Wd} {sum fac:Rd} (h:DP sum) (hf:DP fac):DP (Cj ts sum fac):=fun r=>by
 unfold Cj
 split
 ·split
  ·rfl
  ·split
   ·exact j7 h _ r
   ·split
    ·have:=U5 (p:=r.at_) hf r.step
     simp [Ex.tn,okT,Di,this]
    ·split
     ·exact U5 h _
     ·rfl
 ·rfl
theorem QL (ts:List Wd):∀n,DP (fac ts n)
 | 0=>fun _=>rfl
 | n+1=>j8 (NS (NS (QL ts n))) (QL ts n)
theorem QM (ts:List Wd):DP (B6 ts):=NS (NS (QL ts _))
theorem j9 (ts:List Wd):okT (B1 ts).1.tn=true:=by
 unfold B1
 split
 ·exact QM ts _
 ·rfl
theorem kA (ts:List Wd):okT (CE ts).1.2.1.tn=true∧okT (CE ts).1.2.2.tn=true:=by
 unfold CE;simp only
 split
 ·exact ⟨QM ts _,QM ts _⟩
 ·exact ⟨rfl,rfl⟩
theorem QN (ts:List Wd):BO (B1 ts).2.2:=by
 rw [←Tm];unfold LG
 split
 ·exact Ct
 ·rename_i x hx
  have:=JX ts ⟨0,0,none⟩ Ct;rw [hx] at this;exact this
theorem kB (ts:List Wd) (r:St) (h:BO r.err):BO (Ca ts r).2.err:=by
 unfold Ca
 split
 ·exact h
 ·split
  ·split
   ·exact h
   ·simp only [St.fail,‹r.err=none›]
    exact P6 (by decide)
  ·simp only [St.fail,‹r.err=none›]
   exact P6 (by decide)
theorem QO (ts:List Wd):BO (CE ts).2.2:=by
 rw [←Tp];unfold LH;have h1:=kB ts _ (JX ts ⟨0,0,none⟩ Ct)
 split
 ·rename_i x hx
  rw [hx] at h1;exact h1
 ·split
  ·exact Ct
  ·rename_i x hx
   have:=JX ts _ h1;rw [hx] at this;exact this
end Go.Proofs.YtejjlojfgcgopaaGreatDoor
namespace Go.Proofs.YtejjlojfgcgopaaGreatDoor.Tp
open Go.RowKit Go.Proofs.Fw
set_option maxRecDepth 100000
theorem zz16:Ad zP 24=some 1∧Au zP 24=some false∧Ae zP 24=some (.nilSlice)∧Bu zP 24 2=true∧Ad zP 31=some 29∧Au zP 31=some true∧Ae zP 31=some (.agg [.int .i64 0,.nilSlice,.int .i64 0,.int .i64 0,.str [],.nilSlice,.int .i64 0,.int .i64 0,.str [],.nilSlice,.str [],.int .i64 0,.int .i64 0,.str [],.nilSlice,.int .i64 0,.int .i64 0,.str [],.nilSlice,.str [],.int .i64 0,.int .i64 0,.str [],.nilSlice,.int .i64 0,.int .i64 0,.str [],.nilSlice,.int .i64 0])∧fI zP 31 0=(0,3,true)∧fI zP 31 1=(1,24,true)∧fI zP 31 2=(2,27,true)∧fI zP 31 3=(6,27,true)∧fI zP 31 4=(10,29,true)∧fI zP 31 5=(19,9,true)∧fI zP 31 6=(20,27,true)∧fI zP 31 7=(24,27,true)∧fI zP 31 8=(28,2,true)∧Ad zP 121=some 2∧Au zP 121=some true∧Ae zP 121=some (.agg [.str [],.nilSlice])∧fI zP 121 0=(0,9,true)∧fI zP 121 1=(1,49,true)∧Ad zP 129=some 1∧Au zP 129=some false∧Ae zP 129=some (.nilPtr):=by and_intros<;>kernel_rfl
theorem zz17:Ad zP 131=some 3∧Au zP 131=some true∧Ae zP 131=some (.agg [.nilSlice,.int .i64 0,.nilIface])∧fI zP 131 0=(0,125,true)∧fI zP 131 1=(1,3,true)∧fI zP 131 2=(2,33,true)∧Ad zP 260=some 24∧Au zP 260=some true∧Ae zP 260=some (.agg [.int .u8 0,.int .u8 0,.int .u8 0,.int .u8 0,.int .u8 0,.int .u8 0,.int .u8 0,.int .u8 0,.int .u8 0,.int .u8 0,.int .u8 0,.int .u8 0,.int .u8 0,.int .u8 0,.int .u8 0,.int .u8 0,.int .u8 0,.int .u8 0,.int .u8 0,.int .u8 0,.int .u8 0,.int .u8 0,.int .u8 0,.int .u8 0])∧Ad zP 309=some 20∧Au zP 309=some true∧Ae zP 309=some (.agg [.int .u64 0,.int .u64 0,.int .u64 0,.int .u64 0,.int .u64 0,.int .u64 0,.int .u64 0,.int .u64 0,.int .u64 0,.int .u64 0,.int .u64 0,.int .u64 0,.int .u64 0,.int .u64 0,.int .u64 0,.int .u64 0,.int .u64 0,.int .u64 0,.int .u64 0,.int .u64 0])∧AE zP 16=true∧AE zP 17=true∧AE zP 50=true∧AE zP 52=true:=by and_intros<;>kernel_rfl
theorem go53:AE zP 53=true:=by kernel_rfl
theorem go54:AE zP 54=true:=by kernel_rfl
theorem go55:AE zP 55=true:=by kernel_rfl
theorem zz18:AE zP 57=true∧AE zP 89=true∧AE zP 90=true∧AE zP 91=true∧AE zP 92=true∧AE zP 97=true∧AE zP 137=true∧AE zP 138=true∧AE zP 139=true∧AE zP 140=true∧AE zP 142=true∧AE zP 143=true∧AE zP 144=true∧AE zP 149=true∧AE zP 150=true∧AE zP 151=true∧AE zP 177=true∧AE zP 184=true∧AE zP 185=true∧AE zP 186=true:=by and_intros<;>kernel_rfl
attribute [simp] zz16 Tryz.underlying24 Tryz.underlying31
attribute [simp] Tryz.underlying121 Tryz.underlying129 zz17 Tryz.underlying131 Tryz.underlying260
attribute [simp] Tryz.underlying309 go53 go54 go55 zz18
end Go.Proofs.YtejjlojfgcgopaaGreatDoor.Tp
namespace Go.Proofs.YtejjlojfgcgopaaGreatDoor
open Go.RowKit Go.Proofs.Fw
set_option maxRecDepth 100000
set_option maxHeartbeats 4000000
def CO (l:List (List UInt8 × Nat)):List (List UInt8 × Int):=l.map fun x=>(x.1,(x.2:Int))
def AO (e:Er):Prop:=∀l c,e=some (l,c)→l≠[]∧c≠0
theorem Bp:AO none:=fun _ _ h=>by cases h
theorem G1 {l:List (List UInt8 × Nat)} {c:Nat} (hl:l≠[]) (hc:c≠0):AO (some (l,c)):=fun l' c' h=>by injection h with h;injection h with h1 h2;subst h1;subst h2;exact ⟨hl,hc⟩
theorem U6 {e:Er} (h:AO e) {l:List (List UInt8 × Nat)} {c:Nat} (hl:l≠[]) (hc:c≠0):AO (some (e.getD (l,c))):=by
 cases e with
 | none=>exact G1 hl hc
 | some x=>exact h
theorem QP:∀{a b:List (List UInt8 × Nat)},CO a=CO b→a=b
 | [],[],_=>rfl
 | [],x::b,h=>by simp [CO] at h
 | x::a,[],h=>by simp [CO] at h
 | (w,p)::a,(w',p')::b,h=>by
  simp only [CO,List.map_cons,List.cons.injEq,Prod.mk.injEq] at h;obtain ⟨⟨rfl,h1⟩,h2⟩:=h;have:p=p':=by omega
  rw [this,QP h2]
def Ak:Enc Int where
 sz:=1
 c:=fun n=>[.int .i64 n]
 pos:=by decide
 len:=fun _=>rfl
 low:=fun _=>rfl
 one:=fun _=>rfl
 inj:=fun x y h=>by simpa using h
def itE:Enc It where
 sz:=2
 c:=fun x=>[.str x.name,Ak.av x.dims]
 pos:=by decide
 len:=fun _=>rfl
 low:=fun x=>by simp
 one:=fun x=>by simp
 inj:=fun x y h=>by simp only [List.cons.injEq,AV.str.injEq,and_true] at h;obtain ⟨a,b⟩:=x;obtain ⟨a',b'⟩:=y;simp only at h;rw [h.1,Ak.av_inj h.2]
def Am:Enc (List UInt8) where
 sz:=1
 c:=fun s=>[.str s]
 pos:=by decide
 len:=fun _=>rfl
 low:=fun _=>rfl
 one:=fun _=>rfl
 inj:=fun x y h=>by simpa using h
theorem QQ:Ak.sz=1:=rfl
theorem QR:itE.sz=2:=rfl
theorem La (n:Int):Ak.c n=[.int .i64 n]:=rfl
theorem GU (x:It):itE.c x=[.str x.name,Ak.av x.dims]:=rfl
structure Sx where
 kind:Int
 items:List It
 to:Tn
 e:Tn
 op:List UInt8
 ca:Tn
 cb:Tn
 name:List UInt8
 lo:Tn
 hi:Tn
 step:Int
def Sm.x (m:Sm):Sx:=⟨m.kind,m.items,m.to.tn,m.e.tn,m.op,m.ca.tn,m.cb.tn,m.name,m.lo.tn,m.hi.tn,m.step⟩
def Sx.c (x:Sx):List AV:=[.int .i64 x.kind,itE.av x.items,.int .i64 x.to.k,.int .i64 x.to.n,.str x.to.s,x.to.ar,.int .i64 x.e.k,.int .i64 x.e.n,.str x.e.s,x.e.ar,.str x.op,
 .int .i64 x.ca.k,.int .i64 x.ca.n,.str x.ca.s,x.ca.ar,.int .i64 x.cb.k,.int .i64 x.cb.n,.str x.cb.s,x.cb.ar,.str x.name,.int .i64 x.lo.k,.int .i64 x.lo.n,.str x.lo.s,x.lo.ar,.int .i64 x.hi.k,.int .i64 x.hi.n,.str x.hi.s,x.hi.ar,.int .i64 x.step]
theorem Sx.c_low (x:Sx):lowL 0 x.c=true:=by simp [Sx.c]
def sxE:Enc Sx where
 sz:=29
 c:=Sx.c
 pos:=by decide
 len:=fun _=>rfl
 low:=Sx.c_low
 one:=fun x=>by simp [Sx.c]
 inj:=fun x y h=>by
  have tn_ext:∀a b:Tn,a.k=b.k→a.n=b.n→a.s=b.s→a.ar=b.ar→a=b:=fun a b h1 h2 h3 h4=>NN a b (by rw [CT,CT,h1,h2,h3,h4])
  simp only [Sx.c,List.cons.injEq,AV.int.injEq,AV.str.injEq,true_and,and_true] at h;obtain ⟨h1,h2,a1,a2,a3,a4,b1,b2,b3,b4,h3,c1,c2,c3,c4,d1,d2,d3,d4,h4,e1,e2,e3,e4,f1,f2,f3,f4,h5⟩:=h;obtain ⟨_,_,_,_,_,_,_,_,_,_,_⟩:=x;obtain ⟨_,_,_,_,_,_,_,_,_,_,_⟩:=y;simp only at *;rw [h1,itE.av_inj h2,tn_ext _ _ a1 a2 a3 a4,tn_ext _ _ b1 b2 b3 b4,h3,tn_ext _ _ c1 c2 c3 c4,tn_ext _ _ d1 d2 d3 d4,h4,tn_ext _ _ e1 e2 e3 e4,tn_ext _ _ f1 f2 f3 f4,h5]
def t0:Tn := .lf 0 0 []
@[simp] theorem t0_k:t0.k=0:=AR rfl
@[simp] theorem t0_n:t0.n=0:=AR rfl
@[simp] theorem t0_s:t0.s=[]:=AR rfl
@[simp] theorem t0_ar:t0.ar = .nilSlice:=AR rfl
theorem Bq:Ex.none.tn=t0:=rfl
theorem U7 {ts:List Wd} {i:Nat} {w:Wd} (hw:ts[i]? = some w) {s:List UInt8} (hs:s≠[]) (k:Nat):isK ts i k s=(w.kind==k&&w.text==s):=by
 have:(s==[])=false:=by rw [beq_eq_false_iff_ne];exact hs
 simp only [isK,hw,this,Bool.false_or]
theorem Sr.fail_ok {r:Sr} (h:AO r.err) (p:Nat) {c:Nat} (hc:c≠0):AO (r.fail p c).err:=U6 h (by simp) hc
theorem D1 {ts:List Wd} {r:Sr} {k:Nat} {s:List UInt8} (h:isW ts r k s=true):r.at_<ts.length∧r.err=none:=by
 simp only [isW,isK,Bool.and_eq_true,Option.isNone_iff_eq_none] at h;refine ⟨?_,h.1⟩;have h2:=h.2
 split at h2
 ·rename_i hw;exact (List.getElem?_eq_some_iff.1 hw).1
 ·cases h2
theorem QS {ts:List Wd} {r:Sr} (he:r.err=none) {w:Wd} (hw:ts[r.at_]? = some w) (k:Nat):isW ts r k []=(w.kind==k):=by simp [isW,isK,he,hw]
def xE (x:Option (Nat × Nat)):Er:=x.map fun y=>([(Hv,y.1)],y.2)
theorem kC {x:Option (Nat × Nat)} (h:BO x):AO (xE x):=by
 cases x with
 | none=>exact Bp
 | some y =>obtain ⟨p,c⟩:=y;exact G1 (by simp) fun hc=>h p (by simp only at hc;rw [hc])
theorem G2 {ts:List Wd} {r:Sr} {k:Nat} {s:List UInt8} (h:isW ts r k s=true):CM ts r k s=r.step:=by simp [CM,h]
theorem G3 {ts:List Wd} {r:Sr} {k:Nat} {s:List UInt8} (h:isW ts r k s=false):CM ts r k s=r:=by simp [CM,h]
theorem Ij:Bu zP 49 1=true:=by kernel_rfl
@[simp] theorem bsDim (n:Int):Ch zP 49 1 [(0,.int .i64 n)]=some (.slice .full 1 1 [.int .i64 n]):=by kernel_rfl
@[simp high] theorem o7 (k:Nat) (l:List Int):alen zP 49 (Ak.tk k l)=some (.int .i64 l.length):=Ak.tk_len Tryz.underlying49 k l
def bS (ts:List Wd) (r:St):Prop:=r.at_≤ts.length∧∀p c,r.err=some (p,c)→p≤ts.length
def bR (ts:List Wd) (of:Rd):Prop:=∀r,bS ts r→bS ts (of r).2
theorem bS.step {ts:List Wd} {r:St} (h:bS ts r) (hl:r.at_<ts.length):bS ts r.step:=⟨hl,h.2⟩
theorem bS.next {ts:List Wd} {r:St} (h:bS ts r) {s:List UInt8} (hn:Ac ts r s=true):bS ts r.step:=h.step (FE hn)
theorem bS.fail {ts:List Wd} {r:St} (h:bS ts r) {p:Nat} (hp:p≤ts.length) (e:Nat):bS ts (r.fail p e):=by
 unfold St.fail
 split
 ·refine ⟨h.1,fun q c hq => ?_⟩
  simp only [Option.some.injEq,Prod.mk.injEq] at hq;omega
 ·exact h
theorem bS.must {ts:List Wd} {r:St} (h:bS ts r) (s:List UInt8):bS ts (CL ts r s):=by
 unfold CL
 split
 ·exact h.next ‹_›
 ·exact h.fail h.1 2
theorem QT {ts:List Wd} {of:Rd} (ho:bR ts of) {f:List UInt8} {one:Nat} {s:List UInt8} {two:Nat}:∀(n:Nat) (e:Ex) (r:St),bS ts r→bS ts (DF ts of f one s two n e r).2
 | 0,e,r,h=>h
 | n+1,e,r,h=>by
  simp only [DF]
  split
  ·exact h
  ·split
   ·exact QT ho n _ _ (ho _ (h.next ‹_›))
   ·split
    ·exact QT ho n _ _ (ho _ (h.next ‹_›))
    ·exact h
theorem NT {ts:List Wd} {of:Rd} (ho:bR ts of) {f:List UInt8} {one:Nat} {s:List UInt8} {two:Nat}:bR ts (Et ts of f one s two):=fun r h=>QT ho _ _ _ (ho r h)
theorem U8 {ts:List Wd} {sum:Rd} (ho:bR ts sum):∀(n:Nat) (a:List Ex) (r:St),bS ts r→bS ts (C7 ts sum n a r).2
 | 0,a,r,h=>h
 | n+1,a,r,h=>by
  have h1:=ho r h;simp only [C7]
  split
  ·rename_i hn
   refine U8 ho n _ _ ?_
   split
   ·have h2:=h1.fail h1.1 4
    have hl:=FE hn;refine h2.step ?_;rw [show ((sum r).2.fail (sum r).2.at_ 4).at_=(sum r).2.at_ by unfold St.fail;split<;>rfl];exact hl
   ·exact h1.next hn
  ·exact h1
theorem U9 {ts:List Wd} {p:Nat} {of:Rd} (ho:bR ts of) (hp:p≤ts.length):bR ts (inF p of):=fun r h=>by
 simp only [inF]
 have h2:bS ts (if r.deep+1>20 then (⟨r.at_,r.deep+1,r.err⟩:St).fail p 4 else ⟨r.at_,r.deep+1,r.err⟩):=by
  split
  ·exact bS.fail (r:=⟨r.at_,r.deep+1,r.err⟩) ⟨h.1,h.2⟩ hp 4
  ·exact ⟨h.1,h.2⟩
 generalize (if r.deep+1>20 then (⟨r.at_,r.deep+1,r.err⟩:St).fail p 4 else ⟨r.at_,r.deep+1,r.err⟩)=r2 at *
 split
 ·have:=ho r2 h2
  exact ⟨this.1,this.2⟩
 ·exact ⟨h2.1,h2.2⟩
theorem kD {ts:List Wd} {sum:Rd} (ho:bR ts sum) (s:List UInt8) {r:St} (h:bS ts r) (hl:r.at_<ts.length):bS ts (Dw ts sum s r).2:=by
 simp only [Dw]
 split
 ·rename_i hn
  exact (U8 ho 6 [] _ ((h.step hl).next hn)).must _
 ·exact h.step hl
theorem kE {ts:List Wd} {sum fac:Rd} (hs:bR ts sum) (hf:bR ts fac):bR ts (Cj ts sum fac):=fun r h=>by
 unfold Cj
 split
 ·rename_i w he hw
  have hl:r.at_<ts.length:=(List.getElem?_eq_some_iff.1 hw).1
  split
  ·exact h.step hl
  ·split
   ·exact kD hs _ h hl
   ·split
    ·exact U9 hf h.1 _ (h.step hl)
    ·split
     ·exact bS.must (U9 hs h.1 _ (h.step hl)) _
     ·exact h.fail h.1 2
 ·exact h.fail h.1 2
theorem QU (ts:List Wd):∀n,bR ts (fac ts n)
 | 0=>fun _ h=>h
 | n+1=>kE (NT (NT (QU ts n))) (QU ts n)
theorem NU (ts:List Wd):bR ts (B6 ts):=NT (NT (QU ts _))
theorem bS0 (ts:List Wd):bS ts ⟨0,0,none⟩:=⟨Nat.zero_le _,fun p c h=>by cases h⟩
theorem KZ (ts:List Wd):(B1 ts).2.1≤ts.length∧∀p c,(B1 ts).2.2=some (p,c)→p≤ts.length:=by
 have h:=NU ts _ (bS0 ts);unfold B1
 split
 ·exact ⟨h.1,fun p c hq=>by cases hq⟩
 ·rename_i x hx
  exact ⟨Nat.zero_le _,fun p c hq=>h.2 p c (by rw [hx];exact hq)⟩
theorem kG {ts:List Wd} {r:St} (h:bS ts r):bS ts (Ca ts r).2:=by
 unfold Ca
 split
 ·exact h
 ·split
  ·rename_i w hw
   split
   ·exact h.step (List.getElem?_eq_some_iff.1 hw).1
   ·exact h.fail h.1 2
  ·exact h.fail h.1 2
theorem NV (ts:List Wd):(CE ts).2.1≤ts.length∧∀p c,(CE ts).2.2=some (p,c)→p≤ts.length:=by
 have h:=NU ts _ (kG (NU ts _ (bS0 ts)));unfold CE;simp only
 split
 ·exact ⟨h.1,fun p c hq=>by cases hq⟩
 ·rename_i x hx
  exact ⟨Nat.zero_le _,fun p c hq=>h.2 p c (by rw [hx];exact hq)⟩
inductive Nd where
 | mk (line end_:Int) (st:Sx) (body els:List Nd) (mid:Int)
mutual
def ndC:Nd→List AV
 | .mk l e s b c m => .int .i64 l :: .int .i64 e::(s.c++[if b.isEmpty then .nilSlice else .slice .unk 34 b.length (FZ b),if c.isEmpty then .nilSlice else .slice .unk 34 c.length (FZ c),.int .i64 m])
def FZ:List Nd→List AV
 | []=>[]
 | n::r=>ndC n++FZ r
end
def Nd.line:Nd→Int | .mk l _ _ _ _ _=>l
def Nd.end_:Nd→Int | .mk _ e _ _ _ _=>e
def Nd.st:Nd→Sx | .mk _ _ s _ _ _=>s
def Nd.body:Nd→List Nd | .mk _ _ _ b _ _=>b
def Nd.els:Nd→List Nd | .mk _ _ _ _ c _=>c
def Nd.mid:Nd→Int | .mk _ _ _ _ _ m=>m
theorem Sx.c_len (x:Sx):x.c.length=29:=rfl
theorem HZ (n:Nd):(ndC n).length=34:=by cases n;rw [ndC];simp [Sx.c_len]
mutual
theorem Br:∀n:Nd,lowL 0 (ndC n)=true
 | .mk l e s b c m=>by
  have h1:=QV b;have h2:=QV c;have h3:=Sx.c_low s;rw [ndC];simp only [lowL,low,Dt,h3,Bool.true_and,Bool.and_true,Bool.and_eq_true]
  constructor
  ·split
   ·rfl
   ·exact h1
  ·split
   ·rfl
   ·exact h2
theorem QV:∀l:List Nd,lowL 0 (FZ l)=true
 | []=>rfl
 | n::r=>by rw [FZ,Dt,Br n,QV r];rfl
end
theorem H9 (n:Nd):(ndC n).all AV.one=true:=by
 cases n with
 | mk l e s b c m =>
  rw [ndC];have h3:=sxE.one s;have h4:s.c.all AV.one=true:=h3;simp only [List.all_cons,List.all_append,h4,AV.one,Bool.true_and,List.all_nil,Bool.and_true,Bool.and_eq_true]
  constructor
  ·cases b<;>rfl
  ·cases c<;>rfl
theorem Lb:∀l:List Nd,(FZ l).length=l.length*34
 | []=>rfl
 | n::r=>by rw [FZ,List.length_append,HZ,Lb r,List.length_cons];omega
mutual
theorem NW:∀a b:Nd,ndC a=ndC b→a=b
 | .mk l e s b c m,.mk l' e' s' b' c' m',h=>by
  simp only [ndC,List.cons.injEq,AV.int.injEq,true_and] at h;obtain ⟨h1,h2,h3⟩:=h;obtain ⟨h4,h5⟩:=List.append_inj h3 (by rw [Sx.c_len,Sx.c_len]);simp only [List.cons.injEq,AV.int.injEq,true_and,and_true] at h5
  have k1:b=b':=by
   cases b with
   | nil=>cases b' with
    | nil=>rfl
    | cons=>simp at h5
   | cons x b=>cases b' with
    | nil=>simp at h5
    | cons y b' =>simp only [List.isEmpty_cons,Bool.false_eq_true,if_false,AV.slice.injEq,true_and] at h5;exact QW _ _ h5.1.2
  have k2:c=c':=by
   cases c with
   | nil=>cases c' with
    | nil=>rfl
    | cons=>simp at h5
   | cons x c=>cases c' with
    | nil=>simp at h5
    | cons y c' =>simp only [List.isEmpty_cons,Bool.false_eq_true,if_false,AV.slice.injEq,true_and] at h5;exact QW _ _ h5.2.1.2
  rw [h1,h2,sxE.inj s s' h4,k1,k2,h5.2.2]
theorem QW:∀a b:List Nd,FZ a=FZ b→a=b
 | [],[],_=>rfl
 | [],n::b,h=>by have:=congrArg List.length h;rw [Lb,Lb] at this;simp at this
 | n::a,[],h=>by have:=congrArg List.length h;rw [Lb,Lb] at this;simp at this
 | n::a,m::b,h=>by rw [FZ,FZ] at h;obtain ⟨h1,h2⟩:=List.append_inj h (by rw [HZ,HZ]);rw [NW n m h1,QW a b h2]
end
def ndE:Enc Nd where
 sz:=34
 c:=ndC
 pos:=by decide
 len:=HZ
 low:=Br
 one:=H9
 inj:=NW
theorem VA:∀l:List Nd,ndE.row l=FZ l
 | []=>rfl
 | n::r=>by rw [Enc.row,FZ,VA r];rfl
theorem VB (l:List Nd):(if l.isEmpty then AV.nilSlice else .slice .unk 34 l.length (FZ l))=ndE.av l:=by
 cases l with
 | nil=>rfl
 | cons n r=>rw [Enc.av_ne _ (by simp),VA];rfl
theorem C9 (n:Nd):ndC n = .int .i64 n.line :: .int .i64 n.end_::(n.st.c++[ndE.av n.body,ndE.av n.els,.int .i64 n.mid]):=by
 cases n with
 | mk l e s b c m=>rw [ndC,VB,VB];rfl
end Go.Proofs.YtejjlojfgcgopaaGreatDoor
namespace Go.Proofs.YtejjlojfgcgopaaGreatDoor.Tq
open Go.RowKit Go.Proofs.Fw
set_option maxRecDepth 100000
theorem zz19:Ad zP 65=some 1∧Au zP 65=some false∧Ae zP 65=some (.int .u32 0)∧AE zP 3=true∧AE zP 5=true∧AE zP 15=true∧AE zP 49=true:=by and_intros<;>kernel_rfl
attribute [simp] zz19 Tryz.underlying65
end Go.Proofs.YtejjlojfgcgopaaGreatDoor.Tq
namespace Go.Proofs.YtejjlojfgcgopaaGreatDoor.Tv
open Go.RowKit Go.Proofs.Fw
set_option maxRecDepth 100000
theorem zz20:Ad zP 39=some 1∧Au zP 39=some false∧Ae zP 39=some (.nilSlice)∧Bu zP 39 2=true∧Ad zP 46=some 29∧Au zP 46=some true∧Ae zP 46=some (.agg [.int .i64 0,.nilSlice,.int .i64 0,.int .i64 0,.str [],.nilSlice,.int .i64 0,.int .i64 0,.str [],.nilSlice,.str [],.int .i64 0,.int .i64 0,.str [],.nilSlice,.int .i64 0,.int .i64 0,.str [],.nilSlice,.str [],.int .i64 0,.int .i64 0,.str [],.nilSlice,.int .i64 0,.int .i64 0,.str [],.nilSlice,.int .i64 0])∧fI zP 46 0=(0,3,true)∧fI zP 46 1=(1,39,true)∧fI zP 46 2=(2,42,true)∧fI zP 46 3=(6,42,true)∧fI zP 46 4=(10,44,true)∧fI zP 46 5=(19,9,true)∧fI zP 46 6=(20,42,true)∧fI zP 46 7=(24,42,true)∧fI zP 46 8=(28,2,true)∧Ad zP 51=some 2∧Au zP 51=some true∧Ae zP 51=some (.agg [.str [],.nilSlice])∧fI zP 51 0=(0,9,true)∧fI zP 51 1=(1,49,true)∧Ad zP 227=some 1∧Au zP 227=some false∧Ae zP 227=some (.nilPtr):=by and_intros<;>kernel_rfl
theorem zz21:Ad zP 229=some 4∧Au zP 229=some true∧Ae zP 229=some (.agg [.nilSlice,.int .i64 0,.nilSlice,.int .i64 0])∧fI zP 229 0=(0,54,true)∧fI zP 229 1=(1,3,true)∧fI zP 229 2=(2,57,true)∧AE zP 76=true∧AE zP 85=true∧AE zP 86=true∧AE zP 116=true∧AE zP 117=true∧AE zP 118=true∧AE zP 119=true∧AE zP 120=true∧AE zP 121=true∧AE zP 129=true∧AE zP 130=true∧AE zP 162=true∧AE zP 163=true∧AE zP 164=true∧AE zP 166=true∧AE zP 167=true∧AE zP 171=true∧AE zP 190=true:=by and_intros<;>kernel_rfl
theorem zz22:AE zP 191=true∧AE zP 192=true:=by and_intros<;>kernel_rfl
attribute [simp] zz20 Tryz.underlying39 Tryz.underlying46
attribute [simp] Tryz.underlying51 Tryz.underlying227 zz21 Tryz.underlying229
attribute [simp] zz22
end Go.Proofs.YtejjlojfgcgopaaGreatDoor.Tv
namespace Go.Proofs.YtejjlojfgcgopaaGreatDoor.Tt
open Go.RowKit Go.Proofs.Fw
set_option maxRecDepth 100000
theorem zz23:Ad zP 68=some 1∧Au zP 68=some false∧Ae zP 68=some (.nilSlice)∧Bu zP 68 34=true∧Ad zP 108=some 34∧Au zP 108=some true∧Ae zP 108=some (.agg [.int .i64 0,.int .i64 0,.int .i64 0,.nilSlice,.int .i64 0,.int .i64 0,.str [],.nilSlice,.int .i64 0,.int .i64 0,.str [],.nilSlice,.str [],.int .i64 0,.int .i64 0,.str [],.nilSlice,.int .i64 0,.int .i64 0,.str [],.nilSlice,.str [],.int .i64 0,.int .i64 0,.str [],.nilSlice,.int .i64 0,.int .i64 0,.str [],.nilSlice,.int .i64 0,.nilSlice,.nilSlice,.int .i64 0])∧fI zP 108 0=(0,3,true)∧fI zP 108 1=(1,3,true)∧fI zP 108 2=(2,46,true)∧fI zP 108 3=(31,68,true)∧fI zP 108 4=(32,68,true)∧fI zP 108 5=(33,3,true)∧Ad zP 171=some 1∧Au zP 171=some false∧Ae zP 171=some (.nilPtr)∧Ad zP 172=some 1∧Au zP 172=some false∧Ae zP 172=some (.nilSlice)∧Bu zP 172 29=true∧Ad zP 173=some 1∧Au zP 173=some false∧Ae zP 173=some (.nilSlice)∧Bu zP 173 2=true:=by and_intros<;>kernel_rfl
theorem zz24:Ad zP 175=some 7∧Au zP 175=some true∧Ae zP 175=some (.agg [.nilSlice,.nilSlice,.nilSlice,.int .i64 0,.nilSlice,.int .i64 0,.bool false])∧fI zP 175 0=(0,23,true)∧fI zP 175 1=(1,172,true)∧fI zP 175 2=(2,173,true)∧fI zP 175 3=(3,3,true)∧fI zP 175 4=(4,57,true)∧fI zP 175 5=(6,4,true)∧AE zP 27=true∧AE zP 35=true∧AE zP 72=true∧AE zP 77=true∧AE zP 107=true∧AE zP 122=true∧AE zP 123=true∧AE zP 124=true:=by and_intros<;>kernel_rfl
attribute [simp] zz23 Tryz.underlying68 Tryz.underlying108 Tryz.underlying171
attribute [simp] Tryz.underlying172 Tryz.underlying173 zz24 Tryz.underlying175
end Go.Proofs.YtejjlojfgcgopaaGreatDoor.Tt
namespace Go.Proofs.YtejjlojfgcgopaaGreatDoor.Ts
open Go.RowKit Go.Proofs.Fw
set_option maxRecDepth 100000
theorem zz25:Ad zP 78=some 1∧Au zP 78=some false∧Ae zP 78=some (.nilSlice)∧Bu zP 78 4=true∧Ad zP 167=some 1∧Au zP 167=some false∧Ae zP 167=some (.nilPtr)∧Ad zP 169=some 5∧Au zP 169=some true∧Ae zP 169=some (.agg [.nilSlice,.int .i64 0,.nilSlice,.int .i64 0,.int .i64 0])∧fI zP 169 0=(0,80,true)∧fI zP 169 1=(2,57,true)∧fI zP 169 2=(4,3,true)∧AE zP 30=true:=by and_intros<;>kernel_rfl
theorem go34:AE zP 34=true:=by kernel_rfl
theorem zz26:AE zP 75=true∧AE zP 110=true∧AE zP 111=true∧AE zP 112=true∧AE zP 113=true∧AE zP 114=true∧AE zP 115=true∧AE zP 161=true:=by and_intros<;>kernel_rfl
attribute [simp] zz25 Tryz.underlying78 Tryz.underlying167 Tryz.underlying169 go34 zz26
end Go.Proofs.YtejjlojfgcgopaaGreatDoor.Ts
namespace Go.Proofs.YtejjlojfgcgopaaGreatDoor.Th
open Go.RowKit Go.Proofs.Fw
set_option maxRecDepth 100000
theorem zz27:Ad zP 76=some 1∧Au zP 76=some false∧Ae zP 76=some (.nilSlice)∧Bu zP 76 34=true∧Ad zP 104=some 34∧Au zP 104=some true:=by and_intros<;>kernel_rfl
theorem zv104:Ae zP 104=some (.agg [.int .i64 0,.int .i64 0,.int .i64 0,.nilSlice,.int .i64 0,.int .i64 0,.str [],.nilSlice,.int .i64 0,.int .i64 0,.str [],.nilSlice,.str [],.int .i64 0,.int .i64 0,.str [],.nilSlice,.int .i64 0,.int .i64 0,.str [],.nilSlice,.str [],.int .i64 0,.int .i64 0,.str [],.nilSlice,.int .i64 0,.int .i64 0,.str [],.nilSlice,.int .i64 0,.nilSlice,.nilSlice,.int .i64 0]):=by kernel_rfl
theorem zz28:fI zP 104 0=(0,3,true)∧fI zP 104 1=(1,3,true)∧fI zP 104 2=(2,31,true)∧fI zP 104 3=(31,76,true)∧fI zP 104 4=(32,76,true)∧fI zP 104 5=(33,3,true)∧Ad zP 116=some 1∧Au zP 116=some false∧Ae zP 116=some (.nilFunc)∧Ad zP 182=some 1∧Au zP 182=some false∧Ae zP 182=some (.nilPtr)∧Ad zP 183=some 1∧Au zP 183=some false∧Ae zP 183=some (.nilPtr)∧Ad zP 185=some 4∧Au zP 185=some true∧Ae zP 185=some (.agg [.nilSlice,.nilPtr,.int .i64 0,.bool false])∧fI zP 185 0=(0,76,true)∧fI zP 185 1=(1,183,true)∧fI zP 185 2=(2,3,true)∧fI zP 185 3=(3,4,true)∧Ad zP 188=some 35∧Au zP 188=some true:=by and_intros<;>kernel_rfl
theorem zz29:Ae zP 188=some (.agg [.int .i64 0,.int .i64 0,.int .i64 0,.nilSlice,.int .i64 0,.int .i64 0,.str [],.nilSlice,.int .i64 0,.int .i64 0,.str [],.nilSlice,.str [],.int .i64 0,.int .i64 0,.str [],.nilSlice,.int .i64 0,.int .i64 0,.str [],.nilSlice,.str [],.int .i64 0,.int .i64 0,.str [],.nilSlice,.int .i64 0,.int .i64 0,.str [],.nilSlice,.int .i64 0,.nilSlice,.nilSlice,.int .i64 0,.nilPtr])∧fI zP 188 0=(0,104,true)∧fI zP 188 1=(34,183,true)∧AE zP 41=true∧AE zP 44=true:=by and_intros<;>kernel_rfl
theorem go46:AE zP 46=true:=by kernel_rfl
theorem go48:AE zP 48=true:=by kernel_rfl
theorem zz30:AE zP 80=true∧AE zP 81=true∧AE zP 82=true∧AE zP 83=true∧AE zP 84=true∧AE zP 127=true∧AE zP 128=true:=by and_intros<;>kernel_rfl
attribute [simp] zz27 Tryz.underlying76 zv104 zz28 Tryz.underlying104 Tryz.underlying116
attribute [simp] Tryz.underlying182 Tryz.underlying183 Tryz.underlying185 zz29
attribute [simp] Tryz.underlying188 go46 go48 zz30
end Go.Proofs.YtejjlojfgcgopaaGreatDoor.Th
namespace Go.Proofs.YtejjlojfgcgopaaGreatDoor
open Go.RowKit Go.Proofs.Fw
set_option maxRecDepth 100000
set_option maxHeartbeats 4000000
def AY:Env:=⟨AJ.glob,LI,AJ.imm,fun t=>t==76,fun _=>false⟩
theorem Jb:Cz zP AY:=KJ
theorem DQ:∀i,low 0 (AY.glob i)=true:=BY
theorem CS.toS {f:FuncId} {args:List AV} {H H':AH} {v:AV} (h:CS zP AJ f args H v H'):CS zP AY f args H v H':=fun g w cargs R hG hA=>h g w cargs R hG hA
theorem CS.ofS {f:FuncId} {args:List AV} {H H':AH} {v:AV} (h:CS zP AY f args H v H'):CS zP AJ f args H v H':=fun g w cargs R hG hA=>h g w cargs R hG hA
@[simp] theorem Ha:AY.soft 76=true:=by decide
@[simp] theorem immSb:AY.imm 185=false:=by decide
@[simp] theorem immSo:AY.imm 188=false:=by decide
@[simp] theorem immSn:AY.imm 104=false:=by decide
@[simp] theorem immSx:AY.imm 31=false:=by decide
theorem CG:Cx Bk zP AY:=⟨JI,Jb,Af⟩
theorem GV:Bu zP 76 34=true:=by kernel_rfl
@[simp] theorem bsNdP (cs:List AV) (hl:cs.length=34):Ch zP 76 1 [(0,.agg cs)]=some (.slice .full 34 1 cs):=by
 have h1:Ad zP 104=some 34:=by kernel_rfl
 obtain ⟨z,h2,h3⟩:∃z,Ae zP 104=some (.agg z)∧z.length=34:=⟨_,Th.zv104,rfl⟩
 simp [Ch,Tryz.underlying76,h1,h2,h3,FK,EM,hl,Ix,At]
section
variable {cs:List AV}
theorem kH (hl:cs.length=34) (ho:cs.all AV.one=true) (hc:lowL 0 cs=true) (d:Int) (o:Bool) :
  CS zP AY 128 [.ptr 0 0,.agg cs] [some (.box [.nilSlice,.nilPtr,.int .i64 d,.bool o])] (.tup []) [some (.box [.slice (.tok 1) 34 1 cs,.nilPtr,.int .i64 d,.bool o]),some (.tok 1)]:=by
 refine CS.of_TrN (H0:=[some (.box [.nilSlice,.nilPtr,.int .i64 d,.bool o])]) (H1:=[some (.box [.slice (.tok 1) 34 1 cs,.nilPtr,.int .i64 d,.bool o]),some (.tok 1)]) 2 (by simp) (c:=Ar Tryz.f128) Tryz.func128 (by kernel_rfl) 0 (by simp [Tryz.f128]) (fun B hB hG => ?_) (by simp) (by simp [AP,Aq,Ah (Nat.zero_le 2) cs hc]);refine Tr.post ?_;refine Tr.goD CG hG (by kernel_rfl) ?_;simp [Tryz.f128];refine LpD.turns CG hG [7,9,12] [(8,12),(9,10),(9,11),(9,12)] (by kernel_rfl) ?_;have py:=fun H fid ow ys (h:ys.all AV.one=true)=>K4 (P:=zP) (H:=H) (fid:=fid) (ow:=ow) (ys:=ys) GV h
 have ht:cs.take 34=cs:=List.take_of_length_le (by omega);have rB:∀x∈cs,AV.one x=true:=fun x hx=>List.all_eq_true.1 ho x hx
 simp only [AV.one] at rB;simp [hl,ht,HA Ha,py];rw [if_pos rB];simp [hl,ht]
 refine ⟨mkT 103 [],[some (.box [.slice (.tok 1) 34 1 cs,.nilPtr,.int .i64 d,.bool o]),some (.tok 1)],AF.put 2 0 cs rfl (fun i=>if i=0 then 0 else 2) 2 (by simp [hB]) (by
  intro i j hi hj h
  rcases (by omega:i=0∨i=1) with rfl|rfl<;>rcases (by omega:j=0∨j=1) with rfl|rfl<;>simp at h ⊢) (by simp [hB]) rfl (by
  intro i hi;rcases (by omega:i=0∨i=1) with rfl|rfl
  ·simp [AH.at,Bm,C0,AI,ren,AM,BA _ cs hc]
  ·simp [AH.at,Bm,AI]) (by simp [Ah (Nat.zero_le 2) cs hc]),rfl⟩
theorem kI {xs:List AV} (m:Nat) (hm:m<137438953472) (hl:cs.length=34) (ho:cs.all AV.one=true) (hc:lowL 0 cs=true) (hx:lowL 0 xs=true) (d:Int) (o:Bool) :
  CS zP AY 128 [.ptr 0 0,.agg cs] [some (.box [.slice (.tok 1) 34 m xs,.nilPtr,.int .i64 d,.bool o]),some (.tok m)] (.tup []) [some (.box [.slice (.tok 1) 34 (m+1) (xs++cs),.nilPtr,.int .i64 d,.bool o]),some (.tok (m+1))]:=by
 refine CS.of_TrN (H0:=[some (.box [.slice (.tok 1) 34 m xs,.nilPtr,.int .i64 d,.bool o]),some (.tok m)]) (H1:=[some (.box [.slice (.tok 1) 34 (m+1) (xs++cs),.nilPtr,.int .i64 d,.bool o]),some (.tok (m+1))]) 2 (by simp) (c:=Ar Tryz.f128) Tryz.func128 (by kernel_rfl) 0 (by simp [Tryz.f128]) (fun B hB hG => ?_) (by simp) (by simp [AP,Aq,Ah (Nat.zero_le 2) cs hc,Ah (Nat.zero_le 2) xs hx]);refine Tr.post ?_;refine Tr.goD CG hG (by kernel_rfl) ?_;simp [Tryz.f128];refine LpD.turns CG hG [7,9,12] [(8,12),(9,10),(9,11),(9,12)] (by kernel_rfl) ?_;have py:=fun H fid ow ys (hk:AH.at H 1=some (.tok m)) (h:ys.all AV.one=true)=>K5 (P:=zP) (H:=H) (fid:=fid) (k:=1) (n:=m) (xs:=xs) (ow:=ow) (ys:=ys) GV hk (by omega) h
 have ht:cs.take 34=cs:=List.take_of_length_le (by omega);have rB:∀x∈cs,AV.one x=true:=fun x hx=>List.all_eq_true.1 ho x hx
 simp only [AV.one] at rB;simp [hl,ht,HA Ha,py];rw [if_pos rB];simp [hl,ht]
 refine ⟨mkT 103 [],[some (.box [.slice (.tok 1) 34 (m+1) (xs++cs),.nilPtr,.int .i64 d,.bool o]),some (.tok (m+1))],AF.put 1 m cs rfl (fun i=>i) 2 (by simp [hB]) (by
  intro i j hi hj h
  exact h) (by simp) rfl (by
  intro i hi;rcases (by omega:i=0∨i=1) with rfl|rfl
  ·simp [AH.at,Bm,C0,AI,ren,AM,BA _ _ hc,BA _ _ hx,BA _ (xs++cs) (by simp [Dt,hc,hx])]
  ·simp [AH.at,Bm,AI]) (by simp [Ah (Nat.zero_le 2) cs hc,Ah (Nat.zero_le 2) xs hx]),rfl⟩
end
end Go.Proofs.YtejjlojfgcgopaaGreatDoor
namespace Go.Proofs.Fw
open Go.RowKit
abbrev DZ (a c:Tmp) (tb:TypeId) (p:String):Array Oper :=
 #[{dst:=some a,op := .alloc tb,type:=0,pos:=p,after := #[],guard:=none},
  {dst:=none,op := .store tb (.tmp a) (.const (.bool true)),type:=0,pos:=p,after := #[⟨0,.data⟩,⟨2,.gcOnly .appendInPlace⟩],guard:=none},
  {dst:=none,op := .store tb (.tmp a) (.const (.bool false)),type:=0,pos:=p,after := #[⟨0,.data⟩,⟨1,.textOnly .appendInPlace⟩],guard:=none},
  {dst:=some c,op := .load tb (.tmp a),type:=tb,pos:=p,after := #[⟨0,.data⟩,⟨0,.phase⟩,⟨1,.phase⟩,⟨2,.phase⟩],guard:=none}]
section
variable {a c:Tmp} {tb:TypeId} {p:String}
theorem VC:Region.ready .any (DZ a c tb p) (Array.replicate 4 false)=[0]:=by kernel_rfl
theorem VD:Region.ready .any (DZ a c tb p) ((Array.replicate 4 false).setIfInBounds 0 true)=[1,2]:=by kernel_rfl
theorem VE:Region.ready .any (DZ a c tb p) (((Array.replicate 4 false).setIfInBounds 0 true).setIfInBounds 1 true)=[2]:=by kernel_rfl
theorem VF:Region.ready .any (DZ a c tb p) (((Array.replicate 4 false).setIfInBounds 0 true).setIfInBounds 2 true)=[1]:=by kernel_rfl
theorem kJ:Region.ready .any (DZ a c tb p) ((((Array.replicate 4 false).setIfInBounds 0 true).setIfInBounds 1 true).setIfInBounds 2 true)=[3]:=by kernel_rfl
theorem kK:Region.ready .any (DZ a c tb p) ((((Array.replicate 4 false).setIfInBounds 0 true).setIfInBounds 2 true).setIfInBounds 1 true)=[3]:=by kernel_rfl
theorem kL:Region.ready .any (DZ a c tb p) (((((Array.replicate 4 false).setIfInBounds 0 true).setIfInBounds 1 true).setIfInBounds 2 true).setIfInBounds 3 true)=[]:=by kernel_rfl
theorem kM:Region.ready .any (DZ a c tb p) (((((Array.replicate 4 false).setIfInBounds 0 true).setIfInBounds 2 true).setIfInBounds 1 true).setIfInBounds 3 true)=[]:=by kernel_rfl
variable {O:Orc} {P:Program} {E:Env} {t:List AV} {H:AH} {K:List AV→AH→Prop}
theorem kN (hz:Ae P tb=some (.bool false)) (hs:Ad P tb=some 1) (hg:Au P tb=some false) (ha:a<t.length)
  (h:∀x y:Bool,K (AT (AT t (some a) (.ptr H.length 0)) (some c) (.bool x)) (H++[some (.box [.bool y])])) :
  J3 O P E (DZ a c tb p) ((AX E (DZ a c tb p).toList H.length).map (·.2)) 4 (Array.replicate 4 false) t (H++[none]) K:=by
 have hH:AH.at (H++[none]) H.length=none:=by simp [AH.at]
 have ht:(AT t (some a) (.ptr H.length 0))[a]? = some (.ptr H.length 0):=by simp [AT,ha]
 generalize hT:AT t (some a) (.ptr H.length 0)=T at h ht;have tT:∀e:Env,AC e T (.tmp a) = .ptr H.length 0:=fun e=>by simp [AC,List.getD_eq_getElem?_getD,ht]
 have sG:∀(e:Option Ent) (x:Option Ent),(H++[e]).set H.length x=H++[x]:=fun e x=>by rw [List.set_append_right _ _ (Nat.le_refl _)];simp
 have uW:∀x:Ent,AH.at (H++[some x]) H.length=some x:=fun x=>by simp [AH.at]
 have load:∀(x:Bool) (fid:Nat),Ce O P E (DZ a c tb p) T (H++[some (.box [.bool x])]) ({dst:=some c,op := .load tb (.tmp a),type:=tb,pos:=p,after := #[⟨0,.data⟩,⟨0,.phase⟩,⟨1,.phase⟩,⟨2,.phase⟩],guard:=none},fid)=some (.bool x,[],[H.length]):=by
  intro x fid
  have hv:BF E (H++[some (.box [.bool x])]) (AC E T) ({dst:=some c,op := .load tb (.tmp a),type:=tb,pos:=p,after := #[⟨0,.data⟩,⟨0,.phase⟩,⟨1,.phase⟩,⟨2,.phase⟩],guard:=none},fid)=[H.length]:=by
   show DV (H++[some (.box [.bool x])]) 0 (ES [AC E T (.tmp a)])=_
   rw [tT,Sz];rfl
  have hl:BB P (mask (H++[some (.box [.bool x])]) [H.length]) tb (.ptr H.length 0)=some (.bool x):=by rw [TM P tb (by intro i hi;exact hi)];unfold BB;simp only [uW];unfold BL;rw [hg];rfl
  have pu:BJ O P E (AC E T) (mask (H++[some (.box [.bool x])]) [H.length]) fid [H.length] {dst:=some c,op := .load tb (.tmp a),type:=tb,pos:=p,after := #[⟨0,.data⟩,⟨0,.phase⟩,⟨1,.phase⟩,⟨2,.phase⟩],guard:=none}=(BB P (mask (H++[some (.box [.bool x])]) [H.length]) tb (AC E T (.tmp a))).map (fun a=>(a,[])):=rfl;rw [tT,hl] at pu;unfold Ce;simp only [Aw,hv,pu];rfl
 have store:∀(x y:Bool) (fid:Nat) (af:Array Edge),Ce O P E (DZ a c tb p) T (H++[some (.box [.bool x])]) ({dst:=none,op := .store tb (.tmp a) (.const (.bool y)),type:=0,pos:=p,after:=af,guard:=none},fid)=some (.nothing,[(H.length,.box [.bool y])],[H.length]):=by
  intro x y fid af
  have hv:BF E (H++[some (.box [.bool x])]) (AC E T) ({dst:=none,op := .store tb (.tmp a) (.const (.bool y)),type:=0,pos:=p,after:=af,guard:=none},fid)=[H.length]:=by
   show ES [AC E T (.tmp a)]=_
   rw [tT];rfl
  have hl:DT P (mask (H++[some (.box [.bool x])]) [H.length]) tb (.ptr H.length 0) (.bool y)=some (.nothing,[(H.length,.box [.bool y])]):=by rw [TN P tb (by intro i hi;exact hi)];unfold DT;simp only [uW,hs];rfl
  have pu:BJ O P E (AC E T) (mask (H++[some (.box [.bool x])]) [H.length]) fid [H.length] {dst:=none,op := .store tb (.tmp a) (.const (.bool y)),type:=0,pos:=p,after:=af,guard:=none}=DT P (mask (H++[some (.box [.bool x])]) [H.length]) tb (AC E T (.tmp a)) (.bool y):=rfl;rw [tT,hl] at pu;unfold Ce;simp only [Aw,hv,pu];simp
 have alloc:Ce O P E (DZ a c tb p) t (H++[none]) ({dst:=some a,op := .alloc tb,type:=0,pos:=p,after := #[],guard:=none},H.length)=some (.ptr H.length 0,[(H.length,.box [.bool false])],[H.length]):=by
  have pu:∀S,BJ O P E (AC E t) (mask (H++[none]) S) H.length S {dst:=some a,op := .alloc tb,type:=0,pos:=p,after := #[],guard:=none}=(match Ae P tb with|some z=>some (.ptr H.length 0,[(H.length,.box (At z))])|none=>none):=fun _=>rfl
  have hv:BF E (H++[none]) (AC E t) ({dst:=some a,op := .alloc tb,type:=0,pos:=p,after := #[],guard:=none},H.length)=[H.length]:=by
   show H.length::DV (H++[none]) 4 []=_
   rw [S0]
  unfold Ce;simp only [Aw,hv,pu,hz];simp [At]
 have fin:∀(x:Bool) (l:Array Bool),Region.ready .any (DZ a c tb p) l=[3]→Region.ready .any (DZ a c tb p) (l.setIfInBounds 3 true)=[]→J3 O P E (DZ a c tb p) ((AX E (DZ a c tb p).toList H.length).map (·.2)) 1 l T (H++[some (.box [.bool x])]) K:=by intro x l h1 h2;refine ⟨by rw [h1];simp,fun i hi => ?_⟩;rw [h1] at hi;simp only [List.mem_singleton] at hi;subst hi;exact ⟨{dst:=some c,op := .load tb (.tmp a),type:=tb,pos:=p,after := #[⟨0,.data⟩,⟨0,.phase⟩,⟨1,.phase⟩,⟨2,.phase⟩],guard:=none},_,_,_,rfl,fun hn=>by simp [Ao] at hn,load x _,h2,h x x⟩
 refine ⟨by rw [VC];simp,fun i hi => ?_⟩;rw [VC] at hi;simp only [List.mem_singleton] at hi;subst hi;refine ⟨{dst:=some a,op := .alloc tb,type:=0,pos:=p,after := #[],guard:=none},_,_,_,rfl,fun _ => ?_,alloc,?_⟩
 ·exact ⟨by simp [DZ,AX],by first|(simp [DZ,AX];done)|(simpa [DZ,AX] using hH)⟩
 simp only [hT,AQ,sG];refine ⟨by rw [VD];simp,fun i hi => ?_⟩;rw [VD] at hi;simp only [List.mem_cons,List.not_mem_nil,or_false] at hi;rcases hi with rfl|rfl
 ·refine ⟨{dst:=none,op := .store tb (.tmp a) (.const (.bool true)),type:=0,pos:=p,after := #[⟨0,.data⟩,⟨2,.gcOnly .appendInPlace⟩],guard:=none},_,_,_,rfl,fun hn=>by simp [Ao] at hn,store _ true _ _,?_⟩
  simp only [AT,AQ,sG];refine ⟨by rw [VE];simp,fun i hi => ?_⟩;rw [VE] at hi;simp only [List.mem_singleton] at hi;subst hi;refine ⟨{dst:=none,op := .store tb (.tmp a) (.const (.bool false)),type:=0,pos:=p,after := #[⟨0,.data⟩,⟨1,.textOnly .appendInPlace⟩],guard:=none},_,_,_,rfl,fun hn=>by simp [Ao] at hn,store _ false _ _,?_⟩;simp only [AT,AQ,sG];exact fin false _ kJ kL
 ·refine ⟨{dst:=none,op := .store tb (.tmp a) (.const (.bool false)),type:=0,pos:=p,after := #[⟨0,.data⟩,⟨1,.textOnly .appendInPlace⟩],guard:=none},_,_,_,rfl,fun hn=>by simp [Ao] at hn,store _ false _ _,?_⟩
  simp only [AT,AQ,sG];refine ⟨by rw [VF];simp,fun i hi => ?_⟩;rw [VF] at hi;simp only [List.mem_singleton] at hi;subst hi;refine ⟨{dst:=none,op := .store tb (.tmp a) (.const (.bool true)),type:=0,pos:=p,after := #[⟨0,.data⟩,⟨2,.gcOnly .appendInPlace⟩],guard:=none},_,_,_,rfl,fun hn=>by simp [Ao] at hn,store _ true _ _,?_⟩;simp only [AT,AQ,sG];exact fin true _ kK kM
theorem LpD.coin {B:Bs} {Lp:El} {ks0:List Fr} (X:Cx O P E) (hG:An E B.g) {id:Nat} {Q:AEx→List AV→AH→Prop} (hz:Ae P tb=some (.bool false)) (hs:Ad P tb=some 1) (hg:Au P tb=some false) (ha:a<t.length)
  (h:∀x y:Bool,Go O P E Lp .skip ks0 (AT (AT t (some a) (.ptr H.length 0)) (some c) (.bool x)) (H++[some (.box [.bool y])]) Q):LpD P B (.scope (.region id (DZ a c tb p) true)) t H (E9 O P E Lp ks0 Q):=by
 refine LpD.orders X hG ?_;have hn:Ai E (DZ a c tb p).toList=1:=rfl;rw [hn,JB];exact kN hz hs hg ha h
end
end Go.Proofs.Fw
namespace Go.Proofs.YtejjlojfgcgopaaGreatDoor
open Go.RowKit Go.Proofs.Fw
set_option maxRecDepth 100000
set_option maxHeartbeats 4000000
theorem kO (cs pre:List AV) (X Y Z:AV) (e2 e3 e4:Option Ent) (mid:Int) (qx:mid<0) (hp:pre.length=31) (hl:cs.length=34) (ho:cs.all AV.one=true) (hc:lowL 0 cs=true) (hx:low 5 X=true) (hy:low 5 Y=true) (hz:low 5 Z=true)
  (rK:lowL 0 pre=true) (h2:Aq 5 e2=true) (h3:Aq 5 e3=true) (h4:Aq 5 e4=true) (d:Int) (o:Bool) :
  CS zP AY 128 [.ptr 0 0,.agg cs] [some (.box [X,.ptr 1 0,.int .i64 d,.bool o]),some (.box (pre++[.nilSlice,Y,.int .i64 mid,Z])),e2,e3,e4] (.tup []) [some (.box [X,.ptr 1 0,.int .i64 d,.bool o]),some (.box (pre++[.slice (.tok 5) 34 1 cs,Y,.int .i64 mid,Z])),e2,e3,e4,some (.tok 1)]:=by
 have lE6:∀{e:Option Ent},Aq 5 e=true→Aq 6 e=true:=fun {e} h=>by
  cases e with
  | none=>rfl
  | some e=>cases e with
   | box cs=>exact Ah (by omega) _ h
   | loose n cs=>exact Ah (by omega) _ h
   | stk n cs=>exact Ah (by omega) _ h
   | _=>rfl
 have qB:AP 6 [some (.box [X,.ptr 1 0,.int .i64 d,.bool o]),some (.box (pre++[.slice (.tok 5) 34 1 cs,Y,.int .i64 mid,Z])),e2,e3,e4,some (.tok 1)]=true:=by simp only [AP,lE6 h2,lE6 h3,lE6 h4,Bool.and_true,Bool.true_and];simp [CY (by omega:5≤6) X hx,CY (by omega:5≤6) Y hy,CY (by omega:5≤6) Z hz,Ah (Nat.zero_le 6) pre rK,Ah (Nat.zero_le 6) cs hc]
 refine CS.of_TrN (H0:=[some (.box [X,.ptr 1 0,.int .i64 d,.bool o]),some (.box (pre++[.nilSlice,Y,.int .i64 mid,Z])),e2,e3,e4]) (H1:=[some (.box [X,.ptr 1 0,.int .i64 d,.bool o]),some (.box (pre++[.slice (.tok 5) 34 1 cs,Y,.int .i64 mid,Z])),e2,e3,e4,some (.tok 1)]) 6 (by simp) (c:=Ar Tryz.f128) Tryz.func128 (by kernel_rfl) 0 (by simp [Tryz.f128]) (fun B hB hG => ?_) (by simp) qB;refine Tr.post ?_;refine Tr.goD CG hG (by kernel_rfl) ?_;have sc:¬(0≤mid):=by omega
 simp [Tryz.f128,hp,sc];have hf:∀i,i<5→(fun i:Nat=>if i=5 then 7 else i) i=i:=fun i hi=>if_neg (by omega)
 have l7:∀{a:AV},low 5 a=true→low 7 a=true:=fun h=>CY (by omega) _ h
 have mX:=Fu (t:=7) (n:=0) (xs:=cs) (l7 hx);have mY:=Fu (t:=7) (n:=0) (xs:=cs) (l7 hy);have mZ:=Fu (t:=7) (n:=0) (xs:=cs) (l7 hz);have mP:=J2 (t:=7) (n:=0) (xs:=cs) (Ah (Nat.zero_le 7) pre rK)
 have lE:∀{e:Option Ent},Aq 5 e=true→Aq 7 e=true:=fun {e} h=>by
  cases e with
  | none=>rfl
  | some e=>cases e with
   | box cs=>exact Ah (by omega) _ h
   | loose n cs=>exact Ah (by omega) _ h
   | stk n cs=>exact Ah (by omega) _ h
   | _=>rfl
 have m2:=GK (t:=7) (n:=0) (xs:=cs) (lE h2);have m3:=GK (t:=7) (n:=0) (xs:=cs) (lE h3);have m4:=GK (t:=7) (n:=0) (xs:=cs) (lE h4);have rX:=FO hf X hx;have rY:=FO hf Y hy;have rZ:=FO hf Z hz;have rP:=BA (fun i:Nat=>if i=5 then 7 else i) pre rK;have rC:=BA (fun i:Nat=>if i=5 then 7 else i) cs hc
 skip
 have r2:=FP hf h2;have r3:=FP hf h3;have r4:=FP hf h4
 have DA:∀(φ:Nat→Nat) (a b:List AV),AM φ (a++b)=AM φ a++AM φ b:=fun φ a b=>by induction a with
  | nil=>rfl
  | cons x a ih=>simp [AM,ih]
 have tE:∀(r:AV),List.drop 32 (pre++[r,Y,.int .i64 mid,Z])=[Y,.int .i64 mid,Z]:=fun r=>by rw [List.drop_append,List.drop_eq_nil_of_le (by omega),hp];rfl
 have qW:∀(a b c e:AV),List.take 32 (pre++[a,b,c,e])=pre++[a]:=fun a b c e=>by rw [List.take_append,List.take_of_length_le (by omega),hp];rfl
 have py:=fun H fid ow ys (h:ys.all AV.one=true)=>K4 (P:=zP) (H:=H) (fid:=fid) (ow:=ow) (ys:=ys) GV h
 have ht:cs.take 34=cs:=List.take_of_length_le (by omega);have rB:∀x∈cs,AV.one x=true:=fun x hx=>List.all_eq_true.1 ho x hx
 simp only [AV.one] at rB;refine LpD.coin CG hG (by kernel_rfl) (by kernel_rfl) (by kernel_rfl) (by simp [mkT]) ?_;intro x y;cases x with
 | true =>
  simp;refine LpD.turns CG hG [11,15] [] (by kernel_rfl) ?_;simp [hl,ht,hp,HA Ha,py];rw [if_pos rB];simp [hl,ht,hp]
  refine ⟨mkT 103 [],[some (.box [X,.ptr 1 0,.int .i64 d,.bool o]),some (.box (pre++[.slice (.tok 5) 34 1 cs,Y,.int .i64 mid,Z])),e2,e3,e4,some (.tok 1)],AF.put 7 0 cs rfl (fun i:Nat=>if i=5 then 7 else i) 6 (by simp [hB]) (by
   intro i j hi hj h
   rcases (by omega:i=0∨i=1∨i=2∨i=3∨i=4∨i=5) with rfl|rfl|rfl|rfl|rfl|rfl<;>rcases (by omega:j=0∨j=1∨j=2∨j=3∨j=4∨j=5) with rfl|rfl|rfl|rfl|rfl|rfl<;>simp at h ⊢) (by
   intro i hi;rw [hB] at hi;simp at hi
   rw [if_neg (by omega)]) rfl (by
   intro i hi;rcases (by omega:i=0∨i=1∨i=2∨i=3∨i=4∨i=5) with rfl|rfl|rfl|rfl|rfl|rfl
   ·simp [AH.at,Bm,C0,AI,ren,AM,rX]
    exact mX
   ·simp [AH.at,Bm,C0,AI,ren,AM,mY,mZ,mP,rY,rZ,rP,rC,DA,tE,qW]
    exact ⟨mY,mZ⟩
   ·simp [AH.at,m2,r2]
   ·simp [AH.at,m3,r3]
   ·simp [AH.at,m4,r4]
   ·simp [AH.at,Bm,AI]) qB,rfl⟩
 | false =>
  have ui:=fun H fid ow=>K4 (P:=zP) (H:=H) (fid:=fid) (ow:=ow) (ys:=cs) GV ho
  simp;refine LpD.turns CG hG [14,18] [(0,14),(1,14),(2,14),(3,14)] (by kernel_rfl) ?_;simp [hl,ht,hp,HA Ha,ui]
  refine ⟨mkT 103 [],[some (.box [X,.ptr 1 0,.int .i64 d,.bool o]),some (.box (pre++[.slice (.tok 5) 34 1 cs,Y,.int .i64 mid,Z])),e2,e3,e4,some (.tok 1)],AF.put 7 0 cs rfl (fun i:Nat=>if i=5 then 7 else i) 6 (by simp [hB]) (by
   intro i j hi hj h
   rcases (by omega:i=0∨i=1∨i=2∨i=3∨i=4∨i=5) with rfl|rfl|rfl|rfl|rfl|rfl<;>rcases (by omega:j=0∨j=1∨j=2∨j=3∨j=4∨j=5) with rfl|rfl|rfl|rfl|rfl|rfl<;>simp at h ⊢) (by
   intro i hi;rw [hB] at hi;simp at hi
   rw [if_neg (by omega)]) rfl (by
   intro i hi;rcases (by omega:i=0∨i=1∨i=2∨i=3∨i=4∨i=5) with rfl|rfl|rfl|rfl|rfl|rfl
   ·simp [AH.at,Bm,C0,AI,ren,AM,rX]
    exact mX
   ·simp [AH.at,Bm,C0,AI,ren,AM,mY,mZ,mP,rY,rZ,rP,rC,DA,tE,qW]
    exact ⟨mY,mZ⟩
   ·simp [AH.at,m2,r2]
   ·simp [AH.at,m3,r3]
   ·simp [AH.at,m4,r4]
   ·simp [AH.at,Bm,AI]) qB,rfl⟩
theorem kP (cs pre:List AV) (xs:List AV) (m:Nat) (hm:m<137438953472) (qb:lowL 0 xs=true) (X Y Z:AV) (e2 e3 e4:Option Ent) (mid:Int) (qx:mid<0) (hp:pre.length=31) (hl:cs.length=34) (ho:cs.all AV.one=true) (hc:lowL 0 cs=true) (hx:low 5 X=true) (hy:low 5 Y=true) (hz:low 5 Z=true)
  (rK:lowL 0 pre=true) (h2:Aq 5 e2=true) (h3:Aq 5 e3=true) (h4:Aq 5 e4=true) (d:Int) (o:Bool) :
  CS zP AY 128 [.ptr 0 0,.agg cs] [some (.box [X,.ptr 1 0,.int .i64 d,.bool o]),some (.box (pre++[.slice (.tok 5) 34 m xs,Y,.int .i64 mid,Z])),e2,e3,e4,some (.tok m)] (.tup []) [some (.box [X,.ptr 1 0,.int .i64 d,.bool o]),some (.box (pre++[.slice (.tok 5) 34 (m+1) (xs++cs),Y,.int .i64 mid,Z])),e2,e3,e4,some (.tok (m+1))]:=by
 have lE6:∀{e:Option Ent},Aq 5 e=true→Aq 6 e=true:=fun {e} h=>by
  cases e with
  | none=>rfl
  | some e=>cases e with
   | box cs=>exact Ah (by omega) _ h
   | loose n cs=>exact Ah (by omega) _ h
   | stk n cs=>exact Ah (by omega) _ h
   | _=>rfl
 have qB:AP 6 [some (.box [X,.ptr 1 0,.int .i64 d,.bool o]),some (.box (pre++[.slice (.tok 5) 34 (m+1) (xs++cs),Y,.int .i64 mid,Z])),e2,e3,e4,some (.tok (m+1))]=true:=by simp only [AP,lE6 h2,lE6 h3,lE6 h4,Bool.and_true,Bool.true_and];simp [CY (by omega:5≤6) X hx,CY (by omega:5≤6) Y hy,CY (by omega:5≤6) Z hz,Ah (Nat.zero_le 6) pre rK,Ah (Nat.zero_le 6) cs hc,Ah (Nat.zero_le 6) xs qb]
 refine CS.of_TrN (H0:=[some (.box [X,.ptr 1 0,.int .i64 d,.bool o]),some (.box (pre++[.slice (.tok 5) 34 m xs,Y,.int .i64 mid,Z])),e2,e3,e4,some (.tok m)]) (H1:=[some (.box [X,.ptr 1 0,.int .i64 d,.bool o]),some (.box (pre++[.slice (.tok 5) 34 (m+1) (xs++cs),Y,.int .i64 mid,Z])),e2,e3,e4,some (.tok (m+1))]) 6 (by simp) (c:=Ar Tryz.f128) Tryz.func128 (by kernel_rfl) 0 (by simp [Tryz.f128]) (fun B hB hG => ?_) (by simp) qB;refine Tr.post ?_;refine Tr.goD CG hG (by kernel_rfl) ?_;have sc:¬(0≤mid):=by omega
 simp [Tryz.f128,hp,sc];have hf:∀i,i<5→(fun i:Nat=>i) i=i:=fun i hi=>rfl
 have l7:∀{a:AV},low 5 a=true→low 5 a=true:=fun h=>CY (by omega) _ h
 have mX:=Fu (t:=5) (n:=m) (xs:=cs) (l7 hx);have mY:=Fu (t:=5) (n:=m) (xs:=cs) (l7 hy);have mZ:=Fu (t:=5) (n:=m) (xs:=cs) (l7 hz);have mP:=J2 (t:=5) (n:=m) (xs:=cs) (Ah (Nat.zero_le 5) pre rK)
 have lE:∀{e:Option Ent},Aq 5 e=true→Aq 5 e=true:=fun {e} h=>by
  cases e with
  | none=>rfl
  | some e=>cases e with
   | box cs=>exact Ah (by omega) _ h
   | loose n cs=>exact Ah (by omega) _ h
   | stk n cs=>exact Ah (by omega) _ h
   | _=>rfl
 have m2:=GK (t:=5) (n:=m) (xs:=cs) (lE h2);have m3:=GK (t:=5) (n:=m) (xs:=cs) (lE h3);have m4:=GK (t:=5) (n:=m) (xs:=cs) (lE h4);have rX:=FO hf X hx;have rY:=FO hf Y hy;have rZ:=FO hf Z hz;have rP:=BA (fun i:Nat=>i) pre rK;have rC:=BA (fun i:Nat=>i) cs hc;have rS:=BA (fun i:Nat=>i) xs qb;have r2:=FP hf h2;have r3:=FP hf h3;have r4:=FP hf h4
 have DA:∀(φ:Nat→Nat) (a b:List AV),AM φ (a++b)=AM φ a++AM φ b:=fun φ a b=>by induction a with
  | nil=>rfl
  | cons x a ih=>simp [AM,ih]
 have tE:∀(r:AV),List.drop 32 (pre++[r,Y,.int .i64 mid,Z])=[Y,.int .i64 mid,Z]:=fun r=>by rw [List.drop_append,List.drop_eq_nil_of_le (by omega),hp];rfl
 have qW:∀(a b c e:AV),List.take 32 (pre++[a,b,c,e])=pre++[a]:=fun a b c e=>by rw [List.take_append,List.take_of_length_le (by omega),hp];rfl
 have py:=fun H fid ow ys (hk:AH.at H 5=some (.tok m)) (h:ys.all AV.one=true)=>K5 (P:=zP) (H:=H) (fid:=fid) (k:=5) (n:=m) (xs:=xs) (ow:=ow) (ys:=ys) GV hk (by omega) h
 have ht:cs.take 34=cs:=List.take_of_length_le (by omega);have rB:∀x∈cs,AV.one x=true:=fun x hx=>List.all_eq_true.1 ho x hx
 simp only [AV.one] at rB;refine LpD.coin CG hG (by kernel_rfl) (by kernel_rfl) (by kernel_rfl) (by simp [mkT]) ?_;intro x y;cases x with
 | true =>
  simp;refine LpD.turns CG hG [11,15] [] (by kernel_rfl) ?_;simp [hl,ht,hp,HA Ha,py];rw [if_pos rB];simp [hl,ht,hp]
  refine ⟨mkT 103 [],[some (.box [X,.ptr 1 0,.int .i64 d,.bool o]),some (.box (pre++[.slice (.tok 5) 34 (m+1) (xs++cs),Y,.int .i64 mid,Z])),e2,e3,e4,some (.tok (m+1))],AF.put 5 m cs rfl (fun i:Nat=>i) 6 (by simp [hB]) (by
   intro i j hi hj h
   exact h) (by
   intro i hi
   rfl) rfl (by
   intro i hi;rcases (by omega:i=0∨i=1∨i=2∨i=3∨i=4∨i=5) with rfl|rfl|rfl|rfl|rfl|rfl
   ·simp [AH.at,Bm,C0,AI,ren,AM,rX]
    exact mX
   ·simp [AH.at,Bm,C0,AI,ren,AM,mY,mZ,mP,rY,rZ,rP,rC,rS,DA,tE,qW]
    exact ⟨mY,mZ⟩
   ·simp [AH.at,m2,r2]
   ·simp [AH.at,m3,r3]
   ·simp [AH.at,m4,r4]
   ·simp [AH.at,Bm,AI]) qB,rfl⟩
 | false =>
  have ui:=fun H fid ow (hk:AH.at H 5=some (.tok m))=>K5 (P:=zP) (H:=H) (fid:=fid) (k:=5) (n:=m) (xs:=xs) (ow:=ow) (ys:=cs) GV hk (by omega) ho
  simp;refine LpD.turns CG hG [14,18] [(0,14),(1,14),(2,14),(3,14)] (by kernel_rfl) ?_;simp [hl,ht,hp,HA Ha,ui]
  refine ⟨mkT 103 [],[some (.box [X,.ptr 1 0,.int .i64 d,.bool o]),some (.box (pre++[.slice (.tok 5) 34 (m+1) (xs++cs),Y,.int .i64 mid,Z])),e2,e3,e4,some (.tok (m+1))],AF.put 5 m cs rfl (fun i:Nat=>i) 6 (by simp [hB]) (by
   intro i j hi hj h
   exact h) (by
   intro i hi
   rfl) rfl (by
   intro i hi;rcases (by omega:i=0∨i=1∨i=2∨i=3∨i=4∨i=5) with rfl|rfl|rfl|rfl|rfl|rfl
   ·simp [AH.at,Bm,C0,AI,ren,AM,rX]
    exact mX
   ·simp [AH.at,Bm,C0,AI,ren,AM,mY,mZ,mP,rY,rZ,rP,rC,rS,DA,tE,qW]
    exact ⟨mY,mZ⟩
   ·simp [AH.at,m2,r2]
   ·simp [AH.at,m3,r3]
   ·simp [AH.at,m4,r4]
   ·simp [AH.at,Bm,AI]) qB,rfl⟩
theorem kQ (cs pre:List AV) (X Y Z:AV) (e2 e3 e4:Option Ent) (mid:Int) (qx:0≤mid) (hp:pre.length=31) (hl:cs.length=34) (ho:cs.all AV.one=true) (hc:lowL 0 cs=true) (hx:low 5 X=true) (hy:low 5 Y=true) (hz:low 5 Z=true)
  (rK:lowL 0 pre=true) (h2:Aq 5 e2=true) (h3:Aq 5 e3=true) (h4:Aq 5 e4=true) (d:Int) (o:Bool) :
  CS zP AY 128 [.ptr 0 0,.agg cs] [some (.box [X,.ptr 1 0,.int .i64 d,.bool o]),some (.box (pre++[Y,.nilSlice,.int .i64 mid,Z])),e2,e3,e4] (.tup []) [some (.box [X,.ptr 1 0,.int .i64 d,.bool o]),some (.box (pre++[Y,.slice (.tok 5) 34 1 cs,.int .i64 mid,Z])),e2,e3,e4,some (.tok 1)]:=by
 have lE6:∀{e:Option Ent},Aq 5 e=true→Aq 6 e=true:=fun {e} h=>by
  cases e with
  | none=>rfl
  | some e=>cases e with
   | box cs=>exact Ah (by omega) _ h
   | loose n cs=>exact Ah (by omega) _ h
   | stk n cs=>exact Ah (by omega) _ h
   | _=>rfl
 have qB:AP 6 [some (.box [X,.ptr 1 0,.int .i64 d,.bool o]),some (.box (pre++[Y,.slice (.tok 5) 34 1 cs,.int .i64 mid,Z])),e2,e3,e4,some (.tok 1)]=true:=by simp only [AP,lE6 h2,lE6 h3,lE6 h4,Bool.and_true,Bool.true_and];simp [CY (by omega:5≤6) X hx,CY (by omega:5≤6) Y hy,CY (by omega:5≤6) Z hz,Ah (Nat.zero_le 6) pre rK,Ah (Nat.zero_le 6) cs hc]
 refine CS.of_TrN (H0:=[some (.box [X,.ptr 1 0,.int .i64 d,.bool o]),some (.box (pre++[Y,.nilSlice,.int .i64 mid,Z])),e2,e3,e4]) (H1:=[some (.box [X,.ptr 1 0,.int .i64 d,.bool o]),some (.box (pre++[Y,.slice (.tok 5) 34 1 cs,.int .i64 mid,Z])),e2,e3,e4,some (.tok 1)]) 6 (by simp) (c:=Ar Tryz.f128) Tryz.func128 (by kernel_rfl) 0 (by simp [Tryz.f128]) (fun B hB hG => ?_) (by simp) qB;refine Tr.post ?_;refine Tr.goD CG hG (by kernel_rfl) ?_;have sc:0≤mid:=qx;simp [Tryz.f128,hp,sc];have hf:∀i,i<5→(fun i:Nat=>if i=5 then 7 else i) i=i:=fun i hi=>if_neg (by omega)
 have l7:∀{a:AV},low 5 a=true→low 7 a=true:=fun h=>CY (by omega) _ h
 have mX:=Fu (t:=7) (n:=0) (xs:=cs) (l7 hx);have mY:=Fu (t:=7) (n:=0) (xs:=cs) (l7 hy);have mZ:=Fu (t:=7) (n:=0) (xs:=cs) (l7 hz);have mP:=J2 (t:=7) (n:=0) (xs:=cs) (Ah (Nat.zero_le 7) pre rK)
 have lE:∀{e:Option Ent},Aq 5 e=true→Aq 7 e=true:=fun {e} h=>by
  cases e with
  | none=>rfl
  | some e=>cases e with
   | box cs=>exact Ah (by omega) _ h
   | loose n cs=>exact Ah (by omega) _ h
   | stk n cs=>exact Ah (by omega) _ h
   | _=>rfl
 have m2:=GK (t:=7) (n:=0) (xs:=cs) (lE h2);have m3:=GK (t:=7) (n:=0) (xs:=cs) (lE h3);have m4:=GK (t:=7) (n:=0) (xs:=cs) (lE h4);have rX:=FO hf X hx;have rY:=FO hf Y hy;have rZ:=FO hf Z hz;have rP:=BA (fun i:Nat=>if i=5 then 7 else i) pre rK;have rC:=BA (fun i:Nat=>if i=5 then 7 else i) cs hc
 skip
 have r2:=FP hf h2;have r3:=FP hf h3;have r4:=FP hf h4
 have DA:∀(φ:Nat→Nat) (a b:List AV),AM φ (a++b)=AM φ a++AM φ b:=fun φ a b=>by induction a with
  | nil=>rfl
  | cons x a ih=>simp [AM,ih]
 have tE:∀(r:AV),List.drop 33 (pre++[Y,r,.int .i64 mid,Z])=[.int .i64 mid,Z]:=fun r=>by rw [List.drop_append,List.drop_eq_nil_of_le (by omega),hp];rfl
 have qW:∀(a b c e:AV),List.take 32 (pre++[a,b,c,e])=pre++[a]:=fun a b c e=>by rw [List.take_append,List.take_of_length_le (by omega),hp];rfl
 have py:=fun H fid ow ys (h:ys.all AV.one=true)=>K4 (P:=zP) (H:=H) (fid:=fid) (ow:=ow) (ys:=ys) GV h
 have ht:cs.take 34=cs:=List.take_of_length_le (by omega);have rB:∀x∈cs,AV.one x=true:=fun x hx=>List.all_eq_true.1 ho x hx
 simp only [AV.one] at rB;refine LpD.coin CG hG (by kernel_rfl) (by kernel_rfl) (by kernel_rfl) (by simp [mkT]) ?_;intro x y;cases x with
 | true =>
  simp;refine LpD.turns CG hG [11,15] [] (by kernel_rfl) ?_;simp [hl,ht,hp,HA Ha,py];rw [if_pos rB];simp [hl,ht,hp]
  refine ⟨mkT 103 [],[some (.box [X,.ptr 1 0,.int .i64 d,.bool o]),some (.box (pre++[Y,.slice (.tok 5) 34 1 cs,.int .i64 mid,Z])),e2,e3,e4,some (.tok 1)],AF.put 7 0 cs rfl (fun i:Nat=>if i=5 then 7 else i) 6 (by simp [hB]) (by
   intro i j hi hj h
   rcases (by omega:i=0∨i=1∨i=2∨i=3∨i=4∨i=5) with rfl|rfl|rfl|rfl|rfl|rfl<;>rcases (by omega:j=0∨j=1∨j=2∨j=3∨j=4∨j=5) with rfl|rfl|rfl|rfl|rfl|rfl<;>simp at h ⊢) (by
   intro i hi;rw [hB] at hi;simp at hi
   rw [if_neg (by omega)]) rfl (by
   intro i hi;rcases (by omega:i=0∨i=1∨i=2∨i=3∨i=4∨i=5) with rfl|rfl|rfl|rfl|rfl|rfl
   ·simp [AH.at,Bm,C0,AI,ren,AM,rX]
    exact mX
   ·simp [AH.at,Bm,C0,AI,ren,AM,mY,mZ,mP,rY,rZ,rP,rC,DA,tE,qW]
    exact ⟨mY,mZ⟩
   ·simp [AH.at,m2,r2]
   ·simp [AH.at,m3,r3]
   ·simp [AH.at,m4,r4]
   ·simp [AH.at,Bm,AI]) qB,rfl⟩
 | false =>
  have ui:=fun H fid ow=>K4 (P:=zP) (H:=H) (fid:=fid) (ow:=ow) (ys:=cs) GV ho
  simp;refine LpD.turns CG hG [14,18] [(0,14),(1,14),(2,14),(3,14)] (by kernel_rfl) ?_;simp [hl,ht,hp,HA Ha,ui]
  refine ⟨mkT 103 [],[some (.box [X,.ptr 1 0,.int .i64 d,.bool o]),some (.box (pre++[Y,.slice (.tok 5) 34 1 cs,.int .i64 mid,Z])),e2,e3,e4,some (.tok 1)],AF.put 7 0 cs rfl (fun i:Nat=>if i=5 then 7 else i) 6 (by simp [hB]) (by
   intro i j hi hj h
   rcases (by omega:i=0∨i=1∨i=2∨i=3∨i=4∨i=5) with rfl|rfl|rfl|rfl|rfl|rfl<;>rcases (by omega:j=0∨j=1∨j=2∨j=3∨j=4∨j=5) with rfl|rfl|rfl|rfl|rfl|rfl<;>simp at h ⊢) (by
   intro i hi;rw [hB] at hi;simp at hi
   rw [if_neg (by omega)]) rfl (by
   intro i hi;rcases (by omega:i=0∨i=1∨i=2∨i=3∨i=4∨i=5) with rfl|rfl|rfl|rfl|rfl|rfl
   ·simp [AH.at,Bm,C0,AI,ren,AM,rX]
    exact mX
   ·simp [AH.at,Bm,C0,AI,ren,AM,mY,mZ,mP,rY,rZ,rP,rC,DA,tE,qW]
    exact ⟨mY,mZ⟩
   ·simp [AH.at,m2,r2]
   ·simp [AH.at,m3,r3]
   ·simp [AH.at,m4,r4]
   ·simp [AH.at,Bm,AI]) qB,rfl⟩
theorem kR (cs pre:List AV) (xs:List AV) (m:Nat) (hm:m<137438953472) (qb:lowL 0 xs=true) (X Y Z:AV) (e2 e3 e4:Option Ent) (mid:Int) (qx:0≤mid) (hp:pre.length=31) (hl:cs.length=34) (ho:cs.all AV.one=true) (hc:lowL 0 cs=true) (hx:low 5 X=true) (hy:low 5 Y=true) (hz:low 5 Z=true)
  (rK:lowL 0 pre=true) (h2:Aq 5 e2=true) (h3:Aq 5 e3=true) (h4:Aq 5 e4=true) (d:Int) (o:Bool) :
  CS zP AY 128 [.ptr 0 0,.agg cs] [some (.box [X,.ptr 1 0,.int .i64 d,.bool o]),some (.box (pre++[Y,.slice (.tok 5) 34 m xs,.int .i64 mid,Z])),e2,e3,e4,some (.tok m)] (.tup []) [some (.box [X,.ptr 1 0,.int .i64 d,.bool o]),some (.box (pre++[Y,.slice (.tok 5) 34 (m+1) (xs++cs),.int .i64 mid,Z])),e2,e3,e4,some (.tok (m+1))]:=by
 have lE6:∀{e:Option Ent},Aq 5 e=true→Aq 6 e=true:=fun {e} h=>by
  cases e with
  | none=>rfl
  | some e=>cases e with
   | box cs=>exact Ah (by omega) _ h
   | loose n cs=>exact Ah (by omega) _ h
   | stk n cs=>exact Ah (by omega) _ h
   | _=>rfl
 have qB:AP 6 [some (.box [X,.ptr 1 0,.int .i64 d,.bool o]),some (.box (pre++[Y,.slice (.tok 5) 34 (m+1) (xs++cs),.int .i64 mid,Z])),e2,e3,e4,some (.tok (m+1))]=true:=by simp only [AP,lE6 h2,lE6 h3,lE6 h4,Bool.and_true,Bool.true_and];simp [CY (by omega:5≤6) X hx,CY (by omega:5≤6) Y hy,CY (by omega:5≤6) Z hz,Ah (Nat.zero_le 6) pre rK,Ah (Nat.zero_le 6) cs hc,Ah (Nat.zero_le 6) xs qb]
 refine CS.of_TrN (H0:=[some (.box [X,.ptr 1 0,.int .i64 d,.bool o]),some (.box (pre++[Y,.slice (.tok 5) 34 m xs,.int .i64 mid,Z])),e2,e3,e4,some (.tok m)]) (H1:=[some (.box [X,.ptr 1 0,.int .i64 d,.bool o]),some (.box (pre++[Y,.slice (.tok 5) 34 (m+1) (xs++cs),.int .i64 mid,Z])),e2,e3,e4,some (.tok (m+1))]) 6 (by simp) (c:=Ar Tryz.f128) Tryz.func128 (by kernel_rfl) 0 (by simp [Tryz.f128]) (fun B hB hG => ?_) (by simp) qB;refine Tr.post ?_;refine Tr.goD CG hG (by kernel_rfl) ?_;have sc:0≤mid:=qx;simp [Tryz.f128,hp,sc];have hf:∀i,i<5→(fun i:Nat=>i) i=i:=fun i hi=>rfl
 have l7:∀{a:AV},low 5 a=true→low 5 a=true:=fun h=>CY (by omega) _ h
 have mX:=Fu (t:=5) (n:=m) (xs:=cs) (l7 hx);have mY:=Fu (t:=5) (n:=m) (xs:=cs) (l7 hy);have mZ:=Fu (t:=5) (n:=m) (xs:=cs) (l7 hz);have mP:=J2 (t:=5) (n:=m) (xs:=cs) (Ah (Nat.zero_le 5) pre rK)
 have lE:∀{e:Option Ent},Aq 5 e=true→Aq 5 e=true:=fun {e} h=>by
  cases e with
  | none=>rfl
  | some e=>cases e with
   | box cs=>exact Ah (by omega) _ h
   | loose n cs=>exact Ah (by omega) _ h
   | stk n cs=>exact Ah (by omega) _ h
   | _=>rfl
 have m2:=GK (t:=5) (n:=m) (xs:=cs) (lE h2);have m3:=GK (t:=5) (n:=m) (xs:=cs) (lE h3);have m4:=GK (t:=5) (n:=m) (xs:=cs) (lE h4);have rX:=FO hf X hx;have rY:=FO hf Y hy;have rZ:=FO hf Z hz;have rP:=BA (fun i:Nat=>i) pre rK;have rC:=BA (fun i:Nat=>i) cs hc;have rS:=BA (fun i:Nat=>i) xs qb;have r2:=FP hf h2;have r3:=FP hf h3;have r4:=FP hf h4
 have DA:∀(φ:Nat→Nat) (a b:List AV),AM φ (a++b)=AM φ a++AM φ b:=fun φ a b=>by induction a with
  | nil=>rfl
  | cons x a ih=>simp [AM,ih]
 have tE:∀(r:AV),List.drop 33 (pre++[Y,r,.int .i64 mid,Z])=[.int .i64 mid,Z]:=fun r=>by rw [List.drop_append,List.drop_eq_nil_of_le (by omega),hp];rfl
 have qW:∀(a b c e:AV),List.take 32 (pre++[a,b,c,e])=pre++[a]:=fun a b c e=>by rw [List.take_append,List.take_of_length_le (by omega),hp];rfl
 have py:=fun H fid ow ys (hk:AH.at H 5=some (.tok m)) (h:ys.all AV.one=true)=>K5 (P:=zP) (H:=H) (fid:=fid) (k:=5) (n:=m) (xs:=xs) (ow:=ow) (ys:=ys) GV hk (by omega) h
 have ht:cs.take 34=cs:=List.take_of_length_le (by omega);have rB:∀x∈cs,AV.one x=true:=fun x hx=>List.all_eq_true.1 ho x hx
 simp only [AV.one] at rB;refine LpD.coin CG hG (by kernel_rfl) (by kernel_rfl) (by kernel_rfl) (by simp [mkT]) ?_;intro x y;cases x with
 | true =>
  simp;refine LpD.turns CG hG [11,15] [] (by kernel_rfl) ?_;simp [hl,ht,hp,HA Ha,py];rw [if_pos rB];simp [hl,ht,hp]
  refine ⟨mkT 103 [],[some (.box [X,.ptr 1 0,.int .i64 d,.bool o]),some (.box (pre++[Y,.slice (.tok 5) 34 (m+1) (xs++cs),.int .i64 mid,Z])),e2,e3,e4,some (.tok (m+1))],AF.put 5 m cs rfl (fun i:Nat=>i) 6 (by simp [hB]) (by
   intro i j hi hj h
   exact h) (by
   intro i hi
   rfl) rfl (by
   intro i hi;rcases (by omega:i=0∨i=1∨i=2∨i=3∨i=4∨i=5) with rfl|rfl|rfl|rfl|rfl|rfl
   ·simp [AH.at,Bm,C0,AI,ren,AM,rX]
    exact mX
   ·simp [AH.at,Bm,C0,AI,ren,AM,mY,mZ,mP,rY,rZ,rP,rC,rS,DA,tE,qW]
    exact ⟨mY,mZ⟩
   ·simp [AH.at,m2,r2]
   ·simp [AH.at,m3,r3]
   ·simp [AH.at,m4,r4]
   ·simp [AH.at,Bm,AI]) qB,rfl⟩
 | false =>
  have ui:=fun H fid ow (hk:AH.at H 5=some (.tok m))=>K5 (P:=zP) (H:=H) (fid:=fid) (k:=5) (n:=m) (xs:=xs) (ow:=ow) (ys:=cs) GV hk (by omega) ho
  simp;refine LpD.turns CG hG [14,18] [(0,14),(1,14),(2,14),(3,14)] (by kernel_rfl) ?_;simp [hl,ht,hp,HA Ha,ui]
  refine ⟨mkT 103 [],[some (.box [X,.ptr 1 0,.int .i64 d,.bool o]),some (.box (pre++[Y,.slice (.tok 5) 34 (m+1) (xs++cs),.int .i64 mid,Z])),e2,e3,e4,some (.tok (m+1))],AF.put 5 m cs rfl (fun i:Nat=>i) 6 (by simp [hB]) (by
   intro i j hi hj h
   exact h) (by
   intro i hi
   rfl) rfl (by
   intro i hi;rcases (by omega:i=0∨i=1∨i=2∨i=3∨i=4∨i=5) with rfl|rfl|rfl|rfl|rfl|rfl
   ·simp [AH.at,Bm,C0,AI,ren,AM,rX]
    exact mX
   ·simp [AH.at,Bm,C0,AI,ren,AM,mY,mZ,mP,rY,rZ,rP,rC,rS,DA,tE,qW]
    exact ⟨mY,mZ⟩
   ·simp [AH.at,m2,r2]
   ·simp [AH.at,m3,r3]
   ·simp [AH.at,m4,r4]
   ·simp [AH.at,Bm,AI]) qB,rfl⟩
end Go.Proofs.YtejjlojfgcgopaaGreatDoor
namespace Go.Proofs.Fw
open Go.RowKit
theorem CS.unmask {P:Program} {E:Env} {f:FuncId} {args:List AV} {v:AV} {H K H':AH} (S:List Nat) (h:CS P E f args (mask H S) v K) (h1:∀id,(id∈S∨H.length≤id)→H'.at id=K.at id)
  (h2:∀id,id ∉ S→id<H.length→H'.at id=H.at id):CS P E f args H v H':=by
 intro g w cargs R hG hA;refine (h g w cargs (R.mask S) hG hA).mono ?_;rintro e w1 ⟨g1,cv,rfl,R1,p1,hr⟩
 have dec:∀id,(id∈S∨H.length≤id)∨(id ∉ S∧id<H.length):=fun id=>by
  by_cases hs:id∈S
  ·exact .inl (.inl hs)
  ·rcases Nat.lt_or_ge id H.length with hl|hl
   ·exact .inr ⟨hs,hl⟩
   ·exact .inl (.inr hl)
 have rE:∀id,id ∉ S→id<H.length→g1.M id=g.M id∧K.at id=some .hid:=fun id hs hl=>p1.hid id (Hm hs hl)
 have z9:∀b,(∀id e ge,H.at id=some e→e ≠ .hid→g.M id=some ge→ge.block≠b)→∀id e ge,(mask H S).at id=some e→e ≠ .hid→g.M id=some ge→ge.block≠b:=fun b hn id e ge he pp hM=>by
  have:H.at id=some e:=by
   rw [GF] at he
   split at he
   ·split at he
    ·exact he
    ·injection he with he;exact absurd he.symm pp
   ·cases he
  exact hn id e ge this pp hM
 refine ⟨g1,cv,rfl,⟨R1.imm,?_,?_,R1.inj,R1.blk⟩,⟨p1.le,?_,p1.new,?_,p1.size,p1.os,p1.tape,p1.output⟩,hr⟩
 ·intro id hn
  rcases dec id with hd|⟨hs,hl⟩
  ·rw [h1 id hd] at hn
   exact R1.free id hn
  ·rw [h2 id hs hl] at hn
   rw [(rE id hs hl).1];exact R.free id hn
 ·intro id e he pp
  rcases dec id with hd|⟨hs,hl⟩
  ·rw [h1 id hd] at he
   exact R1.ent id e he pp
  ·rw [h2 id hs hl] at he
   obtain ⟨ge,hM,qa⟩:=R.ent id e he pp;obtain ⟨h4,h5⟩:=rE id hs hl
   obtain ⟨h6,h7⟩:=p1.old ge.block (R.blk id ge hM) (fun id2 e2 ge2 qT xn xp hb=>by
    have:=R.inj id2 id ge2 ge xp hM hb;subst this;rw [Hm hs hl] at qT;injection qT with qT
    exact xn qT.symm)
   exact ⟨ge,h4.trans hM,qa.keep p1.le h6 h7⟩
 ·intro id hh
  rcases dec id with hd|⟨hs,hl⟩
  ·have hl:=DK hh
   rcases hd with hs|tY
   ·have hm:(mask H S).at id=some .hid:=by rw [Kx hs hl,hh]
    obtain ⟨h3,h4⟩:=p1.hid id hm;exact ⟨h3,by rw [h1 id (.inl hs),h4]⟩
   ·omega
  ·obtain ⟨h3,h4⟩:=rE id hs hl
   exact ⟨h3,by rw [h2 id hs hl,hh]⟩
 ·exact fun b hb hn=>p1.old b hb (z9 b hn)
theorem CS.graft {P:Program} {E:Env} {f:FuncId} {args:List AV} {v:AV} {k n:Nat} (φ:Nat→Nat) (S:List Nat) {H0 H0' H H':AH} (h:CS P E f args H0 v H0') (hk:H0.length=k) (hk':H0'.length=n) (uJ:k≤n)
  (hφ:∀i j,i<n→j<n→φ i=φ j→i=j) (hE:∀i,low 0 (E.glob i)=true) (ha:lowL k args=true) (hv:low n v=true) (hl:AP k H0=true) (hl':AP n H0'=true) (pw:H'.length=H.length)
  (hH:∀i,i<k→(mask H S).at (φ i)=(H0.at i).map (AI φ)) (hN:∀i,k≤i→i<n→(mask H S).at (φ i)=none) (hH':∀i,i<n→(mask H' S).at (φ i)=(H0'.at i).map (AI φ))
  (hO:∀j,(∀i,i<n→φ i≠j)→H'.at j=H.at j) (hS:∀j,j ∉ S→j<H.length→H'.at j=H.at j):CS P E f (AM φ args) H (ren φ v) H':=by
 have h1:=CS.grow φ (H:=mask H S) (H':=mask H' S) h hk hk' uJ hφ hE ha hv hl hl' hH hN hH' (by
  intro j hj
  rw [GF,GF,pw,hO j hj])
 refine CS.unmask S h1 ?_ hS;intro id hid;rw [GF,pw];rcases hid with hid|hid
 ·by_cases hl:id<H.length
  ·rw [if_pos hl,if_pos (by simpa using hid)]
  ·rw [if_neg hl,Cp (by omega)]
 ·rw [if_neg (by omega),Cp (by omega)]
end Go.Proofs.Fw
namespace Go.Proofs.YtejjlojfgcgopaaGreatDoor
open Go.RowKit Go.Proofs.Fw
set_option maxRecDepth 100000
set_option maxHeartbeats 4000000
theorem kS {H:AH} {b T:Nat} (cs xs:List AV) (m:Nat) (hm:m<137438953472) (hl:cs.length=34) (ho:cs.all AV.one=true) (hc:lowL 0 cs=true) (hx:lowL 0 xs=true) (d:Int) (o:Bool)
  (hb:H.at b=some (.box [.slice (.tok T) 34 m xs,.nilPtr,.int .i64 d,.bool o])) (hT:H.at T=some (.tok m)) :
  CS zP AY 128 [.ptr b 0,.agg cs] H (.tup []) ((H.set b (some (.box [.slice (.tok T) 34 (m+1) (xs++cs),.nilPtr,.int .i64 d,.bool o]))).set T (some (.tok (m+1)))):=by
 have pp:b≠T:=fun h=>by subst h;rw [hb] at hT;cases hT
 have su:=DK hb;have hTl:=DK hT;have two:∀{i:Nat},i<2→i=0∨i=1:=fun h=>by omega
 have l2:=fun (l:List AV) (h:lowL 0 l=true)=>Ah (Nat.zero_le 2) l h
 have r0:=fun (l:List AV) (h:lowL 0 l=true)=>BA (fun i:Nat=>if i=0 then b else T) l h
 have hxc:lowL 0 (xs++cs)=true:=by rw [Dt,hx,hc];rfl
 have:=CS.embed (k:=2) (fun i=>if i=0 then b else T) (H:=H) (H':=(H.set b (some (.box [.slice (.tok T) 34 (m+1) (xs++cs),.nilPtr,.int .i64 d,.bool o]))).set T (some (.tok (m+1))))
  (kI m hm hl ho hc hx d o) rfl rfl (by
   intro i j hi hj h;rcases two hi with rfl|rfl<;>rcases two hj with rfl|rfl
   ·rfl
   ·exact absurd h pp
   ·exact absurd h.symm pp
   ·rfl) DQ (by simp [l2 cs hc]) rfl (by simp [AP,Aq,l2 xs hx]) (by simp [AP,Aq,l2 xs hx,l2 cs hc]) (by
   intro i hi;rcases two hi with rfl|rfl
   ·rw [if_pos rfl,hb]
    simp [AH.at,AI,AM,ren,r0 xs hx]
   ·rw [if_neg (by decide),hT]
    simp [AH.at,AI]) (by
   intro i hi;rcases two hi with rfl|rfl
   ·rw [if_pos rfl,CZ (fun h=>pp h.symm),Fs hb]
    simp [AH.at,AI,AM,ren,r0 _ hxc]
   ·have:AH.at (H.set b (some (.box [.slice (.tok T) 34 (m+1) (xs++cs),.nilPtr,.int .i64 d,.bool o]))) T=some (.tok m):=by rw [CZ pp,hT]
    rw [if_neg (by decide),Fs this]
    simp [AH.at,AI]) (by
   intro j hj;have h0:=hj 0 (by decide);have h1:=hj 1 (by decide);simp at h0 h1
   rw [CZ h1,CZ h0])
 simpa [AM,ren,r0 cs hc] using this
end Go.Proofs.YtejjlojfgcgopaaGreatDoor
