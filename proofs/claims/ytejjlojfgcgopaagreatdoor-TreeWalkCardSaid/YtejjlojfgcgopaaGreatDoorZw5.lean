/- Regions within a round of a range over a function, and withi .. errors.Is and errors.As at faults and error numbers, aS cont -/
import Derived.Test.YtejjlojfgcgopaaGreatDoorZw4
import Derived.RangeFuncRecord
import Derived.LoopNIn
import Derived.OrdersIn
import Derived.Test.YtejjlojfgcgopaaGreatDoorChecked
import Derived.KernelRfl
import Derived.Test.YtejjlojfgcgopaaGreatDoorRows
import Derived.Lib.Bytealg
import Derived.Lib.Strings
import Derived.Lib.Walk
import Derived.LaidEql
import Derived.Stop.Asserts
import Derived.RowKitTokens
set_option linter.unusedSimpArgs false
set_option linter.unusedVariables false
namespace Go.Proofs.YtejjlojfgcgopaaGreatDoor
noncomputable abbrev zP:Program:=Tryz.prog
end Go.Proofs.YtejjlojfgcgopaaGreatDoor
namespace Go.Proofs.Fw
open Go.RowKit
def C1 (ro:Option Nat):Fence:={Fence.wide with round:=ro}
theorem dO (l:Nat):(C1 none).inRound l=C1 (some l):=rfl
theorem dP {ro:Option Nat} {n:Nat} {P:Program} {f:FuncId} {args:Array Value} {w:World} {R:Ending→World→Prop} (h:Calls P f args w R):CallsIn (C1 ro) n P f args w R:=(callsIn_wide (n:=n)).2 h
theorem dQ {n:Nat} {P:Program} {f:FuncId} {args:Array Value} {w:World} {R:Ending→World→Prop} (h:CallsIn (C1 none) n P f args w R):Calls P f args w R:=(callsIn_wide (n:=n)).1 h
def J4 (o:Op):Bool:=match o with
 | .defer _=>false
 | _=>true
section
variable {P:Program} {ro:Option Nat} {n:Nat}
theorem PE {o:Oper} (q8:J4 o.op=true) {K:Act→World→Prop} {Q:Exit→Act→World→Prop} {a:Act} {w:World} (h:o.wp P a w K Q):o.wpIn (C1 ro) n P a w K Q:=by
 refine ⟨fun _ _=>trivial,?_⟩;have xe:Oper.semAt (C1 ro).round a.eval o=execOp a.eval o:=Oper.semAt_eq _ _ _ (fun c hc=>by rw [hc] at q8;cases q8);rw [xe];unfold Oper.wp at h
 revert h
 generalize (execOp a.eval o).run P w=r;intro h;cases r with
 | ok nx w' =>
  cases nx with
  | enter f args=>exact ⟨(fun hh=>by cases hh),dP h⟩
  | row r args =>refine ⟨(fun hh=>by cases hh),?_⟩;intro c cs _;obtain ⟨v,w2,hr,hs⟩:=h c cs;exact ⟨v,w2,hr,(stepsIn_wide (P:=P)).2 hs⟩
  | _=>first|exact h|exact h.elim
 | halt r w'=>cases r<;>first|exact h|exact h.elim
theorem Mg {ops:Array Oper} {Q:Exit→Act→World→Prop} (rM:¬LetsOut Q) (q8:∀(i:Nat) (o:Oper),ops[i]? = some o→J4 o.op=true):∀(is:List Nat) (a:Act) (w:World),wpOps P ops Q is a w→wpOpsIn (C1 ro) n P ops Q is a w
 | [],a,w,h=>h
 | i::is,a,w,h=>by
  simp only [wpOps] at h;simp only [wpOpsIn];cases ho:ops[i]? with
  | none =>rw [ho] at h;exact Mg rM q8 is a w h
  | some o =>
   rw [ho] at h;simp only at h ⊢
   split
   ·rename_i hw
    rw [if_pos hw] at h;rcases h with h|h
    ·exact Oper.wpIn_mono (fun a w h=>Mg rM q8 is a w h) (PE (q8 i o ho) h)
    ·exact absurd h.2 rM
   ·rename_i hw
    rw [if_neg hw] at h;exact ⟨fun _ _=>trivial,Mg rM q8 is _ w h⟩
theorem Mh {md:Region.Mode} {ops:Array Oper} {Q:Exit→Act→World→Prop} (rM:¬LetsOut Q) (q8:∀(i:Nat) (o:Oper),ops[i]? = some o→J4 o.op=true):∀(m:Nat) (listed:Array Bool) (a:Act) (w:World),wpAny P md ops Q m listed a w→wpAnyIn (C1 ro) n P md ops Q m listed a w
 | 0,listed,a,w,h=>h
 | m+1,listed,a,w,h=>by
  refine ⟨h.1,fun i hi => ?_⟩;have h2:=h.2 i hi;unfold wpOp at h2;unfold wpOpIn;cases ho:ops[i]? with
  | none =>rw [ho] at h2;exact Mh rM q8 m _ a w h2
  | some o =>
   rw [ho] at h2;simp only at h2 ⊢
   split
   ·rename_i hw
    rw [if_pos hw] at h2;rcases h2 with h2|h2
    ·exact Oper.wpIn_mono (fun a w h=>Mh rM q8 m _ a w h) (PE (q8 i o ho) h2)
    ·exact absurd h2.2 rM
   ·rename_i hw
    rw [if_neg hw] at h2;exact ⟨fun _ _=>trivial,Mh rM q8 m _ _ w h2⟩
variable {E:Env} {O:Orc} {g:Gh} {H:AH} {w:World}
def J5 (ops:Array Oper):Bool:=ops.toList.all fun o=>J4 o.op
theorem TS {ops:Array Oper} (h:J5 ops=true) (i:Nat) (o:Oper) (hi:ops[i]? = some o):J4 o.op=true :=List.all_eq_true.1 h o (by rw [←Array.getElem?_toList] at hi;exact List.mem_of_getElem? hi)
theorem dR (X:Cx O P E) {ops:Array Oper} (q8:J5 ops=true) {id:Nat} {t t1:List AV} {H1:AH} {a:Act} {Q:Exit→Act→World→Prop} (h:ET O P E ops t H=some (t1,H1))
  (R:Rel g H w) (hG:An E g) (hT:AB g t a.tmps.toList) (hd:a.defers=[])
  (hQ:∀g' a' w',Rel g' H1 w'→AK g H w g' H1 w'→AB g' t1 a'.tmps.toList→a'.defers=[]→Q .normal a' w'):(Code.region id ops true).wpIn (C1 ro) n P Q a w:=by
 have h1:=Sj X.sound X.meth (Q:=fun e a' w'=>e = .normal∧Q .normal a' w') h R hG hT hd (fun g' a' w' R' p' q r=>⟨rfl,hQ g' a' w' R' p' q r⟩);refine wpIn_mono (wpIn_region_any X.mix (Mh (by rintro ⟨_,_,h,_⟩;cases h) (TS q8) _ _ _ _ h1)) ?_;rintro e a' w' ⟨rfl,h⟩;exact h
theorem WTr.draw {ks:List Nat} {bad:List (Nat × Nat)} {ops:Array Oper} {t:List AV} {K:List AV→AH→Prop} (hd:IQ ops ks bad=true)
  (h:WTr O P E ops ks (bad.flatMap fun p=>[p.1,p.2]) 0 (AX E ops.toList H.length) t (grow H (Ai E ops.toList)) [] fun t1 H1 f=>Gk f bad=true∧K t1 H1):∃t1 H1,ET O P E ops t H=some (t1,H1)∧K t1 H1:=by
 simp only [IQ,Bool.and_eq_true] at hd;obtain ⟨t1,H1,its,h1,h2,h3,h4⟩:=WTr.items (ms:=CK [] ops.toList) h;obtain ⟨q1,q2,q3,q4⟩:=Ky _ _ _ _ _ _ _ h1
 have hp:its.Pairwise fun a b=>a.i≠b.i:=by
  have:(its.map (·.i)).Pairwise (· ≠ ·):=by rw [q4];exact (List.pairwise_lt_range' ..).imp (fun h=>Nat.ne_of_lt h)
  exact List.pairwise_map.1 this
 rw [List.nil_append] at h3;have vp:its.map BX.syn=Ds 0 (CK [] ops.toList) (AX E ops.toList H.length):=O8 h1;have hc:chk ops its=true:=O7 hp h2 h3 its (fun _ h=>h) (by rw [vp,K3];exact hd.1);refine ⟨t1,H1,?_,h4⟩;unfold ET;rw [h1];simp only;rw [if_pos ⟨hc,hd.2⟩]
end
section
variable {P:Program} {E:Env} {O:Orc} {ro:Option Nat} {B:Bs} {Ω:World→Prop} {t:List AV} {H:AH} {Q:AEx→List AV→AH→Prop} {D:List Deferred}
def GL (B:Bs) (D:List Deferred) (t:List AV) (H:AH) (a:Act) (w:World):Prop:=∃g,Rel g H w∧AK B.g B.H B.w g H w∧AB g t a.tmps.toList∧a.defers=D
theorem GL.nil {a:Act} {w:World}:GL B [] t H a w↔Sat B t H a w:=Iff.rfl
def TrR (ro:Option Nat) (P:Program) (B:Bs) (Ω:World→Prop) (D:List Deferred) (c:Code) (t:List AV) (H:AH) (Q:AEx→List AV→AH→Prop):Prop :=∀(Q':Exit→Act→World→Prop) a w,GL B D t H a w→(∀ex t' H' a' w',Q ex t' H'→GL B D t' H' a' w'→Q' ex.ex a' w')→(∀a' w',a'.defers=D→Ω w'→Q' .ret a' w')→c.wpIn (C1 ro) 0 P Q' a w
theorem TrR.mono {c:Code} {Q1:AEx→List AV→AH→Prop} (h:TrR ro P B Ω D c t H Q1) (hQ:∀e t H,Q1 e t H→Q e t H):TrR ro P B Ω D c t H Q :=fun Q' a w hs k ho=>h Q' a w hs (fun ex t' H' a' w' h1 h2=>k ex t' H' a' w' (hQ _ _ _ h1) h2) ho
theorem TrR.skip (h:Q .normal t H):TrR ro P B Ω D .skip t H Q:=fun Q' a w hs k _=>wpIn_skip (k _ _ _ _ _ h hs)
theorem TrR.ret (h:Q .ret t H):TrR ro P B Ω D .ret t H Q:=fun Q' a w hs k _=>wpIn_ret (k _ _ _ _ _ h hs)
theorem TrR.exit {id:Nat} (h:Q (.exit id) t H):TrR ro P B Ω D (.exit id) t H Q:=fun Q' a w hs k _=>wpIn_exit (k _ _ _ _ _ h hs)
theorem TrR.seq {c d:Code} (h:TrR ro P B Ω D c t H (Goes (fun t1 H1=>TrR ro P B Ω D d t1 H1 Q) Q)):TrR ro P B Ω D (.seq c d) t H Q:=by
 intro Q' a w hs k ho;refine wpIn_seq (h _ a w hs (fun ex t' H' a' w' h1 h2 => ?_) (fun a' w' hd h=>ho a' w' hd h));cases ex with
 | normal=>exact h1 Q' a' w' h2 k ho
 | exit id=>exact k _ _ _ _ _ h1 h2
 | ret=>exact k _ _ _ _ _ h1 h2
theorem TrR.block {id:Nat} {c:Code} (h:TrR ro P B Ω D c t H (Blk id Q)):TrR ro P B Ω D (.block id c) t H Q:=by
 intro Q' a w hs k ho;refine wpIn_block (h _ a w hs (fun ex t' H' a' w' h1 h2 => ?_) (fun a' w' hd h=>ho a' w' hd h));cases ex with
 | normal=>exact k _ _ _ _ _ h1 h2
 | ret=>exact k _ _ _ _ _ h1 h2
 | exit id' =>
  simp only [Blk] at h1;simp only [AEx.ex,Exit.inBlock]
  split
  ·rename_i hid
   rw [if_pos hid] at h1;exact k _ _ _ _ _ h1 h2
  ·rename_i hid
   rw [if_neg hid] at h1;exact k _ _ _ _ _ h1 h2
theorem TrR.cond (hG:An E B.g) {c:Operand} {x y:Code} (b:Bool) (hc:AC E t c = .bool b) (h1:b=true→TrR ro P B Ω D x t H Q) (h2:b=false→TrR ro P B Ω D y t H Q):TrR ro P B Ω D (.cond c x y) t H Q:=by
 intro Q' a w hs k ho;obtain ⟨g,R,p,hT,hd⟩:=hs
 have he:a.eval c = .bool b:=by have:=IK (hG.mono p.le) hT c;rw [hc] at this;simpa [AA] using this
 cases b with
 | true=>exact wpIn_cond_true he (h1 rfl Q' a w ⟨g,R,p,hT,hd⟩ k ho)
 | false=>exact wpIn_cond_false he (h2 rfl Q' a w ⟨g,R,p,hT,hd⟩ k ho)
def dS (B:Bs) (D:List Deferred) (t:List AV) (H:AH) (t':List AV) (H':AH):Prop:=∀a w,GL B D t H a w→GL B D t' H' a w
theorem AF.toD {t':List AV} {H':AH} (h:AF B t H t' H'):dS B D t H t' H':=fun a w ⟨g,R,p,hT,hd⟩=>by obtain ⟨g',R',p',hT',_⟩:=h {a with defers:=[]} w ⟨g,R,p,hT,rfl⟩;exact ⟨g',R',p',hT',hd⟩
theorem TrR.less {c:Code} {t':List AV} {H':AH} (hl:AF B t H t' H') (h:TrR ro P B Ω D c t' H' Q):TrR ro P B Ω D c t H Q :=fun Q' a w hs k ho=>h Q' a w (hl.toD a w hs) k ho
theorem TrR.loop {L:Code} (I:Nat→List AV→AH→Prop) (k:Nat) (hI:I k t H)
  (h:∀k t H,I k t H→TrR ro P B Ω D L t H (Goes (fun t1 H1=>∃j t2 H2,j<k∧AF B t1 H1 t2 H2∧I j t2 H2) Q)):TrR ro P B Ω D (.loop L) t H Q:=by
 intro Q' a w hs hk ho;refine wpIn_loop_rounds (k+1) ?_
 have key:∀(m k:Nat) {t:List AV} {H:AH} {a:Act} {w:World},k<m→I k t H→GL B D t H a w→Code.roundsIn (C1 ro) 0 P L Q' m a w:=by
  intro m
  induction m with
  | zero=>intro k t H a w hm;omega
  | succ m ih =>
   intro k t H a w hm hI hs;rw [roundsIn_succ];refine h k t H hI _ a w hs (fun ex t' H' a' w' h1 h2 => ?_) (fun a' w' hd h=>ho a' w' hd h);cases ex with
   | normal =>obtain ⟨j,t2,H2,hj,hl,hI'⟩:=h1;exact ih j (by omega) hI' (hl.toD a' w' h2)
   | exit id=>exact hk _ _ _ _ _ h1 h2
   | ret=>exact hk _ _ _ _ _ h1 h2
 exact key (k+1) k (by omega) hI hs
theorem PF (hS:AS P E O) (hM:Cz P E) {ops:Array Oper} {Q:Exit→Act→World→Prop}:∀(ps:List (Oper × Nat)) (is:List Nat) {g:Gh} {H:AH} {w:World} {tmps:List AV} {a:Act}
  {tmps':List AV} {H':AH},A8 O P E ops ps tmps H=some (tmps',H')→JA (fun i p=>ops[i]? = some p.1) is ps→FL E H ps→Rel g H w→An E g→AB g tmps a.tmps.toList→a.defers=D →
  (∀g' a' w',Rel g' H' w'→AK g H w g' H' w'→AB g' tmps' a'.tmps.toList→a'.defers=D→Q .normal a' w')→wpOps P ops Q is a w
 | [],is,g,H,w,tmps,a,tmps',H',h,hf,_,R,_,hT,hd,hQ=>by cases hf;simp only [A8] at h;injection h with h;simp only [Prod.mk.injEq] at h;obtain ⟨rfl,rfl⟩:=h;exact hQ g a w R (AK.refl g H w) hT hd
 | (o,fid)::ps,is,g,H,w,tmps,a,tmps',H',h,hf,hr,R,hG,hT,hd,hQ=>by
  cases hf with
  | cons hi hf =>
   rename_i i is;cases hr with
   | cons _ _ r1 r2 r3 =>
    simp only [A8] at h;simp only [wpOps,hi]
    split at h
    ·cases h
    ·rename_i hw
     rw [HG hT hw];simp only [Bool.false_eq_true,if_false];exact PF hS hM ps is h hf r3 R hG (HF hT (by simp [AV.nothing,AA,AB,undef])) (by rw [E6];exact hd) hQ
    ·rename_i hw
     rw [HG hT hw];simp only [if_true]
     split at h
     ·rename_i v H1 pu
      refine .inl (Oc hS hM R hG hT r1 pu fun g' u w' R' p' hv => ?_);obtain ⟨f1,f2⟩:=Od hS pu
      refine PF hS hM ps is h hf (FL.step (p:=(o,fid)) r3 f1 fun q hq hn hl hfr => ?_) R' (hG.mono p'.le) (HF (AB.mono p'.le _ _ hT) hv) (by rw [E6];exact hd)
       (fun g2 a2 w2 R2 p2=>hQ g2 a2 w2 R2 (AK.trans R p' p2))
      refine f2 q.2 hl hfr ?_
      by_cases rM:Ao E o.op=true
      ·exact .inl (r2 rM q hq hn)
      ·exact .inr (by simpa using rM)
     ·cases h
theorem TrR.region (X:Cx O P E) (hG:An E B.g) {id:Nat} {ops:Array Oper} (q8:J5 ops=true)
  (h:WOx O P E ops (AX E ops.toList H.length) t (grow H (Ai E ops.toList)) fun t1 H1=>Q .normal t1 H1):TrR ro P B Ω D (.region id ops false) t H Q:=by
 intro Q' a w hs k _;obtain ⟨g,R,p,hT,vq⟩:=hs;have hw:=WOx.sound h;unfold WO at hw;cases he:A8 O P E ops (AX E ops.toList H.length) t (grow H (Ai E ops.toList)) with
 | none=>rw [he] at hw;exact hw.elim
 | some x =>
  obtain ⟨t',H'⟩:=x;rw [he] at hw;have hf:=MO (E:=E) ops ops.toList H.length 0 (fun j=>by simp);rw [Array.length_toList,←List.range_eq_range'] at hf
  have h1:wpOps P ops (fun e a' w'=>e = .normal∧Q' .normal a' w') (List.range ops.size) a w:=by
   refine PF X.sound X.meth _ _ he hf (MN H 0 (fun _ _ _=>trivial) ops.toList H.length _ (fun id hid => ?_) (by rw [JB,List.length_append,List.length_replicate];exact Nat.le_refl _)) (R.grow _) (hG.mono p.le) hT vq
    (fun g' a' w' R' p' q r=>⟨rfl,k .normal t' H' a' w' hw ⟨g',R',AK.trans B.R p p'.ungrow,q,r⟩⟩)
   rw [HI];exact Cp hid
  refine wpIn_mono (wpIn_region (Mg (by rintro ⟨_,_,h,_⟩;cases h) (TS q8) _ _ _ h1)) ?_;rintro e a' w' ⟨rfl,h⟩;exact h
theorem TrR.turns (X:Cx O P E) (hG:An E B.g) (ks:List Nat) (bad:List (Nat × Nat)) {id:Nat} {ops:Array Oper} (q8:J5 ops=true) (hd:IQ ops ks bad=true)
  (h:WTr O P E ops ks (bad.flatMap fun p=>[p.1,p.2]) 0 (AX E ops.toList H.length) t (grow H (Ai E ops.toList)) [] fun t1 H1 f=>Gk f bad=true∧Q .normal t1 H1):TrR ro P B Ω [] (.region id ops true) t H Q:=by
 intro Q' a w hs k _;obtain ⟨g,R,p,hT,vq⟩:=hs;obtain ⟨t',H',he,hw⟩:=WTr.draw hd h;exact dR X q8 he R (hG.mono p.le) hT vq fun g' a' w' R' p' q r=>k .normal t' H' a' w' hw ⟨g',R',AK.trans B.R p p',q,r⟩
def isR (S:List Nat):Code→Bool
 | .region id _ false=>S.contains id
 | _=>false
def softR (S:List Nat):Code→Code
 | .region id ops true => .loop (.scope (.region id ops true))
 | .region id ops false=>if S.contains id=true then .loop (.scope (.region id ops false)) else .region id ops false
 | .rangeFunc a b c d => .loop (.scope (.rangeFunc a b c d))
 | .seq a b=>if isR S a=true then .loop (.scope (.seq a b)) else .seq (softR S a) (softR S b)
 | .cond c a b => .cond c (softR S a) (softR S b)
 | .block id c => .block id (softR S c)
 | c=>c
theorem dT (S:List Nat) (id:Nat) (ops:Array Oper):softR S (.region id ops true) = .loop (.scope (.region id ops true)):=AR rfl
theorem dU (S:List Nat) (id:Nat) (ops:Array Oper):softR S (.region id ops false)=if S.contains id=true then .loop (.scope (.region id ops false)) else .region id ops false:=AR rfl
theorem dV (S:List Nat) (a:Operand) (b:Array Tmp) (c d:Code):softR S (.rangeFunc a b c d) = .loop (.scope (.rangeFunc a b c d)):=AR rfl
theorem dW (S:List Nat) (a b:Code):softR S (.seq a b)=if isR S a=true then .loop (.scope (.seq a b)) else .seq (softR S a) (softR S b):=AR rfl
theorem dX (S:List Nat) (id:Nat) (ops:Array Oper):isR S (.region id ops false)=S.contains id:=AR rfl
theorem dY (S:List Nat) (id:Nat) (ops:Array Oper):isR S (.region id ops true)=false:=AR rfl
theorem dZ (S:List Nat) (a b:Code):isR S (.seq a b)=false:=AR rfl
theorem da (S:List Nat) (c:Operand) (a b:Code):isR S (.cond c a b)=false:=AR rfl
theorem db (S:List Nat) (id:Nat) (c:Code):isR S (.block id c)=false:=AR rfl
theorem dc (S:List Nat) (c:Code):isR S (.loop c)=false:=AR rfl
theorem de (S:List Nat):isR S .skip=false:=AR rfl
attribute [simp] dX dY dZ da db dc de
theorem df (S:List Nat) (c:Operand) (a b:Code):softR S (.cond c a b) = .cond c (softR S a) (softR S b):=AR rfl
theorem dg (S:List Nat) (id:Nat) (c:Code):softR S (.block id c) = .block id (softR S c):=AR rfl
theorem dh (S:List Nat) (c:Code):softR S (.loop c) = .loop c:=AR rfl
theorem di (S:List Nat):softR S .skip = .skip:=AR rfl
theorem dj (S:List Nat):softR S .ret = .ret:=AR rfl
theorem dk (S:List Nat) (id:Nat):softR S (.exit id) = .exit id:=AR rfl
attribute [simp] dT dU dV dW df dg dh di dj dk
def Gn:Code→Bool
 | .loop (.scope _)=>false
 | .region _ ops _=>J5 ops
 | .seq a b=>Gn a&&Gn b
 | .cond _ a b=>Gn a&&Gn b
 | .block _ c=>Gn c
 | .scope _=>false
 | _=>true
def LpR (ro:Option Nat) (P:Program) (B:Bs) (Ω:World→Prop) (D:List Deferred):El:=fun c t H Q=>match c with
 | .scope r=>TrR ro P B Ω D r t H Q
 | c=>TrR ro P B Ω D (.loop c) t H Q
theorem Wt.softR (X:Cx O P E) (hG:An E B.g) (S:List Nat):∀{c:Code} {t:List AV} {H:AH} {Q:AEx→List AV→AH→Prop},Gn c=true→Wt O P E (LpR ro P B Ω D) (Fw.softR S c) t H Q→TrR ro P B Ω D c t H Q
 | .skip,t,H,Q,_,h=>TrR.skip h
 | .region id ops false,t,H,Q,hd,h=>by
  simp only [Fw.softR] at h
  split at h
  ·exact h
  ·exact TrR.region X hG hd h
 | .region id ops true,t,H,Q,_,h=>h
 | .seq a b,t,H,Q,hd,h=>by
  simp only [Gn,Bool.and_eq_true] at hd;simp only [Fw.softR] at h
  split at h
  ·exact h
  ·simp only [Wt] at h
   refine TrR.seq (TrR.mono (Wt.softR X hG S hd.1 h) ?_);intro e t1 H1 h1;cases e with
   | normal=>exact Wt.softR X hG S hd.2 h1
   | exit id=>exact h1
   | ret=>exact h1
 | .cond c a b,t,H,Q,hd,h=>by
  simp only [Gn,Bool.and_eq_true] at hd;simp only [Fw.softR,Wt] at h;unfold WB at h
  split at h
  ·rename_i v hv
   exact TrR.cond hG v hv (fun e=>Wt.softR X hG S hd.1 (h.1 e)) (fun e=>Wt.softR X hG S hd.2 (h.2 e))
  ·exact h.elim
 | .block id c,t,H,Q,hd,h=>by simp only [Gn] at hd;simp only [Fw.softR,Wt] at h;exact TrR.block (Wt.softR X hG S hd h)
 | .exit id,t,H,Q,_,h=>TrR.exit h
 | .ret,t,H,Q,_,h=>TrR.ret h
 | .loop c,t,H,Q,hd,h=>by simp only [Fw.softR,Wt] at h;cases c<;>first|exact h|cases hd
 | .rangeFunc _ _ _ _,_,_,_,_,h=>h
 | .scope _,_,_,_,hd,_=>by cases hd
 | .label _,_,_,_,_,h=>h.elim
 | .goto _,_,_,_,_,h=>h.elim
 | .refuse _,_,_,_,_,h=>h.elim
theorem TrR.go (X:Cx O P E) (hG:An E B.g) (S:List Nat) {c:Code} (hd:Gn c=true) (h:Go O P E (LpR ro P B Ω D) (softR S c) [] t H Q):TrR ro P B Ω D c t H Q:=Wt.softR X hG S hd h
theorem LpR.turns {Lp:El} {ks0:List Fr} {O':Orc} (X:Cx O' P E) (hG:An E B.g) (ks:List Nat) (bad:List (Nat × Nat)) {id:Nat} {ops:Array Oper} (q8:J5 ops=true) (hd:IQ ops ks bad=true)
  (h:WTr O' P E ops ks (bad.flatMap fun p=>[p.1,p.2]) 0 (AX E ops.toList H.length) t (grow H (Ai E ops.toList)) [] fun t1 H1 f=>Gk f bad=true∧Go O P E Lp .skip ks0 t1 H1 Q):LpR ro P B Ω [] (.scope (.region id ops true)) t H (E9 O P E Lp ks0 Q) :=
 TrR.turns X hG ks bad q8 hd (by simpa only [K6] using h)
theorem LpR.loopN {L:Code} (X:Cx O P E) (hG:An E B.g) (S:List Nat) (hd:Gn L=true) (I:Nat→List AV→AH→Prop) (k:Nat) {t':List AV} {H':AH} (hl:AF B t H t' H') (hI:I k t' H')
  (h:∀k t H,I k t H→Go O P E (LpR ro P B Ω D) (softR S L) [] t H (Goes (Nxt B I k) Q)):LpR ro P B Ω D L t H Q:=by
 have key:TrR ro P B Ω D (.loop L) t H Q:=TrR.less hl (TrR.loop I k hI fun k t H hI=>TrR.go X hG S hd (h k t H hI));cases L<;>first|exact key|cases hd
end
end Go.Proofs.Fw
namespace Go.Proofs.YtejjlojfgcgopaaGreatDoor.Ty
open Go.RowKit Go.Proofs.Fw
set_option maxRecDepth 100000
theorem sz2:Ad zP 2=some 1:=by kernel_rfl
theorem ag2:Au zP 2=some false:=by kernel_rfl
theorem zv2:Ae zP 2=some (.int .i64 0):=by kernel_rfl
theorem sz3:Ad zP 3=some 1:=by kernel_rfl
theorem ag3:Au zP 3=some false:=by kernel_rfl
theorem zz2:Ae zP 3=some (.int .i64 0)∧Ad zP 4=some 1∧Au zP 4=some false∧Ae zP 4=some (.bool false):=by and_intros<;>kernel_rfl
theorem sz5:Ad zP 5=some 1:=by kernel_rfl
theorem ag5:Au zP 5=some false:=by kernel_rfl
theorem zv5:Ae zP 5=some (.int .u8 0):=by kernel_rfl
theorem sz9:Ad zP 9=some 1:=by kernel_rfl
theorem ag9:Au zP 9=some false:=by kernel_rfl
theorem zz3:Ae zP 9=some (.str [])∧Ad zP 23=some 1∧Au zP 23=some false∧Ae zP 23=some (.nilSlice)∧Bu zP 23 1=true∧Ad zP 33=some 1∧Au zP 33=some false∧Ae zP 33=some (.nilIface)∧Ad zP 54=some 1∧Au zP 54=some false∧Ae zP 54=some (.nilSlice):=by and_intros<;>kernel_rfl
theorem ec54:Bu zP 54 4=true:=by kernel_rfl
theorem zz4:Ad zP 55=some 1∧Au zP 55=some false∧Ae zP 55=some (.nilSlice)∧Bu zP 55 2=true∧Ad zP 57=some 2∧Au zP 57=some true∧Ae zP 57=some (.agg [.nilSlice,.int .i64 0])∧fI zP 57 0=(0,55,true)∧fI zP 57 1=(1,3,true)∧Ad zP 125=some 1∧Au zP 125=some false∧Ae zP 125=some (.nilSlice):=by and_intros<;>kernel_rfl
theorem ec125:Bu zP 125 4=true:=by kernel_rfl
theorem zz5:Ad zP 134=some 1∧Au zP 134=some false∧Ae zP 134=some (.int .i64 0)∧Ad zP 144=some 4∧Au zP 144=some true∧Ae zP 144=some (.agg [.int .i64 0,.str [],.int .i64 0,.int .i64 0])∧fI zP 144 0=(0,3,true)∧fI zP 144 1=(1,9,true)∧fI zP 144 2=(2,3,true)∧fI zP 144 3=(3,2,true)∧Ad zP 152=some 1∧Au zP 152=some false∧Ae zP 152=some (.nilPtr)∧Ad zP 156=some 3∧Au zP 156=some true∧Ae zP 156=some (.agg [.str [],.int .i64 0,.nilIface])∧fI zP 156 0=(0,9,true)∧fI zP 156 1=(1,3,true)∧fI zP 156 2=(2,33,true)∧Ad zP 158=some 2∧Au zP 158=some true∧Ae zP 158=some (.agg [.str [],.int .i64 0])∧fI zP 158 0=(0,9,true)∧fI zP 158 1=(1,3,true):=by and_intros<;>kernel_rfl
theorem zz6:Ad zP 192=some 4∧Au zP 192=some true∧Ae zP 192=some (.agg [.int .i64 0,.str [],.int .i64 0,.int .i64 0])∧fI zP 192 0=(0,3,true)∧fI zP 192 1=(1,9,true)∧fI zP 192 2=(2,3,true)∧fI zP 192 3=(3,2,true)∧Ad zP 203=some 1∧Au zP 203=some false∧Ae zP 203=some (.int .u64 0)∧Ad zP 326=some 1∧Au zP 326=some false∧Ae zP 326=some (.nilPtr)∧Ad zP 341=some 3∧Au zP 341=some true∧Ae zP 341=some (.agg [.str [],.str [],.nilIface])∧fI zP 341 0=(0,9,true)∧fI zP 341 1=(1,9,true)∧fI zP 341 2=(2,33,true)∧AE zP 20=true∧AE zP 24=true∧AE zP 51=true∧AE zP 61=true∧AE zP 62=true:=by and_intros<;>kernel_rfl
theorem zz7:AE zP 63=true∧AE zP 64=true∧AE zP 65=true∧AE zP 66=true∧AE zP 87=true∧AE zP 88=true∧AE zP 135=true∧AE zP 175=true∧AE zP 176=true∧AE zP 206=true∧AE zP 221=true:=by and_intros<;>kernel_rfl
attribute [simp] sz2 ag2 zv2 Tryz.underlying2 sz3 ag3 zz2 Tryz.underlying3 Tryz.underlying4 sz5 ag5 zv5 Tryz.underlying5 sz9 ag9 zz3 Tryz.underlying9
attribute [simp] Tryz.underlying23 Tryz.underlying33 ec54 Tryz.underlying54 zz4 Tryz.underlying55
attribute [simp] Tryz.underlying57 ec125 Tryz.underlying125 zz5 Tryz.underlying134
attribute [simp] Tryz.underlying144 Tryz.underlying152 Tryz.underlying156 Tryz.underlying158 zz6
attribute [simp] Tryz.underlying192 Tryz.underlying203 Tryz.underlying326
attribute [simp] Tryz.underlying341 zz7
end Go.Proofs.YtejjlojfgcgopaaGreatDoor.Ty
namespace Go.Proofs.YtejjlojfgcgopaaGreatDoor.Tw
open Go.RowKit Go.Proofs.Fw
set_option maxRecDepth 100000
theorem zz8:Ad zP 154=some 1∧Au zP 154=some false∧Ae zP 154=some (.nilPtr)∧Ad zP 159=some 1∧Au zP 159=some false∧Ae zP 159=some (.nilPtr)∧AE zP 70=true∧AE zP 71=true∧AE zP 102=true∧AE zP 256=true:=by and_intros<;>kernel_rfl
attribute [simp] zz8 Tryz.underlying154 Tryz.underlying159
end Go.Proofs.YtejjlojfgcgopaaGreatDoor.Tw
namespace Go.Proofs.YtejjlojfgcgopaaGreatDoor.Tx
open Go.RowKit Go.Proofs.Fw
set_option maxRecDepth 100000
theorem zz9:Ad zP 25=some 1∧Au zP 25=some false∧Ae zP 25=some (.nilSlice)∧Bu zP 25 4=true∧Ad zP 27=some 4∧Au zP 27=some true∧Ae zP 27=some (.agg [.int .i64 0,.int .i64 0,.str [],.nilSlice])∧fI zP 27 0=(0,3,true)∧fI zP 27 1=(1,2,true)∧fI zP 27 2=(2,9,true)∧fI zP 27 3=(3,25,true)∧Ad zP 29=some 9∧Au zP 29=some true∧Ae zP 29=some (.agg [.str [],.int .i64 0,.int .i64 0,.str [],.nilSlice,.int .i64 0,.int .i64 0,.str [],.nilSlice])∧fI zP 29 0=(0,9,true)∧fI zP 29 1=(1,27,true)∧fI zP 29 2=(5,27,true):=by and_intros<;>kernel_rfl
theorem sz40:Ad zP 40=some 1:=by kernel_rfl
theorem ag40:Au zP 40=some false:=by kernel_rfl
theorem zz10:Ae zP 40=some (.nilSlice)∧Bu zP 40 4=true∧Ad zP 42=some 4∧Au zP 42=some true∧Ae zP 42=some (.agg [.int .i64 0,.int .i64 0,.str [],.nilSlice])∧fI zP 42 0=(0,3,true)∧fI zP 42 1=(1,2,true)∧fI zP 42 2=(2,9,true)∧fI zP 42 3=(3,40,true)∧Ad zP 44=some 9∧Au zP 44=some true∧Ae zP 44=some (.agg [.str [],.int .i64 0,.int .i64 0,.str [],.nilSlice,.int .i64 0,.int .i64 0,.str [],.nilSlice])∧fI zP 44 0=(0,9,true)∧fI zP 44 1=(1,42,true)∧fI zP 44 2=(5,42,true)∧Ad zP 292=some 1∧Au zP 292=some false∧Ae zP 292=some (.nilPtr)∧Ad zP 293=some 4∧Au zP 293=some true∧Ae zP 293=some (.agg [.nilSlice,.int .i64 0,.nilSlice,.int .i64 0])∧fI zP 293 0=(0,54,true)∧fI zP 293 1=(1,3,true)∧fI zP 293 2=(2,57,true):=by and_intros<;>kernel_rfl
theorem zz11:Ad zP 302=some 1∧Au zP 302=some false∧Ae zP 302=some (.nilPtr)∧Ad zP 304=some 4∧Au zP 304=some true∧Ae zP 304=some (.agg [.nilSlice,.int .i64 0,.int .i64 0,.nilIface])∧fI zP 304 0=(0,125,true)∧fI zP 304 1=(1,3,true)∧fI zP 304 2=(2,3,true)∧fI zP 304 3=(3,33,true)∧AE zP 141=true∧AE zP 145=true∧AE zP 165=true∧AE zP 168=true∧AE zP 169=true:=by and_intros<;>kernel_rfl
theorem go178:AE zP 178=true:=by kernel_rfl
theorem zz12:AE zP 179=true∧AE zP 180=true∧AE zP 181=true∧AE zP 193=true∧AE zP 194=true∧AE zP 195=true∧AE zP 196=true∧AE zP 197=true∧AE zP 209=true:=by and_intros<;>kernel_rfl
theorem go210:AE zP 210=true:=by kernel_rfl
theorem dl:AE zP 215=true:=by kernel_rfl
theorem go224:AE zP 224=true:=by kernel_rfl
theorem zz13:AE zP 225=true∧AE zP 232=true∧AE zP 233=true∧AE zP 234=true∧AE zP 235=true:=by and_intros<;>kernel_rfl
attribute [simp] zz9 Tryz.underlying25 Tryz.underlying27 Tryz.underlying29
attribute [simp] sz40 ag40 zz10 Tryz.underlying40 Tryz.underlying42 Tryz.underlying44
attribute [simp] Tryz.underlying292 Tryz.underlying293 zz11 Tryz.underlying302
attribute [simp] Tryz.underlying304 go178 zz12 go210 dl
attribute [simp] go224 zz13
end Go.Proofs.YtejjlojfgcgopaaGreatDoor.Tx
namespace Go.Proofs.YtejjlojfgcgopaaGreatDoor.Tu
open Go.RowKit Go.Proofs.Fw
set_option maxRecDepth 100000
theorem zz14:Ad zP 49=some 1∧Au zP 49=some false∧Ae zP 49=some (.nilSlice)∧Bu zP 49 1=true∧Ad zP 80=some 2∧Au zP 80=some true∧Ae zP 80=some (.agg [.nilSlice,.int .i64 0])∧fI zP 80 0=(0,78,true)∧fI zP 80 1=(1,2,true)∧Ad zP 89=some 4∧Au zP 89=some true∧Ae zP 89=some (.agg [.str [],.nilSlice,.int .i64 0,.int .i64 0])∧fI zP 89 0=(0,9,true)∧fI zP 89 1=(1,49,true)∧fI zP 89 2=(2,3,true)∧fI zP 89 3=(3,2,true)∧Ad zP 96=some 1∧Au zP 96=some false∧Ae zP 96=some (.int .u64 0)∧Ad zP 139=some 1∧Au zP 139=some false∧Ae zP 139=some (.nilSlice)∧Bu zP 139 1=true∧Ad zP 201=some 1:=by and_intros<;>kernel_rfl
theorem zz15:Au zP 201=some false∧Ae zP 201=some (.nilMap)∧AE zP 18=true∧AE zP 23=true∧AE zP 56=true∧AE zP 58=true∧AE zP 59=true∧AE zP 67=true∧AE zP 69=true∧AE zP 93=true∧AE zP 94=true∧AE zP 95=true∧AE zP 96=true∧AE zP 98=true∧AE zP 99=true∧AE zP 100=true:=by and_intros<;>kernel_rfl
attribute [simp] zz14 Tryz.underlying49 Tryz.underlying80 Tryz.underlying89
attribute [simp] Tryz.underlying96 Tryz.underlying139 zz15 Tryz.underlying201
end Go.Proofs.YtejjlojfgcgopaaGreatDoor.Tu
namespace Go.Proofs.YtejjlojfgcgopaaGreatDoor
open Go.RowKit Go.Proofs.Fw
theorem Af:zP.follows .mixedOrders=true:=by kernel_rfl
def LC:List AV:=(List.range 256).map fun i => .int .u8 (if i=32∨(9≤i∧i≤13) then 1 else 0)
def TT:List UInt8:=[118,97,108,117,101,32,111,117,116,32,111,102,32,114,97,110,103,101]
def PG:AV := .vptr [.iface 357 (.vptr [.str TT] 0)] 0
def JJ:List (Nat × AV):=[(3,.vptr LC 0),(6,PG)]
def AN:Env:=⟨HL JJ,fun _ _=>none,fun t=>t==156 || t==341,fun _=>false,fun _=>false⟩
@[simp] theorem nj (t:TypeId):AN.soft t=false:=by rfl
theorem DD:Cz zP AN:=fun _ _ _ h=>by cases h
theorem yEq:∀i,low 0 (AN.glob i)=true:=Ox (by
 intro x hx;simp only [JJ,List.mem_cons,List.not_mem_nil,or_false] at hx;rcases hx with rfl|rfl
 ·show lowL 0 LC=true
  kernel_rfl
 ·rfl)
set_option maxHeartbeats 1000000 in
set_option maxRecDepth 100000 in
theorem TU (s:ByteArray) (c:Int) (w:World):Calls Tryz.prog 130 #[.string s,.int .u8 c] w fun e w'=>e = .returned (.int .i64 (Lib.indexByte s.data.toList c.toNat.toUInt8))∧w'=w:=by
 go_enter Tryz.func130,Tryz.ntmps130
 go_wp2
 rw [run_callFunc_extern Tryz.func172 (by kernel_rfl) (by kernel_rfl) (by kernel_rfl) (e:=Extern.BytealgIndexByte.indexByte) (by kernel_rfl),Lib.run_indexByteString];simp only [Result.andThen];rw [Oper.upon_value]
 go_wp2
 go_ret
 exact ⟨rfl,rfl⟩
def Gp:Orc:=fun f args H=>if f=130 then (match args with
 | [.str s,.int .u8 c]=>some (.int .i64 (Lib.indexByte s c.toNat.toUInt8),H)
 | _=>none) else none
theorem IS:AS zP AN Gp:=AS.pure fun f args H v H' h=>by
 unfold Gp at h
 split at h
 ·rename_i hf
  split at h
  ·rename_i s c
   injection h with h;simp only [Prod.mk.injEq] at h;obtain ⟨rfl,rfl⟩:=h;subst hf;refine ⟨rfl,CS.of_calls fun g w cargs hA => ?_⟩;simp only [AB,AA] at hA;obtain ⟨_,_,rfl,rfl,_,_,rfl,rfl,rfl⟩:=hA;refine (TU _ c w).mono fun e w' => ?_
   rintro ⟨rfl,rfl⟩;exact ⟨_,rfl,fun g=>by simp only [AA],rfl⟩
  ·cases h
 ·cases h
def LD:List UInt8:=[105,110,116,101,103,101,114,32,100,111,32,101,110,100,32,105,102,32,116,104,101,110,32,101,108,115,101,32,114,101,97,100,32,112,114,105,110,116]
def GM:List (List UInt8):=[[105,110,116,101,103,101,114],[100,111],[101,110,100],[105,102],[116,104,101,110],[101,108,115,101],[114,101,97,100],[112,114,105,110,116]]
def Gq:AV := .slice .unk 1 8 (GM.map .str)
def fzT:FuncId→Nat:=fun f=>if f=174 then 3 else 0
set_option maxRecDepth 100000 in
theorem dm:run fzT Gp zP AN 100 6 174 [.str LD] []=some (Gq,[]):=by kernel_rfl
def dp:Orc:=callS 174 fun s=>if s=LD then some Gq else none
def Dg:Orc:=orElse dp Gp
theorem dq:AS zP AN Dg:=AS.orElse (AS.callS yEq fun s v h=>by
 split at h
 ·rename_i hs
  injection h with h;subst hs;subst h;exact (K2 IS DD Af 100 6 _ _ _ _ _ dm).1
 ·cases h) IS
set_option maxRecDepth 100000
def B5 (b:UInt8):Bool:=decide (97≤b.toNat)&&decide (b.toNat≤122)
def A5 (b:UInt8):Bool:=decide (48≤b.toNat)&&decide (b.toNat≤57)
def Bi (b:UInt8):Bool:=B5 b || A5 b || b.toNat==95
theorem dr (O:Orc) (b:UInt8) (H:AH):Ax O zP AN 1 88 [.int .u8 (b.toNat:Int)] H=some (.bool (B5 b),H):=by
 by_cases h1:(97:Int)≤(b.toNat:Int)
 ·by_cases h2:(b.toNat:Int)≤122
  all_goals
   simp [Tryz.func88,Tryz.f88,Ax,AL,Bf,AX,Ao,Ai,grow,A8,Aw,AU,callee,aop,AT,AC,BP,BW,BU,AQ,BE,BK,alen,BI,Bc,Be,aun,BQ,BG,BZ,BR,BS,BV,Av,BH,BN,BB,BL,A9,aeq,B5,h1,h2];omega
 ·simp [Tryz.func88,Tryz.f88,Ax,AL,Bf,AX,Ao,Ai,grow,A8,Aw,AU,callee,aop,AT,AC,BP,BW,BU,AQ,BE,BK,alen,BI,Bc,Be,aun,BQ,BG,BZ,BR,BS,BV,Av,BH,BN,BB,BL,A9,aeq,B5,h1]
  omega
theorem dt (O:Orc) (b:UInt8) (H:AH):Ax O zP AN 1 134 [.int .u8 (b.toNat:Int)] H=some (.bool (A5 b),H):=by
 by_cases h1:(48:Int)≤(b.toNat:Int)
 ·by_cases h2:(b.toNat:Int)≤57
  all_goals
   simp [Tryz.func134,Tryz.f134,Ax,AL,Bf,AX,Ao,Ai,grow,A8,Aw,AU,callee,aop,AT,AC,BP,BW,BU,AQ,BE,BK,alen,BI,Bc,Be,aun,BQ,BG,BZ,BR,BS,BV,Av,BH,BN,BB,BL,A9,aeq,A5,h1,h2];omega
 ·simp [Tryz.func134,Tryz.f134,Ax,AL,Bf,AX,Ao,Ai,grow,A8,Aw,AU,callee,aop,AT,AC,BP,BW,BU,AQ,BE,BK,alen,BI,Bc,Be,aun,BQ,BG,BZ,BR,BS,BV,Av,BH,BN,BB,BL,A9,aeq,A5,h1]
  omega
def JK:Orc:=orElse (Fp 88 B5) (Fp 134 A5)
theorem TV:AS zP AN JK :=AS.orElse (Jv fun b H=>Ej IS DD Af (dr Gp b H)) (Jv fun b H=>Ej IS DD Af (dt Gp b H))
theorem Mi (b:UInt8) (H:AH):JK 88 [.int .u8 (b.toNat:Int)] H=some (.bool (B5 b),H):=by simp only [JK,orElse,Jw]
theorem Mj (b:UInt8) (H:AH):JK 134 [.int .u8 (b.toNat:Int)] H=some (.bool (A5 b),H):=by have:Fp 88 B5 134 [.int .u8 (b.toNat:Int)] H=none:=rfl;simp only [JK,orElse,this,Jw]
theorem EW:∀f,f∈[88,134,132,131,136,133,173,201,174,87,51,50,135,85,86,129,130,171]→AE zP f=true:=by intro f hf;simp only [List.mem_cons,List.not_mem_nil,or_false] at hf;rcases hf with rfl|rfl|rfl|rfl|rfl|rfl|rfl|rfl|rfl|rfl|rfl|rfl|rfl|rfl|rfl|rfl|rfl|rfl|rfl<;>kernel_rfl
theorem Hs:AE zP 88=true:=EW _ (by simp)
theorem go34:AE zP 134=true:=EW _ (by simp)
theorem du (b:UInt8) (H:AH):Ax JK zP AN 1 132 [.int .u8 (b.toNat:Int)] H=some (.bool (Bi b),H):=by
 cases h1:B5 b
 ·cases h2:A5 b
  ·simp [Tryz.func132,Tryz.f132,Ax,AL,Bf,AX,Ao,Ai,grow,A8,Aw,AU,callee,aop,AT,AC,BP,BW,BU,AQ,BE,BK,alen,BI,Bc,Be,aun,BQ,BG,BZ,BR,BS,BV,Av,BH,BN,BB,BL,A9,aeq,Bi,h1,h2,Hs,go34,Mi,Mj]
   rw [Bool.eq_iff_iff];simp only [beq_iff_eq];omega
  ·simp [Tryz.func132,Tryz.f132,Ax,AL,Bf,AX,Ao,Ai,grow,A8,Aw,AU,callee,aop,AT,AC,BP,BW,BU,AQ,BE,BK,alen,BI,Bc,Be,aun,BQ,BG,BZ,BR,BS,BV,Av,BH,BN,BB,BL,A9,aeq,Bi,h1,h2,Hs,go34,Mi,Mj]
 ·simp [Tryz.func132,Tryz.f132,Ax,AL,Bf,AX,Ao,Ai,grow,A8,Aw,AU,callee,aop,AT,AC,BP,BW,BU,AQ,BE,BK,alen,BI,Bc,Be,aun,BQ,BG,BZ,BR,BS,BV,Av,BH,BN,BB,BL,A9,aeq,Bi,h1,Hs,go34,Mi,Mj]
def GN:Orc:=orElse (Fp 132 Bi) JK
theorem yLE:AS zP AN GN :=AS.orElse (Jv fun b H=>Ej TV DD Af (du b H)) TV
theorem dw (b:UInt8) (H:AH):GN 132 [.int .u8 (b.toNat:Int)] H=some (.bool (Bi b),H):=by simp only [GN,orElse,Jw]
theorem TW (b:UInt8) (H:AH):GN 88 [.int .u8 (b.toNat:Int)] H=some (.bool (B5 b),H):=by have:Fp 132 Bi 88 [.int .u8 (b.toNat:Int)] H=none:=rfl;simp only [GN,orElse,this];exact Mi b H
theorem TX (b:UInt8) (H:AH):GN 134 [.int .u8 (b.toNat:Int)] H=some (.bool (A5 b),H):=by have:Fp 132 Bi 134 [.int .u8 (b.toNat:Int)] H=none:=rfl;simp only [GN,orElse,this];exact Mj b H
noncomputable def b30:Code:=(Tryz.f131.body).getD .skip
noncomputable def JL:Code:=inC (inC (Bh (Aj (Aj b30))))
theorem dx (O:Orc) (s:List UInt8) (f:FuncId) (p:UInt8→Bool) (hg:AE zP f=true) (ho:∀(b:UInt8) H,O f [.int .u8 (b.toNat:Int)] H=some (.bool (p b),H))
  (i:Nat) (hi:i<s.length) (hp:p s[i]=true) (hs:s.length<9223372036854775807) (n:Nat) (v2 v3 v6 v7 v8 v9 v10 v11 v12 v13 v14 v15 v16 v17 v18 v19:AV) (H:AH) :
  AL O zP AN n JL [.str s,.func (.func f) [] [],v2,v3,.int .i64 0,.int .i64 i,v6,v7,v8,v9,v10,v11,v12,v13,v14,v15,v16,v17,v18,v19] H =
   some (.normal,[.str s,.func (.func f) [] [],v2,v3,.int .i64 0,.int .i64 ((i+1:Nat):Int),.int .i64 i,.str s,.int .i64 s.length,.bool true,.bool true,.func (.func f) [] [],.str s,.int .i64 i,.int .u8 (s[i].toNat:Int),.bool true,.bool true,.int .i64 i,.int .i64 ((i+1:Nat):Int),v19],H):=by
 have h1:(i:Int)<s.length:=by omega
 have hw:IntKind.i64.wrap ((i:Int)+1)=(i:Int)+1:=Ab (by omega) (by omega);simp [JL,b30,Tryz.f131,inC,Bh,Aj,Ax,AL,Bf,AX,Ao,Ai,grow,A8,Aw,AU,callee,aop,AT,AC,BP,BW,BU,AQ,BE,BK,alen,BI,Bc,Be,aun,BQ,BG,BZ,BR,BS,BV,Av,BH,BN,BB,BL,A9,aeq,h1,hi,hp,hg,ho,hw]
theorem dy (O:Orc) (s:List UInt8) (f:FuncId) (p:UInt8→Bool) (hg:AE zP f=true) (ho:∀(b:UInt8) H,O f [.int .u8 (b.toNat:Int)] H=some (.bool (p b),H))
  (i:Nat) (hi:∀h:i<s.length,p s[i]=false) (n:Nat) (v2 v3 v6 v7 v8 v9 v10 v11 v12 v13 v14 v15 v16 v17 v18 v19:AV) (H:AH) :
  ∃w6 w7 w8 w9 w10 w11 w12 w13 w14 w15 w16 w17 w18 w19,AL O zP AN n JL [.str s,.func (.func f) [] [],v2,v3,.int .i64 0,.int .i64 i,v6,v7,v8,v9,v10,v11,v12,v13,v14,v15,v16,v17,v18,v19] H =
   some (.exit 0,[.str s,.func (.func f) [] [],v2,v3,.int .i64 0,.int .i64 i,w6,w7,w8,w9,w10,w11,w12,w13,w14,w15,w16,w17,w18,w19],H):=by
 by_cases hl:i<s.length
 ·have h1:(i:Int)<s.length:=by omega
  have hp:=hi hl;simp [JL,b30,Tryz.f131,inC,Bh,Aj,Ax,AL,Bf,AX,Ao,Ai,grow,A8,Aw,AU,callee,aop,AT,AC,BP,BW,BU,AQ,BE,BK,alen,BI,Bc,Be,aun,BQ,BG,BZ,BR,BS,BV,Av,BH,BN,BB,BL,A9,aeq,h1,hl,hp,hg,ho]
 ·have h1:¬(i:Int)<s.length:=by omega
  simp [JL,b30,Tryz.f131,inC,Bh,Aj,Ax,AL,Bf,AX,Ao,Ai,grow,A8,Aw,AU,callee,aop,AT,AC,BP,BW,BU,AQ,BE,BK,alen,BI,Bc,Be,aun,BQ,BG,BZ,BR,BS,BV,Av,BH,BN,BB,BL,A9,aeq,h1]
theorem dz (O:Orc) (s:List UInt8) (f:FuncId) (p:UInt8→Bool) (hg:AE zP f=true) (ho:∀(b:UInt8) H,O f [.int .u8 (b.toNat:Int)] H=some (.bool (p b),H)) (hs:s.length<9223372036854775807) (n:Nat) (v2 v3:AV) (H:AH) :
  ∀(m i:Nat),i≤Ap p s→Ap p s-i<m→∀v6 v7 v8 v9 v10 v11 v12 v13 v14 v15 v16 v17 v18 v19:AV,
  ∃w6 w7 w8 w9 w10 w11 w12 w13 w14 w15 w16 w17 w18 w19,iter (AL O zP AN n JL) m [.str s,.func (.func f) [] [],v2,v3,.int .i64 0,.int .i64 i,v6,v7,v8,v9,v10,v11,v12,v13,v14,v15,v16,v17,v18,v19] H =
   some (.exit 0,[.str s,.func (.func f) [] [],v2,v3,.int .i64 0,.int .i64 (Ap p s),w6,w7,w8,w9,w10,w11,w12,w13,w14,w15,w16,w17,w18,w19],H):=by
 intro m
 induction m with
 | zero=>intro i _ h;omega
 | succ m ih =>
  intro i hi hm v6 v7 v8 v9 v10 v11 v12 v13 v14 v15 v16 v17 v18 v19
  by_cases he:i<Ap p s
  ·obtain ⟨h1,h2⟩:=MU p s i he
   rw [ZS (dx O s f p hg ho i h1 h2 hs n v2 v3 v6 v7 v8 v9 v10 v11 v12 v13 v14 v15 v16 v17 v18 v19 H)];exact ih (i+1) he (by omega) _ _ _ _ _ _ _ _ _ _ _ _ _ _
  ·have hie:i=Ap p s:=by omega
   subst hie;obtain ⟨w6,w7,w8,w9,w10,w11,w12,w13,w14,w15,w16,w17,w18,w19,h⟩:=dy O s f p hg ho (Ap p s) (MV p s) n v2 v3 v6 v7 v8 v9 v10 v11 v12 v13 v14 v15 v16 v17 v18 v19 H;exact ⟨w6,w7,w8,w9,w10,w11,w12,w13,w14,w15,w16,w17,w18,w19,ZT h⟩
theorem TY (O:Orc) (s:List UInt8) (f:FuncId) (p:UInt8→Bool) (hg:AE zP f=true) (ho:∀(b:UInt8) H,O f [.int .u8 (b.toNat:Int)] H=some (.bool (p b),H)) (hs:s.length<9223372036854775807) (H:AH) :
  Ax O zP AN (s.length+1) 131 [.str s,.func (.func f) [] []] H=some (.int .i64 (Ap p s),H):=by
 obtain ⟨w6,w7,w8,w9,w10,w11,w12,w13,w14,w15,w16,w17,w18,w19,h⟩:=dz O s f p hg ho hs (s.length+1) .nothing .nothing H (s.length+1) 0 (Nat.zero_le _) (by have:=Fq p s;omega) .nothing .nothing .nothing .nothing .nothing .nothing .nothing .nothing .nothing .nothing .nothing .nothing .nothing .nothing;rw [Sy (c:=b30) Tryz.func131 (by kernel_rfl)]
 have e1:AL O zP AN (s.length+1) (Bh b30) ([.str s,.func (.func f) [] []]++List.replicate (Tryz.f131.ntmps-[AV.str s,.func (.func f) [] []].length) .nothing) H=some (.normal,[.str s,.func (.func f) [] [],.nothing,.nothing,.int .i64 0,.nothing,.nothing,.nothing,.nothing,.nothing,.nothing,.nothing,.nothing,.nothing,.nothing,.nothing,.nothing,.nothing,.nothing,.nothing],H):=by kernel_rfl
 have e2:AL O zP AN (s.length+1) (Bh (Aj b30)) [.str s,.func (.func f) [] [],.nothing,.nothing,.int .i64 0,.nothing,.nothing,.nothing,.nothing,.nothing,.nothing,.nothing,.nothing,.nothing,.nothing,.nothing,.nothing,.nothing,.nothing,.nothing] H=some (.normal,[.str s,.func (.func f) [] [],.nothing,.nothing,.int .i64 0,.int .i64 (0:Nat),.nothing,.nothing,.nothing,.nothing,.nothing,.nothing,.nothing,.nothing,.nothing,.nothing,.nothing,.nothing,.nothing,.nothing],H):=by kernel_rfl
 rw [Oy (B:=Aj b30) (by kernel_rfl) e1,Oy (B:=Aj (Aj b30)) (by kernel_rfl) e2];rw [Oy (A:=Bh (Aj (Aj b30))) (B:=Aj (Aj (Aj b30))) (by kernel_rfl) (ZR (L:=JL) (by kernel_rfl) h)]
 show (_:Option (AV × AH))=_
 kernel_rfl
set_option maxHeartbeats 4000000
def Cf:List UInt8→Nat
 | []=>0
 | c::r=>if c.toNat=60∨c.toNat=62∨c.toNat=61∨c.toNat=47 then (match r with
   | d::_=>if d.toNat=61 then 2 else 1
   | []=>1)
  else if c.toNat=43∨c.toNat=45∨c.toNat=42∨c.toNat=40∨c.toNat=41∨c.toNat=44 then 1 else 0
theorem sz9:Ad zP 9=some 1:=by kernel_rfl
theorem ag9:Au zP 9=some false:=by kernel_rfl
theorem d5 (O:Orc) (s:List UInt8) (H:AH) (h0:(s==[105,110,116,101,103,101,114])=false) (h1:(s==[100,111])=false) (h2:(s==[101,110,100])=false) (h3:(s==[105,102])=false)
  (h4:(s==[116,104,101,110])=false) (h5:(s==[101,108,115,101])=false) (h6:(s==[114,101,97,100])=false) (h7:(s==[112,114,105,110,116])=false) :
  Ax O zP AN 9 201 [Gq,.str s] H=some (.int .i64 (-1),H):=by
 simp [Tryz.func201,Tryz.f201,Ax,AL,Bf,AX,Ao,Ai,grow,A8,Aw,AU,callee,aop,AT,AC,BP,BW,BU,AQ,BE,BK,alen,BI,Bc,Be,aun,BQ,BG,BZ,BR,BS,BV,Av,BH,BN,BB,BL,A9,aeq,iter,Gq,GM,sz9,ag9,h0,h1,h2,h3,h4,h5,h6,h7,IntKind.wrap,IntKind.bits,IntKind.signed]
theorem d6 (s:List UInt8) (h:GM.contains s=false):run fzT Dg zP AN 9 3 133 [.str s] []=some (.bool false,[]):=by
 simp only [GM,List.contains_cons,List.contains_nil,Bool.or_false,Bool.or_eq_false_iff] at h;obtain ⟨h0,h1,h2,h3,h4,h5,h6,h7⟩:=h;have b43:Dg 201 [Gq,.str s] []=none:=rfl;have b28:Dg 173 [Gq,.str s] []=none:=rfl;have b14:Dg 133 [.str s] []=none:=rfl;have b29:Dg 174 [.str LD] []=some (Gq,[]):=by kernel_rfl
 have g43:AE zP 201=true:=EW _ (by simp);have g28:AE zP 173=true:=EW _ (by simp);have g29:AE zP 174=true:=EW _ (by simp)
 have e43:run fzT Dg zP AN 9 1 201 [Gq,.str s] []=some (.int .i64 (-1),[]):=by have:=d5 Dg s [] h0 h1 h2 h3 h4 h5 h6 h7;simp [run,b43,this,K1,fzT,frz,strip,low,AP]
 have e28:run fzT Dg zP AN 9 2 173 [Gq,.str s] []=some (.bool false,[]):=by
  have:Ax (run fzT Dg zP AN 9 1) zP AN 9 173 [Gq,.str s] []=some (.bool false,[]):=by simp [Tryz.func173,Tryz.f173,Ax,AL,Bf,AX,Ao,Ai,grow,A8,Aw,AU,callee,aop,AT,AC,BP,BW,BU,AQ,BE,BK,alen,BI,Bc,Be,aun,BQ,BG,BZ,BR,BS,BV,Av,BH,BN,BB,BL,A9,aeq,e43,g43]
  rw [run];simp [b28,this,K1,fzT,frz,strip,low,AP]
 have e29:run fzT Dg zP AN 9 2 174 [.str LD] []=some (Gq,[]):=by rw [run];simp [b29]
 have:Ax (run fzT Dg zP AN 9 2) zP AN 9 133 [.str s] []=some (.bool false,[]):=by unfold LD at e29;simp [Tryz.func133,Tryz.f133,Ax,AL,Bf,AX,Ao,Ai,grow,A8,Aw,AU,callee,aop,AT,AC,BP,BW,BU,AQ,BE,BK,alen,BI,Bc,Be,aun,BQ,BG,BZ,BR,BS,BV,Av,BH,BN,BB,BL,A9,aeq,e28,e29,g28,g29]
 rw [run];simp [b14,this,K1,fzT,frz,strip,low,AP]
theorem d7:run fzT Dg zP AN 9 3 133 [.str [105,110,116,101,103,101,114]] []=some (.bool true,[]):=by kernel_rfl
theorem d8:run fzT Dg zP AN 9 3 133 [.str [100,111]] []=some (.bool true,[]):=by kernel_rfl
theorem eA:run fzT Dg zP AN 9 3 133 [.str [101,110,100]] []=some (.bool true,[]):=by kernel_rfl
theorem eB:run fzT Dg zP AN 9 3 133 [.str [105,102]] []=some (.bool true,[]):=by kernel_rfl
theorem eC:run fzT Dg zP AN 9 3 133 [.str [116,104,101,110]] []=some (.bool true,[]):=by kernel_rfl
theorem eD:run fzT Dg zP AN 9 3 133 [.str [101,108,115,101]] []=some (.bool true,[]):=by kernel_rfl
theorem eE:run fzT Dg zP AN 9 3 133 [.str [114,101,97,100]] []=some (.bool true,[]):=by kernel_rfl
theorem eG:run fzT Dg zP AN 9 3 133 [.str [112,114,105,110,116]] []=some (.bool true,[]):=by kernel_rfl
def DE (s:List UInt8):Bool:=GM.contains s
theorem eH (s:List UInt8):run fzT Dg zP AN 9 3 133 [.str s] []=some (.bool (DE s),[]):=by
 cases h:DE s with
 | false=>exact d6 s h
 | true =>
  unfold DE at h;simp only [GM,List.contains_cons,List.contains_nil,Bool.or_false,Bool.or_eq_true,beq_iff_eq] at h;rcases h with rfl|rfl|rfl|rfl|rfl|rfl|rfl|rfl
  ·exact d7
  ·exact d8
  ·exact eA
  ·exact eB
  ·exact eC
  ·exact eD
  ·exact eE
  ·exact eG
def PH:Orc:=callS 133 fun s=>some (.bool (DE s))
theorem eI:AS zP AN PH:=AS.callS yEq fun s v h=>by injection h with h;subst h;exact (K2 dq DD Af 9 3 _ _ _ _ _ (eH s)).1
theorem eJ (O:Orc) (c:UInt8) (r:List UInt8) (H:AH):Ax O zP AN 1 136 [.str (c::r)] H=some (.int .i64 (Cf (c::r)),H):=by
 by_cases h:c.toNat=60∨c.toNat=62∨c.toNat=61∨c.toNat=47∨c.toNat=43∨c.toNat=45∨c.toNat=42∨c.toNat=40∨c.toNat=41∨c.toNat=44
 ·cases r with
  | nil =>
   rcases h with h|h|h|h|h|h|h|h|h|h <;>
    simp [Tryz.func136,Tryz.f136,Ax,AL,Bf,AX,Ao,Ai,grow,A8,Aw,AU,callee,aop,AT,AC,BP,BW,BU,AQ,BE,BK,alen,BI,Bc,Be,aun,BQ,BG,BZ,BR,BS,BV,Av,BH,BN,BB,BL,A9,aeq,Cf,h]
  | cons d r =>
   have hl:(1:Int)<(r.length:Int)+1+1:=by omega
   by_cases hd:d.toNat=61
   ·rcases h with h|h|h|h|h|h|h|h|h|h <;>
     simp [Tryz.func136,Tryz.f136,Ax,AL,Bf,AX,Ao,Ai,grow,A8,Aw,AU,callee,aop,AT,AC,BP,BW,BU,AQ,BE,BK,alen,BI,Bc,Be,aun,BQ,BG,BZ,BR,BS,BV,Av,BH,BN,BB,BL,A9,aeq,Cf,h,hd,hl]
   ·have hd':((d.toNat:Int)==61)=false:=by simp only [beq_eq_false_iff_ne];omega
    rcases h with h|h|h|h|h|h|h|h|h|h <;>
     simp [Tryz.func136,Tryz.f136,Ax,AL,Bf,AX,Ao,Ai,grow,A8,Aw,AU,callee,aop,AT,AC,BP,BW,BU,AQ,BE,BK,alen,BI,Bc,Be,aun,BQ,BG,BZ,BR,BS,BV,Av,BH,BN,BB,BL,A9,aeq,Cf,h,hd,hd',hl]
 ·simp only [not_or] at h
  obtain ⟨a0,a1,a2,a3,a4,a5,a6,a7,a8,a9⟩:=h;have b0:((c.toNat:Int)==60)=false:=by simp only [beq_eq_false_iff_ne];omega
  have b1:((c.toNat:Int)==62)=false:=by simp only [beq_eq_false_iff_ne];omega
  have b2:((c.toNat:Int)==61)=false:=by simp only [beq_eq_false_iff_ne];omega
  have b3:((c.toNat:Int)==47)=false:=by simp only [beq_eq_false_iff_ne];omega
  have b4:((c.toNat:Int)==43)=false:=by simp only [beq_eq_false_iff_ne];omega
  have b5:((c.toNat:Int)==45)=false:=by simp only [beq_eq_false_iff_ne];omega
  have b6:((c.toNat:Int)==42)=false:=by simp only [beq_eq_false_iff_ne];omega
  have b7:((c.toNat:Int)==40)=false:=by simp only [beq_eq_false_iff_ne];omega
  have b8:((c.toNat:Int)==41)=false:=by simp only [beq_eq_false_iff_ne];omega
  have b9:((c.toNat:Int)==44)=false:=by simp only [beq_eq_false_iff_ne];omega
  cases r with
  | nil=>simp [Tryz.func136,Tryz.f136,Ax,AL,Bf,AX,Ao,Ai,grow,A8,Aw,AU,callee,aop,AT,AC,BP,BW,BU,AQ,BE,BK,alen,BI,Bc,Be,aun,BQ,BG,BZ,BR,BS,BV,Av,BH,BN,BB,BL,A9,aeq,Cf,a0,a1,a2,a3,a4,a5,a6,a7,a8,a9,b0,b1,b2,b3,b4,b5,b6,b7,b8,b9]
  | cons d r =>
   have hl:(1:Int)<(r.length:Int)+1+1:=by omega
   simp [Tryz.func136,Tryz.f136,Ax,AL,Bf,AX,Ao,Ai,grow,A8,Aw,AU,callee,aop,AT,AC,BP,BW,BU,AQ,BE,BK,alen,BI,Bc,Be,aun,BQ,BG,BZ,BR,BS,BV,Av,BH,BN,BB,BL,A9,aeq,Cf,a0,a1,a2,a3,a4,a5,a6,a7,a8,a9,b0,b1,b2,b3,b4,b5,b6,b7,b8,b9,hl]
noncomputable def t55:Code:=Aj (Aj (Aj (Aj (Aj (Aj (Aj (Aj (Aj (Aj (Aj (Ar Tryz.f204)))))))))))
noncomputable def L55:Code:=inC (inC (Aj (Bh t55)))
theorem sz5:Ad zP 5=some 1:=by kernel_rfl
theorem ag5:Au zP 5=some false:=by kernel_rfl
def Ba (s:List UInt8):Nat:=s.foldl (fun n b=>10*n+(b.toNat-48)) 0
theorem eK (O:Orc) (s:List UInt8) (i n:Nat) (b:UInt8) (t:List AV) (H:AH) (N:Nat) (hl:t.length=172) (h1:t[1]? = some (.int .i64 10)) (h8:t[8]? = some (.bool false)) (qs:t[10]? = some (.int .u64 1844674407370955162))
  (s6:t[11]? = some (.int .u64 18446744073709551615)) (sB:t[13]? = some (.int .u64 n)) (sQ:t[101]? = some (.int .i64 i)) (s7:t[99]? = some (.slice .unk 1 s.length (Dd s))) (sR:t[100]? = some (.int .i64 s.length))
  (hi:i<s.length) (hs:s.length<9223372036854775807) (hb:(Dd s)[i]? = some (.int .u8 (b.toNat:Int))) (qJ:(48:Int)≤(b.toNat:Int)) (qD:(b.toNat:Int)≤57) (hn:(n:Int)<1844674407370955162) (hm:10*n+(b.toNat-48)<18446744073709551616)
  (Q:AEx→List AV→AH→Prop) (hQ:∀t':List AV,t'.length=172→t'[1]? = some (.int .i64 10)→t'[8]? = some (.bool false)→t'[10]? = some (.int .u64 1844674407370955162)→t'[11]? = some (.int .u64 18446744073709551615) →
   t'[12]? = t[12]? → t'[13]? = some (.int .u64 ((10*n+(b.toNat-48):Nat):Int))→t'[101]? = some (.int .i64 ((i+1:Nat):Int))→t'[99]? = some (.slice .unk 1 s.length (Dd s))→t'[100]? = some (.int .i64 s.length)→Q .normal t' H) :
  Al (AL O zP AN N L55 t H) Q:=by
 have hi':(i:Int)<s.length:=by omega
 have e95:((b.toNat:Int)==95)=false:=by simp only [beq_eq_false_iff_ne];omega
 have w1:IntKind.u8.wrap ((b.toNat:Int)-48)=((b.toNat-48:Nat):Int):=by simp [IntKind.wrap,IntKind.bits,IntKind.signed];omega
 have w2:IntKind.u8.wrap 10=10:=by decide
 have d9:¬((10:Int)≤((b.toNat-48:Nat):Int)):=by omega
 have nc:¬((1844674407370955162:Int)≤(n:Int)):=by omega
 have w3:IntKind.u64.wrap 10=10:=by decide
 have w4:IntKind.u64.wrap ((n:Int)*10)=10*(n:Int):=by simp [IntKind.wrap,IntKind.bits,IntKind.signed];omega
 have w5:IntKind.u64.wrap ((b.toNat-48:Nat):Int)=((b.toNat-48:Nat):Int):=by simp [IntKind.wrap,IntKind.bits,IntKind.signed];omega
 have w6:IntKind.u64.wrap (10*(n:Int)+((b.toNat-48:Nat):Int))=10*(n:Int)+((b.toNat-48:Nat):Int):=by simp [IntKind.wrap,IntKind.bits,IntKind.signed];omega
 have l1:¬(10*(n:Int)+((b.toNat-48:Nat):Int)<10*(n:Int)):=by omega
 have l2:¬((18446744073709551615:Int)<10*(n:Int)+((b.toNat-48:Nat):Int)):=by omega
 have w7:IntKind.i64.wrap ((i:Int)+1)=(i:Int)+1:=Ab (by omega) (by omega);obtain ⟨_,g1⟩:=List.getElem?_eq_some_iff.1 h1;obtain ⟨_,g8⟩:=List.getElem?_eq_some_iff.1 h8;obtain ⟨_,g10⟩:=List.getElem?_eq_some_iff.1 qs;obtain ⟨_,g11⟩:=List.getElem?_eq_some_iff.1 s6;obtain ⟨_,g13⟩:=List.getElem?_eq_some_iff.1 sB;obtain ⟨_,g101⟩:=List.getElem?_eq_some_iff.1 sQ;obtain ⟨_,g99⟩:=List.getElem?_eq_some_iff.1 s7;obtain ⟨_,g100⟩:=List.getElem?_eq_some_iff.1 sR;simp [L55,t55,Ar,Tryz.f204,inC,Bh,Aj,Ax,AL,Bf,AX,Ao,Ai,grow,A8,Aw,AU,callee,aop,AT,AC,BP,BW,BU,AQ,BE,BK,alen,BI,Bc,Be,aun,BQ,BG,BZ,BR,BS,BV,Av,BH,BN,BB,BL,A9,aeq,Al,hl,g1,g8,g10,g11,g13,g101,g99,g100,hi,hi',sz5,ag5,Tryz.underlying139,hb,e95,qJ,qD,w1,w2,d9,nc,w3,w4,w5,w6,l1,l2,w7];refine hQ _ ?_ ?_ ?_ ?_ ?_ ?_ ?_ ?_ ?_ ?_<;>simp [hl,g1,g8,g10,g11,g99,g100]
theorem eL (O:Orc) (s:List UInt8) (i n:Nat) (b:UInt8) (t:List AV) (H:AH) (N:Nat) (hl:t.length=172) (h1:t[1]? = some (.int .i64 10)) (h8:t[8]? = some (.bool false)) (qs:t[10]? = some (.int .u64 1844674407370955162))
  (s6:t[11]? = some (.int .u64 18446744073709551615)) (sB:t[13]? = some (.int .u64 n)) (sQ:t[101]? = some (.int .i64 i)) (s7:t[99]? = some (.slice .unk 1 s.length (Dd s))) (sR:t[100]? = some (.int .i64 s.length))
  (hi:i<s.length) (hb:(Dd s)[i]? = some (.int .u8 (b.toNat:Int))) (qJ:(48:Int)≤(b.toNat:Int)) (qD:(b.toNat:Int)≤57) (hn:¬(n:Int)<1844674407370955162)
  (Q:AEx→List AV→AH→Prop) (hQ:∀t':List AV,t'.length=172→t'[6]? = some (.int .u64 18446744073709551615)→t'[7]? = some (.iface 323 (.int .i64 1))→Q .ret t' H) :
  Al (AL O zP AN N L55 t H) Q:=by
 have hi':(i:Int)<s.length:=by omega
 have e95:((b.toNat:Int)==95)=false:=by simp only [beq_eq_false_iff_ne];omega
 have w1:IntKind.u8.wrap ((b.toNat:Int)-48)=((b.toNat-48:Nat):Int):=by simp [IntKind.wrap,IntKind.bits,IntKind.signed];omega
 have w2:IntKind.u8.wrap 10=10:=by decide
 have d9:¬((10:Int)≤((b.toNat-48:Nat):Int)):=by omega
 have nc:(1844674407370955162:Int)≤(n:Int):=by omega
 obtain ⟨_,g1⟩:=List.getElem?_eq_some_iff.1 h1;obtain ⟨_,g8⟩:=List.getElem?_eq_some_iff.1 h8;obtain ⟨_,g10⟩:=List.getElem?_eq_some_iff.1 qs;obtain ⟨_,g11⟩:=List.getElem?_eq_some_iff.1 s6;obtain ⟨_,g13⟩:=List.getElem?_eq_some_iff.1 sB;obtain ⟨_,g101⟩:=List.getElem?_eq_some_iff.1 sQ;obtain ⟨_,g99⟩:=List.getElem?_eq_some_iff.1 s7;obtain ⟨_,g100⟩:=List.getElem?_eq_some_iff.1 sR;simp [L55,t55,Ar,Tryz.f204,inC,Bh,Aj,Ax,AL,Bf,AX,Ao,Ai,grow,A8,Aw,AU,callee,aop,AT,AC,BP,BW,BU,AQ,BE,BK,alen,BI,Bc,Be,aun,BQ,BG,BZ,BR,BS,BV,Av,BH,BN,BB,BL,A9,aeq,Al,hl,g1,g8,g10,g11,g13,g101,g99,g100,hi,hi',sz5,ag5,Tryz.underlying139,Tryz.underlying323,hb,e95,qJ,qD,w1,w2,d9,nc];refine hQ _ ?_ ?_ ?_<;>simp [hl]
theorem eM (O:Orc) (s:List UInt8) (i n:Nat) (b:UInt8) (t:List AV) (H:AH) (N:Nat) (hl:t.length=172) (h1:t[1]? = some (.int .i64 10)) (h8:t[8]? = some (.bool false)) (qs:t[10]? = some (.int .u64 1844674407370955162))
  (s6:t[11]? = some (.int .u64 18446744073709551615)) (sB:t[13]? = some (.int .u64 n)) (sQ:t[101]? = some (.int .i64 i)) (s7:t[99]? = some (.slice .unk 1 s.length (Dd s))) (sR:t[100]? = some (.int .i64 s.length))
  (hi:i<s.length) (hb:(Dd s)[i]? = some (.int .u8 (b.toNat:Int))) (qJ:(48:Int)≤(b.toNat:Int)) (qD:(b.toNat:Int)≤57) (hn:(n:Int)<1844674407370955162) (hm:¬10*n+(b.toNat-48)<18446744073709551616)
  (Q:AEx→List AV→AH→Prop) (hQ:∀t':List AV,t'.length=172→t'[6]? = some (.int .u64 18446744073709551615)→t'[7]? = some (.iface 323 (.int .i64 1))→Q .ret t' H) :
  Al (AL O zP AN N L55 t H) Q:=by
 have hi':(i:Int)<s.length:=by omega
 have e95:((b.toNat:Int)==95)=false:=by simp only [beq_eq_false_iff_ne];omega
 have w1:IntKind.u8.wrap ((b.toNat:Int)-48)=((b.toNat-48:Nat):Int):=by simp [IntKind.wrap,IntKind.bits,IntKind.signed];omega
 have w2:IntKind.u8.wrap 10=10:=by decide
 have d9:¬((10:Int)≤((b.toNat-48:Nat):Int)):=by omega
 have nc:¬((1844674407370955162:Int)≤(n:Int)):=by omega
 have w3:IntKind.u64.wrap 10=10:=by decide
 have w4:IntKind.u64.wrap ((n:Int)*10)=10*(n:Int):=by simp [IntKind.wrap,IntKind.bits,IntKind.signed];omega
 have w5:IntKind.u64.wrap ((b.toNat-48:Nat):Int)=((b.toNat-48:Nat):Int):=by simp [IntKind.wrap,IntKind.bits,IntKind.signed];omega
 have w6:IntKind.u64.wrap (10*(n:Int)+((b.toNat-48:Nat):Int))=10*(n:Int)+((b.toNat-48:Nat):Int)-18446744073709551616:=by simp [IntKind.wrap,IntKind.bits,IntKind.signed];omega
 have l1:10*(n:Int)+((b.toNat-48:Nat):Int)-18446744073709551616<10*(n:Int):=by omega
 obtain ⟨_,g1⟩:=List.getElem?_eq_some_iff.1 h1;obtain ⟨_,g8⟩:=List.getElem?_eq_some_iff.1 h8;obtain ⟨_,g10⟩:=List.getElem?_eq_some_iff.1 qs;obtain ⟨_,g11⟩:=List.getElem?_eq_some_iff.1 s6;obtain ⟨_,g13⟩:=List.getElem?_eq_some_iff.1 sB;obtain ⟨_,g101⟩:=List.getElem?_eq_some_iff.1 sQ;obtain ⟨_,g99⟩:=List.getElem?_eq_some_iff.1 s7;obtain ⟨_,g100⟩:=List.getElem?_eq_some_iff.1 sR;simp [L55,t55,Ar,Tryz.f204,inC,Bh,Aj,Ax,AL,Bf,AX,Ao,Ai,grow,A8,Aw,AU,callee,aop,AT,AC,BP,BW,BU,AQ,BE,BK,alen,BI,Bc,Be,aun,BQ,BG,BZ,BR,BS,BV,Av,BH,BN,BB,BL,A9,aeq,Al,hl,g1,g8,g10,g11,g13,g101,g99,g100,hi,hi',sz5,ag5,Tryz.underlying139,Tryz.underlying323,hb,e95,qJ,qD,w1,w2,d9,nc,w3,w4,w5,w6,l1];refine hQ _ ?_ ?_ ?_<;>simp [hl]
theorem eO (O:Orc) (s:List UInt8) (t:List AV) (H:AH) (N:Nat) (hl:t.length=172) (sQ:t[101]? = some (.int .i64 s.length)) (sR:t[100]? = some (.int .i64 s.length))
  (Q:AEx→List AV→AH→Prop) (hQ:Q (.exit 3) (t.set 102 (.bool false)) H):Al (AL O zP AN N L55 t H) Q:=by
 obtain ⟨_,g101⟩:=List.getElem?_eq_some_iff.1 sQ;obtain ⟨_,g100⟩:=List.getElem?_eq_some_iff.1 sR;simp [L55,t55,Ar,Tryz.f204,inC,Bh,Aj,Ax,AL,Bf,AX,Ao,Ai,grow,A8,Aw,AU,callee,aop,AT,AC,BP,BW,BU,AQ,BE,BK,alen,BI,Bc,Be,aun,BQ,BG,BZ,BR,BS,BV,Av,BH,BN,BB,BL,A9,aeq,Al,hl,g101,g100];exact hQ
theorem eP (O:Orc) (s:List UInt8) (t:List AV) (H:AH) (N:Nat) (hl:t.length=172) (h0:t[0]? = some (.str s)) (h1:t[1]? = some (.int .i64 10)) (h2:t[2]? = some (.int .i64 64)) (pp:s≠[])
  (Q:AEx→List AV→AH→Prop) (hQ:∀t':List AV,t'.length=172→t'[0]? = some (.str s)→t'[1]? = some (.int .i64 10)→t'[8]? = some (.bool false)→t'[10]? = some (.int .u64 1844674407370955162)→t'[11]? = some (.int .u64 18446744073709551615) →
   t'[12]? = some (.bool false)→t'[13]? = some (.int .u64 0)→Q .normal t' H) :
  Al (AL O zP AN N (DB 11 (Ar Tryz.f204)) t H) Q:=by
 obtain ⟨_,g0⟩:=List.getElem?_eq_some_iff.1 h0;obtain ⟨_,g1⟩:=List.getElem?_eq_some_iff.1 h1;obtain ⟨_,g2⟩:=List.getElem?_eq_some_iff.1 h2;have hn:(s==[])=false:=by cases s<;>simp_all
 have w1:IntKind.u64.wrap (18446744073709551616)=0:=by decide
 have w2:IntKind.u64.wrap (-1)=18446744073709551615:=by decide
 have w3:IntKind.u64.wrap 64=64:=by decide
 have w4:IntKind.u64.bits=64:=rfl;simp [Ar,Tryz.f204,DB,Ax,AL,Bf,AX,Ao,Ai,grow,A8,Aw,AU,callee,aop,AT,AC,BP,BW,BU,AQ,BE,BK,alen,BI,Bc,Be,aun,BQ,BG,BZ,BR,BS,BV,Av,BH,BN,BB,BL,A9,aeq,Al,hl,g0,g1,g2,hn,pp,Tryz.underlying3,Tryz.underlying96,w1,w2,w3,w4];refine hQ _ ?_ ?_ ?_ ?_ ?_ ?_ ?_ ?_<;>simp [hl,g0,g1]
def Ht (s:List UInt8):Prop:=∀b∈s,48≤b.toNat∧b.toNat≤57
theorem PI (s:List UInt8) (b:UInt8):Ba (s++[b])=10*Ba s+(b.toNat-48):=by simp [Ba]
theorem TZ (s r:List UInt8):Ba s≤Ba (s++r):=by
 induction r generalizing s with
 | nil=>simp
 | cons b r ih =>have h1:=ih (s++[b]);rw [List.append_assoc] at h1;have h2:=PI s b;simp only [List.singleton_append] at h1;omega
def PuI (s:List UInt8) (H:AH) (k:Nat) (t:List AV) (H':AH):Prop :=
 H'=H∧t.length=172∧t[1]? = some (.int .i64 10)∧t[8]? = some (.bool false)∧t[10]? = some (.int .u64 1844674407370955162)∧t[11]? = some (.int .u64 18446744073709551615)∧t[12]? = some (.bool false) ∧
  t[99]? = some (.slice .unk 1 s.length (Dd s))∧t[100]? = some (.int .i64 s.length) ∧
  ∃i,i+k=s.length∧t[101]? = some (.int .i64 i)∧t[13]? = some (.int .u64 (Ba (s.take i)))∧Ba (s.take i)<18446744073709551616
theorem eQ (O:Orc) (s:List UInt8) (hd:Ht s) (hs:s.length<9223372036854775807) (N:Nat) (H:AH) (Q:AEx→List AV→AH→Prop)
  (hQ1:∀t',t'.length=172→t'[12]? = some (.bool false)→t'[13]? = some (.int .u64 (Ba s))→Ba s<18446744073709551616→Q (.exit 3) t' H)
  (y6:∀t',t'.length=172→t'[6]? = some (.int .u64 18446744073709551615)→t'[7]? = some (.iface 323 (.int .i64 1))→¬Ba s<18446744073709551616→Q .ret t' H) (k:Nat) (t:List AV) (hk:k<N) (hI:PuI s H k t H) :
  Al (iter (AL O zP AN N L55) N t H) Q:=by
 refine Al.iter (PuI s H) (fun k t H' hI => ?_) N k hk hI;obtain ⟨rfl,hl,h1,h8,qs,s6,vJ,s7,sR,i,px,sQ,sB,hn⟩:=hI;cases k with
 | zero =>
  obtain rfl:i=s.length:=by omega
  rw [List.take_length] at sB hn;refine eO O s t H' N hl sQ sR _ ?_;refine hQ1 _ (by simp [hl]) ?_ ?_ hn
  ·rw [List.getElem?_set_ne (by omega)];exact vJ
  ·rw [List.getElem?_set_ne (by omega)];exact sB
 | succ k =>
  have hi:i<s.length:=by omega
  have hb:(Dd s)[i]? = some (.int .u8 (s[i].toNat:Int)):=by simp [Dd,hi]
  obtain ⟨d1,d2⟩:=hd s[i] (List.getElem_mem hi);have qS:s.take (i+1)=s.take i++[s[i]]:=by rw [List.take_add_one,List.getElem?_eq_getElem hi];rfl
  have tg:Ba (s.take (i+1))=10*Ba (s.take i)+(s[i].toNat-48):=by rw [qS,PI]
  have pv:Ba (s.take (i+1))≤Ba s:=by
   have:=TZ (s.take (i+1)) (s.drop (i+1))
   rwa [List.take_append_drop] at this
  by_cases hc:(Ba (s.take i):Int)<1844674407370955162
  ·by_cases hm:10*Ba (s.take i)+(s[i].toNat-48)<18446744073709551616
   ·refine eK O s i _ s[i] t H' N hl h1 h8 qs s6 sB sQ s7 sR hi hs hb (by omega) (by omega) hc hm _ ?_
    intro t' a b c d e f g h j l;refine ⟨k,by omega,rfl,a,b,c,d,e,f.trans vJ,j,l,i+1,by omega,h,?_,?_⟩
    ·rw [tg];exact g
    ·rw [tg];exact hm
   ·refine eM O s i _ s[i] t H' N hl h1 h8 qs s6 sB sQ s7 sR hi hb (by omega) (by omega) hc hm _ ?_
    intro t' a b c;exact y6 t' a b c (by omega)
  ·refine eL O s i _ s[i] t H' N hl h1 h8 qs s6 sB sQ s7 sR hi hb (by omega) (by omega) hc _ ?_
   intro t' a b c;exact y6 t' a b c (by omega)
theorem eR (O:Orc) (s:List UInt8) (t:List AV) (H:AH) (N:Nat) (hl:t.length=172) (h0:t[0]? = some (.str s)) (hs:s.length<9223372036854775807)
  (Q:AEx→List AV→AH→Prop) (hQ:∀t':List AV,t'.length=172→(∀k,k<98→t'[k]? = t[k]?)→t'[99]? = some (.slice .unk 1 s.length (Dd s))→t'[100]? = some (.int .i64 s.length)→t'[101]? = some (.int .i64 0)→Q .normal t' H) :
  Al (AL O zP AN N (Bh (Bh t55)) t H) Q:=by
 obtain ⟨_,g0⟩:=List.getElem?_eq_some_iff.1 h0;have hs':s.length≤9223372036854775807:=by omega
 simp [t55,Ar,Tryz.f204,Bh,Aj,Ax,AL,Bf,AX,Ao,Ai,grow,A8,Aw,AU,callee,aop,AT,AC,BP,BW,BU,AQ,BE,BK,alen,BI,Bc,Be,aun,BQ,BG,BZ,BR,BS,BV,Av,BH,BN,BB,BL,A9,aeq,Al,hl,g0,hs',Tryz.underlying9,Tryz.underlying139,Tryz.underlying5];refine hQ _ ?_ ?_ ?_ ?_ ?_
 ·simp [hl]
 ·intro k hk
  simp only [List.getElem?_set]
  repeat rw [if_neg (by omega)]
 ·simp [hl]
 ·simp [hl]
 ·simp [hl]
theorem eS (O:Orc) (t:List AV) (H:AH) (N:Nat) (m:Int) (hl:t.length=172) (vJ:t[12]? = some (.bool false)) (sB:t[13]? = some (.int .u64 m))
  (Q:AEx→List AV→AH→Prop) (hQ:∀t':List AV,t'.length=172→t'[6]? = some (.int .u64 m)→t'[7]? = some .nilIface→Q .ret t' H) :
  Al (AL O zP AN N (Aj t55) t H) Q:=by
 obtain ⟨_,g12⟩:=List.getElem?_eq_some_iff.1 vJ;obtain ⟨_,g13⟩:=List.getElem?_eq_some_iff.1 sB;simp [t55,Ar,Tryz.f204,Bh,Aj,Ax,AL,Bf,AX,Ao,Ai,grow,A8,Aw,AU,callee,aop,AT,AC,BP,BW,BU,AQ,BE,BK,alen,BI,Bc,Be,aun,BQ,BG,BZ,BR,BS,BV,Av,BH,BN,BB,BL,A9,aeq,Al,hl,g12,g13];refine hQ _ ?_ ?_ ?_<;>simp [hl]
theorem eU:Cq 11 (Ar Tryz.f204)=t55:=by kernel_rfl
theorem Ta (t:List AV) (H:AH) (x y:AV) (h6:t[6]? = some x) (h7:t[7]? = some y):fin zP Tryz.f204 (some (.ret,t,H))=some (.tup [x,y],H):=by simp [fin,Tryz.f204,BE,h6,h7,BK]
def IT (s:List UInt8):AV:=if Ba s<18446744073709551616 then .tup [.int .u64 (Ba s),.nilIface] else .tup [.int .u64 18446744073709551615,.iface 323 (.int .i64 1)]
theorem eV (O:Orc) (s:List UInt8) (pp:s≠[]) (hd:Ht s) (hs:s.length<9223372036854775807) (H:AH) :
  Ax O zP AN (s.length+1) 204 [.str s,.int .i64 10,.int .i64 64] H=some (IT s,H):=by
 refine Oz (c:=Ar Tryz.f204) Tryz.func204 (by kernel_rfl) ?_;refine Al.split 11 _ ?_;refine eP O s _ H _ (by simp [Tryz.f204]) (by rfl) (by rfl) (by rfl) pp _ ?_;intro t hl h0 h1 h8 qs s6 vJ sB
 show Al (AL O zP AN (s.length+1) (Cq 11 (Ar Tryz.f204)) t H) _
 rw [eU];refine Al.seq (A:=Bh t55) (B:=Aj t55) (by kernel_rfl) ?_;refine Al.seq (A:=Bh (Bh t55)) (B:=Aj (Bh t55)) (by kernel_rfl) ?_;refine eR O s t H _ hl h0 hs _ ?_;intro t2 p6 hk s7 sR sQ
 show Al (AL O zP AN (s.length+1) (Aj (Bh t55)) t2 H) _
 refine Al.block (A := .loop L55) (id:=3) (by kernel_rfl) ?_;simp only [AL];refine eQ O s hd hs _ H _ ?_ ?_ s.length t2 (by omega) ⟨rfl,p6,(hk 1 (by omega)).trans h1,(hk 8 (by omega)).trans h8,(hk 10 (by omega)).trans qs,(hk 11 (by omega)).trans s6,(hk 12 (by omega)).trans vJ,s7,sR,0,by omega,sQ,(hk 13 (by omega)).trans sB,by simp [Ba]⟩
 ·intro t3 qI k12 k13 hn
  show Al (AL O zP AN (s.length+1) (Aj t55) t3 H) _
  refine eS O t3 H _ _ qI k12 k13 _ ?_;intro t4 u9 k6 k7
  show fin zP Tryz.f204 (some (.ret,t4,H))=some (IT s,H)
  rw [Ta t4 H _ _ k6 k7,IT,if_pos hn]
 ·intro t3 qI k6 k7 hn
  show fin zP Tryz.f204 (some (.ret,t3,H))=some (IT s,H)
  rw [Ta t3 H _ _ k6 k7,IT,if_neg hn]
def IU (s:List UInt8):AV:=if Ba s<9223372036854775808 then .tup [.int .i64 (Ba s),.nilIface] else .tup [.int .i64 9223372036854775807,.iface 323 (.int .i64 1)]
theorem go55:AE zP 204=true:=by kernel_rfl
theorem eW:(zP.info? 323).map (·.comparable)=some true:=by kernel_rfl
theorem eX (O:Orc) (c:UInt8) (r:List UInt8) (t:List AV) (H:AH) (N:Nat) (hl:t.length=73) (h0:t[0]? = some (.str (c::r))) (h1:t[1]? = some (.int .i64 10)) (h2:t[2]? = some (.int .i64 64)) (hd:48≤c.toNat)
  (hn:Ba (c::r)<9223372036854775808) (ho:O 204 [.str (c::r),.int .i64 10,.int .i64 64] H=some (.tup [.int .u64 (Ba (c::r)),.nilIface],H))
  (Q:AEx→List AV→AH→Prop) (hQ:∀t':List AV,t'.length=73→t'[6]? = some (.int .i64 (Ba (c::r)))→t'[7]? = some .nilIface→Q .ret t' H) :
  Al (AL O zP AN N (Ar Tryz.f175) t H) Q:=by
 obtain ⟨_,g0⟩:=List.getElem?_eq_some_iff.1 h0;obtain ⟨_,g1⟩:=List.getElem?_eq_some_iff.1 h1;obtain ⟨_,g2⟩:=List.getElem?_eq_some_iff.1 h2;generalize Ba (c::r)=m at hn ho hQ;have e43:((c.toNat:Int)==43)=false:=by simp only [beq_eq_false_iff_ne];omega
 have e45:((c.toNat:Int)==45)=false:=by simp only [beq_eq_false_iff_ne];omega
 have w1:IntKind.i64.wrap 63=63:=by decide
 have w2:IntKind.u64.wrap 63=63:=by decide
 have w3:IntKind.u64.wrap 9223372036854775808=9223372036854775808:=by decide
 have w4:IntKind.u64.bits=64:=rfl;have l1:¬((9223372036854775808:Int)≤(m:Int)):=by omega
 have w5:IntKind.i64.wrap (m:Int)=(m:Int):=Ab (by omega) (by omega);simp [Ar,Tryz.f175,Ax,AL,Bf,AX,Ao,Ai,grow,A8,Aw,AU,callee,aop,AT,AC,BP,BW,BU,AQ,BE,BK,alen,BI,Bc,Be,aun,BQ,BG,BZ,BR,BS,BV,Av,BH,BN,BB,BL,A9,aeq,Al,hl,g0,g1,g2,e43,e45,go55,ho,w1,w2,w3,w4,w5,l1,Tryz.underlying33,Tryz.underlying96,Tryz.underlying203,Tryz.underlying2,Tryz.underlying3,Tryz.underlying323];refine hQ _ ?_ ?_ ?_<;>simp [hl]
theorem Tb (O:Orc) (c:UInt8) (r:List UInt8) (t:List AV) (H:AH) (N:Nat) (hl:t.length=73) (h0:t[0]? = some (.str (c::r))) (h1:t[1]? = some (.int .i64 10)) (h2:t[2]? = some (.int .i64 64)) (hd:48≤c.toNat)
  (u:Int) (e:AV) (hu:9223372036854775808≤u) (he:e = .nilIface∨e = .iface 323 (.int .i64 1)) (ho:O 204 [.str (c::r),.int .i64 10,.int .i64 64] H=some (.tup [.int .u64 u,e],H))
  (Q:AEx→List AV→AH→Prop) (hQ:∀t':List AV,t'.length=73→t'[6]? = some (.int .i64 9223372036854775807)→t'[7]? = some (.iface 323 (.int .i64 1))→Q .ret t' H) :
  Al (AL O zP AN N (Ar Tryz.f175) t H) Q:=by
 obtain ⟨_,g0⟩:=List.getElem?_eq_some_iff.1 h0;obtain ⟨_,g1⟩:=List.getElem?_eq_some_iff.1 h1;obtain ⟨_,g2⟩:=List.getElem?_eq_some_iff.1 h2;obtain ⟨j,hj,z2⟩:=Option.map_eq_some_iff.1 eW;have e43:((c.toNat:Int)==43)=false:=by simp only [beq_eq_false_iff_ne];omega
 have e45:((c.toNat:Int)==45)=false:=by simp only [beq_eq_false_iff_ne];omega
 have w1:IntKind.i64.wrap 63=63:=by decide
 have w2:IntKind.u64.wrap 63=63:=by decide
 have w3:IntKind.u64.wrap 9223372036854775808=9223372036854775808:=by decide
 have w4:IntKind.u64.bits=64:=rfl;have w5:IntKind.u64.wrap 9223372036854775807=9223372036854775807:=by decide
 have w6:IntKind.i64.wrap 9223372036854775807=9223372036854775807:=by decide
 rcases he with rfl|rfl
 ·simp [Ar,Tryz.f175,Ax,AL,Bf,AX,Ao,Ai,grow,A8,Aw,AU,callee,aop,AT,AC,BP,BW,BU,AQ,BE,BK,alen,BI,Bc,Be,aun,BQ,BG,BZ,BR,BS,BV,Av,BH,BN,BB,BL,A9,aeq,Al,hl,g0,g1,g2,e43,e45,go55,ho,w1,w2,w3,w4,w5,w6,hu,Tryz.underlying33,Tryz.underlying96,Tryz.underlying203,Tryz.underlying2,Tryz.underlying3,Tryz.underlying323]
  refine hQ _ ?_ ?_ ?_<;>simp [hl]
 ·simp [Ar,Tryz.f175,Ax,AL,Bf,AX,Ao,Ai,grow,A8,Aw,AU,callee,aop,AT,AC,BP,BW,BU,AQ,BE,BK,alen,BI,Bc,Be,aun,BQ,BG,BZ,BR,BS,BV,Av,BH,BN,BB,BL,A9,aeq,Al,hl,g0,g1,g2,e43,e45,go55,ho,w1,w2,w3,w4,w5,w6,hu,hj,z2,Tryz.underlying33,Tryz.underlying96,Tryz.underlying203,Tryz.underlying2,Tryz.underlying3,Tryz.underlying323]
  refine hQ _ ?_ ?_ ?_<;>simp [hl]
theorem Tc (t:List AV) (H:AH) (x y:AV) (h6:t[6]? = some x) (h7:t[7]? = some y):fin zP Tryz.f175 (some (.ret,t,H))=some (.tup [x,y],H):=by simp [fin,Tryz.f175,BE,h6,h7,BK]
theorem eY (O:Orc) (s:List UInt8) (pp:s≠[]) (hd:Ht s) (H:AH) (ho:O 204 [.str s,.int .i64 10,.int .i64 64] H=some (IT s,H)) :
  Ax O zP AN 1 175 [.str s,.int .i64 10,.int .i64 64] H=some (IU s,H):=by
 obtain ⟨c,r,rfl⟩:=List.exists_cons_of_ne_nil pp;have hc:=(hd c (by simp)).1;refine Oz (c:=Ar Tryz.f175) Tryz.func175 (by kernel_rfl) ?_;unfold IT at ho
 by_cases h1:Ba (c::r)<9223372036854775808
 ·rw [if_pos (by omega)] at ho
  refine eX O c r _ H _ (by simp [Tryz.f175]) (by rfl) (by rfl) (by rfl) hc h1 ho _ ?_;intro t hl k6 k7
  show fin zP Tryz.f175 (some (.ret,t,H))=some (IU (c::r),H)
  rw [Tc t H _ _ k6 k7,IU,if_pos h1]
 ·have fin2:∀t:List AV,t.length=73→t[6]? = some (.int .i64 9223372036854775807)→t[7]? = some (.iface 323 (.int .i64 1))→fin zP Tryz.f175 (some (.ret,t,H))=some (IU (c::r),H):=by
   intro t hl k6 k7;rw [Tc t H _ _ k6 k7,IU,if_neg h1]
  by_cases h2:Ba (c::r)<18446744073709551616
  ·rw [if_pos h2] at ho
   exact Tb O c r _ H _ (by simp [Tryz.f175]) (by rfl) (by rfl) (by rfl) hc _ _ (by omega) (.inl rfl) ho _ fin2
  ·rw [if_neg h2] at ho
   exact Tb O c r _ H _ (by simp [Tryz.f175]) (by rfl) (by rfl) (by rfl) hc _ _ (by omega) (.inr rfl) ho _ fin2
def FQ (k:Int) (s:List UInt8) (a n:Int):AV := .agg [.int .i64 k,.str s,.int .i64 a,.int .i64 n]
theorem z40:Ae zP 192=some (.agg [.int .i64 0,.str [],.int .i64 0,.int .i64 0]):=by kernel_rfl
theorem J6 (k:IntKind) (m:Int) (s:List UInt8):A3 zP 192 [(0,.int k m),(1,.str s)]=some (.agg [.int k m,.str s,.int .i64 0,.int .i64 0]):=by kernel_rfl
theorem J7:A3 zP 192 []=some (.agg [.int .i64 0,.str [],.int .i64 0,.int .i64 0]):=by kernel_rfl
theorem sz40:Ad zP 192=some 4:=by kernel_rfl
theorem ag40:Au zP 192=some true:=by kernel_rfl
theorem sz3:Ad zP 3=some 1:=by kernel_rfl
theorem ag3:Au zP 3=some false:=by kernel_rfl
theorem sz2:Ad zP 2=some 1:=by kernel_rfl
theorem ag2:Au zP 2=some false:=by kernel_rfl
theorem J8 (id:Nat):BH zP 192 (.ptr id 0) 0=some (.ptr id 0):=by kernel_rfl
theorem J9 (id:Nat):BH zP 192 (.ptr id 0) 1=some (.ptr id 1):=by kernel_rfl
theorem KA (id:Nat):BH zP 192 (.ptr id 0) 2=some (.ptr id 2):=by kernel_rfl
theorem KB (id:Nat):BH zP 192 (.ptr id 0) 3=some (.ptr id 3):=by kernel_rfl
theorem eZ (O:Orc) (c:UInt8) (r:List UInt8) (key:Bool) (N:Nat) (rG:∀H,O 88 [.int .u8 (c.toNat:Int)] H=some (.bool true,H))
  (ue:∀H,O 131 [.str (c::r),.func (.func 132) [] []] H=some (.int .i64 (Ap Bi (c::r)),H)) (vr:∀H,O 133 [.str ((c::r).take (Ap Bi (c::r)))] H=some (.bool key,H))
  (pw:(Ap Bi (c::r):Int)≤(r.length:Int)+1) (sX:min (Ap Bi (c::r)) (r.length+1)=Ap Bi (c::r)) :
  ∃H',Ax O zP AN N 87 [.str (c::r)] []=some (.tup [FQ (if key then 4 else 1) ((c::r).take (Ap Bi (c::r))) 0 0,.int .i64 (if Ap Bi (c::r)>31 then 4 else 0)],H'):=by
 generalize Ap Bi (c::r)=m at ue vr pw sX;have g30:AE zP 131=true:=EW _ (by simp);have g14:AE zP 133=true:=EW _ (by simp);cases key
 all_goals
  by_cases hm:m>31
  ·have hm':(31:Int)<(m:Int):=by omega
   simp [Tryz.func87,Tryz.f87,Ax,AL,Bf,AX,Ao,Ai,grow,A8,Aw,AU,callee,aop,AT,AC,BP,BW,BU,AQ,BE,BK,alen,BI,Bc,Be,aun,BQ,BG,BZ,BR,BS,BV,Av,BH,BN,BB,BL,A9,aeq,z40,J6,J7,sz40,ag40,sz3,ag3,sz9,ag9,sz2,ag2,J8,J9,KA,KB,At,DT,EM,AV.known,AV.one,AH.at,rG,ue,vr,Hs,g30,g14,hm,hm',pw,sX,FQ]
  ·have hm':¬(31:Int)<(m:Int):=by omega
   simp [Tryz.func87,Tryz.f87,Ax,AL,Bf,AX,Ao,Ai,grow,A8,Aw,AU,callee,aop,AT,AC,BP,BW,BU,AQ,BE,BK,alen,BI,Bc,Be,aun,BQ,BG,BZ,BR,BS,BV,Av,BH,BN,BB,BL,A9,aeq,z40,J6,J7,sz40,ag40,sz3,ag3,sz9,ag9,sz2,ag2,J8,J9,KA,KB,At,DT,EM,AV.known,AV.one,AH.at,rG,ue,vr,Hs,g30,g14,hm,hm',pw,sX,FQ]
theorem Td (O:Orc) (c:UInt8) (r:List UInt8) (n:Int) (e:AV) (ov:Bool) (he:if ov then ∃t v,e = .iface t v else e = .nilIface) (N:Nat) (rG:∀H,O 88 [.int .u8 (c.toNat:Int)] H=some (.bool false,H)) (s8:∀H,O 134 [.int .u8 (c.toNat:Int)] H=some (.bool true,H))
  (ue:∀H,O 131 [.str (c::r),.func (.func 134) [] []] H=some (.int .i64 (Ap A5 (c::r)),H)) (th:∀H,O 135 [.str ((c::r).take (Ap A5 (c::r))),.int .i64 10,.int .i64 64] H=some (.tup [.int .i64 n,e],H))
  (pw:(Ap A5 (c::r):Int)≤(r.length:Int)+1) (sX:min (Ap A5 (c::r)) (r.length+1)=Ap A5 (c::r)) :
  ∃H',Ax O zP AN N 87 [.str (c::r)] []=some (.tup [FQ 2 ((c::r).take (Ap A5 (c::r))) 0 (if ov then 0 else n),.int .i64 (if ov then 5 else 0)],H'):=by
 generalize Ap A5 (c::r)=m at ue th pw sX;have g30:AE zP 131=true:=EW _ (by simp);have g35:AE zP 135=true:=EW _ (by simp);cases ov
 ·simp only [Bool.false_eq_true,if_false] at he
  subst he;simp [Tryz.func87,Tryz.f87,Ax,AL,Bf,AX,Ao,Ai,grow,A8,Aw,AU,callee,aop,AT,AC,BP,BW,BU,AQ,BE,BK,alen,BI,Bc,Be,aun,BQ,BG,BZ,BR,BS,BV,Av,BH,BN,BB,BL,A9,aeq,z40,J6,J7,sz40,ag40,sz3,ag3,sz9,ag9,sz2,ag2,J8,J9,KA,KB,At,DT,EM,AV.known,AV.one,AH.at,rG,s8,ue,th,Hs,go34,g30,g35,pw,sX,Tryz.underlying33,FQ]
 ·simp only [if_true] at he
  obtain ⟨te,ve,rfl⟩:=he;simp [Tryz.func87,Tryz.f87,Ax,AL,Bf,AX,Ao,Ai,grow,A8,Aw,AU,callee,aop,AT,AC,BP,BW,BU,AQ,BE,BK,alen,BI,Bc,Be,aun,BQ,BG,BZ,BR,BS,BV,Av,BH,BN,BB,BL,A9,aeq,z40,J6,J7,sz40,ag40,sz3,ag3,sz9,ag9,sz2,ag2,J8,J9,KA,KB,At,DT,EM,AV.known,AV.one,AH.at,rG,s8,ue,th,Hs,go34,g30,g35,pw,sX,Tryz.underlying33,FQ]
theorem ed (O:Orc) (c:UInt8) (r:List UInt8) (N:Nat) (rG:∀H,O 88 [.int .u8 (c.toNat:Int)] H=some (.bool false,H)) (s8:∀H,O 134 [.int .u8 (c.toNat:Int)] H=some (.bool false,H))
  (vt:∀H,O 136 [.str (c::r)] H=some (.int .i64 (Cf (c::r)),H)) (pw:(Cf (c::r):Int)≤(r.length:Int)+1) :
  ∃H',Ax O zP AN N 87 [.str (c::r)] []=some (if Cf (c::r)=0 then .tup [FQ 0 [] 0 0,.int .i64 3] else .tup [FQ 3 ((c::r).take (Cf (c::r))) 0 0,.int .i64 0],H'):=by
 generalize Cf (c::r)=m at vt pw;have g36:AE zP 136=true:=EW _ (by simp)
 by_cases hm:m=0
 ·subst hm
  simp [Tryz.func87,Tryz.f87,Ax,AL,Bf,AX,Ao,Ai,grow,A8,Aw,AU,callee,aop,AT,AC,BP,BW,BU,AQ,BE,BK,alen,BI,Bc,Be,aun,BQ,BG,BZ,BR,BS,BV,Av,BH,BN,BB,BL,A9,aeq,z40,J6,J7,sz40,ag40,sz3,ag3,sz9,ag9,sz2,ag2,J8,J9,KA,KB,At,DT,EM,AV.known,AV.one,AH.at,rG,s8,vt,Hs,go34,g36,pw,FQ]
 ·have hm':((m:Int)==0)=false:=by simp only [beq_eq_false_iff_ne];omega
  simp [Tryz.func87,Tryz.f87,Ax,AL,Bf,AX,Ao,Ai,grow,A8,Aw,AU,callee,aop,AT,AC,BP,BW,BU,AQ,BE,BK,alen,BI,Bc,Be,aun,BQ,BG,BZ,BR,BS,BV,Av,BH,BN,BB,BL,A9,aeq,z40,J6,J7,sz40,ag40,sz3,ag3,sz9,ag9,sz2,ag2,J8,J9,KA,KB,At,DT,EM,AV.known,AV.one,AH.at,rG,s8,vt,Hs,go34,g36,pw,hm,hm',FQ]
theorem go48:AE zP 175=true:=by kernel_rfl
structure Wd where
 kind:Nat
 text:List UInt8
 at_:Nat
 n:Nat
 deriving DecidableEq
def BC (s:List UInt8):(Nat × List UInt8 × Nat) × Nat :=
 match s with
 | []=>((0,[],0),3)
 | c::_ =>
  if B5 c then ((if DE (s.take (Ap Bi s)) then 4 else 1,s.take (Ap Bi s),0),if 31<Ap Bi s then 4 else 0)
  else if A5 c then (if Ba (s.take (Ap A5 s))<9223372036854775808 then ((2,s.take (Ap A5 s),Ba (s.take (Ap A5 s))),0) else ((2,s.take (Ap A5 s),0),5))
  else if Cf s=0 then ((0,[],0),3) else ((3,s.take (Cf s),0),0)
def EB (c:UInt8):Bool:=c.toNat==32 || c.toNat==9
def lex:Nat→List UInt8→Nat→Bool→Except (Nat × Nat) (List Wd)
 | 0,_,_,_ => .ok []
 | _+1,[],_,_ => .ok []
 | n+1,c::r,p,num =>
  if EB c then lex n r (p+1) false
  else
   let w:=BC (c::r)
   let e:=if num&&B5 c then 3 else w.2
   if e≠0 then .error (p,e)
   else match lex n ((c::r).drop w.1.2.1.length) (p+w.1.2.1.length) (w.1.1==2) with
    | .ok l => .ok (⟨w.1.1,w.1.2.1,p,w.1.2.2⟩::l)
    | .error x => .error x
def BD (t:Wd):List AV:=[.int .i64 t.kind,.str t.text,.int .i64 t.at_,.int .i64 t.n]
def A6 (l:List Wd):List AV:=l.flatMap BD
def AD (l:List Wd):AV:=if l=[] then .nilSlice else .slice .unk 4 l.length (A6 l)
def JM (w:List UInt8) (p e:Nat):AV := .iface 152 (.vptr [.str w,.int .i64 p,.iface 134 (.int .i64 e)] 0)
def DM:List UInt8:=[119,111,114,100]
def Es:Except (Nat × Nat) (List Wd)→AV
 | .ok l => .tup [AD l,.nilIface]
 | .error (p,e) => .tup [.nilSlice,JM DM p e]
theorem ee (t:Wd):lowL 0 (BD t)=true:=rfl
theorem Hu (l:List Wd):lowL 0 (A6 l)=true:=TA 0 BD ee l
theorem KC:∀l:List Wd,(A6 l).length=l.length*4
 | []=>rfl
 | t::l=>by have:=KC l;simp only [A6,List.flatMap_cons,List.length_append,List.length_cons] at this ⊢;rw [this];simp [BD];omega
noncomputable def c11:Code:=Ar Tryz.f51
def HP (s:List UInt8):AV := .tup [.agg [.int .i64 (BC s).1.1,.str (BC s).1.2.1,.int .i64 0,.int .i64 (BC s).1.2.2],.int .i64 (BC s).2]
def Fv (l:List Wd):AV:=if l=[] then .nilSlice else .slice (.tok 0) 4 l.length (A6 l)
def EC (l:List Wd):AH:=if l=[] then [] else [some (.tok l.length)]
def FC (l:List Wd) (i:Nat):Bool:=match l.getLast? with
 | some t=>t.kind==2&&t.at_+t.text.length==i
 | none=>false
noncomputable def Gr:Code:=Bh (Aj (Aj c11))
noncomputable def Fx:Code:=inC (inC (Aj Gr))
theorem ef:DC AN Fx=true:=by kernel_rfl
theorem Mk (a:Nat) (b:List UInt8) (c d:Nat):Ch zP 125 1 [(0,.agg [.int .i64 a,.str b,.int .i64 c,.int .i64 d])]=some (.slice .full 4 1 [.int .i64 a,.str b,.int .i64 c,.int .i64 d]):=by kernel_rfl
theorem KD (w:List UInt8) (p e:Int):A3 zP 156 [(0,.str w),(1,.int .i64 p),(2,.iface 134 (.int .i64 e))]=some (.agg [.str w,.int .i64 p,.iface 134 (.int .i64 e)]):=by kernel_rfl
theorem LF:AN.imm 156=true:=rfl
theorem eg (B:Bs) (hB:B.H=[]) (O:Orc) (s:List UInt8) (i:Nat) (v4:AV) (H:AH) (hi:i<s.length) (hs:s.length<9223372036854775807) (hb:s[i].toNat=32∨s[i].toNat=9) (Q:AEx→List AV→AH→Prop)
  (hQ:∀t:List AV,AF B t H (mkT 89 [(0,.str s),(4,v4),(5,.int .i64 ((i+1:Nat):Int))]) H→Q .normal t H) (hl:low H.length v4=true) (hH:AP H.length H=true) :
  Wx O zP AN Fx (mkT 89 [(0,.str s),(4,v4),(5,.int .i64 i)]) H Q:=by
 have hi':(i:Int)<s.length:=by omega
 have w7:IntKind.i64.wrap ((i:Int)+1)=(i:Int)+1:=Ab (by omega) (by omega);rw [Dm]
 rcases hb with hb|hb <;>
  simp [Fx,Gr,c11,Tryz.f51,hi,hi',hb,w7]
 all_goals
  refine hQ _ ?_;refine AF.mkT H.length (by simp [hB]) ?_ (by simp) hH;simp;exact ⟨.same rfl rfl,.same rfl hl,.same rfl rfl⟩
theorem eh (B:Bs) (hB:B.H=[]) (O:Orc) (s:List UInt8) (i:Nat) (K:Nat) (T:List UInt8) (M e:Nat) (hi:i<s.length) (hs:s.length<9223372036854775807) (qF:((s[i].toNat:Int)==32)=false) (qA:((s[i].toNat:Int)==9)=false)
  (tj:∀H,O 87 [.str (s.drop i)] H=some (.tup [.agg [.int .i64 K,.str T,.int .i64 0,.int .i64 M],.int .i64 e],H)) (hT:i+T.length<9223372036854775807) (Q:AEx→List AV→AH→Prop)
  (hN:e=0→∀t H,AF B t H (mkT 89 [(0,.str s),(4,Fv [⟨K,T,i,M⟩]),(5,.int .i64 ((i+T.length:Nat):Int))]) (EC [⟨K,T,i,M⟩])→Q .normal t H)
  (hE:e≠0→∀t H,Fin zP Tryz.f51 0 4 (Es (.error (i,e))) [] .ret t H→Q .ret t H) :
  Wx O zP AN Fx (mkT 89 [(0,.str s),(4,.nilSlice),(5,.int .i64 i)]) [] Q:=by
 have hi':(i:Int)<s.length:=by omega
 have hi'':(i:Int)≤s.length:=by omega
 have w7:IntKind.i64.wrap ((i:Int)+(T.length:Int))=(i:Int)+(T.length:Int):=Ab (by omega) (by omega);rw [Dm];simp [Fx,Gr,c11,Tryz.f51,hi,hi',hi'',qF,qA,tj];refine J0 (fun he => ?_) (fun he => ?_)
 ·simp [KD,LF]
  refine hE he _ _ ?_;rw [D9];simp [Es,JM,DM,Tryz.f51]
 ·simp [Mk,GI (Ty.ec125),w7]
  refine hN (by simpa using he) _ _ ?_;refine AF.view (fun _=>1) 1 (by simp [hB]) (by omega) (by simp [hB]) (by simp [EC]) ?_ (by simp [EC]) (E7.mkT ?_)
  ·intro j hj
   obtain rfl:j=0:=by omega
   simp [EC,AI]
  ·simp [Fv,A6,BD]
   exact ⟨.same rfl rfl,.view 9 _ _ (by simp) (by simp [ren,AM]),.same rfl rfl⟩
theorem ei (B:Bs) (hB:B.H=[]) (O:Orc) (s:List UInt8) (i m:Nat) (cs:List AV) (kd pl:Nat) (tx:List UInt8) (sm:Bool) (K:Nat) (T:List UInt8) (M e:Nat) (hi:i<s.length) (hs:s.length<137438953472)
  (qF:((s[i].toNat:Int)==32)=false) (qA:((s[i].toNat:Int)==9)=false)
  (c0:cs[m*4]? = some (.int .i64 kd)) (c1:cs[m*4+1]? = some (.str tx)) (c2:cs[m*4+2]? = some (.int .i64 pl)) (sV:lowL 0 cs=true) (hm:m<137438953470) (uK:pl+tx.length≤s.length)
  (rG:∀H,O 88 [.int .u8 (s[i].toNat:Int)] H=some (.bool sm,H))
  (tj:∀H,O 87 [.str (s.drop i)] H=some (.tup [.agg [.int .i64 K,.str T,.int .i64 0,.int .i64 M],.int .i64 e],H)) (hT:i+T.length<9223372036854775807) (Q:AEx→List AV→AH→Prop) (e':Nat) (he':e'=if sm=true∧kd=2∧pl+tx.length=i then 3 else e)
  (hN:e'=0→∀t H,AF B t H (mkT 89 [(0,.str s),(4,.slice (.tok 0) 4 (m+2) (cs++BD ⟨K,T,i,M⟩)),(5,.int .i64 ((i+T.length:Nat):Int))]) [some (.tok (m+2))]→Q .normal t H)
  (hE:e'≠0→∀t H,Fin zP Tryz.f51 0 4 (Es (.error (i,e'))) [] .ret t H→Q .ret t H) :
  Wx O zP AN Fx (mkT 89 [(0,.str s),(4,.slice (.tok 0) 4 (m+1) cs),(5,.int .i64 i)]) [some (.tok (m+1))] Q:=by
 have hi':(i:Int)<s.length:=by omega
 have hi'':(i:Int)≤s.length:=by omega
 have w7:IntKind.i64.wrap ((i:Int)+(T.length:Int))=(i:Int)+(T.length:Int):=Ab (by omega) (by omega);have w8:IntKind.i64.wrap (m:Int)=(m:Int):=Ab (by omega) (by omega);have w9:IntKind.i64.wrap ((pl:Int)+(tx.length:Int))=(pl:Int)+(tx.length:Int):=Ab (by omega) (by omega);have p1:(0:Int)<(m:Int)+1:=by omega
 have w10:IntKind.i64.wrap (i:Int)=(i:Int):=Ab (by omega) (by omega);have p2:(m:Int)<(m:Int)+1:=by omega
 have qB:lowL 1 cs=true:=Ah (Nat.zero_le 1) cs sV;have hb:m+1+1≤137438953472:=by omega
 rw [Dm]
 have done:∀(t:List AV) (l:List (Nat × AV)) (H:AH),t=mkT 89 l→e'=0→l.lookup 0=some (.str s)→l.lookup 4=some (.slice (.tok 0) 4 (m+1+1) (cs++[.int .i64 K,.str T,.int .i64 i,.int .i64 M])) →
   l.lookup 5=some (.int .i64 ((i:Int)+T.length))→H.take 1=[some (.tok (m+1+1))]→Q .normal t H:=by
  rintro t l H rfl h0 h1 h2 h3 h4;refine hN h0 _ _ ?_;refine AF.mkT 1 (by simp [hB]) ?_ h4 (by simp);simp [h1,h2,h3,BD];exact ⟨.same rfl rfl,.same rfl (by simp [qB]),.same rfl rfl⟩
 cases sm
 ·simp at he'
  subst he';simp [Fx,Gr,c11,Tryz.f51,hi,hi',hi'',qF,qA,tj,rG,c0,c1,c2,w8,w9,w10,p1,p2];refine J0 (fun he => ?_) (fun he => ?_)
  ·simp [KD,LF]
   refine hE he _ _ ?_;rw [D9];simp [Es,JM,DM,Tryz.f51]
  ·simp [Mk,Em (Ty.ec125),w7,hb]
   refine done _ _ _ rfl (by simpa using he) ?_ ?_ ?_ ?_<;>simp
 ·by_cases hk:(kd:Int)=2
  ·by_cases ha:(pl:Int)+(tx.length:Int)=(i:Int)
   ·rw [if_pos ⟨rfl,by omega,by omega⟩] at he'
    subst he';simp [Fx,Gr,c11,Tryz.f51,hi,hi',hi'',qF,qA,tj,rG,c0,c1,c2,w8,w9,w10,p1,p2,hk,ha,KD,LF];refine hE (by decide) _ _ ?_;rw [D9];simp [Es,JM,DM,Tryz.f51]
   ·rw [if_neg (fun h=>ha (by omega))] at he'
    subst he';simp [Fx,Gr,c11,Tryz.f51,hi,hi',hi'',qF,qA,tj,rG,c0,c1,c2,w8,w9,w10,p1,p2,hk,ha];refine J0 (fun he => ?_) (fun he => ?_)
    ·simp [KD,LF]
     refine hE he _ _ ?_;rw [D9];simp [Es,JM,DM,Tryz.f51]
    ·simp [Mk,Em (Ty.ec125),w7,hb]
     refine done _ _ _ rfl (by simpa using he) ?_ ?_ ?_ ?_<;>simp
  ·rw [if_neg (fun h=>hk (by omega))] at he'
   subst he';simp [Fx,Gr,c11,Tryz.f51,hi,hi',hi'',qF,qA,tj,rG,c0,c1,c2,w8,w9,w10,p1,p2,hk];refine J0 (fun he => ?_) (fun he => ?_)
   ·simp [KD,LF]
    refine hE he _ _ ?_;rw [D9];simp [Es,JM,DM,Tryz.f51]
   ·simp [Mk,Em (Ty.ec125),w7,hb]
    refine done _ _ _ rfl (by simpa using he) ?_ ?_ ?_ ?_<;>simp
set_option maxHeartbeats 1000000
inductive Ex where
 | none
 | num (n:Nat)
 | var (s:List UInt8)
 | elem (s:List UInt8) (a:List Ex)
 | neg (e:Ex)
 | bin (k:Nat) (a b:Ex)
 deriving Inhabited
structure St where
 at_:Nat
 deep:Nat
 err:Option (Nat × Nat)
def isS (ts:List Wd) (i:Nat) (s:List UInt8):Bool:=match ts[i]? with
 | some t=>t.kind==3&&t.text==s
 | none=>false
def St.fail (r:St) (p e:Nat):St:=match r.err with
 | none=>⟨r.at_,r.deep,some (p,e)⟩
 | some _=>r
def St.step (r:St):St:=⟨r.at_+1,r.deep,r.err⟩
def Ac (ts:List Wd) (r:St) (s:List UInt8):Bool:=r.err.isNone&&isS ts r.at_ s
def CL (ts:List Wd) (r:St) (s:List UInt8):St:=if Ac ts r s then r.step else r.fail r.at_ 2
abbrev Rd:=St→Ex × St
def DF (ts:List Wd) (of:Rd) (f:List UInt8) (one:Nat) (s:List UInt8) (two:Nat):Nat→Ex→Rd
 | 0,e,r=>(e,r)
 | n+1,e,r =>
  if r.err.isSome then (.none,r)
  else if Ac ts r s then DF ts of f one s two n (.bin two e (of r.step).1) (of r.step).2
  else if Ac ts r f then DF ts of f one s two n (.bin one e (of r.step).1) (of r.step).2
  else (e,r)
def Et (ts:List Wd) (of:Rd) (f:List UInt8) (one:Nat) (s:List UInt8) (two:Nat):Rd:=fun r =>DF ts of f one s two (ts.length+1) (of r).1 (of r).2
def EX:List UInt8:=[43]
def Bb:List UInt8:=[45]
def Du:List UInt8:=[42]
def Dv:List UInt8:=[47]
def Ay:List UInt8:=[40]
def A0:List UInt8:=[41]
def A7:List UInt8:=[44]
def JN (ts:List Wd) (fac:Rd):Rd:=Et ts fac Du 7 Dv 8
def CR (ts:List Wd) (fac:Rd):Rd:=Et ts (JN ts fac) EX 5 Bb 6
def inF (p:Nat) (of:Rd):Rd:=fun r =>
 let r2:=if r.deep+1>20 then (⟨r.at_,r.deep+1,r.err⟩:St).fail p 4 else ⟨r.at_,r.deep+1,r.err⟩
 if r2.err.isNone then ((of r2).1,⟨(of r2).2.at_,(of r2).2.deep-1,(of r2).2.err⟩) else (.none,⟨r2.at_,r2.deep-1,r2.err⟩)
def C7 (ts:List Wd) (sum:Rd):Nat→List Ex→St→List Ex × St
 | 0,a,r=>(a,r)
 | n+1,a,r =>
  if Ac ts (sum r).2 A7 then
   C7 ts sum n (a++[(sum r).1]) (if a.length+1==4 then (sum r).2.fail (sum r).2.at_ 4 else (sum r).2).step
  else (a++[(sum r).1],(sum r).2)
def Dw (ts:List Wd) (sum:Rd) (s:List UInt8):Rd:=fun r =>
 if Ac ts r.step Ay then
  (.elem s (C7 ts sum 6 [] r.step.step).1,CL ts (C7 ts sum 6 [] r.step.step).2 A0)
 else (.var s,r.step)
def Cj (ts:List Wd) (sum fac:Rd):Rd:=fun r =>
 match r.err,ts[r.at_]? with
 | none,some t =>
  if t.kind==2 then (.num t.n,r.step)
  else if t.kind==1 then Dw ts sum t.text r
  else if isS ts r.at_ Bb then (.neg (inF r.at_ fac r.step).1,(inF r.at_ fac r.step).2)
  else if isS ts r.at_ Ay then ((inF r.at_ sum r.step).1,CL ts (inF r.at_ sum r.step).2 A0)
  else (.none,r.fail r.at_ 2)
 | _,_=>(.none,r.fail r.at_ 2)
def fac (ts:List Wd):Nat→Rd
 | 0=>fun r=>(.none,r)
 | n+1=>Cj ts (CR ts (fac ts n)) (fac ts n)
def B6 (ts:List Wd) (r:St):Ex × St:=CR ts (fac ts (ts.length+1)) r
def B1 (ts:List Wd):Ex × Nat × Option (Nat × Nat) :=
 match (B6 ts ⟨0,0,none⟩).2.err with
 | none=>((B6 ts ⟨0,0,none⟩).1,(B6 ts ⟨0,0,none⟩).2.at_,none)
 | some x=>(.none,0,some x)
def Ck:List (List UInt8):=[[60],[60,61],[62],[62,61],[61,61],[47,61]]
def Fy (s:List UInt8):Bool:=Ck.contains s
def Ca (ts:List Wd) (r:St):List UInt8 × St :=
 match r.err with
 | some _=>([],r)
 | none=>(match ts[r.at_]? with
  | some t=>if t.kind==3&&Fy t.text then (t.text,r.step) else ([],r.fail r.at_ 2)
  | none=>([],r.fail r.at_ 2))
def CE (ts:List Wd):(List UInt8 × Ex × Ex) × Nat × Option (Nat × Nat) :=
 let a:=B6 ts ⟨0,0,none⟩
 let m:=Ca ts a.2
 let b:=B6 ts m.2
 match b.2.err with
 | none=>((m.1,a.1,b.1),b.2.at_,none)
 | some x=>(([],.none,.none),0,some x)
def Cn (ts:List Wd) (of:Rd) (f:List UInt8) (one:Nat) (s:List UInt8) (two:Nat):Nat→Ex→Rd
 | 0,e,r=>(e,r)
 | n+1,e,r =>
  if Ac ts r f then Cn ts of f one s two n (.bin one e (of r.step).1) (of r.step).2
  else if Ac ts r s then Cn ts of f one s two n (.bin two e (of r.step).1) (of r.step).2
  else (e,r)
def FD (ts:List Wd) (of:Rd) (f:List UInt8) (one:Nat) (s:List UInt8) (two:Nat):Rd:=fun r =>Cn ts of f one s two (ts.length+1) (of r).1 (of r).2
def PJ (ts:List Wd) (fac:Rd):Rd:=FD ts fac Du 7 Dv 8
def Bx (ts:List Wd) (fac:Rd):Rd:=FD ts (PJ ts fac) EX 5 Bb 6
def FR (of:Rd):Rd:=fun r=>((of ⟨r.at_,r.deep+1,r.err⟩).1,⟨(of ⟨r.at_,r.deep+1,r.err⟩).2.at_,r.deep,(of ⟨r.at_,r.deep+1,r.err⟩).2.err⟩)
def Dh (ts:List Wd) (sum:Rd):Nat→List Ex→St→List Ex × St
 | 0,a,r=>(a,r)
 | n+1,a,r =>
  if Ac ts r A7 then
   (if 4≤a.length then (a,r.fail r.at_ 4) else Dh ts sum n (a++[(sum r.step).1]) (sum r.step).2)
  else (a,CL ts r A0)
def C8 (ts:List Wd) (sum:Rd) (r:St):List Ex × St:=Dh ts sum 5 [(sum r).1] (sum r).2
def CF (ts:List Wd) (sum fac:Rd):Rd:=fun r =>
 match r.err,ts[r.at_]? with
 | none,some t =>
  if t.kind==2 then (.num t.n,r.step)
  else if t.kind==1 then
   (if Ac ts r.step Ay then (.elem t.text (C8 ts sum r.step.step).1,(C8 ts sum r.step.step).2) else (.var t.text,r.step))
  else if isS ts r.at_ Bb || isS ts r.at_ Ay then
   (if 20≤r.deep then (.none,r.fail r.at_ 4)
   else if isS ts r.at_ Bb then (.neg (FR fac r.step).1,(FR fac r.step).2)
   else ((FR sum r.step).1,CL ts (FR sum r.step).2 A0))
  else (.none,r.fail r.at_ 2)
 | _,_=>(.none,r.fail r.at_ 2)
def Az (ts:List Wd):Nat→Rd
 | 0=>fun r=>(.none,r)
 | n+1=>CF ts (Bx ts (Az ts n)) (Az ts n)
def B2 (ts:List Wd) (r:St):Ex × St:=Bx ts (Az ts (ts.length+1)) r
def okS (a b:St):Prop:=a.err=b.err∧(a.err=none→a=b)
def okX (x y:Ex × St):Prop:=okS x.2 y.2∧(x.2.err=none→x.1=y.1)
def Ml (of:Rd):Prop:=∀r x,r.err=some x→(of r).2.err=some x
def okR (f g:Rd):Prop:=(∀r,okX (f r) (g r))∧Ml f∧Ml g∧(∀r,(f r).2.deep=r.deep)∧(∀r,(g r).2.deep=r.deep)
theorem okX.run {f g:Rd} (h:okR f g) {a b:St} (hs:okS a b):okX (f a) (g b):=by
 obtain ⟨h1,h2,h3,_,_⟩:=h;cases he:a.err with
 | none =>obtain rfl:=hs.2 he;exact h1 a
 | some x =>
  have hb:b.err=some x:=by rw [←hs.1,he]
  have e1:=h2 a x he;have e2:=h3 b x hb;exact ⟨⟨by rw [e1,e2],fun h=>by rw [e1] at h;cases h⟩,fun h=>by rw [e1] at h;cases h⟩
theorem Mm (r:St) (p e:Nat):(r.fail p e).err=some (r.err.getD (p,e)):=by unfold St.fail;split<;>simp_all
theorem Mn {r:St} {x:Nat × Nat} (h:r.err=some x) (p e:Nat):r.fail p e=r:=by unfold St.fail;simp [h]
theorem IV (r:St) (p e:Nat):(r.fail p e).deep=r.deep:=by unfold St.fail;split<;>rfl
theorem KE {ts:List Wd} {r:St} {x:Nat × Nat} (h:r.err=some x) (s:List UInt8):Ac ts r s=false:=by simp [Ac,h]
theorem JO {ts:List Wd} {r:St} {x:Nat × Nat} (h:r.err=some x) (s:List UInt8):CL ts r s=r:=by simp [CL,KE h,Mn h]
theorem Mo (ts:List Wd) (r:St) (s:List UInt8):(CL ts r s).deep=r.deep:=by unfold CL;split<;>simp [St.step,IV]
theorem okS.must {ts:List Wd} {a b:St} (h:okS a b) (s:List UInt8):okS (CL ts a s) (CL ts b s):=by
 cases he:a.err with
 | none=>obtain rfl:=h.2 he;exact ⟨rfl,fun _=>rfl⟩
 | some x =>
  have hb:b.err=some x:=by rw [←h.1,he]
  rw [JO he,JO hb];exact h
theorem ej {ts:List Wd} {i:Nat} {f s:List UInt8} (pp:f≠s) (h1:isS ts i f=true):isS ts i s=false:=by
 unfold isS at h1 ⊢
 split at h1
 ·simp at h1 ⊢;intro _;rw [h1.2];exact pp
 ·cases h1
theorem PK {ts:List Wd} {of og:Rd} (ho:okR of og) {f s:List UInt8} (pp:f≠s) (one two:Nat):∀(n:Nat) {e1 e2:Ex} {a b:St},okX (e1,a) (e2,b) →
  okX (DF ts of f one s two n e1 a) (Cn ts og f one s two n e2 b)
 | 0,_,_,_,_,h=>h
 | n+1,e1,e2,a,b,h=>by
  cases he:a.err with
  | some x =>
   have hb:b.err=some x:=by rw [←h.1.1,he]
   simp only [DF,Cn,he,Option.isSome_some,if_true,KE hb,Bool.false_eq_true,if_false];exact ⟨⟨by rw [he,hb],fun h=>by rw [he] at h;cases h⟩,fun h=>by rw [he] at h;cases h⟩
  | none =>
   obtain rfl:=h.1.2 he;obtain rfl:=h.2 he;have key:=okX.run ho (a:=a.step) (b:=a.step) ⟨rfl,fun _=>rfl⟩;simp only [DF,Cn,he,Option.isSome_none,Bool.false_eq_true,if_false]
   by_cases h1:Ac ts a f=true
   ·have h2:Ac ts a s=false:=by
     simp only [Ac,he,Option.isNone_none,Bool.true_and] at h1 ⊢;exact ej pp h1
    rw [h1,h2];simp only [Bool.false_eq_true,if_false,if_true];exact PK ho pp one two n ⟨key.1,fun h=>by rw [key.2 h]⟩
   ·rw [Bool.not_eq_true] at h1
    rw [h1];simp only [Bool.false_eq_true,if_false]
    split
    ·exact PK ho pp one two n ⟨key.1,fun h=>by rw [key.2 h]⟩
    ·exact ⟨⟨rfl,fun _=>rfl⟩,fun _=>rfl⟩
theorem ek {ts:List Wd} {of:Rd} {f s:List UInt8} {one two:Nat} (n:Nat) (e:Ex) {r:St} {x:Nat × Nat} (h:r.err=some x):(DF ts of f one s two n e r).2.err=some x:=by
 cases n with
 | zero=>exact h
 | succ n=>simp [DF,h]
theorem em {ts:List Wd} {of:Rd} {f s:List UInt8} {one two:Nat} (n:Nat) (e:Ex) {r:St} {x:Nat × Nat} (h:r.err=some x):(Cn ts of f one s two n e r).2.err=some x:=by
 cases n with
 | zero=>exact h
 | succ n=>simp [Cn,KE h,h]
theorem PL {ts:List Wd} {of:Rd} (ho:∀r,(of r).2.deep=r.deep) {f s:List UInt8} {one two:Nat}:∀(n:Nat) (e:Ex) (r:St),(DF ts of f one s two n e r).2.deep=r.deep
 | 0,_,_=>rfl
 | n+1,e,r=>by
  simp only [DF]
  split
  ·rfl
  ·split
   ·rw [PL ho n,ho];rfl
   ·split
    ·rw [PL ho n,ho];rfl
    ·rfl
theorem PM {ts:List Wd} {of:Rd} (ho:∀r,(of r).2.deep=r.deep) {f s:List UInt8} {one two:Nat}:∀(n:Nat) (e:Ex) (r:St),(Cn ts of f one s two n e r).2.deep=r.deep
 | 0,_,_=>rfl
 | n+1,e,r=>by
  simp only [Cn]
  split
  ·rw [PM ho n,ho];rfl
  ·split
   ·rw [PM ho n,ho];rfl
   ·rfl
theorem KF {ts:List Wd} {of og:Rd} (ho:okR of og) {f s:List UInt8} (pp:f≠s) (one two:Nat):okR (Et ts of f one s two) (FD ts og f one s two) :=
 ⟨fun r=>PK ho pp one two _ (ho.1 r),fun r x h=>ek _ _ (ho.2.1 r x h),fun r x h=>em _ _ (ho.2.2.1 r x h),
  fun r=>by rw [Et,PL ho.2.2.2.1];exact ho.2.2.2.1 r,fun r=>by rw [FD,PM ho.2.2.2.2];exact ho.2.2.2.2 r⟩
theorem IW {ts:List Wd} {f g:Rd} (h:okR f g):okR (CR ts f) (Bx ts g) :=KF (KF h (by decide) 7 8) (by decide) 5 6
theorem Te {f g:Rd} (h:okR f g) (p:Nat) (r:St) (hd:¬20≤r.deep):okX (inF p f r) (FR g r):=by
 have h1:¬r.deep+1>20:=by omega
 have key:=okX.run h (a:=⟨r.at_,r.deep+1,r.err⟩) (b:=⟨r.at_,r.deep+1,r.err⟩) ⟨rfl,fun _=>rfl⟩;have d1:=h.2.2.2.1 ⟨r.at_,r.deep+1,r.err⟩;have d2:=h.2.2.2.2 ⟨r.at_,r.deep+1,r.err⟩;simp only [inF,if_neg h1,FR];cases he:r.err with
 | none =>rw [he] at key d1 d2;simp only [Option.isNone_none,if_true];refine ⟨⟨key.1.1,fun h => ?_⟩,fun h=>key.2 h⟩;have:=key.1.2 h;simp only at d1;simp [this,d2]
 | some x =>rw [he] at key;have e2:=h.2.2.1 ⟨r.at_,r.deep+1,some x⟩ x rfl;simp only [Option.isNone_some,Bool.false_eq_true,if_false];exact ⟨⟨by simp [e2],fun h=>by cases h⟩,fun h=>by cases h⟩
theorem Tf (p:Nat) {f:Rd} (hf:∀r,(f r).2.deep=r.deep) (r:St):(inF p f r).2.deep=r.deep:=by
 by_cases hd:r.deep+1>20
 ·cases h:r.err with
  | none=>simp [inF,hd,h,St.fail]
  | some x=>simp [inF,hd,h,St.fail]
 ·cases h:r.err with
  | none=>simp [inF,hd,h,hf]
  | some x=>simp [inF,hd,h]
theorem Tg (p:Nat) (f:Rd) (r:St) (hd:20≤r.deep) (he:r.err=none):(inF p f r).2.err=some (p,4):=by
 have h1:r.deep+1>20:=by omega
 simp [inF,h1,St.fail,he]
theorem Ti {ts:List Wd} {f g:Rd} (h:okR f g):∀(n:Nat) (a1 a2:List Ex) (r q:St),okS r q→(r.err=none→a1=a2)→a1.length=a2.length→a1.length<4→n+a1.length=5 →
  okS (CL ts (C7 ts f (n+1) a1 r).2 A0) (Dh ts g n (a2++[(g q).1]) (g q).2).2 ∧
  ((CL ts (C7 ts f (n+1) a1 r).2 A0).err=none→(C7 ts f (n+1) a1 r).1=(Dh ts g n (a2++[(g q).1]) (g q).2).1)
 | 0,a1,_,_,_,_,_,_,h4,h5=>by omega
 | n+1,a1,a2,r,q,hs,ha,hl,h4,h5=>by
  have key:=okX.run h hs;cases he:(f r).2.err with
  | some x =>
   have hb:(g q).2.err=some x:=by rw [←key.1.1,he]
   simp only [C7,Dh,KE he,KE hb,Bool.false_eq_true,if_false,JO he,JO hb];exact ⟨key.1,fun hh=>by rw [he] at hh;cases hh⟩
  | none =>
   have er:r.err=none:=by
    cases hr:r.err with
    | none=>rfl
    | some x=>rw [h.2.1 r x hr] at he;cases he
   obtain rfl:=ha er;have e1:=key.2 he;have e2:=key.1.2 he;rw [←e1,←e2];generalize pu:(f r).2=st;generalize rb:(f r).1=e;rw [pu] at he;simp only [C7,Dh,pu,rb]
   by_cases hc:Ac ts st A7=true
   ·simp only [hc,if_true]
    by_cases h3:a1.length+1=4
    ·have h3':(a1.length+1==4)=true:=by simp [h3]
     have h3'':4≤(a1++[e]).length:=by simp;omega
     simp only [h3',if_true,h3''];have e3:(st.fail st.at_ 4).step.err=some (st.at_,4):=by simp [St.step,Mm,he]
     have e4:=h.2.1 _ _ e3;simp only [C7,KE e4,Bool.false_eq_true,if_false,JO e4];exact ⟨⟨by simp [e4,Mm,he],fun hh=>by rw [e4] at hh;cases hh⟩,fun hh=>by rw [e4] at hh;cases hh⟩
    ·have h3':(a1.length+1==4)=false:=by rw [beq_eq_false_iff_ne];exact h3
     have h3'':¬4≤(a1++[e]).length:=by simp;omega
     simp only [h3',if_neg h3'',Bool.false_eq_true,if_false];refine Ti h n (a1++[e]) (a1++[e]) st.step st.step ⟨rfl,fun _=>rfl⟩ (fun _=>rfl) rfl ?_ ?_
     all_goals
      rw [List.length_append];simp only [List.length_cons,List.length_nil];omega
   ·rw [Bool.not_eq_true] at hc
    simp only [hc,Bool.false_eq_true,if_false];exact ⟨⟨rfl,fun _=>rfl⟩,by simp⟩
theorem Tj {ts:List Wd} {f:Rd} (h:∀r,(f r).2.deep=r.deep):∀(n:Nat) (a:List Ex) (r:St),(C7 ts f n a r).2.deep=r.deep
 | 0,_,_=>rfl
 | n+1,a,r=>by
  simp only [C7]
  split
  ·rw [Tj h n]
   split
   ·simp [St.step,IV,h]
   ·simp [St.step,h]
  ·exact h r
theorem Tl {ts:List Wd} {f:Rd} (h:∀r,(f r).2.deep=r.deep):∀(n:Nat) (a:List Ex) (r:St),(Dh ts f n a r).2.deep=r.deep
 | 0,_,_=>rfl
 | n+1,a,r=>by
  simp only [Dh]
  split
  ·split
   ·simp [IV]
   ·rw [Tl h n,h];rfl
  ·simp [Mo]
theorem eo {ts:List Wd} {f g sf sg:Rd} (h:okR f g) (hs:okR sf sg):okR (Cj ts sf f) (CF ts sg g):=by
 refine ⟨fun r => ?_,fun r x he => ?_,fun r x he => ?_,fun r => ?_,fun r => ?_⟩
 ·have same:∀x:Ex × St,okX x x:=fun x=>⟨⟨rfl,fun _=>rfl⟩,fun _=>rfl⟩
  have odd:∀x,r.err=some x∨ts[r.at_]? = Option.none→okX (Cj ts sf f r) (CF ts sg g r):=by
   intro x hx
   have e1:Cj ts sf f r=(.none,r.fail r.at_ 2):=by
    unfold Cj;split
    ·rcases hx with hx|hx<;>simp_all
    ·rfl
   have e2:CF ts sg g r=(.none,r.fail r.at_ 2):=by
    unfold CF;split
    ·rcases hx with hx|hx<;>simp_all
    ·rfl
   rw [e1,e2];exact same _
  cases he:r.err with
  | some x=>exact odd x (.inl he)
  | none =>
  cases ht:ts[r.at_]? with
  | none=>exact odd (0,0) (.inr ht)
  | some t =>
   simp only [Cj,CF,he,ht]
   split
   ·exact same _
   ·split
    ·unfold Dw
     split
     ·have key:=Ti (ts:=ts) hs 5 [] [] r.step.step r.step.step ⟨rfl,fun _=>rfl⟩ (fun _=>rfl) rfl (by decide) rfl
      exact ⟨key.1,fun hh=>by rw [key.2 hh];rfl⟩
     ·exact same _
    ·by_cases hm:isS ts r.at_ Bb=true
     ·simp only [hm,Bool.true_or,if_true]
      by_cases hd:20≤r.deep
      ·have e1:=Tg r.at_ f r.step hd (by simpa [St.step] using he)
       simp only [if_pos hd];exact ⟨⟨by simp [e1,Mm,he],fun hh=>by rw [e1] at hh;cases hh⟩,fun hh=>by rw [e1] at hh;cases hh⟩
      ·simp only [if_neg hd]
       have key:=Te h r.at_ r.step hd;exact ⟨key.1,fun hh=>by rw [key.2 hh]⟩
     ·rw [Bool.not_eq_true] at hm
      simp only [hm,Bool.false_or,Bool.false_eq_true,if_false]
      split
      ·by_cases hd:20≤r.deep
       ·have e1:=Tg r.at_ sf r.step hd (by simpa [St.step] using he)
        simp only [if_pos hd,JO e1];exact ⟨⟨by simp [e1,Mm,he],fun hh=>by rw [e1] at hh;cases hh⟩,fun hh=>by rw [e1] at hh;cases hh⟩
       ·simp only [if_neg hd]
        have key:=Te hs r.at_ r.step hd;refine ⟨key.1.must _,fun hh=>key.2 ?_⟩;cases hx:(inF r.at_ sf r.step).2.err with
        | none=>rfl
        | some x=>rw [JO hx,hx] at hh;cases hh
      ·exact same _
 ·simp only [Cj,he,Mn he]
 ·simp only [CF,he,Mn he]
 ·unfold Cj
  split
  ·split
   ·rfl
   ·split
    ·unfold Dw
     split
     ·simp [Mo,Tj hs.2.2.2.1,St.step]
     ·rfl
    ·split
     ·simp [Tf _ h.2.2.2.1,St.step]
     ·split
      ·simp [Mo,Tf _ hs.2.2.2.1,St.step]
      ·simp [IV]
  ·simp [IV]
 ·unfold CF
  split
  ·split
   ·rfl
   ·split
    ·split
     ·simp [C8,Tl hs.2.2.2.2,hs.2.2.2.2,St.step]
     ·rfl
    ·split
     ·split
      ·simp [IV]
      ·split
       ·simp [FR,St.step]
       ·simp [Mo,FR,St.step]
     ·simp [IV]
  ·simp [IV]
theorem FS (ts:List Wd):∀n,okR (fac ts n) (Az ts n)
 | 0=>⟨fun _=>⟨⟨rfl,fun _=>rfl⟩,fun _=>rfl⟩,fun _ _ h=>h,fun _ _ h=>h,fun _=>rfl,fun _=>rfl⟩
 | n+1=>eo (FS ts n) (IW (FS ts n))
theorem PN (ts:List Wd) {r q:St} (h:okS r q):okX (B6 ts r) (B2 ts q):=okX.run (IW (FS ts _)) h
def LG (ts:List Wd):Ex × Nat × Option (Nat × Nat) :=
 match (B2 ts ⟨0,0,none⟩).2.err with
 | none=>((B2 ts ⟨0,0,none⟩).1,(B2 ts ⟨0,0,none⟩).2.at_,none)
 | some x=>(.none,0,some x)
theorem Tm (ts:List Wd):LG ts=B1 ts:=by
 have h:=PN ts (r:=⟨0,0,none⟩) (q:=⟨0,0,none⟩) ⟨rfl,fun _=>rfl⟩;unfold LG B1;cases he:(B6 ts ⟨0,0,none⟩).2.err with
 | none =>rw [←h.1.1,he,h.2 he,h.1.2 he]
 | some x=>rw [←h.1.1,he]
def LH (ts:List Wd):(List UInt8 × Ex × Ex) × Nat × Option (Nat × Nat) :=
 match (Ca ts (B2 ts ⟨0,0,none⟩).2).2.err with
 | some x=>(([],.none,.none),0,some x)
 | none=>(match (B2 ts (Ca ts (B2 ts ⟨0,0,none⟩).2).2).2.err with
  | none=>(((Ca ts (B2 ts ⟨0,0,none⟩).2).1,(B2 ts ⟨0,0,none⟩).1,(B2 ts (Ca ts (B2 ts ⟨0,0,none⟩).2).2).1),(B2 ts (Ca ts (B2 ts ⟨0,0,none⟩).2).2).2.at_,none)
  | some x=>(([],.none,.none),0,some x))
theorem To {ts:List Wd} {r:St} {x:Nat × Nat} (h:r.err=some x):Ca ts r=([],r):=by simp [Ca,h]
theorem Tp (ts:List Wd):LH ts=CE ts:=by
 have h:=PN ts (r:=⟨0,0,none⟩) (q:=⟨0,0,none⟩) ⟨rfl,fun _=>rfl⟩;have keep:Ml (B6 ts):=(IW (ts:=ts) (FS ts (ts.length+1))).2.1;unfold LH CE;simp only;cases he:(B6 ts ⟨0,0,none⟩).2.err with
 | some x =>
  have he':(B2 ts ⟨0,0,none⟩).2.err=some x:=by rw [←h.1.1,he]
  rw [To he,To he'];simp only [he'];rw [show (B6 ts (B6 ts ⟨0,0,none⟩).2).2.err=some x from keep _ _ he]
 | none =>
  rw [←h.1.2 he,←h.2 he];cases hm:(Ca ts (B6 ts ⟨0,0,none⟩).2).2.err with
  | some x =>simp only;rw [show (B6 ts (Ca ts (B6 ts ⟨0,0,none⟩).2).2).2.err=some x from keep _ _ hm]
  | none =>
   have h2:=PN ts (r:=(Ca ts (B6 ts ⟨0,0,none⟩).2).2) (q:=(Ca ts (B6 ts ⟨0,0,none⟩).2).2) ⟨rfl,fun _=>rfl⟩;simp only;rw [←h2.1.1];cases h3:(B6 ts (Ca ts (B6 ts ⟨0,0,none⟩).2).2).2.err with
   | some x=>rfl
   | none =>simp only;rw [h2.2 h3,h2.1.2 h3]
abbrev Er:=Option (List (List UInt8 × Nat) × Nat)
def Bo:List UInt8:=[115,116,109,116]
def Hv:List UInt8:=[101,120,112,114]
def KG:List UInt8:=[119,111,114,100]
structure Sr where
 at_:Nat
 err:Er
 deriving DecidableEq
def Sr.fail (r:Sr) (p e:Nat):Sr:=⟨r.at_,some (r.err.getD ([(Bo,p)],e))⟩
def Sr.step (r:Sr):Sr:=⟨r.at_+1,r.err⟩
def isK (ts:List Wd) (i:Nat) (k:Nat) (s:List UInt8):Bool:=match ts[i]? with
 | some w=>w.kind==k&&(s==[] || w.text==s)
 | none=>false
def isW (ts:List Wd) (r:Sr) (k:Nat) (s:List UInt8):Bool:=r.err.isNone&&isK ts r.at_ k s
def CM (ts:List Wd) (r:Sr) (k:Nat) (s:List UInt8):Sr:=if isW ts r k s then r.step else r
def wd0:Wd:=⟨0,[],0,0⟩
def BM (ts:List Wd) (r:Sr) (k:Nat) (s:List UInt8):Wd × Sr:=if isW ts r k s then ((ts[r.at_]?).getD wd0,r.step) else (wd0,r.fail r.at_ 2)
def Fz {α:Type} (ts:List Wd) (none_:α) (of:List Wd→α × Nat × Option (Nat × Nat)) (r:Sr):α × Sr :=
 match r.err with
 | some _=>(none_,r)
 | none=>(match (of (ts.drop r.at_)).2.2 with
  | some (p,c)=>(none_,⟨r.at_,some ([(Bo,r.at_+p),(Hv,p)],c)⟩)
  | none=>((of (ts.drop r.at_)).1,⟨r.at_+(of (ts.drop r.at_)).2.1,none⟩))
def C2 (ts:List Wd) (r:Sr):Ex × Sr:=Fz ts .none B1 r
def F0 (ts:List Wd) (r:Sr):(List UInt8 × Ex × Ex) × Sr:=Fz ts ([],.none,.none) CE r
def Hw:List Wd→Nat→Nat
 | [],_=>0
 | w::l,d =>
  if w.kind=3 then
   (if (if w.text=Ay then d+1 else if w.text=A0 then d-1 else d)=0 then 1
    else 1+Hw l (if w.text=Ay then d+1 else if w.text=A0 then d-1 else d))
  else 1+Hw l d
def HQ (ts:List Wd) (i:Nat):Nat:=if isK ts (i+1) 3 Ay then i+1+Hw (ts.drop (i+1)) 0 else i+1
def toW (ts:List Wd) (r:Sr):Ex × Sr :=
 if isW ts r 1 [] then Fz ts .none (fun l=>B1 (l.take (HQ ts r.at_-r.at_))) r
 else (.none,r.fail r.at_ 2)
structure It where
 name:List UInt8
 dims:List Int
 deriving DecidableEq
def ED (ts:List Wd):Nat→List Int→Sr→List Int × Sr
 | 0,d,r=>(d,r)
 | n+1,d,r =>
  match r.err with
  | some _=>(d,r)
  | none =>
   let m:=BM ts r 2 []
   let r1:=if m.1.n=0 then m.2.fail r.at_ 1 else m.2
   let d1:=d++[(m.1.n:Int)]
   if isW ts r1 3 A7 then ED ts n d1 (if d1.length=4 then r1.fail r1.at_ 4 else r1).step else (d1,r1)
def EY (ts:List Wd) (r:Sr):It × Sr :=
 let m:=BM ts r 1 []
 if isW ts m.2 3 Ay then
  (⟨m.1.text,(ED ts 5 [] m.2.step).1⟩,(BM ts (ED ts 5 [] m.2.step).2 3 A0).2)
 else (⟨m.1.text,[]⟩,m.2)
def IX (ts:List Wd):Nat→List It→Sr→List It × Sr
 | 0,l,r=>(l,r)
 | n+1,l,r=>if isW ts r 3 A7 then IX ts n (l++[(EY ts r.step).1]) (EY ts r.step).2 else (l,r)
def Gs (ts:List Wd) (r:Sr):List It × Sr:=IX ts (ts.length+1) [(EY ts r).1] (EY ts r).2
def Mp (n:Nat):Int:=IntKind.i64.wrap (0-(n:Int))
def Gt (ts:List Wd) (r:Sr):Int × Sr :=
 if isW ts r 3 A7 then
  (if isW ts r.step 3 Bb then (Mp (BM ts r.step.step 2 []).1.n,(BM ts r.step.step 2 []).2)
   else (((BM ts r.step 2 []).1.n:Int),(BM ts r.step 2 []).2))
 else (1,r)
structure Sm where
 kind:Nat:=0
 items:List It:=[]
 to:Ex := .none
 e:Ex := .none
 op:List UInt8:=[]
 ca:Ex := .none
 cb:Ex := .none
 name:List UInt8:=[]
 lo:Ex := .none
 hi:Ex := .none
 step:Int:=0
 deriving Inhabited
def IY:List UInt8:=[105,110,116,101,103,101,114]
def doT:List UInt8:=[100,111]
def HS:List UInt8:=[101,110,100]
def ifT:List UInt8:=[105,102]
def Gu:List UInt8:=[116,104,101,110]
def IZ:List UInt8:=[101,108,115,101]
def Ia:List UInt8:=[114,101,97,100]
def Ib:List UInt8:=[112,114,105,110,116]
def isT:List UInt8:=[61]
def doW (ts:List Wd) (r:Sr):Sm × Sr :=
 let m:=BM ts r 1 []
 let a:=C2 ts (BM ts m.2 3 isT).2
 let b:=C2 ts (BM ts a.2 3 A7).2
 let s:=Gt ts b.2
 ({kind:=3,name:=m.1.text,lo:=a.1,hi:=b.1,step:=s.1},s.2)
def ifW (ts:List Wd) (r:Sr):Sm × Sr :=
 let c:=F0 ts (BM ts r 3 Ay).2
 ({kind:=5,op:=c.1.1,ca:=c.1.2.1,cb:=c.1.2.2},(BM ts (BM ts c.2 3 A0).2 4 Gu).2)
def HT (ts:List Wd) (word:List UInt8) (r:Sr):Sm × Sr :=
 if word=IY then ({kind:=1,items:=(Gs ts r).1},(Gs ts r).2)
 else if word=doT then doW ts r
 else if word=HS then (if isW ts r 4 ifT then ({kind:=7},r.step) else ({kind:=4},(BM ts r 4 doT).2))
 else if word=ifT then ifW ts r
 else if word=IZ then ({kind:=6},r)
 else if word=Ia then ({kind:=8,to:=(toW ts r).1},(toW ts r).2)
 else if word=Ib then ({kind:=9,e:=(C2 ts r).1},(C2 ts r).2)
 else ({},r.fail 0 2)
def PO (ts:List Wd) (r:Sr):Sm × Sr :=
 let a:=toW ts r
 let b:=C2 ts (BM ts a.2 3 isT).2
 ({kind:=2,to:=a.1,e:=b.1},b.2)
def EZ (ts:List Wd):Sm × Sr :=
 match ts[0]? with
 | none=>({},⟨0,none⟩)
 | some w=>if w.kind=4 then HT ts w.text ⟨1,none⟩ else if w.kind=1 then PO ts ⟨0,none⟩ else ({},⟨0,some ([(Bo,0)],2)⟩)
def Mq (ts:List Wd):Sm × Er :=
 if ts=[] then ({},none)
 else
  let r:=if (EZ ts).2.at_<ts.length then (EZ ts).2.fail (EZ ts).2.at_ 2 else (EZ ts).2
  match r.err with
  | some x=>({},some x)
  | none=>((EZ ts).1,none)
def KH (body:List UInt8):Sm × Er:=match lex (body.length+1) body 0 false with
 | .error (p,e)=>({},some ([(Bo,0),(KG,p)],e))
 | .ok ts=>Mq ts
end Go.Proofs.YtejjlojfgcgopaaGreatDoor
namespace Go.Proofs.YtejjlojfgcgopaaGreatDoor.As
open Go.RowKit Go.Extern.Stop Go.Stop Go.Extern
set_option maxRecDepth 100000
theorem PP (h:Value) (w:World):(Go.method 491 266 (.agg #[h]) "Kind").run Tryz.prog w = .ok (251,h) w:=by kernel_rfl
theorem PQ (h:Value) (w:World):(Go.method 491 266 (.agg #[h]) "Elem").run Tryz.prog w = .ok (264,.agg #[h]) w:=by kernel_rfl
theorem PR (h:Value) (w:World):(Go.method 491 266 (.agg #[h]) "Implements").run Tryz.prog w = .ok (265,.agg #[h]) w:=by kernel_rfl
theorem PS (h:Value) (w:World):(Go.method 491 266 (.agg #[h]) "AssignableTo").run Tryz.prog w = .ok (262,.agg #[h]) w:=by kernel_rfl
theorem methodComparable (h:Value) (w:World):(Go.method 491 266 (.agg #[h]) "Comparable").run Tryz.prog w = .ok (263,.agg #[h]) w:=by kernel_rfl
theorem rlm (z:Sem Value) (f:TypeId→Addr→Nat→Nat→Sem Value) (v:Value) :
  ReflectliteValue.method z f #[v]=(do match ←ReflectliteValue.parts v with|none=>z|some (t,a,fl)=>f t a fl (fl % 32)):=rfl
theorem rls (v x:Value):ReflectliteValue.set #[v,x]=(do
  let (some (dst,a,fl),some (src,b,_)):=(←ReflectliteValue.parts v,←ReflectliteValue.parts x)
   | unsupported (.noEntry "extern/(internal/reflectlite.Value).Set.zeroValue")
  if fl / ReflectliteValue.flagAddr % 2==0 then unsupported (.noEntry "extern/(internal/reflectlite.Value).Set.unaddressable")
  let val ←loadVar src b
  if ←Rtype.directlyAssignable dst src then storeVar dst a val
  else if ←Rtype.implements dst src then
   if (←Rtype.kind src)==20 then
    match val with
    | .nilIface=>unsupported (.noEntry "extern/reflectlite: a nil value of one interface type handed on as a value of another")
    | _=>storeVar dst a val
   else storeVar dst a (.iface src val)
  else panicString ("reflectlite.Set: value of type " ++ (←Rtype.spelt src) ++ " is not assignable to type " ++ (←Rtype.spelt dst))
  pure (.tuple #[])):=rfl
theorem Tq (t:Addr) (w:World):(ReflectliteValue.unpack (.iface 154 (.pointer (some t)))).run Tryz.prog w
  = .ok (.agg #[.pointer (some ⟨12,154,none⟩),.pointer (some ⟨w.heap.size,0,none⟩),.int .u64 150]) (w.alloc (.cells #[.pointer (some t)] 154)):=by kernel_rfl
theorem Ts (a:Addr) (w:World):(ReflectliteValue.methodAny (ReflectliteValue.valueError "reflectlite.Value.Type" 0) (fun t _ _ _=>ReflectliteType.toType t) #[.agg #[.pointer (some ⟨12,154,none⟩),.pointer (some a),.int .u64 150]]).run Tryz.prog w
  = .ok (.iface 266 (.agg #[.pointer (some ⟨12,154,none⟩)])) w:=by kernel_rfl
theorem Tt (w:World):((ReflectliteType.abiMethod fun t=>(fun a:Nat=>Value.int IntKind.u8 (a:Int)) <$> Rtype.kind t) #[.pointer (some ⟨12,154,none⟩)]).run Tryz.prog w = .ok (.int .u8 22) w:=by kernel_rfl
theorem Tu (w:World):((ReflectliteType.abiMethod fun t=>(fun a:Nat=>Value.int IntKind.u8 (a:Int)) <$> Rtype.kind t) #[.pointer (some ⟨12,152,none⟩)]).run Tryz.prog w = .ok (.int .u8 22) w:=by kernel_rfl
theorem Tv (a:Addr) (w:World):(ReflectliteValue.parts (.agg #[.pointer (some ⟨12,154,none⟩),.pointer (some a),.int .u64 150])).run Tryz.prog w = .ok (some (154,a,150)) w:=by kernel_rfl
theorem Tw (a p:Addr) (W:World) (ha:W.cell? a=some (.pointer (some p))) :
  (ReflectliteValue.method (ReflectliteValue.valueError "reflectlite.Value.IsNil" 0) ReflectliteValue.isNil #[.agg #[.pointer (some ⟨12,154,none⟩),.pointer (some a),.int .u64 150]]).run Tryz.prog W = .ok (.bool false) W:=by
 rw [rlm];simp only [Sem.run_bind,Tv,Result.andThen];simp [ReflectliteValue.isNil,loadVar,isAgg,underlying,Tryz.underlying154,ha,Result.andThen]
theorem Tz (w:World):(ReflectliteType.method ReflectliteType.elem #[.agg #[.pointer (some ⟨12,154,none⟩)]]).run Tryz.prog w = .ok (.iface 266 (.agg #[.pointer (some ⟨12,152,none⟩)])) w:=by kernel_rfl
theorem T0 (w:World):(ReflectliteType.relation "Implements" ReflectliteType.implements_ #[.agg #[.pointer (some ⟨12,152,none⟩)],.iface 266 (.agg #[.pointer (some ⟨12,33,none⟩)])]).run Tryz.prog w = .ok (.bool true) w:=by kernel_rfl
theorem ep (v:Value) (w:World):(ReflectliteType.typeOf #[.iface 152 v]).run Tryz.prog w = .ok (.iface 266 (.agg #[.pointer (some ⟨12,152,none⟩)])) w:=by kernel_rfl
theorem eq (w:World):(ReflectliteType.relation "AssignableTo" ReflectliteType.assignableTo #[.agg #[.pointer (some ⟨12,152,none⟩)],.iface 266 (.agg #[.pointer (some ⟨12,152,none⟩)])]).run Tryz.prog w = .ok (.bool true) w:=by kernel_rfl
theorem eu (e:Addr) (w:World):(ReflectliteValue.unpack (.iface 152 (.pointer (some e)))).run Tryz.prog w
  = .ok (.agg #[.pointer (some ⟨12,152,none⟩),.pointer (some ⟨w.heap.size,0,none⟩),.int .u64 150]) (w.alloc (.cells #[.pointer (some e)] 152)):=by kernel_rfl
theorem ew (w:World):(Rtype.elem? 154).run Tryz.prog w = .ok (some 152) w:=by kernel_rfl
theorem mkEF (p:Addr) (w:World):(ReflectliteValue.mk 152 p ReflectliteValue.flagAddr).run Tryz.prog w = .ok (.agg #[.pointer (some ⟨12,152,none⟩),.pointer (some p),.int .u64 406]) w:=by kernel_rfl
theorem ey (a p:Addr) (W:World) (ha:W.cell? a=some (.pointer (some p))) :
  (ReflectliteValue.method (ReflectliteValue.valueError "reflectlite.Value.Elem" 0) ReflectliteValue.elem #[.agg #[.pointer (some ⟨12,154,none⟩),.pointer (some a),.int .u64 150]]).run Tryz.prog W
   = .ok (.agg #[.pointer (some ⟨12,152,none⟩),.pointer (some p),.int .u64 406]) W:=by
 rw [rlm];simp only [Sem.run_bind,Tv,Result.andThen];simp [ReflectliteValue.elem,loadVar,isAgg,underlying,Tryz.underlying154,ha,Result.andThen,ew,mkEF]
theorem ez (a:Addr) (w:World):(ReflectliteValue.parts (.agg #[.pointer (some ⟨12,152,none⟩),.pointer (some a),.int .u64 406])).run Tryz.prog w = .ok (some (152,a,406)) w:=by kernel_rfl
theorem e9 (a:Addr) (w:World):(ReflectliteValue.parts (.agg #[.pointer (some ⟨12,152,none⟩),.pointer (some a),.int .u64 150])).run Tryz.prog w = .ok (some (152,a,150)) w:=by kernel_rfl
theorem fA (w:World):(Rtype.directlyAssignable 152 152).run Tryz.prog w = .ok true w:=by kernel_rfl
theorem fB (ta b:Addr) (e:Addr) (old:Value) (W:World) (hb:W.cell? b=some (.pointer (some e))) (ht:W.cell? ta=some old) (hf:W.frozen? ta=false) :
  (ReflectliteValue.set #[.agg #[.pointer (some ⟨12,152,none⟩),.pointer (some ta),.int .u64 406],.agg #[.pointer (some ⟨12,152,none⟩),.pointer (some b),.int .u64 150]]).run Tryz.prog W
   = .ok (.tuple #[]) (W.setCell ta (.pointer (some e))):=by
 rw [rls];simp only [Sem.run_bind,ez,e9,Result.andThen];simp [ReflectliteValue.flagAddr,loadVar,isAgg,underlying,Tryz.underlying152,hb,Result.andThen,fA,storeVar,Value.cells,storeCells,Addr.add];rw [run_store Tryz.prog W ta _ _ (by rfl)];simp [ht,hf]
theorem fC (t:Addr) (w:World):(ReflectliteValue.unpack (.iface 159 (.pointer (some t)))).run Tryz.prog w
  = .ok (.agg #[.pointer (some ⟨12,159,none⟩),.pointer (some ⟨w.heap.size,0,none⟩),.int .u64 150]) (w.alloc (.cells #[.pointer (some t)] 159)):=by kernel_rfl
theorem fD (a:Addr) (w:World):(ReflectliteValue.methodAny (ReflectliteValue.valueError "reflectlite.Value.Type" 0) (fun t _ _ _=>ReflectliteType.toType t) #[.agg #[.pointer (some ⟨12,159,none⟩),.pointer (some a),.int .u64 150]]).run Tryz.prog w
  = .ok (.iface 266 (.agg #[.pointer (some ⟨12,159,none⟩)])) w:=by kernel_rfl
theorem fE (w:World):((ReflectliteType.abiMethod fun t=>(fun a:Nat=>Value.int IntKind.u8 (a:Int)) <$> Rtype.kind t) #[.pointer (some ⟨12,159,none⟩)]).run Tryz.prog w = .ok (.int .u8 22) w:=by kernel_rfl
theorem fF (w:World):((ReflectliteType.abiMethod fun t=>(fun a:Nat=>Value.int IntKind.u8 (a:Int)) <$> Rtype.kind t) #[.pointer (some ⟨12,134,none⟩)]).run Tryz.prog w = .ok (.int .u8 2) w:=by kernel_rfl
theorem T3 (a:Addr) (w:World):(ReflectliteValue.parts (.agg #[.pointer (some ⟨12,159,none⟩),.pointer (some a),.int .u64 150])).run Tryz.prog w = .ok (some (159,a,150)) w:=by kernel_rfl
theorem fG (a p:Addr) (W:World) (ha:W.cell? a=some (.pointer (some p))) :
  (ReflectliteValue.method (ReflectliteValue.valueError "reflectlite.Value.IsNil" 0) ReflectliteValue.isNil #[.agg #[.pointer (some ⟨12,159,none⟩),.pointer (some a),.int .u64 150]]).run Tryz.prog W = .ok (.bool false) W:=by
 rw [rlm];simp only [Sem.run_bind,T3,Result.andThen];simp [ReflectliteValue.isNil,loadVar,isAgg,underlying,Tryz.underlying159,ha,Result.andThen]
theorem fH (w:World):(ReflectliteType.method ReflectliteType.elem #[.agg #[.pointer (some ⟨12,159,none⟩)]]).run Tryz.prog w = .ok (.iface 266 (.agg #[.pointer (some ⟨12,134,none⟩)])) w:=by kernel_rfl
theorem fJ (w:World):(ReflectliteType.relation "Implements" ReflectliteType.implements_ #[.agg #[.pointer (some ⟨12,134,none⟩)],.iface 266 (.agg #[.pointer (some ⟨12,33,none⟩)])]).run Tryz.prog w = .ok (.bool true) w:=by kernel_rfl
theorem typeOfEN (v:Value) (w:World):(ReflectliteType.typeOf #[.iface 134 v]).run Tryz.prog w = .ok (.iface 266 (.agg #[.pointer (some ⟨12,134,none⟩)])) w:=by kernel_rfl
theorem fK (w:World):(ReflectliteType.relation "AssignableTo" ReflectliteType.assignableTo #[.agg #[.pointer (some ⟨12,134,none⟩)],.iface 266 (.agg #[.pointer (some ⟨12,134,none⟩)])]).run Tryz.prog w = .ok (.bool true) w:=by kernel_rfl
theorem fL (n:Int) (w:World):(ReflectliteValue.unpack (.iface 134 (.int .i64 n))).run Tryz.prog w
  = .ok (.agg #[.pointer (some ⟨12,134,none⟩),.pointer (some ⟨w.heap.size,0,none⟩),.int .u64 130]) (w.alloc (.cells #[.int .i64 n] 134)):=by kernel_rfl
theorem fM (w:World):(Rtype.elem? 159).run Tryz.prog w = .ok (some 134) w:=by kernel_rfl
theorem mkEN (p:Addr) (w:World):(ReflectliteValue.mk 134 p ReflectliteValue.flagAddr).run Tryz.prog w = .ok (.agg #[.pointer (some ⟨12,134,none⟩),.pointer (some p),.int .u64 386]) w:=by kernel_rfl
theorem fN (a p:Addr) (W:World) (ha:W.cell? a=some (.pointer (some p))) :
  (ReflectliteValue.method (ReflectliteValue.valueError "reflectlite.Value.Elem" 0) ReflectliteValue.elem #[.agg #[.pointer (some ⟨12,159,none⟩),.pointer (some a),.int .u64 150]]).run Tryz.prog W
   = .ok (.agg #[.pointer (some ⟨12,134,none⟩),.pointer (some p),.int .u64 386]) W:=by
 rw [rlm];simp only [Sem.run_bind,T3,Result.andThen];simp [ReflectliteValue.elem,loadVar,isAgg,underlying,Tryz.underlying159,ha,Result.andThen,fM,mkEN]
theorem fO (a:Addr) (w:World):(ReflectliteValue.parts (.agg #[.pointer (some ⟨12,134,none⟩),.pointer (some a),.int .u64 386])).run Tryz.prog w = .ok (some (134,a,386)) w:=by kernel_rfl
theorem fP (a:Addr) (w:World):(ReflectliteValue.parts (.agg #[.pointer (some ⟨12,134,none⟩),.pointer (some a),.int .u64 130])).run Tryz.prog w = .ok (some (134,a,130)) w:=by kernel_rfl
theorem fQ (w:World):(Rtype.directlyAssignable 134 134).run Tryz.prog w = .ok true w:=by kernel_rfl
theorem fR (ta b:Addr) (n:Int) (old:Value) (W:World) (hb:W.cell? b=some (.int .i64 n)) (ht:W.cell? ta=some old) (hf:W.frozen? ta=false) :
  (ReflectliteValue.set #[.agg #[.pointer (some ⟨12,134,none⟩),.pointer (some ta),.int .u64 386],.agg #[.pointer (some ⟨12,134,none⟩),.pointer (some b),.int .u64 130]]).run Tryz.prog W
   = .ok (.tuple #[]) (W.setCell ta (.int .i64 n)):=by
 rw [rls];simp only [Sem.run_bind,fO,fP,Result.andThen];simp [ReflectliteValue.flagAddr,loadVar,isAgg,underlying,Tryz.underlying134,hb,Result.andThen,fQ,storeVar,Value.cells,storeCells,Addr.add];rw [run_store Tryz.prog W ta _ _ (by rfl)];simp [ht,hf]
set_option maxHeartbeats 4000000 in
theorem hitF (e:Addr) (t:Addr) (old:Value) (w:World) (hg:w.cell? ⟨0,0,none⟩=some (.iface 266 (.agg #[.pointer (some ⟨12,33,none⟩)]))) (vu:w.cell? t=some old) (vw:w.frozen? t=false) :
  Calls Tryz.prog 71 #[.iface 152 (.pointer (some e)),.iface 154 (.pointer (some t))] w fun ev w'=>ev = .returned (.bool true)∧w'=((((w.alloc (.cells #[.pointer (some t)] 154)).alloc (.cells #[.pointer (some ⟨12,154,none⟩),.pointer (some ⟨w.heap.size,0,none⟩),.int .u64 150] 211)).alloc (.cells #[.pointer (some ⟨12,154,none⟩),.pointer (some ⟨w.heap.size,0,none⟩),.int .u64 150] 211)).alloc (.cells #[.pointer (some e)] 152)).setCell t (.pointer (some e)):=by
 have y7 := @run_callFunc_extern Tryz.prog 103 _ (fun args=>ReflectliteValue.unpack (args.getD 0 (.tuple #[]))) Tryz.func103 (by kernel_rfl) (by kernel_rfl) (by kernel_rfl) (by kernel_rfl);have y8 := @run_callFunc_extern Tryz.prog 104 _ (ReflectliteValue.methodAny (ReflectliteValue.valueError "reflectlite.Value.Type" 0) (fun t _ _ _=>ReflectliteType.toType t)) Tryz.func104 (by kernel_rfl) (by kernel_rfl) (by kernel_rfl) (by kernel_rfl);have y9 := @run_callFunc_extern Tryz.prog 105 _ (ReflectliteValue.method (ReflectliteValue.valueError "reflectlite.Value.IsNil" 0) ReflectliteValue.isNil) Tryz.func105 (by kernel_rfl) (by kernel_rfl) (by kernel_rfl) (by kernel_rfl);have zA := @run_callFunc_extern Tryz.prog 251 _ (ReflectliteType.abiMethod fun t=>do pure (.int .u8 (←Rtype.kind t))) Tryz.func251 (by kernel_rfl) (by kernel_rfl) (by kernel_rfl) (by kernel_rfl);have zB := @run_callFunc_extern Tryz.prog 264 _ (ReflectliteType.method ReflectliteType.elem) Tryz.func264 (by kernel_rfl) (by kernel_rfl) (by kernel_rfl) (by kernel_rfl);have zC := @run_callFunc_extern Tryz.prog 265 _ (ReflectliteType.relation "Implements" ReflectliteType.implements_) Tryz.func265 (by kernel_rfl) (by kernel_rfl) (by kernel_rfl) (by kernel_rfl);have zD := @run_callFunc_extern Tryz.prog 101 _ ReflectliteType.typeOf Tryz.func101 (by kernel_rfl) (by kernel_rfl) (by kernel_rfl) (by kernel_rfl);have zE := @run_callFunc_extern Tryz.prog 262 _ (ReflectliteType.relation "AssignableTo" ReflectliteType.assignableTo) Tryz.func262 (by kernel_rfl) (by kernel_rfl) (by kernel_rfl) (by kernel_rfl);have zF := @run_callFunc_extern Tryz.prog 153 _ (ReflectliteValue.method (ReflectliteValue.valueError "reflectlite.Value.Elem" 0) ReflectliteValue.elem) Tryz.func153 (by kernel_rfl) (by kernel_rfl) (by kernel_rfl) (by kernel_rfl);have zG := @run_callFunc_extern Tryz.prog 154 _ ReflectliteValue.set Tryz.func154 (by kernel_rfl) (by kernel_rfl) (by kernel_rfl) (by kernel_rfl);have mK:=PP;have mE:=PQ;have mI:=PR;have mA:=PS;have f6:=Tq;have f7:=Ts;have k27:=Tt;have k25:=Tu;have e27:=Tz;have i25:=T0;have n8:=Tw ⟨w.heap.size,0,none⟩ t ((w.alloc (.cells #[.pointer (some t)] 154)).alloc (.cells #[.pointer (some ⟨12,154,none⟩),.pointer (some ⟨w.heap.size,0,none⟩),.int .u64 150] 211)) (by simp)
 have p9:0<w.heap.size:=by
  rcases Nat.lt_or_ge 0 w.heap.size with h|h
  ·exact h
  ·simp [World.cell?,Array.getElem?_eq_none h] at hg
 have uL:((w.alloc (.cells #[.pointer (some t)] 154)).alloc (.cells #[.pointer (some ⟨12,154,none⟩),.pointer (some ⟨w.heap.size,0,none⟩),.int .u64 150] 211)).cell? ⟨0,0,none⟩=some (.iface 266 (.agg #[.pointer (some ⟨12,33,none⟩)])):=by rw [World.cell?_alloc_lt _ _ ⟨0,0,none⟩ (by simp<;>omega),World.cell?_alloc_lt _ _ ⟨0,0,none⟩ p9];exact hg
 have tO:=ep;have a25:=eq;have v25:=eu
 have sn:t.block<w.heap.size:=by
  rcases Nat.lt_or_ge t.block w.heap.size with h|h
  ·exact h
  ·simp [World.cell?,Array.getElem?_eq_none h] at vu
 have el:=ey ⟨w.heap.size,0,none⟩ t (((w.alloc (.cells #[.pointer (some t)] 154)).alloc (.cells #[.pointer (some ⟨12,154,none⟩),.pointer (some ⟨w.heap.size,0,none⟩),.int .u64 150] 211)).alloc (.cells #[.pointer (some ⟨12,154,none⟩),.pointer (some ⟨w.heap.size,0,none⟩),.int .u64 150] 211)) (by rw [World.cell?_alloc_lt _ _ ⟨w.heap.size,0,none⟩ (by simp;omega)];simp)
 have st:=fB t ⟨w.heap.size+1+1+1,0,none⟩ e old ((((w.alloc (.cells #[.pointer (some t)] 154)).alloc (.cells #[.pointer (some ⟨12,154,none⟩),.pointer (some ⟨w.heap.size,0,none⟩),.int .u64 150] 211)).alloc (.cells #[.pointer (some ⟨12,154,none⟩),.pointer (some ⟨w.heap.size,0,none⟩),.int .u64 150] 211)).alloc (.cells #[.pointer (some e)] 152))
  (by rw [World.cell?_alloc_at _ _ _ _ (by simp)];rfl)
  (by rw [World.cell?_alloc_lt _ _ t (by simp;omega),World.cell?_alloc_lt _ _ t (by simp;omega),World.cell?_alloc_lt _ _ t (by simp;omega),World.cell?_alloc_lt _ _ t sn];exact vu)
  (by rw [World.frozen?_alloc_old _ _ t (by simp;omega),World.frozen?_alloc_old _ _ t (by simp;omega),World.frozen?_alloc_old _ _ t (by simp;omega),World.frozen?_alloc_old _ _ t (Nat.ne_of_lt sn)];exact vw)
 go_enter Tryz.func71,Tryz.ntmps71
 go_wp2
 refine wp_loop_rounds 1 ?_;rw [rounds_succ]
 go_wp2
 go_ret
 exact ⟨rfl,rfl⟩
set_option maxHeartbeats 4000000 in
theorem hitN (n:Int) (t:Addr) (old:Value) (w:World) (hg:w.cell? ⟨0,0,none⟩=some (.iface 266 (.agg #[.pointer (some ⟨12,33,none⟩)]))) (vu:w.cell? t=some old) (vw:w.frozen? t=false) :
  Calls Tryz.prog 71 #[.iface 134 (.int .i64 n),.iface 159 (.pointer (some t))] w fun ev w'=>ev = .returned (.bool true)∧w'=((((w.alloc (.cells #[.pointer (some t)] 159)).alloc (.cells #[.pointer (some ⟨12,159,none⟩),.pointer (some ⟨w.heap.size,0,none⟩),.int .u64 150] 211)).alloc (.cells #[.pointer (some ⟨12,159,none⟩),.pointer (some ⟨w.heap.size,0,none⟩),.int .u64 150] 211)).alloc (.cells #[.int .i64 n] 134)).setCell t (.int .i64 n):=by
 have y7 := @run_callFunc_extern Tryz.prog 103 _ (fun args=>ReflectliteValue.unpack (args.getD 0 (.tuple #[]))) Tryz.func103 (by kernel_rfl) (by kernel_rfl) (by kernel_rfl) (by kernel_rfl);have y8 := @run_callFunc_extern Tryz.prog 104 _ (ReflectliteValue.methodAny (ReflectliteValue.valueError "reflectlite.Value.Type" 0) (fun t _ _ _=>ReflectliteType.toType t)) Tryz.func104 (by kernel_rfl) (by kernel_rfl) (by kernel_rfl) (by kernel_rfl);have y9 := @run_callFunc_extern Tryz.prog 105 _ (ReflectliteValue.method (ReflectliteValue.valueError "reflectlite.Value.IsNil" 0) ReflectliteValue.isNil) Tryz.func105 (by kernel_rfl) (by kernel_rfl) (by kernel_rfl) (by kernel_rfl);have zA := @run_callFunc_extern Tryz.prog 251 _ (ReflectliteType.abiMethod fun t=>do pure (.int .u8 (←Rtype.kind t))) Tryz.func251 (by kernel_rfl) (by kernel_rfl) (by kernel_rfl) (by kernel_rfl);have zB := @run_callFunc_extern Tryz.prog 264 _ (ReflectliteType.method ReflectliteType.elem) Tryz.func264 (by kernel_rfl) (by kernel_rfl) (by kernel_rfl) (by kernel_rfl);have zC := @run_callFunc_extern Tryz.prog 265 _ (ReflectliteType.relation "Implements" ReflectliteType.implements_) Tryz.func265 (by kernel_rfl) (by kernel_rfl) (by kernel_rfl) (by kernel_rfl);have zD := @run_callFunc_extern Tryz.prog 101 _ ReflectliteType.typeOf Tryz.func101 (by kernel_rfl) (by kernel_rfl) (by kernel_rfl) (by kernel_rfl);have zE := @run_callFunc_extern Tryz.prog 262 _ (ReflectliteType.relation "AssignableTo" ReflectliteType.assignableTo) Tryz.func262 (by kernel_rfl) (by kernel_rfl) (by kernel_rfl) (by kernel_rfl);have zF := @run_callFunc_extern Tryz.prog 153 _ (ReflectliteValue.method (ReflectliteValue.valueError "reflectlite.Value.Elem" 0) ReflectliteValue.elem) Tryz.func153 (by kernel_rfl) (by kernel_rfl) (by kernel_rfl) (by kernel_rfl);have zG := @run_callFunc_extern Tryz.prog 154 _ ReflectliteValue.set Tryz.func154 (by kernel_rfl) (by kernel_rfl) (by kernel_rfl) (by kernel_rfl);have mK:=PP;have mE:=PQ;have mI:=PR;have mA:=PS;have f6:=fC;have f7:=fD;have k27:=fE;have k25:=fF;have e27:=fH;have i25:=fJ;have n8:=fG ⟨w.heap.size,0,none⟩ t ((w.alloc (.cells #[.pointer (some t)] 159)).alloc (.cells #[.pointer (some ⟨12,159,none⟩),.pointer (some ⟨w.heap.size,0,none⟩),.int .u64 150] 211)) (by simp)
 have p9:0<w.heap.size:=by
  rcases Nat.lt_or_ge 0 w.heap.size with h|h
  ·exact h
  ·simp [World.cell?,Array.getElem?_eq_none h] at hg
 have uL:((w.alloc (.cells #[.pointer (some t)] 159)).alloc (.cells #[.pointer (some ⟨12,159,none⟩),.pointer (some ⟨w.heap.size,0,none⟩),.int .u64 150] 211)).cell? ⟨0,0,none⟩=some (.iface 266 (.agg #[.pointer (some ⟨12,33,none⟩)])):=by rw [World.cell?_alloc_lt _ _ ⟨0,0,none⟩ (by simp<;>omega),World.cell?_alloc_lt _ _ ⟨0,0,none⟩ p9];exact hg
 have tO:=typeOfEN;have a25:=fK;have v25:=fL
 have sn:t.block<w.heap.size:=by
  rcases Nat.lt_or_ge t.block w.heap.size with h|h
  ·exact h
  ·simp [World.cell?,Array.getElem?_eq_none h] at vu
 have el:=fN ⟨w.heap.size,0,none⟩ t (((w.alloc (.cells #[.pointer (some t)] 159)).alloc (.cells #[.pointer (some ⟨12,159,none⟩),.pointer (some ⟨w.heap.size,0,none⟩),.int .u64 150] 211)).alloc (.cells #[.pointer (some ⟨12,159,none⟩),.pointer (some ⟨w.heap.size,0,none⟩),.int .u64 150] 211)) (by rw [World.cell?_alloc_lt _ _ ⟨w.heap.size,0,none⟩ (by simp;omega)];simp)
 have st:=fR t ⟨w.heap.size+1+1+1,0,none⟩ n old ((((w.alloc (.cells #[.pointer (some t)] 159)).alloc (.cells #[.pointer (some ⟨12,159,none⟩),.pointer (some ⟨w.heap.size,0,none⟩),.int .u64 150] 211)).alloc (.cells #[.pointer (some ⟨12,159,none⟩),.pointer (some ⟨w.heap.size,0,none⟩),.int .u64 150] 211)).alloc (.cells #[.int .i64 n] 134))
  (by rw [World.cell?_alloc_at _ _ _ _ (by simp)];rfl)
  (by rw [World.cell?_alloc_lt _ _ t (by simp;omega),World.cell?_alloc_lt _ _ t (by simp;omega),World.cell?_alloc_lt _ _ t (by simp;omega),World.cell?_alloc_lt _ _ t sn];exact vu)
  (by rw [World.frozen?_alloc_old _ _ t (by simp;omega),World.frozen?_alloc_old _ _ t (by simp;omega),World.frozen?_alloc_old _ _ t (by simp;omega),World.frozen?_alloc_old _ _ t (Nat.ne_of_lt sn)];exact vw)
 go_enter Tryz.func71,Tryz.ntmps71
 go_wp2
 refine wp_loop_rounds 1 ?_;rw [rounds_succ]
 go_wp2
 go_ret
 exact ⟨rfl,rfl⟩
theorem fS (w:World):(ReflectliteType.relation "AssignableTo" ReflectliteType.assignableTo #[.agg #[.pointer (some ⟨12,134,none⟩)],.iface 266 (.agg #[.pointer (some ⟨12,152,none⟩)])]).run Tryz.prog w = .ok (.bool false) w:=by kernel_rfl
theorem noAs (v:Value) (xT:TypeId) (w:World):(Instr.typeAssert (.iface 134 v) xT 278 true).run Tryz.prog w = .ok (.tuple #[.nilIface,.bool false]) w:=run_typeAssert_lacksB Tryz.underlying278 (by kernel_rfl) (by kernel_rfl) v xT w
theorem noUn (v:Value) (xT:TypeId) (w:World):(Instr.typeAssert (.iface 134 v) xT 271 true).run Tryz.prog w = .ok (.tuple #[.nilIface,.bool false]) w:=run_typeAssert_lacksB Tryz.underlying271 (by kernel_rfl) (by kernel_rfl) v xT w
theorem noUs (v:Value) (xT:TypeId) (w:World):(Instr.typeAssert (.iface 134 v) xT 273 true).run Tryz.prog w = .ok (.tuple #[.nilIface,.bool false]) w:=run_typeAssert_lacksB Tryz.underlying273 (by kernel_rfl) (by kernel_rfl) v xT w
set_option maxHeartbeats 4000000 in
theorem missF (n:Int) (t:Addr) (w:World) (hg:w.cell? ⟨0,0,none⟩=some (.iface 266 (.agg #[.pointer (some ⟨12,33,none⟩)]))) :
  Calls Tryz.prog 71 #[.iface 134 (.int .i64 n),.iface 154 (.pointer (some t))] w fun ev w'=>ev = .returned (.bool false)∧w'=(((w.alloc (.cells #[.pointer (some t)] 154)).alloc (.cells #[.pointer (some ⟨12,154,none⟩),.pointer (some ⟨w.heap.size,0,none⟩),.int .u64 150] 211)).alloc (.cells #[.pointer (some ⟨12,154,none⟩),.pointer (some ⟨w.heap.size,0,none⟩),.int .u64 150] 211)):=by
 have y7 := @run_callFunc_extern Tryz.prog 103 _ (fun args=>ReflectliteValue.unpack (args.getD 0 (.tuple #[]))) Tryz.func103 (by kernel_rfl) (by kernel_rfl) (by kernel_rfl) (by kernel_rfl);have y8 := @run_callFunc_extern Tryz.prog 104 _ (ReflectliteValue.methodAny (ReflectliteValue.valueError "reflectlite.Value.Type" 0) (fun t _ _ _=>ReflectliteType.toType t)) Tryz.func104 (by kernel_rfl) (by kernel_rfl) (by kernel_rfl) (by kernel_rfl);have y9 := @run_callFunc_extern Tryz.prog 105 _ (ReflectliteValue.method (ReflectliteValue.valueError "reflectlite.Value.IsNil" 0) ReflectliteValue.isNil) Tryz.func105 (by kernel_rfl) (by kernel_rfl) (by kernel_rfl) (by kernel_rfl);have zA := @run_callFunc_extern Tryz.prog 251 _ (ReflectliteType.abiMethod fun t=>do pure (.int .u8 (←Rtype.kind t))) Tryz.func251 (by kernel_rfl) (by kernel_rfl) (by kernel_rfl) (by kernel_rfl);have zB := @run_callFunc_extern Tryz.prog 264 _ (ReflectliteType.method ReflectliteType.elem) Tryz.func264 (by kernel_rfl) (by kernel_rfl) (by kernel_rfl) (by kernel_rfl);have zC := @run_callFunc_extern Tryz.prog 265 _ (ReflectliteType.relation "Implements" ReflectliteType.implements_) Tryz.func265 (by kernel_rfl) (by kernel_rfl) (by kernel_rfl) (by kernel_rfl);have zD := @run_callFunc_extern Tryz.prog 101 _ ReflectliteType.typeOf Tryz.func101 (by kernel_rfl) (by kernel_rfl) (by kernel_rfl) (by kernel_rfl);have zE := @run_callFunc_extern Tryz.prog 262 _ (ReflectliteType.relation "AssignableTo" ReflectliteType.assignableTo) Tryz.func262 (by kernel_rfl) (by kernel_rfl) (by kernel_rfl) (by kernel_rfl);have zF := @run_callFunc_extern Tryz.prog 153 _ (ReflectliteValue.method (ReflectliteValue.valueError "reflectlite.Value.Elem" 0) ReflectliteValue.elem) Tryz.func153 (by kernel_rfl) (by kernel_rfl) (by kernel_rfl) (by kernel_rfl);have zG := @run_callFunc_extern Tryz.prog 154 _ ReflectliteValue.set Tryz.func154 (by kernel_rfl) (by kernel_rfl) (by kernel_rfl) (by kernel_rfl);have mK:=PP;have mE:=PQ;have mI:=PR;have mA:=PS;have f6:=Tq;have f7:=Ts;have k27:=Tt;have k25:=Tu;have e27:=Tz;have i25:=T0;have n8:=Tw ⟨w.heap.size,0,none⟩ t ((w.alloc (.cells #[.pointer (some t)] 154)).alloc (.cells #[.pointer (some ⟨12,154,none⟩),.pointer (some ⟨w.heap.size,0,none⟩),.int .u64 150] 211)) (by simp)
 have p9:0<w.heap.size:=by
  rcases Nat.lt_or_ge 0 w.heap.size with h|h
  ·exact h
  ·simp [World.cell?,Array.getElem?_eq_none h] at hg
 have uL:((w.alloc (.cells #[.pointer (some t)] 154)).alloc (.cells #[.pointer (some ⟨12,154,none⟩),.pointer (some ⟨w.heap.size,0,none⟩),.int .u64 150] 211)).cell? ⟨0,0,none⟩=some (.iface 266 (.agg #[.pointer (some ⟨12,33,none⟩)])):=by rw [World.cell?_alloc_lt _ _ ⟨0,0,none⟩ (by simp<;>omega),World.cell?_alloc_lt _ _ ⟨0,0,none⟩ p9];exact hg
 have tO:=typeOfEN;have a25:=fS;have b1:=noAs;have b2:=noUn;have b3:=noUs
 go_enter Tryz.func71,Tryz.ntmps71
 go_wp2
 refine wp_loop_rounds 1 ?_;rw [rounds_succ]
 go_wp2
 go_ret
 exact ⟨rfl,rfl⟩
end Go.Proofs.YtejjlojfgcgopaaGreatDoor.As
namespace Go.Proofs.YtejjlojfgcgopaaGreatDoor
open Go.RowKit Go.Proofs.Fw Go.Stop Go.Extern
set_option maxRecDepth 100000
set_option maxHeartbeats 4000000
def KI:List (Nat × AV):=(0,.vptr [.iface 266 (.agg [.adr 12 33])] 0)::JJ
def LI (t:TypeId) (n:String):Option FuncId:=if t=152∧n = "Unwrap" then some 256 else none
def Cg:Env:=⟨HL KI,LI,fun t=>t==156 || t==341 || t==57,fun _=>false,fun _=>false⟩
@[simp] theorem nk (t:TypeId):Cg.soft t=false:=AR rfl
@[simp] theorem immW:Cg.imm 57=true:=by decide
theorem KJ:Cz zP Cg:=by
 intro t name f h v w;simp only [Cg,LI] at h
 split at h
 ·rename_i hh
  obtain ⟨rfl,rfl⟩:=hh;injection h with h;subst h
  kernel_rfl
 ·cases h
@[simp] theorem methU:Cg.meth 152 "Unwrap" = some 256:=rfl
theorem LJ:∀i,low 0 (Cg.glob i)=true:=Ox (by
 intro x hx;simp only [KI,JJ,List.mem_cons,List.not_mem_nil,or_false] at hx;rcases hx with rfl|rfl|rfl
 ·rfl
 ·show lowL 0 LC=true
  kernel_rfl
 ·rfl)
theorem fT {g:Gh} (h:An Cg g):An AN g:=by
 intro i
 by_cases hi:i=0
 ·subst hi
  have:AN.glob 0 = .undef:=by rfl
  rw [this];trivial
 ·have:AN.glob i=Cg.glob i:=by
   simp only [AN,Cg,HL,KI,List.find?_cons];rw [show ((0:Nat)==i)=false by simp;omega]
  rw [this];exact h i
theorem CS.toN {f:FuncId} {args:List AV} {H H':AH} {v:AV} (h:CS zP AN f args H v H'):CS zP Cg f args H v H':=fun g w cargs R hG hA=>h g w cargs R (fT hG) hA
theorem AS.toN {O:Orc} (h:AS zP AN O):AS zP Cg O:=fun f args H v H' ho=>by obtain ⟨h1,h2,h3⟩:=h f args H v H' ho;exact ⟨CS.toN h1,h2,h3⟩
def AZ:List (List UInt8 × Int)→Int→AV
 | [],c => .iface 134 (.int .i64 c)
 | (w,p)::r,c => .iface 152 (.vptr [.str w,.int .i64 p,AZ r c] 0)
theorem GO:∀(l:List (List UInt8 × Int)) (c:Int),low 0 (AZ l c)=true
 | [],c=>rfl
 | (w,p)::r,c=>by simp [AZ,GO r c]
section
variable {P:Program}
theorem Mr {t I:TypeId} {z:AV} {want:Array (String × TypeId)} (hu:P.underlying I=some (.interface want)) (h:(P.info? t).map (fun i=>(lacking want i.methods).isEmpty)=some false) (hz:Ae P I=some z) (v:AV) :
  EN P (.iface t v) I true=some (.tup [z,.bool false]):=by
 obtain ⟨i,hi,hl⟩:=Option.map_eq_some_iff.1 h;obtain ⟨m,hm⟩:=missingMethod_some (want:=want) (got:=i.methods) (fun e=>by rw [e] at hl;cases hl);simp [EN,hu,hi,hm,hz]
theorem fU {t I:TypeId} {want:Array (String × TypeId)} (hu:P.underlying I=some (.interface want)) (h:(P.info? t).map (fun i=>(lacking want i.methods).isEmpty)=some true) (v:AV) :
  EN P (.iface t v) I true=some (.tup [.iface t v,.bool true]):=by
 obtain ⟨i,hi,hl⟩:=Option.map_eq_some_iff.1 h;have hm:=missingMethod_none (want:=want) (got:=i.methods) (List.isEmpty_iff.1 hl);simp [EN,hu,hi,hm]
end
@[simp high] theorem fIs (v:AV):EN zP (.iface 152 v) 268 true=some (.tup [.nilIface,.bool false]):=Mr Tryz.underlying268 (by kernel_rfl) (by kernel_rfl) v
@[simp high] theorem fUn (v:AV):EN zP (.iface 152 v) 271 true=some (.tup [.iface 152 v,.bool true]):=fU Tryz.underlying271 (by kernel_rfl) v
@[simp high] theorem eIs (v:AV):EN zP (.iface 134 v) 268 true=some (.tup [.nilIface,.bool false]):=Mr Tryz.underlying268 (by kernel_rfl) (by kernel_rfl) v
@[simp high] theorem eUn (v:AV):EN zP (.iface 134 v) 271 true=some (.tup [.nilIface,.bool false]):=Mr Tryz.underlying271 (by kernel_rfl) (by kernel_rfl) v
@[simp high] theorem eUs (v:AV):EN zP (.iface 134 v) 273 true=some (.tup [.nilIface,.bool false]):=Mr Tryz.underlying273 (by kernel_rfl) (by kernel_rfl) v
@[simp high] theorem eqEE (a b:Int):aeq zP 33 (.iface 134 (.int .i64 a)) (.iface 134 (.int .i64 b))=some (a==b):=by obtain ⟨i,hi,hc⟩:=Option.map_eq_some_iff.1 (show (zP.info? 134).map (·.comparable)=some true by kernel_rfl);simp [aeq,hi,hc]
@[simp high] theorem eqFE (v:AV) (b:Int):aeq zP 33 (.iface 152 v) (.iface 134 (.int .i64 b))=some false:=by simp [aeq]
def oUw:Orc:=fun f args H=>if f=256 then (match args with
 | [.vptr [a,b,e] 0]=>if low 0 a=true∧low 0 b=true∧low 0 e=true then some (e,H) else none
 | _=>none) else none
theorem fV (a b e:AV) (ha:low 0 a=true) (hb:low 0 b=true) (he:low 0 e=true) (H:AH):CS zP Cg 256 [.vptr [a,b,e] 0] H e H:=by refine CS.run0 (O:=Bk) ⟨JI,KJ,Af⟩ LJ Tryz.func256 (by kernel_rfl) (by kernel_rfl) 0 (by simp [Tryz.f256]) ?_ he (by simp [ha,hb,he]) H;simp [Tryz.f256,JG _ _ he]
theorem fW:AS zP Cg oUw:=AS.pure fun f args H v H' h=>by
 unfold oUw at h
 split at h
 ·rename_i hf
  subst hf
  split at h
  ·split at h
   ·rename_i hl
    injection h with h;simp only [Prod.mk.injEq] at h;obtain ⟨rfl,rfl⟩:=h;exact ⟨rfl,fV _ _ _ hl.1 hl.2.1 hl.2.2 _⟩
   ·cases h
  ·cases h
 ·cases h
@[simp high] theorem nl (w:List UInt8) (p:Int) (l:List (List UInt8 × Int)) (c:Int) (H:AH):oUw 256 [.vptr [.str w,.int .i64 p,AZ l c] 0] H=some (AZ l c,H):=by simp [oUw,GO]
theorem T4:Cx oUw zP Cg:=⟨fW,KJ,Af⟩
@[simp high] theorem no (l:List (List UInt8 × Int)) (c:Int):aeq zP 33 (AZ l c) .nilIface=some false:=by cases l<;>simp [AZ,aeq]
@[simp high] theorem np (l:List (List UInt8 × Int)) (c:Int) (k:Bool):BI zP .eql 33 k (AZ l c) .nilIface=some (.bool false):=by cases l<;>simp [AZ]
@[simp high] theorem nq (l:List (List UInt8 × Int)) (c:Int) (k:Bool):BI zP .neq 33 k (AZ l c) .nilIface=some (.bool true):=by cases l<;>simp [AZ]
def TiI (c n:Int) (k:Nat) (t:List AV) (H:AH):Prop :=∃r:List (List UInt8 × Int),r.length=k∧t=mkT 54 [(0,AZ r c),(1,.iface 134 (.int .i64 n)),(2,.bool true)]∧H=[]
theorem fX (l:List (List UInt8 × Int)) (c n:Int) (H:AH):CS zP Cg 102 [AZ l c,.iface 134 (.int .i64 n),.bool true] H (.bool (c==n)) H:=by
 refine CS.tr0 LJ Tryz.func102 (by kernel_rfl) 0 (by simp [Tryz.f102]) (fun B hB hG => ?_) rfl (by simp [GO]) H;refine Tr.go T4 hG (by kernel_rfl) ?_;simp [Tryz.f102];refine LpT.loopN T4 hG (by kernel_rfl) (TiI c n) l.length (t':=mkT 54 [(0,AZ l c),(1,.iface 134 (.int .i64 n)),(2,.bool true)]) (H':=[]) (AF.mk0 hB (by simp [GO])) ⟨l,rfl,rfl,rfl⟩ ?_;rintro k t H ⟨r,hk,rfl,rfl⟩;cases r with
 | nil =>
  by_cases h:c=n
  ·subst h
   simp [AZ,Bt,MX]
  ·have h2:(c==n)=false:=by simp [h]
   simp [AZ,h,h2,Bt,MX]
 | cons x r =>obtain ⟨w,p⟩:=x;subst hk;simp [AZ,MZ];exact Nxt.mk r.length (by simp) (AF.mk0 (l':=[(0,AZ r c),(1,.iface 134 (.int .i64 n)),(2,.bool true)]) hB (by simp [GO])) ⟨r,rfl,rfl,rfl⟩
theorem fY (w:World):(Go.Extern.ReflectliteType.method (fun t=>do Go.Extern.Rtype.noPackHeld "Comparable" t;(fun a:TypeInfo=>Value.bool a.comparable) <$> typeInfo t) #[.agg #[.pointer (some ⟨12,134,none⟩)]]).run zP w = .ok (.bool true) w:=by kernel_rfl
theorem fZ (l:List (List UInt8 × Int)) (c n:Int) (H:AH):CS Tryz.prog Cg 70 [AZ l c,.iface 134 (.int .i64 n)] H (.bool (c==n)) H:=by
 refine CS.frame ?_ LJ (by simp [GO]) H;intro g w cargs R hG hA;have hA':=hA;simp only [AB] at hA;obtain ⟨v0,ws0,rfl,h0,v1,ws1,rfl,h1,rfl⟩:=hA;simp only [AA] at h1;obtain ⟨y1,rfl,rfl⟩:=h1
 have zH:=fX l c n [] g w [v0,.iface 134 (.int .i64 n),.bool true] R hG (by
  simp only [AB]
  exact ⟨_,_,rfl,h0,_,_,rfl,by simp [AA],_,_,rfl,by simp [AA],rfl⟩)
 have tO:=As.typeOfEN;have mC:=As.methodComparable;have cE:=fY;have x1 := @run_callFunc_extern Tryz.prog 263 _ (Go.Extern.ReflectliteType.method (fun t=>do Go.Extern.Rtype.noPackHeld "Comparable" t;pure (.bool (←typeInfo t).comparable))) Tryz.func263 (by kernel_rfl) (by kernel_rfl) (by kernel_rfl) (by kernel_rfl);have x2 := @run_callFunc_extern Tryz.prog 101 _ Go.Extern.ReflectliteType.typeOf Tryz.func101 (by kernel_rfl) (by kernel_rfl) (by kernel_rfl) (by kernel_rfl);cases l with
 | nil =>
  simp only [AZ,AA] at h0;obtain ⟨y0,rfl,rfl⟩:=h0
  go_enter Tryz.func70,Tryz.ntmps70
  go_wp2_with (go_at_call 102;refine zH.mono ?_;rintro e w' ⟨g',cv,rfl,R',p,hr⟩)
  go_ret
  exact ⟨g',_,rfl,R',p,hr⟩
 | cons x r =>
  obtain ⟨wd,p⟩:=x;simp only [AZ,AA] at h0;obtain ⟨y0,rfl,hy⟩:=h0
  go_enter Tryz.func70,Tryz.ntmps70
  go_wp2_with (go_at_call 102;refine zH.mono ?_;rintro e w' ⟨g',cv,rfl,R',p,hr⟩)
  go_ret
  exact ⟨g',_,rfl,R',p,hr⟩
open Go.RowKit Go.Proofs.Fw
theorem T5 {g:Gh} {H:AH} {w W4:World} (R:Rel g H w) {id b:Nat} {x a:AV} {el:TypeId} {ov v:Value} (hH:H.at id=some (.box [x])) (hM:g.M id=some (.box b)) (h1:w.heap[b]? = some (.cells #[ov] el (0,0)))
  (hb:Below w.heap.size w W4) (hr:AA g a v) :
  Rel g (H.set id (some (.box [a]))) (W4.setCell ⟨b,0,none⟩ v)∧AK g H w g (H.set id (some (.box [a]))) (W4.setCell ⟨b,0,none⟩ v):=by
 obtain ⟨R4,P4⟩:=R.below hb;have p9:b<w.heap.size:=(Array.getElem?_eq_some_iff.1 h1).1;have h4:W4.heap[b]? = some (.cells #[ov] el (0,0)):=by rw [hb.block b p9];exact h1
 have hs:(W4.setCell ⟨b,0,none⟩ v).heap[b]? = some (.cells (List.toArray [v]) el (0,0)):=by simp [World.setCell,Array.getElem?_modify,h4]
 obtain ⟨R5,P5⟩:=R4.write_box (w':=W4.setCell ⟨b,0,none⟩ v) (cs:=[a]) (vs:=[v]) hH hM hs (by simp only [AB];exact ⟨_,_,rfl,hr,rfl⟩) (fun k hk=>Below.heap_setCell W4 ⟨b,0,none⟩ v k hk) (by simp [World.setCell]) rfl rfl rfl;exact ⟨R5,AK.trans R P4 P5⟩
theorem PT {g:Gh} {H:AH} {w:World} (hG:An Cg g) (R:Rel g H w):w.cell? ⟨0,0,none⟩=some (.iface 266 (.agg #[.pointer (some ⟨12,33,none⟩)])):=by have h:=hG 0;rw [show Cg.glob 0 = .vptr [.iface 266 (.agg [.adr 12 33])] 0 from rfl] at h;simp only [AA,AB] at h;obtain ⟨b,o,vs,hv,⟨v,ws,rfl,⟨y,rfl,vs2,rfl,v3,ws3,rfl,rfl,rfl⟩,rfl⟩,hh⟩:=h;simp at hv;obtain ⟨rfl,rfl⟩:=hv;exact R.imm _ _ _ (hh 0 _ rfl)
theorem T6 (w:World) (a b c:Obj):Below w.heap.size w (((w.alloc a).alloc b).alloc c) :=(((Below.refl _ w).alloc (Nat.le_refl _) a).alloc (by simp) b).alloc (by simp;omega) c
theorem Ms (w:World) (a b c d:Obj):Below w.heap.size w ((((w.alloc a).alloc b).alloc c).alloc d) :=(T6 w a b c).alloc (by simp;omega) d
theorem T7 {cs:List AV} {id:Nat} {x:AV} {H:AH} (hH:H.at id=some (.box [x])) :
  CS zP Cg 71 [.iface 152 (.vptr cs 0),.iface 154 (.ptr id 0)] H (.bool true) (H.set id (some (.box [.vptr cs 0]))):=by
 intro g w cargs R hG hA;simp only [AB,AA] at hA;obtain ⟨v0,ws0,rfl,⟨y0,rfl,b0,o0,vs0,rfl,hr0,xJ⟩,v1,ws1,rfl,⟨y1,rfl,b,hM,rfl⟩,rfl⟩:=hA;obtain ⟨vs,el,h1,h2,h3⟩:=Hh R hH hM;simp only [AB] at h2;obtain ⟨ov,ws,rfl,_,rfl⟩:=h2;have hc:w.cell? ⟨b,0,none⟩=some ov:=by simpa using h3 0 ov rfl
 have hf:w.frozen? ⟨b,0,none⟩=false:=by simp [World.frozen?,h1]
 refine (As.hitF ⟨b0,o0+0,none⟩ ⟨b,0,none⟩ ov w (PT hG R) hc hf).mono ?_;rintro e w' ⟨rfl,rfl⟩;have hr:=fun W4 hb=>T5 (W4:=W4) (a := .vptr cs 0) (v := .pointer (some ⟨b0,o0+0,none⟩)) R hH hM h1 hb (by simp only [AA];exact ⟨b0,o0,vs0,rfl,hr0,xJ⟩)
 exact ⟨g,_,rfl,(hr _ (Ms w _ _ _ _)).1,(hr _ (Ms w _ _ _ _)).2,by simp [AA]⟩
theorem fa {c:Int} {id:Nat} {x:AV} {H:AH} (hH:H.at id=some (.box [x])) :
  CS zP Cg 71 [.iface 134 (.int .i64 c),.iface 159 (.ptr id 0)] H (.bool true) (H.set id (some (.box [.int .i64 c]))):=by
 intro g w cargs R hG hA;simp only [AB,AA] at hA;obtain ⟨v0,ws0,rfl,⟨y0,rfl,rfl⟩,v1,ws1,rfl,⟨y1,rfl,b,hM,rfl⟩,rfl⟩:=hA;obtain ⟨vs,el,h1,h2,h3⟩:=Hh R hH hM;simp only [AB] at h2;obtain ⟨ov,ws,rfl,_,rfl⟩:=h2;have hc:w.cell? ⟨b,0,none⟩=some ov:=by simpa using h3 0 ov rfl
 have hf:w.frozen? ⟨b,0,none⟩=false:=by simp [World.frozen?,h1]
 refine (As.hitN c ⟨b,0,none⟩ ov w (PT hG R) hc hf).mono ?_;rintro e w' ⟨rfl,rfl⟩;have hr:=fun W4 hb=>T5 (W4:=W4) (a := .int .i64 c) (v := .int .i64 c) R hH hM h1 hb (by simp only [AA])
 exact ⟨g,_,rfl,(hr _ (Ms w _ _ _ _)).1,(hr _ (Ms w _ _ _ _)).2,by simp [AA]⟩
theorem fb {c:Int} {id:Nat} {H:AH} :
  CS zP Cg 71 [.iface 134 (.int .i64 c),.iface 154 (.ptr id 0)] H (.bool false) H:=by
 intro g w cargs R hG hA;simp only [AB,AA] at hA;obtain ⟨v0,ws0,rfl,⟨y0,rfl,rfl⟩,v1,ws1,rfl,⟨y1,rfl,b,hM,rfl⟩,rfl⟩:=hA;refine (As.missF c ⟨b,0,none⟩ w (PT hG R)).mono ?_;rintro e w' ⟨rfl,rfl⟩;obtain ⟨R',P'⟩:=R.below (T6 w _ _ _);exact ⟨g,_,rfl,R',P',by simp [AA]⟩
end Go.Proofs.YtejjlojfgcgopaaGreatDoor
