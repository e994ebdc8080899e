/- Regions within a round of a range over a function, and withi .. errors.Is and errors.As at faults and error numbers, aS cont -/
import Derived.Test.YtffcldkblcmmiaaGreatDoorZt4
import Derived.RangeFuncRecord
import Derived.LoopNIn
import Derived.OrdersIn
import Derived.Test.YtffcldkblcmmiaaGreatDoorChecked
import Derived.KernelRfl
import Derived.Test.YtffcldkblcmmiaaGreatDoorRows
import Derived.Lib.Bytealg
import Derived.Lib.Strings
import Derived.Lib.Walk
import Derived.LaidEql
import Derived.Stop.Asserts
import Derived.RowKitTokens
set_option linter.unusedSimpArgs false
set_option linter.unusedVariables false
namespace Go.Proofs.YtffcldkblcmmiaaGreatDoor
noncomputable abbrev zP:Program:=Tryz.prog
end Go.Proofs.YtffcldkblcmmiaaGreatDoor
namespace Go.Proofs.Fw
open Go.RowKit
def C9 (ro:Option Nat):Fence:={Fence.wide with round:=ro}
theorem fo (l:Nat):(C9 none).inRound l=C9 (some l):=rfl
theorem fp {ro:Option Nat} {n:Nat} {P:Program} {f:FuncId} {args:Array Value} {w:World} {R:Ending→World→Prop} (h:Calls P f args w R):CallsIn (C9 ro) n P f args w R:=(callsIn_wide (n:=n)).2 h
theorem fq {n:Nat} {P:Program} {f:FuncId} {args:Array Value} {w:World} {R:Ending→World→Prop} (h:CallsIn (C9 none) n P f args w R):Calls P f args w R:=(callsIn_wide (n:=n)).1 h
def KO (o:Op):Bool:=match o with
 |.defer _=>false
 |_=>true
section
variable {P:Program} {ro:Option Nat} {n:Nat}
theorem Pv {o:Oper} (t7:KO o.op=true) {K:Act→World→Prop} {Q:Exit→Act→World→Prop} {a:Act} {w:World} (h:o.wp P a w K Q):o.wpIn (C9 ro) n P a w K Q:=by
 refine ⟨fun _ _=>trivial,?_⟩;have z5:Oper.semAt (C9 ro).round a.eval o=execOp a.eval o:=Oper.semAt_eq _ _ _ (fun c hc=>by rw [hc] at t7;cases t7);rw [z5];unfold Oper.wp at h
 revert h
 generalize (execOp a.eval o).run P w=r;intro h;cases r with
 |ok nx w' =>
  cases nx with
  |enter f args=>exact ⟨(fun hh=>by cases hh),fp h⟩
  |row r args =>refine ⟨(fun hh=>by cases hh),?_⟩;intro c cs _;obtain ⟨v,w2,hr,hs⟩:=h c cs;exact ⟨v,w2,hr,(stepsIn_wide (P:=P)).2 hs⟩
  |_=>first|exact h|exact h.elim
 |halt r w'=>cases r<;>first|exact h|exact h.elim
theorem NE {ops:Array Oper} {Q:Exit→Act→World→Prop} (uM:¬LetsOut Q) (t7:∀(i:Nat) (o:Oper),ops[i]? = some o→KO o.op=true):∀(is:List Nat) (a:Act) (w:World),wpOps P ops Q is a w→wpOpsIn (C9 ro) n P ops Q is a w
 |[],a,w,h=>h
 |i::is,a,w,h=>by
  simp only [wpOps] at h;simp only [wpOpsIn];cases ho:ops[i]? with
  |none =>rw [ho] at h;exact NE uM t7 is a w h
  |some o =>
   rw [ho] at h;simp only at h ⊢
   split
   ·rename_i hw
    rw [if_pos hw] at h;rcases h with h|h
    ·exact Oper.wpIn_mono (fun a w h=>NE uM t7 is a w h) (Pv (t7 i o ho) h)
    ·exact absurd h.2 uM
   ·rename_i hw
    rw [if_neg hw] at h;exact ⟨fun _ _=>trivial,NE uM t7 is _ w h⟩
theorem NF {md:Region.Mode} {ops:Array Oper} {Q:Exit→Act→World→Prop} (uM:¬LetsOut Q) (t7:∀(i:Nat) (o:Oper),ops[i]? = some o→KO o.op=true):∀(m:Nat) (listed:Array Bool) (a:Act) (w:World),wpAny P md ops Q m listed a w→wpAnyIn (C9 ro) n P md ops Q m listed a w
 |0,listed,a,w,h=>h
 |m+1,listed,a,w,h=>by
  refine ⟨h.1,fun i hi => ?_⟩;have h2:=h.2 i hi;unfold wpOp at h2;unfold wpOpIn;cases ho:ops[i]? with
  |none =>rw [ho] at h2;exact NF uM t7 m _ a w h2
  |some o =>
   rw [ho] at h2;simp only at h2 ⊢
   split
   ·rename_i hw
    rw [if_pos hw] at h2;rcases h2 with h2|h2
    ·exact Oper.wpIn_mono (fun a w h=>NF uM t7 m _ a w h) (Pv (t7 i o ho) h2)
    ·exact absurd h2.2 uM
   ·rename_i hw
    rw [if_neg hw] at h2;exact ⟨fun _ _=>trivial,NF uM t7 m _ _ w h2⟩
variable {E:Env} {O:Orc} {g:Gh} {H:AH} {w:World}
def KP (ops:Array Oper):Bool:=ops.toList.all fun o=>KO o.op
theorem Um {ops:Array Oper} (h:KP ops=true) (i:Nat) (o:Oper) (hi:ops[i]? = some o):KO o.op=true :=List.all_eq_true.1 h o (by rw [←Array.getElem?_toList] at hi;exact List.mem_of_getElem? hi)
theorem ft (X:Cx O P E) {ops:Array Oper} (t7:KP ops=true) {id:Nat} {t t1:List AV} {H1:AH} {a:Act} {Q:Exit→Act→World→Prop} (h:Ed O P E ops t H=some (t1,H1))
  (R:Rel g H w) (hG:An E g) (hT:AB g t a.tmps.toList) (hd:a.defers=[])
  (hQ:∀g' a' w',Rel g' H1 w'→AK g H w g' H1 w'→AB g' t1 a'.tmps.toList→a'.defers=[]→Q .normal a' w'):(Code.region id ops true).wpIn (C9 ro) n P Q a w:=by
 have h1:=T8 X.sound X.meth (Q:=fun e a' w'=>e = .normal∧Q .normal a' w') h R hG hT hd (fun g' a' w' R' p' q r=>⟨rfl,hQ g' a' w' R' p' q r⟩);refine wpIn_mono (wpIn_region_any X.mix (NF (by rintro ⟨_,_,h,_⟩;cases h) (Um t7) _ _ _ _ h1)) ?_;rintro e a' w' ⟨rfl,h⟩;exact h
theorem WTr.draw {ks:List Nat} {bad:List (Nat × Nat)} {ops:Array Oper} {t:List AV} {K:List AV→AH→Prop} (hd:Ie ops ks bad=true)
  (h:WTr O P E ops ks (bad.flatMap fun p=>[p.1,p.2]) 0 (AX E ops.toList H.length) t (grow H (Ai E ops.toList)) [] fun t1 H1 f=>G0 f bad=true∧K t1 H1):∃t1 H1,Ed O P E ops t H=some (t1,H1)∧K t1 H1:=by
 simp only [Ie,Bool.and_eq_true] at hd;obtain ⟨t1,H1,its,h1,h2,h3,h4⟩:=WTr.items (ms:=CU [] ops.toList) h;obtain ⟨q1,q2,q3,q4⟩:=LK _ _ _ _ _ _ _ h1
 have hp:its.Pairwise fun a b=>a.i≠b.i:=by
  have:(its.map (·.i)).Pairwise (· ≠ ·):=by rw [q4];exact (List.pairwise_lt_range' ..).imp (fun h=>Nat.ne_of_lt h)
  exact List.pairwise_map.1 this
 rw [List.nil_append] at h3;have ye:its.map BX.syn=EB 0 (CU [] ops.toList) (AX E ops.toList H.length):=Pp h1;have hc:chk ops its=true:=Po hp h2 h3 its (fun _ h=>h) (by rw [ye,LP];exact hd.1);refine ⟨t1,H1,?_,h4⟩;unfold Ed;rw [h1];simp only;rw [if_pos ⟨hc,hd.2⟩]
end
section
variable {P:Program} {E:Env} {O:Orc} {ro:Option Nat} {B:Bs} {Ω:World→Prop} {t:List AV} {H:AH} {Q:AEx→List AV→AH→Prop} {D:List Deferred}
def GW (B:Bs) (D:List Deferred) (t:List AV) (H:AH) (a:Act) (w:World):Prop:=∃g,Rel g H w∧AK B.g B.H B.w g H w∧AB g t a.tmps.toList∧a.defers=D
theorem GW.nil {a:Act} {w:World}:GW B [] t H a w↔Sat B t H a w:=Iff.rfl
def TrR (ro:Option Nat) (P:Program) (B:Bs) (Ω:World→Prop) (D:List Deferred) (c:Code) (t:List AV) (H:AH) (Q:AEx→List AV→AH→Prop):Prop :=∀(Q':Exit→Act→World→Prop) a w,GW B D t H a w→(∀ex t' H' a' w',Q ex t' H'→GW B D t' H' a' w'→Q' ex.ex a' w')→(∀a' w',a'.defers=D→Ω w'→Q' .ret a' w')→c.wpIn (C9 ro) 0 P Q' a w
theorem TrR.mono {c:Code} {Q1:AEx→List AV→AH→Prop} (h:TrR ro P B Ω D c t H Q1) (hQ:∀e t H,Q1 e t H→Q e t H):TrR ro P B Ω D c t H Q :=fun Q' a w hs k ho=>h Q' a w hs (fun ex t' H' a' w' h1 h2=>k ex t' H' a' w' (hQ _ _ _ h1) h2) ho
theorem TrR.skip (h:Q .normal t H):TrR ro P B Ω D .skip t H Q:=fun Q' a w hs k _=>wpIn_skip (k _ _ _ _ _ h hs)
theorem TrR.ret (h:Q .ret t H):TrR ro P B Ω D .ret t H Q:=fun Q' a w hs k _=>wpIn_ret (k _ _ _ _ _ h hs)
theorem TrR.exit {id:Nat} (h:Q (.exit id) t H):TrR ro P B Ω D (.exit id) t H Q:=fun Q' a w hs k _=>wpIn_exit (k _ _ _ _ _ h hs)
theorem TrR.seq {c d:Code} (h:TrR ro P B Ω D c t H (Goes (fun t1 H1=>TrR ro P B Ω D d t1 H1 Q) Q)):TrR ro P B Ω D (.seq c d) t H Q:=by
 intro Q' a w hs k ho;refine wpIn_seq (h _ a w hs (fun ex t' H' a' w' h1 h2 => ?_) (fun a' w' hd h=>ho a' w' hd h));cases ex with
 |normal=>exact h1 Q' a' w' h2 k ho
 |exit id=>exact k _ _ _ _ _ h1 h2
 |ret=>exact k _ _ _ _ _ h1 h2
theorem TrR.block {id:Nat} {c:Code} (h:TrR ro P B Ω D c t H (Blk id Q)):TrR ro P B Ω D (.block id c) t H Q:=by
 intro Q' a w hs k ho;refine wpIn_block (h _ a w hs (fun ex t' H' a' w' h1 h2 => ?_) (fun a' w' hd h=>ho a' w' hd h));cases ex with
 |normal=>exact k _ _ _ _ _ h1 h2
 |ret=>exact k _ _ _ _ _ h1 h2
 |exit id' =>
  simp only [Blk] at h1;simp only [AEx.ex,Exit.inBlock]
  split
  ·rename_i hid
   rw [if_pos hid] at h1;exact k _ _ _ _ _ h1 h2
  ·rename_i hid
   rw [if_neg hid] at h1;exact k _ _ _ _ _ h1 h2
theorem TrR.cond (hG:An E B.g) {c:Operand} {x y:Code} (b:Bool) (hc:AC E t c = .bool b) (h1:b=true→TrR ro P B Ω D x t H Q) (h2:b=false→TrR ro P B Ω D y t H Q):TrR ro P B Ω D (.cond c x y) t H Q:=by
 intro Q' a w hs k ho;obtain ⟨g,R,p,hT,hd⟩:=hs
 have he:a.eval c = .bool b:=by have:=IU (hG.mono p.le) hT c;rw [hc] at this;simpa [AA] using this
 cases b with
 |true=>exact wpIn_cond_true he (h1 rfl Q' a w ⟨g,R,p,hT,hd⟩ k ho)
 |false=>exact wpIn_cond_false he (h2 rfl Q' a w ⟨g,R,p,hT,hd⟩ k ho)
def fu (B:Bs) (D:List Deferred) (t:List AV) (H:AH) (t':List AV) (H':AH):Prop:=∀a w,GW B D t H a w→GW B D t' H' a w
theorem AE.toD {t':List AV} {H':AH} (h:AE B t H t' H'):fu B D t H t' H':=fun a w ⟨g,R,p,hT,hd⟩=>by obtain ⟨g',R',p',hT',_⟩:=h {a with defers:=[]} w ⟨g,R,p,hT,rfl⟩;exact ⟨g',R',p',hT',hd⟩
theorem TrR.less {c:Code} {t':List AV} {H':AH} (hl:AE B t H t' H') (h:TrR ro P B Ω D c t' H' Q):TrR ro P B Ω D c t H Q :=fun Q' a w hs k ho=>h Q' a w (hl.toD a w hs) k ho
theorem TrR.loop {L:Code} (I:Nat→List AV→AH→Prop) (k:Nat) (hI:I k t H)
  (h:∀k t H,I k t H→TrR ro P B Ω D L t H (Goes (fun t1 H1=>∃j t2 H2,j<k∧AE B t1 H1 t2 H2∧I j t2 H2) Q)):TrR ro P B Ω D (.loop L) t H Q:=by
 intro Q' a w hs hk ho;refine wpIn_loop_rounds (k+1) ?_
 have key:∀(m k:Nat) {t:List AV} {H:AH} {a:Act} {w:World},k<m→I k t H→GW B D t H a w→Code.roundsIn (C9 ro) 0 P L Q' m a w:=by
  intro m
  induction m with
  |zero=>intro k t H a w hm;omega
  |succ m ih =>
   intro k t H a w hm hI hs;rw [roundsIn_succ];refine h k t H hI _ a w hs (fun ex t' H' a' w' h1 h2 => ?_) (fun a' w' hd h=>ho a' w' hd h);cases ex with
   |normal =>obtain ⟨j,t2,H2,hj,hl,hI'⟩:=h1;exact ih j (by omega) hI' (hl.toD a' w' h2)
   |exit id=>exact hk _ _ _ _ _ h1 h2
   |ret=>exact hk _ _ _ _ _ h1 h2
 exact key (k+1) k (by omega) hI hs
theorem Pw (hS:AS P E O) (hM:C7 P E) {ops:Array Oper} {Q:Exit→Act→World→Prop}:∀(ps:List (Oper × Nat)) (is:List Nat) {g:Gh} {H:AH} {w:World} {tmps:List AV} {a:Act}
  {tmps':List AV} {H':AH},A8 O P E ops ps tmps H=some (tmps',H')→JU (fun i p=>ops[i]? = some p.1) is ps→FY E H ps→Rel g H w→An E g→AB g tmps a.tmps.toList→a.defers=D →
  (∀g' a' w',Rel g' H' w'→AK g H w g' H' w'→AB g' tmps' a'.tmps.toList→a'.defers=D→Q .normal a' w')→wpOps P ops Q is a w
 |[],is,g,H,w,tmps,a,tmps',H',h,hf,_,R,_,hT,hd,hQ=>by cases hf;simp only [A8] at h;injection h with h;simp only [Prod.mk.injEq] at h;obtain ⟨rfl,rfl⟩:=h;exact hQ g a w R (AK.refl g H w) hT hd
 |(o,fid)::ps,is,g,H,w,tmps,a,tmps',H',h,hf,hr,R,hG,hT,hd,hQ=>by
  cases hf with
  |cons hi hf =>
   rename_i i is;cases hr with
   |cons _ _ r1 r2 r3 =>
    simp only [A8] at h;simp only [wpOps,hi]
    split at h
    ·cases h
    ·rename_i hw
     rw [HU hT hw];simp only [Bool.false_eq_true,if_false];exact Pw hS hM ps is h hf r3 R hG (HT hT (by simp [AV.nothing,AA,AB,undef])) (by rw [FF];exact hd) hQ
    ·rename_i hw
     rw [HU hT hw];simp only [if_true]
     split at h
     ·rename_i v H1 sX
      refine .inl (PM hS hM R hG hT r1 sX fun g' u w' R' p' hv => ?_);obtain ⟨f1,f2⟩:=PN hS sX
      refine Pw hS hM ps is h hf (FY.step (p:=(o,fid)) r3 f1 fun q hq hn hl hfr => ?_) R' (hG.mono p'.le) (HT (AB.mono p'.le _ _ hT) hv) (by rw [FF];exact hd)
       (fun g2 a2 w2 R2 p2=>hQ g2 a2 w2 R2 (AK.trans R p' p2))
      refine f2 q.2 hl hfr ?_
      by_cases uM:Ap E o.op=true
      ·exact .inl (r2 uM q hq hn)
      ·exact .inr (by simpa using uM)
     ·cases h
theorem TrR.region (X:Cx O P E) (hG:An E B.g) {id:Nat} {ops:Array Oper} (t7:KP ops=true)
  (h:WOx O P E ops (AX E ops.toList H.length) t (grow H (Ai E ops.toList)) fun t1 H1=>Q .normal t1 H1):TrR ro P B Ω D (.region id ops false) t H Q:=by
 intro Q' a w hs k _;obtain ⟨g,R,p,hT,yf⟩:=hs;have hw:=WOx.sound h;unfold WO at hw;cases he:A8 O P E ops (AX E ops.toList H.length) t (grow H (Ai E ops.toList)) with
 |none=>rw [he] at hw;exact hw.elim
 |some x =>
  obtain ⟨t',H'⟩:=x;rw [he] at hw;have hf:=Mw (E:=E) ops ops.toList H.length 0 (fun j=>by simp);rw [Array.length_toList,←List.range_eq_range'] at hf
  have h1:wpOps P ops (fun e a' w'=>e = .normal∧Q' .normal a' w') (List.range ops.size) a w:=by
   refine Pw X.sound X.meth _ _ he hf (Mv H 0 (fun _ _ _=>trivial) ops.toList H.length _ (fun id hid => ?_) (by rw [JV,List.length_append,List.length_replicate];exact Nat.le_refl _)) (R.grow _) (hG.mono p.le) hT yf
    (fun g' a' w' R' p' q r=>⟨rfl,k .normal t' H' a' w' hw ⟨g',R',AK.trans B.R p p'.ungrow,q,r⟩⟩)
   rw [HW];exact Cy hid
  refine wpIn_mono (wpIn_region (NE (by rintro ⟨_,_,h,_⟩;cases h) (Um t7) _ _ _ h1)) ?_;rintro e a' w' ⟨rfl,h⟩;exact h
theorem TrR.turns (X:Cx O P E) (hG:An E B.g) (ks:List Nat) (bad:List (Nat × Nat)) {id:Nat} {ops:Array Oper} (t7:KP ops=true) (hd:Ie ops ks bad=true)
  (h:WTr O P E ops ks (bad.flatMap fun p=>[p.1,p.2]) 0 (AX E ops.toList H.length) t (grow H (Ai E ops.toList)) [] fun t1 H1 f=>G0 f bad=true∧Q .normal t1 H1):TrR ro P B Ω [] (.region id ops true) t H Q:=by
 intro Q' a w hs k _;obtain ⟨g,R,p,hT,yf⟩:=hs;obtain ⟨t',H',he,hw⟩:=WTr.draw hd h;exact ft X t7 he R (hG.mono p.le) hT yf fun g' a' w' R' p' q r=>k .normal t' H' a' w' hw ⟨g',R',AK.trans B.R p p',q,r⟩
def isR (S:List Nat):Code→Bool
 |.region id _ false=>S.contains id
 |_=>false
def softR (S:List Nat):Code→Code
 |.region id ops true => .loop (.scope (.region id ops true))
 |.region id ops false=>if S.contains id=true then .loop (.scope (.region id ops false)) else .region id ops false
 |.rangeFunc a b c d => .loop (.scope (.rangeFunc a b c d))
 |.seq a b=>if isR S a=true then .loop (.scope (.seq a b)) else .seq (softR S a) (softR S b)
 |.cond c a b => .cond c (softR S a) (softR S b)
 |.block id c => .block id (softR S c)
 |c=>c
theorem fw (S:List Nat) (id:Nat) (ops:Array Oper):softR S (.region id ops true) = .loop (.scope (.region id ops true)):=AP rfl
theorem fx (S:List Nat) (id:Nat) (ops:Array Oper):softR S (.region id ops false)=if S.contains id=true then .loop (.scope (.region id ops false)) else .region id ops false:=AP rfl
theorem fy (S:List Nat) (a:Operand) (b:Array Tmp) (c d:Code):softR S (.rangeFunc a b c d) = .loop (.scope (.rangeFunc a b c d)):=AP rfl
theorem gA (S:List Nat) (a b:Code):softR S (.seq a b)=if isR S a=true then .loop (.scope (.seq a b)) else .seq (softR S a) (softR S b):=AP rfl
theorem gB (S:List Nat) (id:Nat) (ops:Array Oper):isR S (.region id ops false)=S.contains id:=AP rfl
theorem gC (S:List Nat) (id:Nat) (ops:Array Oper):isR S (.region id ops true)=false:=AP rfl
theorem gD (S:List Nat) (a b:Code):isR S (.seq a b)=false:=AP rfl
theorem gE (S:List Nat) (c:Operand) (a b:Code):isR S (.cond c a b)=false:=AP rfl
theorem gF (S:List Nat) (id:Nat) (c:Code):isR S (.block id c)=false:=AP rfl
theorem gG (S:List Nat) (c:Code):isR S (.loop c)=false:=AP rfl
theorem gH (S:List Nat):isR S .skip=false:=AP rfl
attribute [simp] gB gC gD gE gF gG gH
theorem gI (S:List Nat) (c:Operand) (a b:Code):softR S (.cond c a b) = .cond c (softR S a) (softR S b):=AP rfl
theorem gJ (S:List Nat) (id:Nat) (c:Code):softR S (.block id c) = .block id (softR S c):=AP rfl
theorem gK (S:List Nat) (c:Code):softR S (.loop c) = .loop c:=AP rfl
theorem gL (S:List Nat):softR S .skip = .skip:=AP rfl
theorem gM (S:List Nat):softR S .ret = .ret:=AP rfl
theorem gN (S:List Nat) (id:Nat):softR S (.exit id) = .exit id:=AP rfl
attribute [simp] fw fx fy gA gI gJ gK gL gM gN
def G4:Code→Bool
 |.loop (.scope _)=>false
 |.region _ ops _=>KP ops
 |.seq a b=>G4 a&&G4 b
 |.cond _ a b=>G4 a&&G4 b
 |.block _ c=>G4 c
 |.scope _=>false
 |_=>true
def LpR (ro:Option Nat) (P:Program) (B:Bs) (Ω:World→Prop) (D:List Deferred):Et:=fun c t H Q=>match c with
 |.scope r=>TrR ro P B Ω D r t H Q
 |c=>TrR ro P B Ω D (.loop c) t H Q
theorem Wt.softR (X:Cx O P E) (hG:An E B.g) (S:List Nat):∀{c:Code} {t:List AV} {H:AH} {Q:AEx→List AV→AH→Prop},G4 c=true→Wt O P E (LpR ro P B Ω D) (Fw.softR S c) t H Q→TrR ro P B Ω D c t H Q
 |.skip,t,H,Q,_,h=>TrR.skip h
 |.region id ops false,t,H,Q,hd,h=>by
  simp only [Fw.softR] at h
  split at h
  ·exact h
  ·exact TrR.region X hG hd h
 |.region id ops true,t,H,Q,_,h=>h
 |.seq a b,t,H,Q,hd,h=>by
  simp only [G4,Bool.and_eq_true] at hd;simp only [Fw.softR] at h
  split at h
  ·exact h
  ·simp only [Wt] at h
   refine TrR.seq (TrR.mono (Wt.softR X hG S hd.1 h) ?_);intro e t1 H1 h1;cases e with
   |normal=>exact Wt.softR X hG S hd.2 h1
   |exit id=>exact h1
   |ret=>exact h1
 |.cond c a b,t,H,Q,hd,h=>by
  simp only [G4,Bool.and_eq_true] at hd;simp only [Fw.softR,Wt] at h;unfold WB at h
  split at h
  ·rename_i v hv
   exact TrR.cond hG v hv (fun e=>Wt.softR X hG S hd.1 (h.1 e)) (fun e=>Wt.softR X hG S hd.2 (h.2 e))
  ·exact h.elim
 |.block id c,t,H,Q,hd,h=>by simp only [G4] at hd;simp only [Fw.softR,Wt] at h;exact TrR.block (Wt.softR X hG S hd h)
 |.exit id,t,H,Q,_,h=>TrR.exit h
 |.ret,t,H,Q,_,h=>TrR.ret h
 |.loop c,t,H,Q,hd,h=>by simp only [Fw.softR,Wt] at h;cases c<;>first|exact h|cases hd
 |.rangeFunc _ _ _ _,_,_,_,_,h=>h
 |.scope _,_,_,_,hd,_=>by cases hd
 |.label _,_,_,_,_,h=>h.elim
 |.goto _,_,_,_,_,h=>h.elim
 |.refuse _,_,_,_,_,h=>h.elim
theorem TrR.go (X:Cx O P E) (hG:An E B.g) (S:List Nat) {c:Code} (hd:G4 c=true) (h:Go O P E (LpR ro P B Ω D) (softR S c) [] t H Q):TrR ro P B Ω D c t H Q:=Wt.softR X hG S hd h
theorem LpR.turns {Lp:Et} {ks0:List Fr} {O':Orc} (X:Cx O' P E) (hG:An E B.g) (ks:List Nat) (bad:List (Nat × Nat)) {id:Nat} {ops:Array Oper} (t7:KP ops=true) (hd:Ie ops ks bad=true)
  (h:WTr O' P E ops ks (bad.flatMap fun p=>[p.1,p.2]) 0 (AX E ops.toList H.length) t (grow H (Ai E ops.toList)) [] fun t1 H1 f=>G0 f bad=true∧Go O P E Lp .skip ks0 t1 H1 Q):LpR ro P B Ω [] (.scope (.region id ops true)) t H (FI O P E Lp ks0 Q) :=
 TrR.turns X hG ks bad t7 hd (by simpa only [LS] using h)
theorem LpR.loopN {L:Code} (X:Cx O P E) (hG:An E B.g) (S:List Nat) (hd:G4 L=true) (I:Nat→List AV→AH→Prop) (k:Nat) {t':List AV} {H':AH} (hl:AE B t H t' H') (hI:I k t' H')
  (h:∀k t H,I k t H→Go O P E (LpR ro P B Ω D) (softR S L) [] t H (Goes (Nxt B I k) Q)):LpR ro P B Ω D L t H Q:=by
 have key:TrR ro P B Ω D (.loop L) t H Q:=TrR.less hl (TrR.loop I k hI fun k t H hI=>TrR.go X hG S hd (h k t H hI));cases L<;>first|exact key|cases hd
end
end Go.Proofs.Fw
namespace Go.Proofs.YtffcldkblcmmiaaGreatDoor.Ty
open Go.RowKit Go.Proofs.Fw
set_option maxRecDepth 100000
theorem sz2:Af zP 2=some 1:=by kernel_rfl
theorem ag2:A4 zP 2=some false:=by kernel_rfl
theorem zv2:Am zP 2=some (.int .i64 0):=by kernel_rfl
theorem sz3:Af zP 3=some 1:=by kernel_rfl
theorem ag3:A4 zP 3=some false:=by kernel_rfl
theorem zz2:Am zP 3=some (.int .i64 0)∧Af zP 4=some 1∧A4 zP 4=some false∧Am zP 4=some (.bool false):=by and_intros<;>kernel_rfl
theorem sz5:Af zP 5=some 1:=by kernel_rfl
theorem ag5:A4 zP 5=some false:=by kernel_rfl
theorem zv5:Am zP 5=some (.int .u8 0):=by kernel_rfl
theorem sz9:Af zP 9=some 1:=by kernel_rfl
theorem ag9:A4 zP 9=some false:=by kernel_rfl
theorem zz3:Am zP 9=some (.str [])∧Af zP 25=some 1∧A4 zP 25=some false∧Am zP 25=some (.nilSlice)∧B6 zP 25 1=true∧Af zP 27=some 1∧A4 zP 27=some false∧Am zP 27=some (.nilIface)∧Af zP 31=some 1∧A4 zP 31=some false∧Am zP 31=some (.nilSlice)∧B6 zP 31 2=true∧Af zP 33=some 2∧A4 zP 33=some true∧Am zP 33=some (.agg [.nilSlice,.int .i64 0])∧fI zP 33 0=(0,31,true)∧fI zP 33 1=(1,3,true)∧Af zP 75=some 1∧A4 zP 75=some false∧Am zP 75=some (.nilPtr)∧Af zP 83=some 1∧A4 zP 83=some false∧Am zP 83=some (.int .i64 0)∧Af zP 85=some 3:=by and_intros<;>kernel_rfl
theorem zz4:A4 zP 85=some true∧Am zP 85=some (.agg [.str [],.int .i64 0,.nilIface])∧fI zP 85 0=(0,9,true)∧fI zP 85 1=(1,3,true)∧fI zP 85 2=(2,27,true)∧Af zP 87=some 2∧A4 zP 87=some true∧Am zP 87=some (.agg [.str [],.int .i64 0])∧fI zP 87 0=(0,9,true)∧fI zP 87 1=(1,3,true)∧Af zP 137=some 1∧A4 zP 137=some false∧Am zP 137=some (.nilSlice):=by and_intros<;>kernel_rfl
theorem ec137:B6 zP 137 4=true:=by kernel_rfl
theorem zz5:Af zP 162=some 1∧A4 zP 162=some false∧Am zP 162=some (.nilSlice):=by and_intros<;>kernel_rfl
theorem ec162:B6 zP 162 4=true:=by kernel_rfl
theorem zz6:Af zP 170=some 4∧A4 zP 170=some true∧Am zP 170=some (.agg [.int .i64 0,.str [],.int .i64 0,.int .i64 0])∧fI zP 170 0=(0,3,true)∧fI zP 170 1=(1,9,true)∧fI zP 170 2=(2,3,true)∧fI zP 170 3=(3,2,true)∧Af zP 183=some 4∧A4 zP 183=some true∧Am zP 183=some (.agg [.int .i64 0,.str [],.int .i64 0,.int .i64 0])∧fI zP 183 0=(0,3,true)∧fI zP 183 1=(1,9,true)∧fI zP 183 2=(2,3,true)∧fI zP 183 3=(3,2,true)∧Af zP 219=some 1∧A4 zP 219=some false∧Am zP 219=some (.int .u64 0)∧Af zP 243=some 1∧A4 zP 243=some false∧Am zP 243=some (.nilPtr)∧Af zP 258=some 3∧A4 zP 258=some true∧Am zP 258=some (.agg [.str [],.str [],.nilIface])∧fI zP 258 0=(0,9,true):=by and_intros<;>kernel_rfl
theorem zz7:fI zP 258 1=(1,9,true)∧fI zP 258 2=(2,27,true)∧AI zP 20=true∧AI zP 49=true∧AI zP 59=true∧AI zP 71=true∧AI zP 72=true∧AI zP 80=true∧AI zP 81=true∧AI zP 82=true∧AI zP 83=true∧AI zP 84=true∧AI zP 85=true∧AI zP 100=true∧AI zP 125=true∧AI zP 126=true∧AI zP 141=true∧AI zP 151=true:=by and_intros<;>kernel_rfl
attribute [simp] sz2 ag2 zv2 Tryz.underlying2 sz3 ag3 zz2 Tryz.underlying3 Tryz.underlying4 sz5 ag5 zv5 Tryz.underlying5 sz9 ag9 zz3 Tryz.underlying9
attribute [simp] Tryz.underlying25 Tryz.underlying27 Tryz.underlying31 Tryz.underlying33
attribute [simp] Tryz.underlying75 Tryz.underlying83 zz4 Tryz.underlying85
attribute [simp] Tryz.underlying87 ec137 Tryz.underlying137 zz5 ec162 Tryz.underlying162 zz6 Tryz.underlying170
attribute [simp] Tryz.underlying183 Tryz.underlying219 Tryz.underlying243 zz7
attribute [simp] Tryz.underlying258
end Go.Proofs.YtffcldkblcmmiaaGreatDoor.Ty
namespace Go.Proofs.YtffcldkblcmmiaaGreatDoor.Tw
open Go.RowKit Go.Proofs.Fw
set_option maxRecDepth 100000
theorem zz8:Af zP 77=some 1∧A4 zP 77=some false∧Am zP 77=some (.nilPtr)∧Af zP 88=some 1∧A4 zP 88=some false∧Am zP 88=some (.nilPtr)∧AI zP 22=true:=by and_intros<;>kernel_rfl
theorem go25:AI zP 25=true:=by kernel_rfl
theorem zz9:AI zP 44=true∧AI zP 192=true:=by and_intros<;>kernel_rfl
attribute [simp] zz8 Tryz.underlying77 Tryz.underlying88 go25 zz9
end Go.Proofs.YtffcldkblcmmiaaGreatDoor.Tw
namespace Go.Proofs.YtffcldkblcmmiaaGreatDoor.Tx
open Go.RowKit Go.Proofs.Fw
set_option maxRecDepth 100000
theorem zz10:Af zP 41=some 1∧A4 zP 41=some false∧Am zP 41=some (.nilSlice)∧B6 zP 41 4=true∧Af zP 43=some 4∧A4 zP 43=some true∧Am zP 43=some (.agg [.int .i64 0,.int .i64 0,.str [],.nilSlice])∧fI zP 43 0=(0,3,true)∧fI zP 43 1=(1,2,true)∧fI zP 43 2=(2,9,true)∧fI zP 43 3=(3,41,true)∧Af zP 45=some 9∧A4 zP 45=some true∧Am zP 45=some (.agg [.str [],.int .i64 0,.int .i64 0,.str [],.nilSlice,.int .i64 0,.int .i64 0,.str [],.nilSlice])∧fI zP 45 0=(0,9,true)∧fI zP 45 1=(1,43,true)∧fI zP 45 2=(5,43,true)∧Af zP 53=some 1∧A4 zP 53=some false∧Am zP 53=some (.nilSlice)∧B6 zP 53 4=true∧Af zP 55=some 4∧A4 zP 55=some true∧Am zP 55=some (.agg [.int .i64 0,.int .i64 0,.str [],.nilSlice]):=by and_intros<;>kernel_rfl
theorem zz11:fI zP 55 0=(0,3,true)∧fI zP 55 1=(1,2,true)∧fI zP 55 2=(2,9,true)∧fI zP 55 3=(3,53,true)∧Af zP 57=some 9∧A4 zP 57=some true∧Am zP 57=some (.agg [.str [],.int .i64 0,.int .i64 0,.str [],.nilSlice,.int .i64 0,.int .i64 0,.str [],.nilSlice])∧fI zP 57 0=(0,9,true)∧fI zP 57 1=(1,55,true)∧fI zP 57 2=(5,55,true)∧Af zP 203=some 1∧A4 zP 203=some false∧Am zP 203=some (.nilPtr)∧Af zP 204=some 4∧A4 zP 204=some true∧Am zP 204=some (.agg [.nilSlice,.int .i64 0,.nilSlice,.int .i64 0])∧fI zP 204 0=(0,162,true)∧fI zP 204 1=(1,3,true)∧fI zP 204 2=(2,33,true)∧Af zP 227=some 1∧A4 zP 227=some false∧Am zP 227=some (.nilPtr)∧Af zP 229=some 4∧A4 zP 229=some true:=by and_intros<;>kernel_rfl
theorem zz12:Am zP 229=some (.agg [.nilSlice,.int .i64 0,.int .i64 0,.nilIface])∧fI zP 229 0=(0,137,true)∧fI zP 229 1=(1,3,true)∧fI zP 229 2=(2,3,true)∧fI zP 229 3=(3,27,true)∧AI zP 89=true∧AI zP 92=true∧AI zP 93=true∧AI zP 106=true∧AI zP 110=true∧AI zP 116=true∧AI zP 117=true∧AI zP 118=true∧AI zP 119=true∧AI zP 120=true:=by and_intros<;>kernel_rfl
theorem go128:AI zP 128=true:=by kernel_rfl
theorem zz13:AI zP 129=true∧AI zP 130=true∧AI zP 131=true∧AI zP 135=true∧AI zP 144=true:=by and_intros<;>kernel_rfl
theorem go145:AI zP 145=true:=by kernel_rfl
theorem gO:AI zP 147=true:=by kernel_rfl
theorem go154:AI zP 154=true:=by kernel_rfl
theorem zz14:AI zP 158=true∧AI zP 159=true∧AI zP 160=true∧AI zP 161=true:=by and_intros<;>kernel_rfl
attribute [simp] zz10 Tryz.underlying41 Tryz.underlying43 Tryz.underlying45
attribute [simp] Tryz.underlying53 zz11 Tryz.underlying55 Tryz.underlying57
attribute [simp] Tryz.underlying203 Tryz.underlying204 Tryz.underlying227 zz12
attribute [simp] Tryz.underlying229 go128 zz13 go145
attribute [simp] gO go154 zz14
end Go.Proofs.YtffcldkblcmmiaaGreatDoor.Tx
namespace Go.Proofs.YtffcldkblcmmiaaGreatDoor.Tu
open Go.RowKit Go.Proofs.Fw
set_option maxRecDepth 100000
theorem zz15:Af zP 129=some 1∧A4 zP 129=some false∧Am zP 129=some (.nilSlice)∧B6 zP 129 1=true∧Af zP 148=some 1∧A4 zP 148=some false∧Am zP 148=some (.nilSlice)∧B6 zP 148 1=true∧Af zP 232=some 1∧A4 zP 232=some false∧Am zP 232=some (.int .u64 0)∧AI zP 8=true∧AI zP 45=true:=by and_intros<;>kernel_rfl
theorem go47:AI zP 47=true:=by kernel_rfl
attribute [simp] zz15 Tryz.underlying129 Tryz.underlying148 Tryz.underlying232 go47
end Go.Proofs.YtffcldkblcmmiaaGreatDoor.Tu
namespace Go.Proofs.YtffcldkblcmmiaaGreatDoor
open Go.RowKit Go.Proofs.Fw
theorem Ae:zP.follows .mixedOrders=true:=by kernel_rfl
def LY:List AV:=(List.range 256).map fun i => .int .u8 (if i=32∨(9≤i∧i≤13) then 1 else 0)
def Un:List UInt8:=[118,97,108,117,101,32,111,117,116,32,111,102,32,114,97,110,103,101]
def Px:AV := .vptr [.iface 272 (.vptr [.str Un] 0)] 0
def Jd:List (Nat × AV):=[(4,.vptr LY 0),(7,Px)]
def AM:Env:=⟨HZ Jd,fun _ _=>none,fun t=>t==85 || t==258,fun _=>false,fun _=>false⟩
@[simp] theorem pz (t:TypeId):AM.soft t=false:=by rfl
theorem DN:C7 zP AM:=fun _ _ _ h=>by cases h
theorem Ew:∀i,low 0 (AM.glob i)=true:=Pf (by
 intro x hx;simp only [Jd,List.mem_cons,List.not_mem_nil,or_false] at hx;rcases hx with rfl|rfl
 ·show lowL 0 LY=true
  kernel_rfl
 ·rfl)
set_option maxHeartbeats 1000000 in
set_option maxRecDepth 100000 in
theorem Uo (s:ByteArray) (c:Int) (w:World):Calls Tryz.prog 95 #[.string s,.int .u8 c] w fun e w'=>e = .returned (.int .i64 (Lib.indexByte s.data.toList c.toNat.toUInt8))∧w'=w:=by
 go_enter Tryz.func95,Tryz.ntmps95
 go_wp2
 rw [run_callFunc_extern Tryz.func122 (by kernel_rfl) (by kernel_rfl) (by kernel_rfl) (e:=Extern.BytealgIndexByte.indexByte) (by kernel_rfl),Lib.run_indexByteString];simp only [Result.andThen];rw [Oper.upon_value]
 go_wp2
 go_ret
 exact ⟨rfl,rfl⟩
def G5:Orc:=fun f args H=>if f=95 then (match args with
 |[.str s,.int .u8 c]=>some (.int .i64 (Lib.indexByte s c.toNat.toUInt8),H)
 |_=>none) else none
theorem Ih:AS zP AM G5:=AS.pure fun f args H v H' h=>by
 unfold G5 at h
 split at h
 ·rename_i hf
  split at h
  ·rename_i s c
   injection h with h;simp only [Prod.mk.injEq] at h;obtain ⟨rfl,rfl⟩:=h;subst hf;refine ⟨rfl,CS.of_calls fun g w cargs hA => ?_⟩;simp only [AB,AA] at hA;obtain ⟨_,_,rfl,rfl,_,_,rfl,rfl,rfl⟩:=hA;refine (Uo _ c w).mono fun e w' => ?_
   rintro ⟨rfl,rfl⟩;exact ⟨_,rfl,fun g=>by simp only [AA],rfl⟩
  ·cases h
 ·cases h
def LZ:List UInt8:=[105,110,116,101,103,101,114,32,100,111,32,101,110,100,32,105,102,32,116,104,101,110,32,101,108,115,101,32,114,101,97,100,32,112,114,105,110,116]
def GX:List (List UInt8):=[[105,110,116,101,103,101,114],[100,111],[101,110,100],[105,102],[116,104,101,110],[101,108,115,101],[114,101,97,100],[112,114,105,110,116]]
def G6:AV := .slice .unk 1 8 (GX.map .str)
def fzT:FuncId→Nat:=fun f=>if f=124 then 3 else 0
set_option maxRecDepth 100000 in
theorem gP:run fzT G5 zP AM 100 6 124 [.str LZ] []=some (G6,[]):=by kernel_rfl
def gQ:Orc:=callS 124 fun s=>if s=LZ then some G6 else none
def Ds:Orc:=orElse gQ G5
theorem gR:AS zP AM Ds:=AS.orElse (AS.callS Ew fun s v h=>by
 split at h
 ·rename_i hs
  injection h with h;subst hs;subst h;exact (LO Ih DN Ae 100 6 _ _ _ _ _ gP).1
 ·cases h) Ih
set_option maxRecDepth 100000
def CF (b:UInt8):Bool:=decide (97≤b.toNat)&&decide (b.toNat≤122)
def A6 (b:UInt8):Bool:=decide (48≤b.toNat)&&decide (b.toNat≤57)
def Bk (b:UInt8):Bool:=CF b || A6 b || b.toNat==95
theorem gS (O:Orc) (b:UInt8) (H:AH):Az O zP AM 1 72 [.int .u8 (b.toNat:Int)] H=some (.bool (CF b),H):=by
 by_cases h1:(97:Int)≤(b.toNat:Int)
 ·by_cases h2:(b.toNat:Int)≤122
  all_goals
   simp [Tryz.func72,Tryz.f72,Az,AL,Bf,AX,Ap,Ai,grow,A8,Ax,AU,callee,aop,AT,AC,BP,BW,BU,AQ,BE,BK,alen,BI,Bc,Be,aun,BQ,BG,BZ,BR,BS,BV,Au,BH,BO,BA,BM,A9,aeq,CF,h1,h2];omega
 ·simp [Tryz.func72,Tryz.f72,Az,AL,Bf,AX,Ap,Ai,grow,A8,Ax,AU,callee,aop,AT,AC,BP,BW,BU,AQ,BE,BK,alen,BI,Bc,Be,aun,BQ,BG,BZ,BR,BS,BV,Au,BH,BO,BA,BM,A9,aeq,CF,h1]
  omega
theorem gT (O:Orc) (b:UInt8) (H:AH):Az O zP AM 1 99 [.int .u8 (b.toNat:Int)] H=some (.bool (A6 b),H):=by
 by_cases h1:(48:Int)≤(b.toNat:Int)
 ·by_cases h2:(b.toNat:Int)≤57
  all_goals
   simp [Tryz.func99,Tryz.f99,Az,AL,Bf,AX,Ap,Ai,grow,A8,Ax,AU,callee,aop,AT,AC,BP,BW,BU,AQ,BE,BK,alen,BI,Bc,Be,aun,BQ,BG,BZ,BR,BS,BV,Au,BH,BO,BA,BM,A9,aeq,A6,h1,h2];omega
 ·simp [Tryz.func99,Tryz.f99,Az,AL,Bf,AX,Ap,Ai,grow,A8,Ax,AU,callee,aop,AT,AC,BP,BW,BU,AQ,BE,BK,alen,BI,Bc,Be,aun,BQ,BG,BZ,BR,BS,BV,Au,BH,BO,BA,BM,A9,aeq,A6,h1]
  omega
def Je:Orc:=orElse (F1 72 CF) (F1 99 A6)
theorem Up:AS zP AM Je :=AS.orElse (KG fun b H=>zAD Ih DN Ae (gS G5 b H)) (KG fun b H=>zAD Ih DN Ae (gT G5 b H))
theorem NG (b:UInt8) (H:AH):Je 72 [.int .u8 (b.toNat:Int)] H=some (.bool (CF b),H):=by simp only [Je,orElse,KH]
theorem NH (b:UInt8) (H:AH):Je 99 [.int .u8 (b.toNat:Int)] H=some (.bool (A6 b),H):=by have:F1 72 CF 99 [.int .u8 (b.toNat:Int)] H=none:=rfl;simp only [Je,orElse,this,KH]
theorem EO:∀f,f∈[72,99,97,96,101,98,123,136,124,71,49,48,100,69,70,94,95,121]→AI zP f=true:=by intro f hf;simp only [List.mem_cons,List.not_mem_nil,or_false] at hf;rcases hf with rfl|rfl|rfl|rfl|rfl|rfl|rfl|rfl|rfl|rfl|rfl|rfl|rfl|rfl|rfl|rfl|rfl|rfl|rfl<;>kernel_rfl
theorem go25:AI zP 72=true:=EO _ (by simp)
theorem go34:AI zP 99=true:=EO _ (by simp)
theorem go31:AI zP 97=true:=EO _ (by simp)
theorem gU (b:UInt8) (H:AH):Az Je zP AM 1 97 [.int .u8 (b.toNat:Int)] H=some (.bool (Bk b),H):=by
 cases h1:CF b
 ·cases h2:A6 b
  ·simp [Tryz.func97,Tryz.f97,Az,AL,Bf,AX,Ap,Ai,grow,A8,Ax,AU,callee,aop,AT,AC,BP,BW,BU,AQ,BE,BK,alen,BI,Bc,Be,aun,BQ,BG,BZ,BR,BS,BV,Au,BH,BO,BA,BM,A9,aeq,Bk,h1,h2,go25,go34,NG,NH]
   rw [Bool.eq_iff_iff];simp only [beq_iff_eq];omega
  ·simp [Tryz.func97,Tryz.f97,Az,AL,Bf,AX,Ap,Ai,grow,A8,Ax,AU,callee,aop,AT,AC,BP,BW,BU,AQ,BE,BK,alen,BI,Bc,Be,aun,BQ,BG,BZ,BR,BS,BV,Au,BH,BO,BA,BM,A9,aeq,Bk,h1,h2,go25,go34,NG,NH]
 ·simp [Tryz.func97,Tryz.f97,Az,AL,Bf,AX,Ap,Ai,grow,A8,Ax,AU,callee,aop,AT,AC,BP,BW,BU,AQ,BE,BK,alen,BI,Bc,Be,aun,BQ,BG,BZ,BR,BS,BV,Au,BH,BO,BA,BM,A9,aeq,Bk,h1,go25,go34,NG,NH]
def GY:Orc:=orElse (F1 97 Bk) Je
theorem La:AS zP AM GY :=AS.orElse (KG fun b H=>zAD Up DN Ae (gU b H)) Up
theorem gV (b:UInt8) (H:AH):GY 97 [.int .u8 (b.toNat:Int)] H=some (.bool (Bk b),H):=by simp only [GY,orElse,KH]
theorem Uq (b:UInt8) (H:AH):GY 72 [.int .u8 (b.toNat:Int)] H=some (.bool (CF b),H):=by have:F1 97 Bk 72 [.int .u8 (b.toNat:Int)] H=none:=rfl;simp only [GY,orElse,this];exact NG b H
theorem Ur (b:UInt8) (H:AH):GY 99 [.int .u8 (b.toNat:Int)] H=some (.bool (A6 b),H):=by have:F1 97 Bk 99 [.int .u8 (b.toNat:Int)] H=none:=rfl;simp only [GY,orElse,this];exact NH b H
noncomputable def b30:Code:=(Tryz.f96.body).getD .skip
noncomputable def Jf:Code:=inC (inC (Bi (Aj (Aj b30))))
theorem gW (O:Orc) (s:List UInt8) (f:FuncId) (p:UInt8→Bool) (hg:AI zP f=true) (ho:∀(b:UInt8) H,O f [.int .u8 (b.toNat:Int)] H=some (.bool (p b),H))
  (i:Nat) (hi:i<s.length) (hp:p s[i]=true) (hs:s.length<9223372036854775807) (n:Nat) (v2 v3 v6 v7 v8 v9 v10 v11 v12 v13 v14 v15 v16 v17 v18 v19:AV) (H:AH) :
  AL O zP AM n Jf [.str s,.func (.func f) [] [],v2,v3,.int .i64 0,.int .i64 i,v6,v7,v8,v9,v10,v11,v12,v13,v14,v15,v16,v17,v18,v19] H =
   some (.normal,[.str s,.func (.func f) [] [],v2,v3,.int .i64 0,.int .i64 ((i+1:Nat):Int),.int .i64 i,.str s,.int .i64 s.length,.bool true,.bool true,.func (.func f) [] [],.str s,.int .i64 i,.int .u8 (s[i].toNat:Int),.bool true,.bool true,.int .i64 i,.int .i64 ((i+1:Nat):Int),v19],H):=by
 have h1:(i:Int)<s.length:=by omega
 have hw:IntKind.i64.wrap ((i:Int)+1)=(i:Int)+1:=AZ (by omega) (by omega);simp [Jf,b30,Tryz.f96,inC,Bi,Aj,Az,AL,Bf,AX,Ap,Ai,grow,A8,Ax,AU,callee,aop,AT,AC,BP,BW,BU,AQ,BE,BK,alen,BI,Bc,Be,aun,BQ,BG,BZ,BR,BS,BV,Au,BH,BO,BA,BM,A9,aeq,h1,hi,hp,hg,ho,hw]
theorem gX (O:Orc) (s:List UInt8) (f:FuncId) (p:UInt8→Bool) (hg:AI zP f=true) (ho:∀(b:UInt8) H,O f [.int .u8 (b.toNat:Int)] H=some (.bool (p b),H))
  (i:Nat) (hi:∀h:i<s.length,p s[i]=false) (n:Nat) (v2 v3 v6 v7 v8 v9 v10 v11 v12 v13 v14 v15 v16 v17 v18 v19:AV) (H:AH) :
  ∃w6 w7 w8 w9 w10 w11 w12 w13 w14 w15 w16 w17 w18 w19,AL O zP AM n Jf [.str s,.func (.func f) [] [],v2,v3,.int .i64 0,.int .i64 i,v6,v7,v8,v9,v10,v11,v12,v13,v14,v15,v16,v17,v18,v19] H =
   some (.exit 0,[.str s,.func (.func f) [] [],v2,v3,.int .i64 0,.int .i64 i,w6,w7,w8,w9,w10,w11,w12,w13,w14,w15,w16,w17,w18,w19],H):=by
 by_cases hl:i<s.length
 ·have h1:(i:Int)<s.length:=by omega
  have hp:=hi hl;simp [Jf,b30,Tryz.f96,inC,Bi,Aj,Az,AL,Bf,AX,Ap,Ai,grow,A8,Ax,AU,callee,aop,AT,AC,BP,BW,BU,AQ,BE,BK,alen,BI,Bc,Be,aun,BQ,BG,BZ,BR,BS,BV,Au,BH,BO,BA,BM,A9,aeq,h1,hl,hp,hg,ho]
 ·have h1:¬(i:Int)<s.length:=by omega
  simp [Jf,b30,Tryz.f96,inC,Bi,Aj,Az,AL,Bf,AX,Ap,Ai,grow,A8,Ax,AU,callee,aop,AT,AC,BP,BW,BU,AQ,BE,BK,alen,BI,Bc,Be,aun,BQ,BG,BZ,BR,BS,BV,Au,BH,BO,BA,BM,A9,aeq,h1]
theorem gY (O:Orc) (s:List UInt8) (f:FuncId) (p:UInt8→Bool) (hg:AI zP f=true) (ho:∀(b:UInt8) H,O f [.int .u8 (b.toNat:Int)] H=some (.bool (p b),H)) (hs:s.length<9223372036854775807) (n:Nat) (v2 v3:AV) (H:AH) :
  ∀(m i:Nat),i≤Aq p s→Aq p s-i<m→∀v6 v7 v8 v9 v10 v11 v12 v13 v14 v15 v16 v17 v18 v19:AV,
  ∃w6 w7 w8 w9 w10 w11 w12 w13 w14 w15 w16 w17 w18 w19,iter (AL O zP AM n Jf) m [.str s,.func (.func f) [] [],v2,v3,.int .i64 0,.int .i64 i,v6,v7,v8,v9,v10,v11,v12,v13,v14,v15,v16,v17,v18,v19] H =
   some (.exit 0,[.str s,.func (.func f) [] [],v2,v3,.int .i64 0,.int .i64 (Aq p s),w6,w7,w8,w9,w10,w11,w12,w13,w14,w15,w16,w17,w18,w19],H):=by
 intro m
 induction m with
 |zero=>intro i _ h;omega
 |succ m ih =>
  intro i hi hm v6 v7 v8 v9 v10 v11 v12 v13 v14 v15 v16 v17 v18 v19
  by_cases he:i<Aq p s
  ·obtain ⟨h1,h2⟩:=M2 p s i he
   rw [bZ (gW O s f p hg ho i h1 h2 hs n v2 v3 v6 v7 v8 v9 v10 v11 v12 v13 v14 v15 v16 v17 v18 v19 H)];exact ih (i+1) he (by omega) _ _ _ _ _ _ _ _ _ _ _ _ _ _
  ·have hie:i=Aq p s:=by omega
   subst hie;obtain ⟨w6,w7,w8,w9,w10,w11,w12,w13,w14,w15,w16,w17,w18,w19,h⟩:=gX O s f p hg ho (Aq p s) (M3 p s) n v2 v3 v6 v7 v8 v9 v10 v11 v12 v13 v14 v15 v16 v17 v18 v19 H;exact ⟨w6,w7,w8,w9,w10,w11,w12,w13,w14,w15,w16,w17,w18,w19,ba h⟩
theorem Us (O:Orc) (s:List UInt8) (f:FuncId) (p:UInt8→Bool) (hg:AI zP f=true) (ho:∀(b:UInt8) H,O f [.int .u8 (b.toNat:Int)] H=some (.bool (p b),H)) (hs:s.length<9223372036854775807) (H:AH) :
  Az O zP AM (s.length+1) 96 [.str s,.func (.func f) [] []] H=some (.int .i64 (Aq p s),H):=by
 obtain ⟨w6,w7,w8,w9,w10,w11,w12,w13,w14,w15,w16,w17,w18,w19,h⟩:=gY O s f p hg ho hs (s.length+1) .nothing .nothing H (s.length+1) 0 (Nat.zero_le _) (by have:=F2 p s;omega) .nothing .nothing .nothing .nothing .nothing .nothing .nothing .nothing .nothing .nothing .nothing .nothing .nothing .nothing;rw [UJ (c:=b30) Tryz.func96 (by kernel_rfl)]
 have e1:AL O zP AM (s.length+1) (Bi b30) ([.str s,.func (.func f) [] []]++List.replicate (Tryz.f96.ntmps-[AV.str s,.func (.func f) [] []].length) .nothing) H=some (.normal,[.str s,.func (.func f) [] [],.nothing,.nothing,.int .i64 0,.nothing,.nothing,.nothing,.nothing,.nothing,.nothing,.nothing,.nothing,.nothing,.nothing,.nothing,.nothing,.nothing,.nothing,.nothing],H):=by kernel_rfl
 have e2:AL O zP AM (s.length+1) (Bi (Aj b30)) [.str s,.func (.func f) [] [],.nothing,.nothing,.int .i64 0,.nothing,.nothing,.nothing,.nothing,.nothing,.nothing,.nothing,.nothing,.nothing,.nothing,.nothing,.nothing,.nothing,.nothing,.nothing] H=some (.normal,[.str s,.func (.func f) [] [],.nothing,.nothing,.int .i64 0,.int .i64 (0:Nat),.nothing,.nothing,.nothing,.nothing,.nothing,.nothing,.nothing,.nothing,.nothing,.nothing,.nothing,.nothing,.nothing,.nothing],H):=by kernel_rfl
 rw [Pg (B:=Aj b30) (by kernel_rfl) e1,Pg (B:=Aj (Aj b30)) (by kernel_rfl) e2];rw [Pg (A:=Bi (Aj (Aj b30))) (B:=Aj (Aj (Aj b30))) (by kernel_rfl) (bY (L:=Jf) (by kernel_rfl) h)]
 show (_:Option (AV × AH))=_
 kernel_rfl
set_option maxHeartbeats 4000000
def Cl:List UInt8→Nat
 |[]=>0
 |c::r=>if c.toNat=60∨c.toNat=62∨c.toNat=61∨c.toNat=47 then (match r with
   |d::_=>if d.toNat=61 then 2 else 1
   |[]=>1)
  else if c.toNat=43∨c.toNat=45∨c.toNat=42∨c.toNat=40∨c.toNat=41∨c.toNat=44 then 1 else 0
theorem sz9:Af zP 9=some 1:=by kernel_rfl
theorem ag9:A4 zP 9=some false:=by kernel_rfl
theorem gZ (O:Orc) (s:List UInt8) (H:AH) (h0:(s==[105,110,116,101,103,101,114])=false) (h1:(s==[100,111])=false) (h2:(s==[101,110,100])=false) (h3:(s==[105,102])=false)
  (h4:(s==[116,104,101,110])=false) (h5:(s==[101,108,115,101])=false) (h6:(s==[114,101,97,100])=false) (h7:(s==[112,114,105,110,116])=false) :
  Az O zP AM 9 136 [G6,.str s] H=some (.int .i64 (-1),H):=by
 simp [Tryz.func136,Tryz.f136,Az,AL,Bf,AX,Ap,Ai,grow,A8,Ax,AU,callee,aop,AT,AC,BP,BW,BU,AQ,BE,BK,alen,BI,Bc,Be,aun,BQ,BG,BZ,BR,BS,BV,Au,BH,BO,BA,BM,A9,aeq,iter,G6,GX,sz9,ag9,h0,h1,h2,h3,h4,h5,h6,h7,IntKind.wrap,IntKind.bits,IntKind.signed]
theorem ga (s:List UInt8) (h:GX.contains s=false):run fzT Ds zP AM 9 3 98 [.str s] []=some (.bool false,[]):=by
 simp only [GX,List.contains_cons,List.contains_nil,Bool.or_false,Bool.or_eq_false_iff] at h;obtain ⟨h0,h1,h2,h3,h4,h5,h6,h7⟩:=h;have b43:Ds 136 [G6,.str s] []=none:=rfl;have b28:Ds 123 [G6,.str s] []=none:=rfl;have b14:Ds 98 [.str s] []=none:=rfl;have b29:Ds 124 [.str LZ] []=some (G6,[]):=by kernel_rfl
 have g43:AI zP 136=true:=EO _ (by simp);have g28:AI zP 123=true:=EO _ (by simp);have g29:AI zP 124=true:=EO _ (by simp)
 have e43:run fzT Ds zP AM 9 1 136 [G6,.str s] []=some (.int .i64 (-1),[]):=by have:=gZ Ds s [] h0 h1 h2 h3 h4 h5 h6 h7;simp [run,b43,this,LN,fzT,frz,strip,low,AR]
 have e28:run fzT Ds zP AM 9 2 123 [G6,.str s] []=some (.bool false,[]):=by
  have:Az (run fzT Ds zP AM 9 1) zP AM 9 123 [G6,.str s] []=some (.bool false,[]):=by simp [Tryz.func123,Tryz.f123,Az,AL,Bf,AX,Ap,Ai,grow,A8,Ax,AU,callee,aop,AT,AC,BP,BW,BU,AQ,BE,BK,alen,BI,Bc,Be,aun,BQ,BG,BZ,BR,BS,BV,Au,BH,BO,BA,BM,A9,aeq,e43,g43]
  rw [run];simp [b28,this,LN,fzT,frz,strip,low,AR]
 have e29:run fzT Ds zP AM 9 2 124 [.str LZ] []=some (G6,[]):=by rw [run];simp [b29]
 have:Az (run fzT Ds zP AM 9 2) zP AM 9 98 [.str s] []=some (.bool false,[]):=by unfold LZ at e29;simp [Tryz.func98,Tryz.f98,Az,AL,Bf,AX,Ap,Ai,grow,A8,Ax,AU,callee,aop,AT,AC,BP,BW,BU,AQ,BE,BK,alen,BI,Bc,Be,aun,BQ,BG,BZ,BR,BS,BV,Au,BH,BO,BA,BM,A9,aeq,e28,e29,g28,g29]
 rw [run];simp [b14,this,LN,fzT,frz,strip,low,AR]
theorem gb:run fzT Ds zP AM 9 3 98 [.str [105,110,116,101,103,101,114]] []=some (.bool true,[]):=by kernel_rfl
theorem gf:run fzT Ds zP AM 9 3 98 [.str [100,111]] []=some (.bool true,[]):=by kernel_rfl
theorem gg:run fzT Ds zP AM 9 3 98 [.str [101,110,100]] []=some (.bool true,[]):=by kernel_rfl
theorem gh:run fzT Ds zP AM 9 3 98 [.str [105,102]] []=some (.bool true,[]):=by kernel_rfl
theorem gi:run fzT Ds zP AM 9 3 98 [.str [116,104,101,110]] []=some (.bool true,[]):=by kernel_rfl
theorem gj:run fzT Ds zP AM 9 3 98 [.str [101,108,115,101]] []=some (.bool true,[]):=by kernel_rfl
theorem gl:run fzT Ds zP AM 9 3 98 [.str [114,101,97,100]] []=some (.bool true,[]):=by kernel_rfl
theorem gm:run fzT Ds zP AM 9 3 98 [.str [112,114,105,110,116]] []=some (.bool true,[]):=by kernel_rfl
def DO (s:List UInt8):Bool:=GX.contains s
theorem gn (s:List UInt8):run fzT Ds zP AM 9 3 98 [.str s] []=some (.bool (DO s),[]):=by
 cases h:DO s with
 |false=>exact ga s h
 |true =>
  unfold DO at h;simp only [GX,List.contains_cons,List.contains_nil,Bool.or_false,Bool.or_eq_true,beq_iff_eq] at h;rcases h with rfl|rfl|rfl|rfl|rfl|rfl|rfl|rfl
  ·exact gb
  ·exact gf
  ·exact gg
  ·exact gh
  ·exact gi
  ·exact gj
  ·exact gl
  ·exact gm
def Py:Orc:=callS 98 fun s=>some (.bool (DO s))
theorem gp:AS zP AM Py:=AS.callS Ew fun s v h=>by injection h with h;subst h;exact (LO gR DN Ae 9 3 _ _ _ _ _ (gn s)).1
theorem gq (O:Orc) (c:UInt8) (r:List UInt8) (H:AH):Az O zP AM 1 101 [.str (c::r)] H=some (.int .i64 (Cl (c::r)),H):=by
 by_cases h:c.toNat=60∨c.toNat=62∨c.toNat=61∨c.toNat=47∨c.toNat=43∨c.toNat=45∨c.toNat=42∨c.toNat=40∨c.toNat=41∨c.toNat=44
 ·cases r with
  |nil =>
   rcases h with h|h|h|h|h|h|h|h|h|h <;>
    simp [Tryz.func101,Tryz.f101,Az,AL,Bf,AX,Ap,Ai,grow,A8,Ax,AU,callee,aop,AT,AC,BP,BW,BU,AQ,BE,BK,alen,BI,Bc,Be,aun,BQ,BG,BZ,BR,BS,BV,Au,BH,BO,BA,BM,A9,aeq,Cl,h]
  |cons d r =>
   have hl:(1:Int)<(r.length:Int)+1+1:=by omega
   by_cases hd:d.toNat=61
   ·rcases h with h|h|h|h|h|h|h|h|h|h <;>
     simp [Tryz.func101,Tryz.f101,Az,AL,Bf,AX,Ap,Ai,grow,A8,Ax,AU,callee,aop,AT,AC,BP,BW,BU,AQ,BE,BK,alen,BI,Bc,Be,aun,BQ,BG,BZ,BR,BS,BV,Au,BH,BO,BA,BM,A9,aeq,Cl,h,hd,hl]
   ·have hd':((d.toNat:Int)==61)=false:=by simp only [beq_eq_false_iff_ne];omega
    rcases h with h|h|h|h|h|h|h|h|h|h <;>
     simp [Tryz.func101,Tryz.f101,Az,AL,Bf,AX,Ap,Ai,grow,A8,Ax,AU,callee,aop,AT,AC,BP,BW,BU,AQ,BE,BK,alen,BI,Bc,Be,aun,BQ,BG,BZ,BR,BS,BV,Au,BH,BO,BA,BM,A9,aeq,Cl,h,hd,hd',hl]
 ·simp only [not_or] at h
  obtain ⟨a0,a1,a2,a3,a4,a5,a6,a7,a8,a9⟩:=h;have b0:((c.toNat:Int)==60)=false:=by simp only [beq_eq_false_iff_ne];omega
  have b1:((c.toNat:Int)==62)=false:=by simp only [beq_eq_false_iff_ne];omega
  have b2:((c.toNat:Int)==61)=false:=by simp only [beq_eq_false_iff_ne];omega
  have b3:((c.toNat:Int)==47)=false:=by simp only [beq_eq_false_iff_ne];omega
  have b4:((c.toNat:Int)==43)=false:=by simp only [beq_eq_false_iff_ne];omega
  have b5:((c.toNat:Int)==45)=false:=by simp only [beq_eq_false_iff_ne];omega
  have b6:((c.toNat:Int)==42)=false:=by simp only [beq_eq_false_iff_ne];omega
  have b7:((c.toNat:Int)==40)=false:=by simp only [beq_eq_false_iff_ne];omega
  have b8:((c.toNat:Int)==41)=false:=by simp only [beq_eq_false_iff_ne];omega
  have b9:((c.toNat:Int)==44)=false:=by simp only [beq_eq_false_iff_ne];omega
  cases r with
  |nil=>simp [Tryz.func101,Tryz.f101,Az,AL,Bf,AX,Ap,Ai,grow,A8,Ax,AU,callee,aop,AT,AC,BP,BW,BU,AQ,BE,BK,alen,BI,Bc,Be,aun,BQ,BG,BZ,BR,BS,BV,Au,BH,BO,BA,BM,A9,aeq,Cl,a0,a1,a2,a3,a4,a5,a6,a7,a8,a9,b0,b1,b2,b3,b4,b5,b6,b7,b8,b9]
  |cons d r =>
   have hl:(1:Int)<(r.length:Int)+1+1:=by omega
   simp [Tryz.func101,Tryz.f101,Az,AL,Bf,AX,Ap,Ai,grow,A8,Ax,AU,callee,aop,AT,AC,BP,BW,BU,AQ,BE,BK,alen,BI,Bc,Be,aun,BQ,BG,BZ,BR,BS,BV,Au,BH,BO,BA,BM,A9,aeq,Cl,a0,a1,a2,a3,a4,a5,a6,a7,a8,a9,b0,b1,b2,b3,b4,b5,b6,b7,b8,b9,hl]
noncomputable def t55:Code:=Aj (Aj (Aj (Aj (Aj (Aj (Aj (Aj (Aj (Aj (Aj (At Tryz.f139)))))))))))
noncomputable def L55:Code:=inC (inC (Aj (Bi t55)))
theorem sz5:Af zP 5=some 1:=by kernel_rfl
theorem ag5:A4 zP 5=some false:=by kernel_rfl
def Ba (s:List UInt8):Nat:=s.foldl (fun n b=>10*n+(b.toNat-48)) 0
theorem gr (O:Orc) (s:List UInt8) (i n:Nat) (b:UInt8) (t:List AV) (H:AH) (N:Nat) (hl:t.length=172) (h1:t[1]? = some (.int .i64 10)) (h8:t[8]? = some (.bool false)) (tg:t[10]? = some (.int .u64 1844674407370955162))
  (vo:t[11]? = some (.int .u64 18446744073709551615)) (ur:t[13]? = some (.int .u64 n)) (vG:t[101]? = some (.int .i64 i)) (vp:t[99]? = some (.slice .unk 1 s.length (Do s))) (vH:t[100]? = some (.int .i64 s.length))
  (hi:i<s.length) (hs:s.length<9223372036854775807) (hb:(Do s)[i]? = some (.int .u8 (b.toNat:Int))) (sr:(48:Int)≤(b.toNat:Int)) (sk:(b.toNat:Int)≤57) (hn:(n:Int)<1844674407370955162) (hm:10*n+(b.toNat-48)<18446744073709551616)
  (Q:AEx→List AV→AH→Prop) (hQ:∀t':List AV,t'.length=172→t'[1]? = some (.int .i64 10)→t'[8]? = some (.bool false)→t'[10]? = some (.int .u64 1844674407370955162)→t'[11]? = some (.int .u64 18446744073709551615) →
   t'[12]? = t[12]? → t'[13]? = some (.int .u64 ((10*n+(b.toNat-48):Nat):Int))→t'[101]? = some (.int .i64 ((i+1:Nat):Int))→t'[99]? = some (.slice .unk 1 s.length (Do s))→t'[100]? = some (.int .i64 s.length)→Q .normal t' H) :
  Al (AL O zP AM N L55 t H) Q:=by
 have hi':(i:Int)<s.length:=by omega
 have e95:((b.toNat:Int)==95)=false:=by simp only [beq_eq_false_iff_ne];omega
 have w1:IntKind.u8.wrap ((b.toNat:Int)-48)=((b.toNat-48:Nat):Int):=by simp [IntKind.wrap,IntKind.bits,IntKind.signed];omega
 have w2:IntKind.u8.wrap 10=10:=by decide
 have d9:¬((10:Int)≤((b.toNat-48:Nat):Int)):=by omega
 have nc:¬((1844674407370955162:Int)≤(n:Int)):=by omega
 have w3:IntKind.u64.wrap 10=10:=by decide
 have w4:IntKind.u64.wrap ((n:Int)*10)=10*(n:Int):=by simp [IntKind.wrap,IntKind.bits,IntKind.signed];omega
 have w5:IntKind.u64.wrap ((b.toNat-48:Nat):Int)=((b.toNat-48:Nat):Int):=by simp [IntKind.wrap,IntKind.bits,IntKind.signed];omega
 have w6:IntKind.u64.wrap (10*(n:Int)+((b.toNat-48:Nat):Int))=10*(n:Int)+((b.toNat-48:Nat):Int):=by simp [IntKind.wrap,IntKind.bits,IntKind.signed];omega
 have l1:¬(10*(n:Int)+((b.toNat-48:Nat):Int)<10*(n:Int)):=by omega
 have l2:¬((18446744073709551615:Int)<10*(n:Int)+((b.toNat-48:Nat):Int)):=by omega
 have w7:IntKind.i64.wrap ((i:Int)+1)=(i:Int)+1:=AZ (by omega) (by omega);obtain ⟨_,g1⟩:=List.getElem?_eq_some_iff.1 h1;obtain ⟨_,g8⟩:=List.getElem?_eq_some_iff.1 h8;obtain ⟨_,g10⟩:=List.getElem?_eq_some_iff.1 tg;obtain ⟨_,g11⟩:=List.getElem?_eq_some_iff.1 vo;obtain ⟨_,g13⟩:=List.getElem?_eq_some_iff.1 ur;obtain ⟨_,g101⟩:=List.getElem?_eq_some_iff.1 vG;obtain ⟨_,g99⟩:=List.getElem?_eq_some_iff.1 vp;obtain ⟨_,g100⟩:=List.getElem?_eq_some_iff.1 vH;simp [L55,t55,At,Tryz.f139,inC,Bi,Aj,Az,AL,Bf,AX,Ap,Ai,grow,A8,Ax,AU,callee,aop,AT,AC,BP,BW,BU,AQ,BE,BK,alen,BI,Bc,Be,aun,BQ,BG,BZ,BR,BS,BV,Au,BH,BO,BA,BM,A9,aeq,Al,hl,g1,g8,g10,g11,g13,g101,g99,g100,hi,hi',sz5,ag5,Tryz.underlying148,hb,e95,sr,sk,w1,w2,d9,nc,w3,w4,w5,w6,l1,l2,w7];refine hQ _ ?_ ?_ ?_ ?_ ?_ ?_ ?_ ?_ ?_ ?_<;>simp [hl,g1,g8,g10,g11,g99,g100]
theorem gt (O:Orc) (s:List UInt8) (i n:Nat) (b:UInt8) (t:List AV) (H:AH) (N:Nat) (hl:t.length=172) (h1:t[1]? = some (.int .i64 10)) (h8:t[8]? = some (.bool false)) (tg:t[10]? = some (.int .u64 1844674407370955162))
  (vo:t[11]? = some (.int .u64 18446744073709551615)) (ur:t[13]? = some (.int .u64 n)) (vG:t[101]? = some (.int .i64 i)) (vp:t[99]? = some (.slice .unk 1 s.length (Do s))) (vH:t[100]? = some (.int .i64 s.length))
  (hi:i<s.length) (hb:(Do s)[i]? = some (.int .u8 (b.toNat:Int))) (sr:(48:Int)≤(b.toNat:Int)) (sk:(b.toNat:Int)≤57) (hn:¬(n:Int)<1844674407370955162)
  (Q:AEx→List AV→AH→Prop) (hQ:∀t':List AV,t'.length=172→t'[6]? = some (.int .u64 18446744073709551615)→t'[7]? = some (.iface 240 (.int .i64 1))→Q .ret t' H) :
  Al (AL O zP AM N L55 t H) Q:=by
 have hi':(i:Int)<s.length:=by omega
 have e95:((b.toNat:Int)==95)=false:=by simp only [beq_eq_false_iff_ne];omega
 have w1:IntKind.u8.wrap ((b.toNat:Int)-48)=((b.toNat-48:Nat):Int):=by simp [IntKind.wrap,IntKind.bits,IntKind.signed];omega
 have w2:IntKind.u8.wrap 10=10:=by decide
 have d9:¬((10:Int)≤((b.toNat-48:Nat):Int)):=by omega
 have nc:(1844674407370955162:Int)≤(n:Int):=by omega
 obtain ⟨_,g1⟩:=List.getElem?_eq_some_iff.1 h1;obtain ⟨_,g8⟩:=List.getElem?_eq_some_iff.1 h8;obtain ⟨_,g10⟩:=List.getElem?_eq_some_iff.1 tg;obtain ⟨_,g11⟩:=List.getElem?_eq_some_iff.1 vo;obtain ⟨_,g13⟩:=List.getElem?_eq_some_iff.1 ur;obtain ⟨_,g101⟩:=List.getElem?_eq_some_iff.1 vG;obtain ⟨_,g99⟩:=List.getElem?_eq_some_iff.1 vp;obtain ⟨_,g100⟩:=List.getElem?_eq_some_iff.1 vH;simp [L55,t55,At,Tryz.f139,inC,Bi,Aj,Az,AL,Bf,AX,Ap,Ai,grow,A8,Ax,AU,callee,aop,AT,AC,BP,BW,BU,AQ,BE,BK,alen,BI,Bc,Be,aun,BQ,BG,BZ,BR,BS,BV,Au,BH,BO,BA,BM,A9,aeq,Al,hl,g1,g8,g10,g11,g13,g101,g99,g100,hi,hi',sz5,ag5,Tryz.underlying148,Tryz.underlying240,hb,e95,sr,sk,w1,w2,d9,nc];refine hQ _ ?_ ?_ ?_<;>simp [hl]
theorem gu (O:Orc) (s:List UInt8) (i n:Nat) (b:UInt8) (t:List AV) (H:AH) (N:Nat) (hl:t.length=172) (h1:t[1]? = some (.int .i64 10)) (h8:t[8]? = some (.bool false)) (tg:t[10]? = some (.int .u64 1844674407370955162))
  (vo:t[11]? = some (.int .u64 18446744073709551615)) (ur:t[13]? = some (.int .u64 n)) (vG:t[101]? = some (.int .i64 i)) (vp:t[99]? = some (.slice .unk 1 s.length (Do s))) (vH:t[100]? = some (.int .i64 s.length))
  (hi:i<s.length) (hb:(Do s)[i]? = some (.int .u8 (b.toNat:Int))) (sr:(48:Int)≤(b.toNat:Int)) (sk:(b.toNat:Int)≤57) (hn:(n:Int)<1844674407370955162) (hm:¬10*n+(b.toNat-48)<18446744073709551616)
  (Q:AEx→List AV→AH→Prop) (hQ:∀t':List AV,t'.length=172→t'[6]? = some (.int .u64 18446744073709551615)→t'[7]? = some (.iface 240 (.int .i64 1))→Q .ret t' H) :
  Al (AL O zP AM N L55 t H) Q:=by
 have hi':(i:Int)<s.length:=by omega
 have e95:((b.toNat:Int)==95)=false:=by simp only [beq_eq_false_iff_ne];omega
 have w1:IntKind.u8.wrap ((b.toNat:Int)-48)=((b.toNat-48:Nat):Int):=by simp [IntKind.wrap,IntKind.bits,IntKind.signed];omega
 have w2:IntKind.u8.wrap 10=10:=by decide
 have d9:¬((10:Int)≤((b.toNat-48:Nat):Int)):=by omega
 have nc:¬((1844674407370955162:Int)≤(n:Int)):=by omega
 have w3:IntKind.u64.wrap 10=10:=by decide
 have w4:IntKind.u64.wrap ((n:Int)*10)=10*(n:Int):=by simp [IntKind.wrap,IntKind.bits,IntKind.signed];omega
 have w5:IntKind.u64.wrap ((b.toNat-48:Nat):Int)=((b.toNat-48:Nat):Int):=by simp [IntKind.wrap,IntKind.bits,IntKind.signed];omega
 have w6:IntKind.u64.wrap (10*(n:Int)+((b.toNat-48:Nat):Int))=10*(n:Int)+((b.toNat-48:Nat):Int)-18446744073709551616:=by simp [IntKind.wrap,IntKind.bits,IntKind.signed];omega
 have l1:10*(n:Int)+((b.toNat-48:Nat):Int)-18446744073709551616<10*(n:Int):=by omega
 obtain ⟨_,g1⟩:=List.getElem?_eq_some_iff.1 h1;obtain ⟨_,g8⟩:=List.getElem?_eq_some_iff.1 h8;obtain ⟨_,g10⟩:=List.getElem?_eq_some_iff.1 tg;obtain ⟨_,g11⟩:=List.getElem?_eq_some_iff.1 vo;obtain ⟨_,g13⟩:=List.getElem?_eq_some_iff.1 ur;obtain ⟨_,g101⟩:=List.getElem?_eq_some_iff.1 vG;obtain ⟨_,g99⟩:=List.getElem?_eq_some_iff.1 vp;obtain ⟨_,g100⟩:=List.getElem?_eq_some_iff.1 vH;simp [L55,t55,At,Tryz.f139,inC,Bi,Aj,Az,AL,Bf,AX,Ap,Ai,grow,A8,Ax,AU,callee,aop,AT,AC,BP,BW,BU,AQ,BE,BK,alen,BI,Bc,Be,aun,BQ,BG,BZ,BR,BS,BV,Au,BH,BO,BA,BM,A9,aeq,Al,hl,g1,g8,g10,g11,g13,g101,g99,g100,hi,hi',sz5,ag5,Tryz.underlying148,Tryz.underlying240,hb,e95,sr,sk,w1,w2,d9,nc,w3,w4,w5,w6,l1];refine hQ _ ?_ ?_ ?_<;>simp [hl]
theorem gv (O:Orc) (s:List UInt8) (t:List AV) (H:AH) (N:Nat) (hl:t.length=172) (vG:t[101]? = some (.int .i64 s.length)) (vH:t[100]? = some (.int .i64 s.length))
  (Q:AEx→List AV→AH→Prop) (hQ:Q (.exit 3) (t.set 102 (.bool false)) H):Al (AL O zP AM N L55 t H) Q:=by
 obtain ⟨_,g101⟩:=List.getElem?_eq_some_iff.1 vG;obtain ⟨_,g100⟩:=List.getElem?_eq_some_iff.1 vH;simp [L55,t55,At,Tryz.f139,inC,Bi,Aj,Az,AL,Bf,AX,Ap,Ai,grow,A8,Ax,AU,callee,aop,AT,AC,BP,BW,BU,AQ,BE,BK,alen,BI,Bc,Be,aun,BQ,BG,BZ,BR,BS,BV,Au,BH,BO,BA,BM,A9,aeq,Al,hl,g101,g100];exact hQ
theorem gx (O:Orc) (s:List UInt8) (t:List AV) (H:AH) (N:Nat) (hl:t.length=172) (h0:t[0]? = some (.str s)) (h1:t[1]? = some (.int .i64 10)) (h2:t[2]? = some (.int .i64 64)) (sU:s≠[])
  (Q:AEx→List AV→AH→Prop) (hQ:∀t':List AV,t'.length=172→t'[0]? = some (.str s)→t'[1]? = some (.int .i64 10)→t'[8]? = some (.bool false)→t'[10]? = some (.int .u64 1844674407370955162)→t'[11]? = some (.int .u64 18446744073709551615) →
   t'[12]? = some (.bool false)→t'[13]? = some (.int .u64 0)→Q .normal t' H) :
  Al (AL O zP AM N (DL 11 (At Tryz.f139)) t H) Q:=by
 obtain ⟨_,g0⟩:=List.getElem?_eq_some_iff.1 h0;obtain ⟨_,g1⟩:=List.getElem?_eq_some_iff.1 h1;obtain ⟨_,g2⟩:=List.getElem?_eq_some_iff.1 h2;have hn:(s==[])=false:=by cases s<;>simp_all
 have w1:IntKind.u64.wrap (18446744073709551616)=0:=by decide
 have w2:IntKind.u64.wrap (-1)=18446744073709551615:=by decide
 have w3:IntKind.u64.wrap 64=64:=by decide
 have w4:IntKind.u64.bits=64:=rfl;simp [At,Tryz.f139,DL,Az,AL,Bf,AX,Ap,Ai,grow,A8,Ax,AU,callee,aop,AT,AC,BP,BW,BU,AQ,BE,BK,alen,BI,Bc,Be,aun,BQ,BG,BZ,BR,BS,BV,Au,BH,BO,BA,BM,A9,aeq,Al,hl,g0,g1,g2,hn,sU,Tryz.underlying3,Tryz.underlying232,w1,w2,w3,w4];refine hQ _ ?_ ?_ ?_ ?_ ?_ ?_ ?_ ?_<;>simp [hl,g0,g1]
def IC (s:List UInt8):Prop:=∀b∈s,48≤b.toNat∧b.toNat≤57
theorem Pz (s:List UInt8) (b:UInt8):Ba (s++[b])=10*Ba s+(b.toNat-48):=by simp [Ba]
theorem Ut (s r:List UInt8):Ba s≤Ba (s++r):=by
 induction r generalizing s with
 |nil=>simp
 |cons b r ih =>have h1:=ih (s++[b]);rw [List.append_assoc] at h1;have h2:=Pz s b;simp only [List.singleton_append] at h1;omega
def PuI (s:List UInt8) (H:AH) (k:Nat) (t:List AV) (H':AH):Prop :=
 H'=H∧t.length=172∧t[1]? = some (.int .i64 10)∧t[8]? = some (.bool false)∧t[10]? = some (.int .u64 1844674407370955162)∧t[11]? = some (.int .u64 18446744073709551615)∧t[12]? = some (.bool false) ∧
  t[99]? = some (.slice .unk 1 s.length (Do s))∧t[100]? = some (.int .i64 s.length) ∧
  ∃i,i+k=s.length∧t[101]? = some (.int .i64 i)∧t[13]? = some (.int .u64 (Ba (s.take i)))∧Ba (s.take i)<18446744073709551616
theorem gy (O:Orc) (s:List UInt8) (hd:IC s) (hs:s.length<9223372036854775807) (N:Nat) (H:AH) (Q:AEx→List AV→AH→Prop)
  (hQ1:∀t',t'.length=172→t'[12]? = some (.bool false)→t'[13]? = some (.int .u64 (Ba s))→Ba s<18446744073709551616→Q (.exit 3) t' H)
  (hQ2:∀t',t'.length=172→t'[6]? = some (.int .u64 18446744073709551615)→t'[7]? = some (.iface 240 (.int .i64 1))→¬Ba s<18446744073709551616→Q .ret t' H) (k:Nat) (t:List AV) (hk:k<N) (hI:PuI s H k t H) :
  Al (iter (AL O zP AM N L55) N t H) Q:=by
 refine Al.iter (PuI s H) (fun k t H' hI => ?_) N k hk hI;obtain ⟨rfl,hl,h1,h8,tg,vo,wy,vp,vH,i,sa,vG,ur,hn⟩:=hI;cases k with
 |zero =>
  obtain rfl:i=s.length:=by omega
  rw [List.take_length] at ur hn;refine gv O s t H' N hl vG vH _ ?_;refine hQ1 _ (by simp [hl]) ?_ ?_ hn
  ·rw [List.getElem?_set_ne (by omega)];exact wy
  ·rw [List.getElem?_set_ne (by omega)];exact ur
 |succ k =>
  have hi:i<s.length:=by omega
  have hb:(Do s)[i]? = some (.int .u8 (s[i].toNat:Int)):=by simp [Do,hi]
  obtain ⟨d1,d2⟩:=hd s[i] (List.getElem_mem hi);have sy:s.take (i+1)=s.take i++[s[i]]:=by rw [List.take_add_one,List.getElem?_eq_getElem hi];rfl
  have wX:Ba (s.take (i+1))=10*Ba (s.take i)+(s[i].toNat-48):=by rw [sy,Pz]
  have sY:Ba (s.take (i+1))≤Ba s:=by
   have:=Ut (s.take (i+1)) (s.drop (i+1))
   rwa [List.take_append_drop] at this
  by_cases hc:(Ba (s.take i):Int)<1844674407370955162
  ·by_cases hm:10*Ba (s.take i)+(s[i].toNat-48)<18446744073709551616
   ·refine gr O s i _ s[i] t H' N hl h1 h8 tg vo ur vG vp vH hi hs hb (by omega) (by omega) hc hm _ ?_
    intro t' a b c d e f g h j l;refine ⟨k,by omega,rfl,a,b,c,d,e,f.trans wy,j,l,i+1,by omega,h,?_,?_⟩
    ·rw [wX];exact g
    ·rw [wX];exact hm
   ·refine gu O s i _ s[i] t H' N hl h1 h8 tg vo ur vG vp vH hi hb (by omega) (by omega) hc hm _ ?_
    intro t' a b c;exact hQ2 t' a b c (by omega)
  ·refine gt O s i _ s[i] t H' N hl h1 h8 tg vo ur vG vp vH hi hb (by omega) (by omega) hc _ ?_
   intro t' a b c;exact hQ2 t' a b c (by omega)
theorem gz (O:Orc) (s:List UInt8) (t:List AV) (H:AH) (N:Nat) (hl:t.length=172) (h0:t[0]? = some (.str s)) (hs:s.length<9223372036854775807)
  (Q:AEx→List AV→AH→Prop) (hQ:∀t':List AV,t'.length=172→(∀k,k<98→t'[k]? = t[k]?)→t'[99]? = some (.slice .unk 1 s.length (Do s))→t'[100]? = some (.int .i64 s.length)→t'[101]? = some (.int .i64 0)→Q .normal t' H) :
  Al (AL O zP AM N (Bi (Bi t55)) t H) Q:=by
 obtain ⟨_,g0⟩:=List.getElem?_eq_some_iff.1 h0;have hs':s.length≤9223372036854775807:=by omega
 simp [t55,At,Tryz.f139,Bi,Aj,Az,AL,Bf,AX,Ap,Ai,grow,A8,Ax,AU,callee,aop,AT,AC,BP,BW,BU,AQ,BE,BK,alen,BI,Bc,Be,aun,BQ,BG,BZ,BR,BS,BV,Au,BH,BO,BA,BM,A9,aeq,Al,hl,g0,hs',Tryz.underlying9,Tryz.underlying148,Tryz.underlying5];refine hQ _ ?_ ?_ ?_ ?_ ?_
 ·simp [hl]
 ·intro k hk
  simp only [List.getElem?_set]
  repeat rw [if_neg (by omega)]
 ·simp [hl]
 ·simp [hl]
 ·simp [hl]
theorem g5 (O:Orc) (t:List AV) (H:AH) (N:Nat) (m:Int) (hl:t.length=172) (wy:t[12]? = some (.bool false)) (ur:t[13]? = some (.int .u64 m))
  (Q:AEx→List AV→AH→Prop) (hQ:∀t':List AV,t'.length=172→t'[6]? = some (.int .u64 m)→t'[7]? = some .nilIface→Q .ret t' H) :
  Al (AL O zP AM N (Aj t55) t H) Q:=by
 obtain ⟨_,g12⟩:=List.getElem?_eq_some_iff.1 wy;obtain ⟨_,g13⟩:=List.getElem?_eq_some_iff.1 ur;simp [t55,At,Tryz.f139,Bi,Aj,Az,AL,Bf,AX,Ap,Ai,grow,A8,Ax,AU,callee,aop,AT,AC,BP,BW,BU,AQ,BE,BK,alen,BI,Bc,Be,aun,BQ,BG,BZ,BR,BS,BV,Au,BH,BO,BA,BM,A9,aeq,Al,hl,g12,g13];refine hQ _ ?_ ?_ ?_<;>simp [hl]
theorem g9:Cz 11 (At Tryz.f139)=t55:=by kernel_rfl
theorem Uu (t:List AV) (H:AH) (x y:AV) (h6:t[6]? = some x) (h7:t[7]? = some y):fin zP Tryz.f139 (some (.ret,t,H))=some (.tup [x,y],H):=by simp [fin,Tryz.f139,BE,h6,h7,BK]
def Ii (s:List UInt8):AV:=if Ba s<18446744073709551616 then .tup [.int .u64 (Ba s),.nilIface] else .tup [.int .u64 18446744073709551615,.iface 240 (.int .i64 1)]
theorem hJ (O:Orc) (s:List UInt8) (sU:s≠[]) (hd:IC s) (hs:s.length<9223372036854775807) (H:AH) :
  Az O zP AM (s.length+1) 139 [.str s,.int .i64 10,.int .i64 64] H=some (Ii s,H):=by
 refine Ph (c:=At Tryz.f139) Tryz.func139 (by kernel_rfl) ?_;refine Al.split 11 _ ?_;refine gx O s _ H _ (by simp [Tryz.f139]) (by rfl) (by rfl) (by rfl) sU _ ?_;intro t hl h0 h1 h8 tg vo wy ur
 show Al (AL O zP AM (s.length+1) (Cz 11 (At Tryz.f139)) t H) _
 rw [g9];refine Al.seq (A:=Bi t55) (B:=Aj t55) (by kernel_rfl) ?_;refine Al.seq (A:=Bi (Bi t55)) (B:=Aj (Bi t55)) (by kernel_rfl) ?_;refine gz O s t H _ hl h0 hs _ ?_;intro t2 se hk vp vH vG
 show Al (AL O zP AM (s.length+1) (Aj (Bi t55)) t2 H) _
 refine Al.block (A := .loop L55) (id:=3) (by kernel_rfl) ?_;simp only [AL];refine gy O s hd hs _ H _ ?_ ?_ s.length t2 (by omega) ⟨rfl,se,(hk 1 (by omega)).trans h1,(hk 8 (by omega)).trans h8,(hk 10 (by omega)).trans tg,(hk 11 (by omega)).trans vo,(hk 12 (by omega)).trans wy,vp,vH,0,by omega,vG,(hk 13 (by omega)).trans ur,by simp [Ba]⟩
 ·intro t3 sq k12 k13 hn
  show Al (AL O zP AM (s.length+1) (Aj t55) t3 H) _
  refine g5 O t3 H _ _ sq k12 k13 _ ?_;intro t4 xr k6 k7
  show fin zP Tryz.f139 (some (.ret,t4,H))=some (Ii s,H)
  rw [Uu t4 H _ _ k6 k7,Ii,if_pos hn]
 ·intro t3 sq k6 k7 hn
  show fin zP Tryz.f139 (some (.ret,t3,H))=some (Ii s,H)
  rw [Uu t3 H _ _ k6 k7,Ii,if_neg hn]
def Ij (s:List UInt8):AV:=if Ba s<9223372036854775808 then .tup [.int .i64 (Ba s),.nilIface] else .tup [.int .i64 9223372036854775807,.iface 240 (.int .i64 1)]
theorem go55:AI zP 139=true:=by kernel_rfl
theorem hU:(zP.info? 240).map (·.comparable)=some true:=by kernel_rfl
theorem iA (O:Orc) (c:UInt8) (r:List UInt8) (t:List AV) (H:AH) (N:Nat) (hl:t.length=73) (h0:t[0]? = some (.str (c::r))) (h1:t[1]? = some (.int .i64 10)) (h2:t[2]? = some (.int .i64 64)) (hd:48≤c.toNat)
  (hn:Ba (c::r)<9223372036854775808) (ho:O 139 [.str (c::r),.int .i64 10,.int .i64 64] H=some (.tup [.int .u64 (Ba (c::r)),.nilIface],H))
  (Q:AEx→List AV→AH→Prop) (hQ:∀t':List AV,t'.length=73→t'[6]? = some (.int .i64 (Ba (c::r)))→t'[7]? = some .nilIface→Q .ret t' H) :
  Al (AL O zP AM N (At Tryz.f125) t H) Q:=by
 obtain ⟨_,g0⟩:=List.getElem?_eq_some_iff.1 h0;obtain ⟨_,g1⟩:=List.getElem?_eq_some_iff.1 h1;obtain ⟨_,g2⟩:=List.getElem?_eq_some_iff.1 h2;generalize Ba (c::r)=m at hn ho hQ;have e43:((c.toNat:Int)==43)=false:=by simp only [beq_eq_false_iff_ne];omega
 have e45:((c.toNat:Int)==45)=false:=by simp only [beq_eq_false_iff_ne];omega
 have w1:IntKind.i64.wrap 63=63:=by decide
 have w2:IntKind.u64.wrap 63=63:=by decide
 have w3:IntKind.u64.wrap 9223372036854775808=9223372036854775808:=by decide
 have w4:IntKind.u64.bits=64:=rfl;have l1:¬((9223372036854775808:Int)≤(m:Int)):=by omega
 have w5:IntKind.i64.wrap (m:Int)=(m:Int):=AZ (by omega) (by omega);simp [At,Tryz.f125,Az,AL,Bf,AX,Ap,Ai,grow,A8,Ax,AU,callee,aop,AT,AC,BP,BW,BU,AQ,BE,BK,alen,BI,Bc,Be,aun,BQ,BG,BZ,BR,BS,BV,Au,BH,BO,BA,BM,A9,aeq,Al,hl,g0,g1,g2,e43,e45,go55,ho,w1,w2,w3,w4,w5,l1,Tryz.underlying27,Tryz.underlying232,Tryz.underlying219,Tryz.underlying2,Tryz.underlying3,Tryz.underlying240];refine hQ _ ?_ ?_ ?_<;>simp [hl]
theorem Uv (O:Orc) (c:UInt8) (r:List UInt8) (t:List AV) (H:AH) (N:Nat) (hl:t.length=73) (h0:t[0]? = some (.str (c::r))) (h1:t[1]? = some (.int .i64 10)) (h2:t[2]? = some (.int .i64 64)) (hd:48≤c.toNat)
  (u:Int) (e:AV) (hu:9223372036854775808≤u) (he:e = .nilIface∨e = .iface 240 (.int .i64 1)) (ho:O 139 [.str (c::r),.int .i64 10,.int .i64 64] H=some (.tup [.int .u64 u,e],H))
  (Q:AEx→List AV→AH→Prop) (hQ:∀t':List AV,t'.length=73→t'[6]? = some (.int .i64 9223372036854775807)→t'[7]? = some (.iface 240 (.int .i64 1))→Q .ret t' H) :
  Al (AL O zP AM N (At Tryz.f125) t H) Q:=by
 obtain ⟨_,g0⟩:=List.getElem?_eq_some_iff.1 h0;obtain ⟨_,g1⟩:=List.getElem?_eq_some_iff.1 h1;obtain ⟨_,g2⟩:=List.getElem?_eq_some_iff.1 h2;obtain ⟨j,hj,zCH⟩:=Option.map_eq_some_iff.1 hU;have e43:((c.toNat:Int)==43)=false:=by simp only [beq_eq_false_iff_ne];omega
 have e45:((c.toNat:Int)==45)=false:=by simp only [beq_eq_false_iff_ne];omega
 have w1:IntKind.i64.wrap 63=63:=by decide
 have w2:IntKind.u64.wrap 63=63:=by decide
 have w3:IntKind.u64.wrap 9223372036854775808=9223372036854775808:=by decide
 have w4:IntKind.u64.bits=64:=rfl;have w5:IntKind.u64.wrap 9223372036854775807=9223372036854775807:=by decide
 have w6:IntKind.i64.wrap 9223372036854775807=9223372036854775807:=by decide
 rcases he with rfl|rfl
 ·simp [At,Tryz.f125,Az,AL,Bf,AX,Ap,Ai,grow,A8,Ax,AU,callee,aop,AT,AC,BP,BW,BU,AQ,BE,BK,alen,BI,Bc,Be,aun,BQ,BG,BZ,BR,BS,BV,Au,BH,BO,BA,BM,A9,aeq,Al,hl,g0,g1,g2,e43,e45,go55,ho,w1,w2,w3,w4,w5,w6,hu,Tryz.underlying27,Tryz.underlying232,Tryz.underlying219,Tryz.underlying2,Tryz.underlying3,Tryz.underlying240]
  refine hQ _ ?_ ?_ ?_<;>simp [hl]
 ·simp [At,Tryz.f125,Az,AL,Bf,AX,Ap,Ai,grow,A8,Ax,AU,callee,aop,AT,AC,BP,BW,BU,AQ,BE,BK,alen,BI,Bc,Be,aun,BQ,BG,BZ,BR,BS,BV,Au,BH,BO,BA,BM,A9,aeq,Al,hl,g0,g1,g2,e43,e45,go55,ho,w1,w2,w3,w4,w5,w6,hu,hj,zCH,Tryz.underlying27,Tryz.underlying232,Tryz.underlying219,Tryz.underlying2,Tryz.underlying3,Tryz.underlying240]
  refine hQ _ ?_ ?_ ?_<;>simp [hl]
theorem Uw (t:List AV) (H:AH) (x y:AV) (h6:t[6]? = some x) (h7:t[7]? = some y):fin zP Tryz.f125 (some (.ret,t,H))=some (.tup [x,y],H):=by simp [fin,Tryz.f125,BE,h6,h7,BK]
theorem iB (O:Orc) (s:List UInt8) (sU:s≠[]) (hd:IC s) (H:AH) (ho:O 139 [.str s,.int .i64 10,.int .i64 64] H=some (Ii s,H)) :
  Az O zP AM 1 125 [.str s,.int .i64 10,.int .i64 64] H=some (Ij s,H):=by
 obtain ⟨c,r,rfl⟩:=List.exists_cons_of_ne_nil sU;have hc:=(hd c (by simp)).1;refine Ph (c:=At Tryz.f125) Tryz.func125 (by kernel_rfl) ?_;unfold Ii at ho
 by_cases h1:Ba (c::r)<9223372036854775808
 ·rw [if_pos (by omega)] at ho
  refine iA O c r _ H _ (by simp [Tryz.f125]) (by rfl) (by rfl) (by rfl) hc h1 ho _ ?_;intro t hl k6 k7
  show fin zP Tryz.f125 (some (.ret,t,H))=some (Ij (c::r),H)
  rw [Uw t H _ _ k6 k7,Ij,if_pos h1]
 ·have fin2:∀t:List AV,t.length=73→t[6]? = some (.int .i64 9223372036854775807)→t[7]? = some (.iface 240 (.int .i64 1))→fin zP Tryz.f125 (some (.ret,t,H))=some (Ij (c::r),H):=by
   intro t hl k6 k7;rw [Uw t H _ _ k6 k7,Ij,if_neg h1]
  by_cases h2:Ba (c::r)<18446744073709551616
  ·rw [if_pos h2] at ho
   exact Uv O c r _ H _ (by simp [Tryz.f125]) (by rfl) (by rfl) (by rfl) hc _ _ (by omega) (.inl rfl) ho _ fin2
  ·rw [if_neg h2] at ho
   exact Uv O c r _ H _ (by simp [Tryz.f125]) (by rfl) (by rfl) (by rfl) hc _ _ (by omega) (.inr rfl) ho _ fin2
def Fc (k:Int) (s:List UInt8) (a n:Int):AV := .agg [.int .i64 k,.str s,.int .i64 a,.int .i64 n]
theorem z40:Am zP 183=some (.agg [.int .i64 0,.str [],.int .i64 0,.int .i64 0]):=by kernel_rfl
theorem KQ (k:IntKind) (m:Int) (s:List UInt8):Ay zP 183 [(0,.int k m),(1,.str s)]=some (.agg [.int k m,.str s,.int .i64 0,.int .i64 0]):=by kernel_rfl
theorem KR:Ay zP 183 []=some (.agg [.int .i64 0,.str [],.int .i64 0,.int .i64 0]):=by kernel_rfl
theorem sz40:Af zP 183=some 4:=by kernel_rfl
theorem ag40:A4 zP 183=some true:=by kernel_rfl
theorem sz3:Af zP 3=some 1:=by kernel_rfl
theorem ag3:A4 zP 3=some false:=by kernel_rfl
theorem sz2:Af zP 2=some 1:=by kernel_rfl
theorem ag2:A4 zP 2=some false:=by kernel_rfl
theorem KS (id:Nat):BH zP 183 (.ptr id 0) 0=some (.ptr id 0):=by kernel_rfl
theorem KT (id:Nat):BH zP 183 (.ptr id 0) 1=some (.ptr id 1):=by kernel_rfl
theorem KU (id:Nat):BH zP 183 (.ptr id 0) 2=some (.ptr id 2):=by kernel_rfl
theorem KV (id:Nat):BH zP 183 (.ptr id 0) 3=some (.ptr id 3):=by kernel_rfl
theorem iC (O:Orc) (c:UInt8) (r:List UInt8) (key:Bool) (N:Nat) (uE:∀H,O 72 [.int .u8 (c.toNat:Int)] H=some (.bool true,H))
  (xW:∀H,O 96 [.str (c::r),.func (.func 97) [] []] H=some (.int .i64 (Aq Bk (c::r)),H)) (yg:∀H,O 98 [.str ((c::r).take (Aq Bk (c::r)))] H=some (.bool key,H))
  (sZ:(Aq Bk (c::r):Int)≤(r.length:Int)+1) (vM:min (Aq Bk (c::r)) (r.length+1)=Aq Bk (c::r)) :
  ∃H',Az O zP AM N 71 [.str (c::r)] []=some (.tup [Fc (if key then 4 else 1) ((c::r).take (Aq Bk (c::r))) 0 0,.int .i64 (if Aq Bk (c::r)>31 then 4 else 0)],H'):=by
 generalize Aq Bk (c::r)=m at xW yg sZ vM;have g30:AI zP 96=true:=EO _ (by simp);have g14:AI zP 98=true:=EO _ (by simp);cases key
 all_goals
  by_cases hm:m>31
  ·have hm':(31:Int)<(m:Int):=by omega
   simp [Tryz.func71,Tryz.f71,Az,AL,Bf,AX,Ap,Ai,grow,A8,Ax,AU,callee,aop,AT,AC,BP,BW,BU,AQ,BE,BK,alen,BI,Bc,Be,aun,BQ,BG,BZ,BR,BS,BV,Au,BH,BO,BA,BM,A9,aeq,z40,KQ,KR,sz40,ag40,sz3,ag3,sz9,ag9,sz2,ag2,KS,KT,KU,KV,Aw,DZ,EW,AV.known,AV.one,AH.at,uE,xW,yg,go25,g30,g14,hm,hm',sZ,vM,Fc]
  ·have hm':¬(31:Int)<(m:Int):=by omega
   simp [Tryz.func71,Tryz.f71,Az,AL,Bf,AX,Ap,Ai,grow,A8,Ax,AU,callee,aop,AT,AC,BP,BW,BU,AQ,BE,BK,alen,BI,Bc,Be,aun,BQ,BG,BZ,BR,BS,BV,Au,BH,BO,BA,BM,A9,aeq,z40,KQ,KR,sz40,ag40,sz3,ag3,sz9,ag9,sz2,ag2,KS,KT,KU,KV,Aw,DZ,EW,AV.known,AV.one,AH.at,uE,xW,yg,go25,g30,g14,hm,hm',sZ,vM,Fc]
theorem Ux (O:Orc) (c:UInt8) (r:List UInt8) (n:Int) (e:AV) (ov:Bool) (he:if ov then ∃t v,e = .iface t v else e = .nilIface) (N:Nat) (uE:∀H,O 72 [.int .u8 (c.toNat:Int)] H=some (.bool false,H)) (vq:∀H,O 99 [.int .u8 (c.toNat:Int)] H=some (.bool true,H))
  (xW:∀H,O 96 [.str (c::r),.func (.func 99) [] []] H=some (.int .i64 (Aq A6 (c::r)),H)) (wY:∀H,O 100 [.str ((c::r).take (Aq A6 (c::r))),.int .i64 10,.int .i64 64] H=some (.tup [.int .i64 n,e],H))
  (sZ:(Aq A6 (c::r):Int)≤(r.length:Int)+1) (vM:min (Aq A6 (c::r)) (r.length+1)=Aq A6 (c::r)) :
  ∃H',Az O zP AM N 71 [.str (c::r)] []=some (.tup [Fc 2 ((c::r).take (Aq A6 (c::r))) 0 (if ov then 0 else n),.int .i64 (if ov then 5 else 0)],H'):=by
 generalize Aq A6 (c::r)=m at xW wY sZ vM;have g30:AI zP 96=true:=EO _ (by simp);have g35:AI zP 100=true:=EO _ (by simp);cases ov
 ·simp only [Bool.false_eq_true,if_false] at he
  subst he;simp [Tryz.func71,Tryz.f71,Az,AL,Bf,AX,Ap,Ai,grow,A8,Ax,AU,callee,aop,AT,AC,BP,BW,BU,AQ,BE,BK,alen,BI,Bc,Be,aun,BQ,BG,BZ,BR,BS,BV,Au,BH,BO,BA,BM,A9,aeq,z40,KQ,KR,sz40,ag40,sz3,ag3,sz9,ag9,sz2,ag2,KS,KT,KU,KV,Aw,DZ,EW,AV.known,AV.one,AH.at,uE,vq,xW,wY,go25,go34,g30,g35,sZ,vM,Tryz.underlying27,Fc]
 ·simp only [if_true] at he
  obtain ⟨te,ve,rfl⟩:=he;simp [Tryz.func71,Tryz.f71,Az,AL,Bf,AX,Ap,Ai,grow,A8,Ax,AU,callee,aop,AT,AC,BP,BW,BU,AQ,BE,BK,alen,BI,Bc,Be,aun,BQ,BG,BZ,BR,BS,BV,Au,BH,BO,BA,BM,A9,aeq,z40,KQ,KR,sz40,ag40,sz3,ag3,sz9,ag9,sz2,ag2,KS,KT,KU,KV,Aw,DZ,EW,AV.known,AV.one,AH.at,uE,vq,xW,wY,go25,go34,g30,g35,sZ,vM,Tryz.underlying27,Fc]
theorem iD (O:Orc) (c:UInt8) (r:List UInt8) (N:Nat) (uE:∀H,O 72 [.int .u8 (c.toNat:Int)] H=some (.bool false,H)) (vq:∀H,O 99 [.int .u8 (c.toNat:Int)] H=some (.bool false,H))
  (yh:∀H,O 101 [.str (c::r)] H=some (.int .i64 (Cl (c::r)),H)) (sZ:(Cl (c::r):Int)≤(r.length:Int)+1) :
  ∃H',Az O zP AM N 71 [.str (c::r)] []=some (if Cl (c::r)=0 then .tup [Fc 0 [] 0 0,.int .i64 3] else .tup [Fc 3 ((c::r).take (Cl (c::r))) 0 0,.int .i64 0],H'):=by
 generalize Cl (c::r)=m at yh sZ;have g36:AI zP 101=true:=EO _ (by simp)
 by_cases hm:m=0
 ·subst hm
  simp [Tryz.func71,Tryz.f71,Az,AL,Bf,AX,Ap,Ai,grow,A8,Ax,AU,callee,aop,AT,AC,BP,BW,BU,AQ,BE,BK,alen,BI,Bc,Be,aun,BQ,BG,BZ,BR,BS,BV,Au,BH,BO,BA,BM,A9,aeq,z40,KQ,KR,sz40,ag40,sz3,ag3,sz9,ag9,sz2,ag2,KS,KT,KU,KV,Aw,DZ,EW,AV.known,AV.one,AH.at,uE,vq,yh,go25,go34,g36,sZ,Fc]
 ·have hm':((m:Int)==0)=false:=by simp only [beq_eq_false_iff_ne];omega
  simp [Tryz.func71,Tryz.f71,Az,AL,Bf,AX,Ap,Ai,grow,A8,Ax,AU,callee,aop,AT,AC,BP,BW,BU,AQ,BE,BK,alen,BI,Bc,Be,aun,BQ,BG,BZ,BR,BS,BV,Au,BH,BO,BA,BM,A9,aeq,z40,KQ,KR,sz40,ag40,sz3,ag3,sz9,ag9,sz2,ag2,KS,KT,KU,KV,Aw,DZ,EW,AV.known,AV.one,AH.at,uE,vq,yh,go25,go34,g36,sZ,hm,hm',Fc]
theorem go48:AI zP 125=true:=by kernel_rfl
structure Wd where
 kind:Nat
 text:List UInt8
 at_:Nat
 n:Nat
 deriving DecidableEq
def BC (s:List UInt8):(Nat × List UInt8 × Nat) × Nat :=
 match s with
 |[]=>((0,[],0),3)
 |c::_ =>
  if CF c then ((if DO (s.take (Aq Bk s)) then 4 else 1,s.take (Aq Bk s),0),if 31<Aq Bk s then 4 else 0)
  else if A6 c then (if Ba (s.take (Aq A6 s))<9223372036854775808 then ((2,s.take (Aq A6 s),Ba (s.take (Aq A6 s))),0) else ((2,s.take (Aq A6 s),0),5))
  else if Cl s=0 then ((0,[],0),3) else ((3,s.take (Cl s),0),0)
def EP (c:UInt8):Bool:=c.toNat==32 || c.toNat==9
def lex:Nat→List UInt8→Nat→Bool→Except (Nat × Nat) (List Wd)
 |0,_,_,_ => .ok []
 |_+1,[],_,_ => .ok []
 |n+1,c::r,p,num =>
  if EP c then lex n r (p+1) false
  else
   let w:=BC (c::r)
   let e:=if num&&CF c then 3 else w.2
   if e≠0 then .error (p,e)
   else match lex n ((c::r).drop w.1.2.1.length) (p+w.1.2.1.length) (w.1.1==2) with
    |.ok l => .ok (⟨w.1.1,w.1.2.1,p,w.1.2.2⟩::l)
    |.error x => .error x
def BD (t:Wd):List AV:=[.int .i64 t.kind,.str t.text,.int .i64 t.at_,.int .i64 t.n]
def A7 (l:List Wd):List AV:=l.flatMap BD
def AD (l:List Wd):AV:=if l=[] then .nilSlice else .slice .unk 4 l.length (A7 l)
def Jg (w:List UInt8) (p e:Nat):AV := .iface 75 (.vptr [.str w,.int .i64 p,.iface 83 (.int .i64 e)] 0)
def DU:List UInt8:=[119,111,114,100]
def Ey:Except (Nat × Nat) (List Wd)→AV
 |.ok l => .tup [AD l,.nilIface]
 |.error (p,e) => .tup [.nilSlice,Jg DU p e]
theorem iE (t:Wd):lowL 0 (BD t)=true:=rfl
theorem ID (l:List Wd):lowL 0 (A7 l)=true:=UV 0 BD iE l
theorem KW:∀l:List Wd,(A7 l).length=l.length*4
 |[]=>rfl
 |t::l=>by have:=KW l;simp only [A7,List.flatMap_cons,List.length_append,List.length_cons] at this ⊢;rw [this];simp [BD];omega
noncomputable def c11:Code:=At Tryz.f49
def He (s:List UInt8):AV := .tup [.agg [.int .i64 (BC s).1.1,.str (BC s).1.2.1,.int .i64 0,.int .i64 (BC s).1.2.2],.int .i64 (BC s).2]
def F6 (l:List Wd):AV:=if l=[] then .nilSlice else .slice (.tok 0) 4 l.length (A7 l)
def EQ (l:List Wd):AH:=if l=[] then [] else [some (.tok l.length)]
def FM (l:List Wd) (i:Nat):Bool:=match l.getLast? with
 |some t=>t.kind==2&&t.at_+t.text.length==i
 |none=>false
noncomputable def G7:Code:=Bi (Aj (Aj c11))
noncomputable def F7:Code:=inC (inC (Aj G7))
theorem iF:DM AM F7=true:=by kernel_rfl
theorem NI (a:Nat) (b:List UInt8) (c d:Nat):Cr zP 137 1 [(0,.agg [.int .i64 a,.str b,.int .i64 c,.int .i64 d])]=some (.slice .full 4 1 [.int .i64 a,.str b,.int .i64 c,.int .i64 d]):=by kernel_rfl
theorem KX (w:List UInt8) (p e:Int):Ay zP 85 [(0,.str w),(1,.int .i64 p),(2,.iface 83 (.int .i64 e))]=some (.agg [.str w,.int .i64 p,.iface 83 (.int .i64 e)]):=by kernel_rfl
theorem Lb:AM.imm 85=true:=rfl
theorem iG (B:Bs) (hB:B.H=[]) (O:Orc) (s:List UInt8) (i:Nat) (v4:AV) (H:AH) (hi:i<s.length) (hs:s.length<9223372036854775807) (hb:s[i].toNat=32∨s[i].toNat=9) (Q:AEx→List AV→AH→Prop)
  (hQ:∀t:List AV,AE B t H (mkT 89 [(0,.str s),(4,v4),(5,.int .i64 ((i+1:Nat):Int))]) H→Q .normal t H) (hl:low H.length v4=true) (hH:AR H.length H=true) :
  Wx O zP AM F7 (mkT 89 [(0,.str s),(4,v4),(5,.int .i64 i)]) H Q:=by
 have hi':(i:Int)<s.length:=by omega
 have w7:IntKind.i64.wrap ((i:Int)+1)=(i:Int)+1:=AZ (by omega) (by omega);rw [Dy]
 rcases hb with hb|hb <;>
  simp [F7,G7,c11,Tryz.f49,hi,hi',hb,w7]
 all_goals
  refine hQ _ ?_;refine AE.mkT H.length (by simp [hB]) ?_ (by simp) hH;simp;exact ⟨.same rfl rfl,.same rfl hl,.same rfl rfl⟩
theorem iH (B:Bs) (hB:B.H=[]) (O:Orc) (s:List UInt8) (i:Nat) (K:Nat) (T:List UInt8) (M e:Nat) (hi:i<s.length) (hs:s.length<9223372036854775807) (so:((s[i].toNat:Int)==32)=false) (sh:((s[i].toNat:Int)==9)=false)
  (wZ:∀H,O 71 [.str (s.drop i)] H=some (.tup [.agg [.int .i64 K,.str T,.int .i64 0,.int .i64 M],.int .i64 e],H)) (hT:i+T.length<9223372036854775807) (Q:AEx→List AV→AH→Prop)
  (hN:e=0→∀t H,AE B t H (mkT 89 [(0,.str s),(4,F6 [⟨K,T,i,M⟩]),(5,.int .i64 ((i+T.length:Nat):Int))]) (EQ [⟨K,T,i,M⟩])→Q .normal t H)
  (hE:e≠0→∀t H,Fin zP Tryz.f49 0 4 (Ey (.error (i,e))) [] .ret t H→Q .ret t H) :
  Wx O zP AM F7 (mkT 89 [(0,.str s),(4,.nilSlice),(5,.int .i64 i)]) [] Q:=by
 have hi':(i:Int)<s.length:=by omega
 have hi'':(i:Int)≤s.length:=by omega
 have w7:IntKind.i64.wrap ((i:Int)+(T.length:Int))=(i:Int)+(T.length:Int):=AZ (by omega) (by omega);rw [Dy];simp [F7,G7,c11,Tryz.f49,hi,hi',hi'',so,sh,wZ];refine KL (fun he => ?_) (fun he => ?_)
 ·simp [KX,Lb]
  refine hE he _ _ ?_;rw [EM];simp [Ey,Jg,DU,Tryz.f49]
 ·simp [NI,GT (Ty.ec137),w7]
  refine hN (by simpa using he) _ _ ?_;refine AE.view (fun _=>1) 1 (by simp [hB]) (by omega) (by simp [hB]) (by simp [EQ]) ?_ (by simp [EQ]) (FG.mkT ?_)
  ·intro j hj
   obtain rfl:j=0:=by omega
   simp [EQ,AJ]
  ·simp [F6,A7,BD]
   exact ⟨.same rfl rfl,.view 9 _ _ (by simp) (by simp [ren,AN]),.same rfl rfl⟩
theorem iI (B:Bs) (hB:B.H=[]) (O:Orc) (s:List UInt8) (i m:Nat) (cs:List AV) (kd pl:Nat) (tx:List UInt8) (sm:Bool) (K:Nat) (T:List UInt8) (M e:Nat) (hi:i<s.length) (hs:s.length<137438953472)
  (so:((s[i].toNat:Int)==32)=false) (sh:((s[i].toNat:Int)==9)=false)
  (c0:cs[m*4]? = some (.int .i64 kd)) (c1:cs[m*4+1]? = some (.str tx)) (c2:cs[m*4+2]? = some (.int .i64 pl)) (vL:lowL 0 cs=true) (hm:m<137438953470) (wM:pl+tx.length≤s.length)
  (uE:∀H,O 72 [.int .u8 (s[i].toNat:Int)] H=some (.bool sm,H))
  (wZ:∀H,O 71 [.str (s.drop i)] H=some (.tup [.agg [.int .i64 K,.str T,.int .i64 0,.int .i64 M],.int .i64 e],H)) (hT:i+T.length<9223372036854775807) (Q:AEx→List AV→AH→Prop) (e':Nat) (he':e'=if sm=true∧kd=2∧pl+tx.length=i then 3 else e)
  (hN:e'=0→∀t H,AE B t H (mkT 89 [(0,.str s),(4,.slice (.tok 0) 4 (m+2) (cs++BD ⟨K,T,i,M⟩)),(5,.int .i64 ((i+T.length:Nat):Int))]) [some (.tok (m+2))]→Q .normal t H)
  (hE:e'≠0→∀t H,Fin zP Tryz.f49 0 4 (Ey (.error (i,e'))) [] .ret t H→Q .ret t H) :
  Wx O zP AM F7 (mkT 89 [(0,.str s),(4,.slice (.tok 0) 4 (m+1) cs),(5,.int .i64 i)]) [some (.tok (m+1))] Q:=by
 have hi':(i:Int)<s.length:=by omega
 have hi'':(i:Int)≤s.length:=by omega
 have w7:IntKind.i64.wrap ((i:Int)+(T.length:Int))=(i:Int)+(T.length:Int):=AZ (by omega) (by omega);have w8:IntKind.i64.wrap (m:Int)=(m:Int):=AZ (by omega) (by omega);have w9:IntKind.i64.wrap ((pl:Int)+(tx.length:Int))=(pl:Int)+(tx.length:Int):=AZ (by omega) (by omega);have p1:(0:Int)<(m:Int)+1:=by omega
 have w10:IntKind.i64.wrap (i:Int)=(i:Int):=AZ (by omega) (by omega);have p2:(m:Int)<(m:Int)+1:=by omega
 have si:lowL 1 cs=true:=Ak (Nat.zero_le 1) cs vL;have hb:m+1+1≤137438953472:=by omega
 rw [Dy]
 have done:∀(t:List AV) (l:List (Nat × AV)) (H:AH),t=mkT 89 l→e'=0→l.lookup 0=some (.str s)→l.lookup 4=some (.slice (.tok 0) 4 (m+1+1) (cs++[.int .i64 K,.str T,.int .i64 i,.int .i64 M])) →
   l.lookup 5=some (.int .i64 ((i:Int)+T.length))→H.take 1=[some (.tok (m+1+1))]→Q .normal t H:=by
  rintro t l H rfl h0 h1 h2 h3 h4;refine hN h0 _ _ ?_;refine AE.mkT 1 (by simp [hB]) ?_ h4 (by simp);simp [h1,h2,h3,BD];exact ⟨.same rfl rfl,.same rfl (by simp [si]),.same rfl rfl⟩
 cases sm
 ·simp at he'
  subst he';simp [F7,G7,c11,Tryz.f49,hi,hi',hi'',so,sh,wZ,uE,c0,c1,c2,w8,w9,w10,p1,p2];refine KL (fun he => ?_) (fun he => ?_)
  ·simp [KX,Lb]
   refine hE he _ _ ?_;rw [EM];simp [Ey,Jg,DU,Tryz.f49]
  ·simp [NI,Eu (Ty.ec137),w7,hb]
   refine done _ _ _ rfl (by simpa using he) ?_ ?_ ?_ ?_<;>simp
 ·by_cases hk:(kd:Int)=2
  ·by_cases ha:(pl:Int)+(tx.length:Int)=(i:Int)
   ·rw [if_pos ⟨rfl,by omega,by omega⟩] at he'
    subst he';simp [F7,G7,c11,Tryz.f49,hi,hi',hi'',so,sh,wZ,uE,c0,c1,c2,w8,w9,w10,p1,p2,hk,ha,KX,Lb];refine hE (by decide) _ _ ?_;rw [EM];simp [Ey,Jg,DU,Tryz.f49]
   ·rw [if_neg (fun h=>ha (by omega))] at he'
    subst he';simp [F7,G7,c11,Tryz.f49,hi,hi',hi'',so,sh,wZ,uE,c0,c1,c2,w8,w9,w10,p1,p2,hk,ha];refine KL (fun he => ?_) (fun he => ?_)
    ·simp [KX,Lb]
     refine hE he _ _ ?_;rw [EM];simp [Ey,Jg,DU,Tryz.f49]
    ·simp [NI,Eu (Ty.ec137),w7,hb]
     refine done _ _ _ rfl (by simpa using he) ?_ ?_ ?_ ?_<;>simp
  ·rw [if_neg (fun h=>hk (by omega))] at he'
   subst he';simp [F7,G7,c11,Tryz.f49,hi,hi',hi'',so,sh,wZ,uE,c0,c1,c2,w8,w9,w10,p1,p2,hk];refine KL (fun he => ?_) (fun he => ?_)
   ·simp [KX,Lb]
    refine hE he _ _ ?_;rw [EM];simp [Ey,Jg,DU,Tryz.f49]
   ·simp [NI,Eu (Ty.ec137),w7,hb]
    refine done _ _ _ rfl (by simpa using he) ?_ ?_ ?_ ?_<;>simp
set_option maxHeartbeats 1000000
inductive Ex where
 |none
 |num (n:Nat)
 |var (s:List UInt8)
 |elem (s:List UInt8) (a:List Ex)
 |neg (e:Ex)
 |bin (k:Nat) (a b:Ex)
 deriving Inhabited
structure St where
 at_:Nat
 deep:Nat
 err:Option (Nat × Nat)
def isS (ts:List Wd) (i:Nat) (s:List UInt8):Bool:=match ts[i]? with
 |some t=>t.kind==3&&t.text==s
 |none=>false
def St.fail (r:St) (p e:Nat):St:=match r.err with
 |none=>⟨r.at_,r.deep,some (p,e)⟩
 |some _=>r
def St.step (r:St):St:=⟨r.at_+1,r.deep,r.err⟩
def nextB (ts:List Wd) (r:St) (s:List UInt8):Bool:=r.err.isNone&&isS ts r.at_ s
def CJ (ts:List Wd) (r:St) (s:List UInt8):St:=if nextB ts r s then r.step else r.fail r.at_ 2
abbrev Rd:=St→Ex × St
def DG (ts:List Wd) (of:Rd) (f:List UInt8) (one:Nat) (s:List UInt8) (two:Nat):Nat→Ex→Rd
 |0,e,r=>(e,r)
 |n+1,e,r =>
  if r.err.isSome then (.none,r)
  else if nextB ts r s then DG ts of f one s two n (.bin two e (of r.step).1) (of r.step).2
  else if nextB ts r f then DG ts of f one s two n (.bin one e (of r.step).1) (of r.step).2
  else (e,r)
def Ef (ts:List Wd) (of:Rd) (f:List UInt8) (one:Nat) (s:List UInt8) (two:Nat):Rd:=fun r =>DG ts of f one s two (ts.length+1) (of r).1 (of r).2
def Eg:List UInt8:=[43]
def BY:List UInt8:=[45]
def ED:List UInt8:=[42]
def EE:List UInt8:=[47]
def Ah:List UInt8:=[40]
def Ao:List UInt8:=[41]
def A0:List UInt8:=[44]
def Ik (ts:List Wd) (fac:Rd):Rd:=Ef ts fac ED 7 EE 8
def CW (ts:List Wd) (fac:Rd):Rd:=Ef ts (Ik ts fac) Eg 5 BY 6
def inF (p:Nat) (of:Rd):Rd:=fun r =>
 let r2:=if r.deep+1>20 then (⟨r.at_,r.deep+1,r.err⟩:St).fail p 4 else ⟨r.at_,r.deep+1,r.err⟩
 if r2.err.isNone then ((of r2).1,⟨(of r2).2.at_,(of r2).2.deep-1,(of r2).2.err⟩) else (.none,⟨r2.at_,r2.deep-1,r2.err⟩)
def DH (ts:List Wd) (sum:Rd):Nat→List Ex→St→List Ex × St
 |0,a,r=>(a,r)
 |n+1,a,r =>
  if nextB ts (sum r).2 A0 then
   DH ts sum n (a++[(sum r).1]) (if a.length+1==4 then (sum r).2.fail (sum r).2.at_ 4 else (sum r).2).step
  else (a++[(sum r).1],(sum r).2)
def D0 (ts:List Wd) (sum:Rd) (s:List UInt8):Rd:=fun r =>
 if nextB ts r.step Ah then
  (.elem s (DH ts sum 6 [] r.step.step).1,CJ ts (DH ts sum 6 [] r.step.step).2 Ao)
 else (.var s,r.step)
def Cm (ts:List Wd) (sum fac:Rd):Rd:=fun r =>
 match r.err,ts[r.at_]? with
 |none,some t =>
  if t.kind==2 then (.num t.n,r.step)
  else if t.kind==1 then D0 ts sum t.text r
  else if isS ts r.at_ BY then (.neg (inF r.at_ fac r.step).1,(inF r.at_ fac r.step).2)
  else if isS ts r.at_ Ah then ((inF r.at_ sum r.step).1,CJ ts (inF r.at_ sum r.step).2 Ao)
  else (.none,r.fail r.at_ 2)
 |_,_=>(.none,r.fail r.at_ 2)
def fac (ts:List Wd):Nat→Rd
 |0=>fun r=>(.none,r)
 |n+1=>Cm ts (CW ts (fac ts n)) (fac ts n)
def CC (ts:List Wd) (r:St):Ex × St:=CW ts (fac ts (ts.length+1)) r
def Bb (ts:List Wd):Ex × Nat × Option (Nat × Nat) :=
 match (CC ts ⟨0,0,none⟩).2.err with
 |none=>((CC ts ⟨0,0,none⟩).1,(CC ts ⟨0,0,none⟩).2.at_,none)
 |some x=>(.none,0,some x)
def Ct:List (List UInt8):=[[60],[60,61],[62],[62,61],[61,61],[47,61]]
def F8 (s:List UInt8):Bool:=Ct.contains s
def Cf (ts:List Wd) (r:St):List UInt8 × St :=
 match r.err with
 |some _=>([],r)
 |none=>(match ts[r.at_]? with
  |some t=>if t.kind==3&&F8 t.text then (t.text,r.step) else ([],r.fail r.at_ 2)
  |none=>([],r.fail r.at_ 2))
def CK (ts:List Wd):(List UInt8 × Ex × Ex) × Nat × Option (Nat × Nat) :=
 let a:=CC ts ⟨0,0,none⟩
 let m:=Cf ts a.2
 let b:=CC ts m.2
 match b.2.err with
 |none=>((m.1,a.1,b.1),b.2.at_,none)
 |some x=>(([],.none,.none),0,some x)
def Br (ts:List Wd) (of:Rd) (f:List UInt8) (one:Nat) (s:List UInt8) (two:Nat):Nat→Ex→Rd
 |0,e,r=>(e,r)
 |n+1,e,r =>
  if nextB ts r f then Br ts of f one s two n (.bin one e (of r.step).1) (of r.step).2
  else if nextB ts r s then Br ts of f one s two n (.bin two e (of r.step).1) (of r.step).2
  else (e,r)
def D1 (ts:List Wd) (of:Rd) (f:List UInt8) (one:Nat) (s:List UInt8) (two:Nat):Rd:=fun r =>Br ts of f one s two (ts.length+1) (of r).1 (of r).2
def Lc (ts:List Wd) (fac:Rd):Rd:=D1 ts fac ED 7 EE 8
def Bm (ts:List Wd) (fac:Rd):Rd:=D1 ts (Lc ts fac) Eg 5 BY 6
def D2 (of:Rd):Rd:=fun r=>((of ⟨r.at_,r.deep+1,r.err⟩).1,⟨(of ⟨r.at_,r.deep+1,r.err⟩).2.at_,r.deep,(of ⟨r.at_,r.deep+1,r.err⟩).2.err⟩)
def Cn (ts:List Wd) (sum:Rd):Nat→List Ex→St→List Ex × St
 |0,a,r=>(a,r)
 |n+1,a,r =>
  if nextB ts r A0 then
   (if 4≤a.length then (a,r.fail r.at_ 4) else Cn ts sum n (a++[(sum r.step).1]) (sum r.step).2)
  else (a,CJ ts r Ao)
def Bv (ts:List Wd) (sum:Rd) (r:St):List Ex × St:=Cn ts sum 5 [(sum r).1] (sum r).2
def B1 (ts:List Wd) (sum fac:Rd):Rd:=fun r =>
 match r.err,ts[r.at_]? with
 |none,some t =>
  if t.kind==2 then (.num t.n,r.step)
  else if t.kind==1 then
   (if nextB ts r.step Ah then (.elem t.text (Bv ts sum r.step.step).1,(Bv ts sum r.step.step).2) else (.var t.text,r.step))
  else if isS ts r.at_ BY || isS ts r.at_ Ah then
   (if 20≤r.deep then (.none,r.fail r.at_ 4)
   else if isS ts r.at_ BY then (.neg (D2 fac r.step).1,(D2 fac r.step).2)
   else ((D2 sum r.step).1,CJ ts (D2 sum r.step).2 Ao))
  else (.none,r.fail r.at_ 2)
 |_,_=>(.none,r.fail r.at_ 2)
def Ar (ts:List Wd):Nat→Rd
 |0=>fun r=>(.none,r)
 |n+1=>B1 ts (Bm ts (Ar ts n)) (Ar ts n)
def Bn (ts:List Wd) (r:St):Ex × St:=Bm ts (Ar ts (ts.length+1)) r
def okS (a b:St):Prop:=a.err=b.err∧(a.err=none→a=b)
def okX (x y:Ex × St):Prop:=okS x.2 y.2∧(x.2.err=none→x.1=y.1)
def NJ (of:Rd):Prop:=∀r x,r.err=some x→(of r).2.err=some x
def okR (f g:Rd):Prop:=(∀r,okX (f r) (g r))∧NJ f∧NJ g∧(∀r,(f r).2.deep=r.deep)∧(∀r,(g r).2.deep=r.deep)
theorem okX.run {f g:Rd} (h:okR f g) {a b:St} (hs:okS a b):okX (f a) (g b):=by
 obtain ⟨h1,h2,h3,_,_⟩:=h;cases he:a.err with
 |none =>obtain rfl:=hs.2 he;exact h1 a
 |some x =>
  have hb:b.err=some x:=by rw [←hs.1,he]
  have e1:=h2 a x he;have e2:=h3 b x hb;exact ⟨⟨by rw [e1,e2],fun h=>by rw [e1] at h;cases h⟩,fun h=>by rw [e1] at h;cases h⟩
theorem G8 (r:St) (p e:Nat):(r.fail p e).err=some (r.err.getD (p,e)):=by unfold St.fail;split<;>simp_all
theorem KY {r:St} {x:Nat × Nat} (h:r.err=some x) (p e:Nat):r.fail p e=r:=by unfold St.fail;simp [h]
theorem Il (r:St) (p e:Nat):(r.fail p e).deep=r.deep:=by unfold St.fail;split<;>rfl
theorem Im {ts:List Wd} {r:St} {x:Nat × Nat} (h:r.err=some x) (s:List UInt8):nextB ts r s=false:=by simp [nextB,h]
theorem IE {ts:List Wd} {r:St} {x:Nat × Nat} (h:r.err=some x) (s:List UInt8):CJ ts r s=r:=by simp [CJ,Im h,KY h]
theorem NK (ts:List Wd) (r:St) (s:List UInt8):(CJ ts r s).deep=r.deep:=by unfold CJ;split<;>simp [St.step,Il]
theorem okS.must {ts:List Wd} {a b:St} (h:okS a b) (s:List UInt8):okS (CJ ts a s) (CJ ts b s):=by
 cases he:a.err with
 |none=>obtain rfl:=h.2 he;exact ⟨rfl,fun _=>rfl⟩
 |some x =>
  have hb:b.err=some x:=by rw [←h.1,he]
  rw [IE he,IE hb];exact h
theorem iJ {ts:List Wd} {i:Nat} {f s:List UInt8} (sU:f≠s) (h1:isS ts i f=true):isS ts i s=false:=by
 unfold isS at h1 ⊢
 split at h1
 ·simp at h1 ⊢;intro _;rw [h1.2];exact sU
 ·cases h1
theorem P0 {ts:List Wd} {of og:Rd} (ho:okR of og) {f s:List UInt8} (sU:f≠s) (one two:Nat):∀(n:Nat) {e1 e2:Ex} {a b:St},okX (e1,a) (e2,b) →
  okX (DG ts of f one s two n e1 a) (Br ts og f one s two n e2 b)
 |0,_,_,_,_,h=>h
 |n+1,e1,e2,a,b,h=>by
  cases he:a.err with
  |some x =>
   have hb:b.err=some x:=by rw [←h.1.1,he]
   simp only [DG,Br,he,Option.isSome_some,if_true,Im hb,Bool.false_eq_true,if_false];exact ⟨⟨by rw [he,hb],fun h=>by rw [he] at h;cases h⟩,fun h=>by rw [he] at h;cases h⟩
  |none =>
   obtain rfl:=h.1.2 he;obtain rfl:=h.2 he;have key:=okX.run ho (a:=a.step) (b:=a.step) ⟨rfl,fun _=>rfl⟩;simp only [DG,Br,he,Option.isSome_none,Bool.false_eq_true,if_false]
   by_cases h1:nextB ts a f=true
   ·have h2:nextB ts a s=false:=by
     simp only [nextB,he,Option.isNone_none,Bool.true_and] at h1 ⊢;exact iJ sU h1
    rw [h1,h2];simp only [Bool.false_eq_true,if_false,if_true];exact P0 ho sU one two n ⟨key.1,fun h=>by rw [key.2 h]⟩
   ·rw [Bool.not_eq_true] at h1
    rw [h1];simp only [Bool.false_eq_true,if_false]
    split
    ·exact P0 ho sU one two n ⟨key.1,fun h=>by rw [key.2 h]⟩
    ·exact ⟨⟨rfl,fun _=>rfl⟩,fun _=>rfl⟩
theorem iK {ts:List Wd} {of:Rd} {f s:List UInt8} {one two:Nat} (n:Nat) (e:Ex) {r:St} {x:Nat × Nat} (h:r.err=some x):(DG ts of f one s two n e r).2.err=some x:=by
 cases n with
 |zero=>exact h
 |succ n=>simp [DG,h]
theorem iL {ts:List Wd} {of:Rd} {f s:List UInt8} {one two:Nat} (n:Nat) (e:Ex) {r:St} {x:Nat × Nat} (h:r.err=some x):(Br ts of f one s two n e r).2.err=some x:=by
 cases n with
 |zero=>exact h
 |succ n=>simp [Br,Im h,h]
theorem P1 {ts:List Wd} {of:Rd} (ho:∀r,(of r).2.deep=r.deep) {f s:List UInt8} {one two:Nat}:∀(n:Nat) (e:Ex) (r:St),(DG ts of f one s two n e r).2.deep=r.deep
 |0,_,_=>rfl
 |n+1,e,r=>by
  simp only [DG]
  split
  ·rfl
  ·split
   ·rw [P1 ho n,ho];rfl
   ·split
    ·rw [P1 ho n,ho];rfl
    ·rfl
theorem P2 {ts:List Wd} {of:Rd} (ho:∀r,(of r).2.deep=r.deep) {f s:List UInt8} {one two:Nat}:∀(n:Nat) (e:Ex) (r:St),(Br ts of f one s two n e r).2.deep=r.deep
 |0,_,_=>rfl
 |n+1,e,r=>by
  simp only [Br]
  split
  ·rw [P2 ho n,ho];rfl
  ·split
   ·rw [P2 ho n,ho];rfl
   ·rfl
theorem KZ {ts:List Wd} {of og:Rd} (ho:okR of og) {f s:List UInt8} (sU:f≠s) (one two:Nat):okR (Ef ts of f one s two) (D1 ts og f one s two) :=
 ⟨fun r=>P0 ho sU one two _ (ho.1 r),fun r x h=>iK _ _ (ho.2.1 r x h),fun r x h=>iL _ _ (ho.2.2.1 r x h),
  fun r=>by rw [Ef,P1 ho.2.2.2.1];exact ho.2.2.2.1 r,fun r=>by rw [D1,P2 ho.2.2.2.2];exact ho.2.2.2.2 r⟩
theorem In {ts:List Wd} {f g:Rd} (h:okR f g):okR (CW ts f) (Bm ts g) :=KZ (KZ h (by decide) 7 8) (by decide) 5 6
theorem Uy {f g:Rd} (h:okR f g) (p:Nat) (r:St) (hd:¬20≤r.deep):okX (inF p f r) (D2 g r):=by
 have h1:¬r.deep+1>20:=by omega
 have key:=okX.run h (a:=⟨r.at_,r.deep+1,r.err⟩) (b:=⟨r.at_,r.deep+1,r.err⟩) ⟨rfl,fun _=>rfl⟩;have d1:=h.2.2.2.1 ⟨r.at_,r.deep+1,r.err⟩;have d2:=h.2.2.2.2 ⟨r.at_,r.deep+1,r.err⟩;simp only [inF,if_neg h1,D2];cases he:r.err with
 |none =>rw [he] at key d1 d2;simp only [Option.isNone_none,if_true];refine ⟨⟨key.1.1,fun h => ?_⟩,fun h=>key.2 h⟩;have:=key.1.2 h;simp only at d1;simp [this,d2]
 |some x =>rw [he] at key;have e2:=h.2.2.1 ⟨r.at_,r.deep+1,some x⟩ x rfl;simp only [Option.isNone_some,Bool.false_eq_true,if_false];exact ⟨⟨by simp [e2],fun h=>by cases h⟩,fun h=>by cases h⟩
theorem Uz (p:Nat) {f:Rd} (hf:∀r,(f r).2.deep=r.deep) (r:St):(inF p f r).2.deep=r.deep:=by
 by_cases hd:r.deep+1>20
 ·cases h:r.err with
  |none=>simp [inF,hd,h,St.fail]
  |some x=>simp [inF,hd,h,St.fail]
 ·cases h:r.err with
  |none=>simp [inF,hd,h,hf]
  |some x=>simp [inF,hd,h]
theorem U0 (p:Nat) (f:Rd) (r:St) (hd:20≤r.deep) (he:r.err=none):(inF p f r).2.err=some (p,4):=by
 have h1:r.deep+1>20:=by omega
 simp [inF,h1,St.fail,he]
theorem U1 {ts:List Wd} {f g:Rd} (h:okR f g):∀(n:Nat) (a1 a2:List Ex) (r q:St),okS r q→(r.err=none→a1=a2)→a1.length=a2.length→a1.length<4→n+a1.length=5 →
  okS (CJ ts (DH ts f (n+1) a1 r).2 Ao) (Cn ts g n (a2++[(g q).1]) (g q).2).2 ∧
  ((CJ ts (DH ts f (n+1) a1 r).2 Ao).err=none→(DH ts f (n+1) a1 r).1=(Cn ts g n (a2++[(g q).1]) (g q).2).1)
 |0,a1,_,_,_,_,_,_,h4,h5=>by omega
 |n+1,a1,a2,r,q,hs,ha,hl,h4,h5=>by
  have key:=okX.run h hs;cases he:(f r).2.err with
  |some x =>
   have hb:(g q).2.err=some x:=by rw [←key.1.1,he]
   simp only [DH,Cn,Im he,Im hb,Bool.false_eq_true,if_false,IE he,IE hb];exact ⟨key.1,fun hh=>by rw [he] at hh;cases hh⟩
  |none =>
   have er:r.err=none:=by
    cases hr:r.err with
    |none=>rfl
    |some x=>rw [h.2.1 r x hr] at he;cases he
   obtain rfl:=ha er;have e1:=key.2 he;have e2:=key.1.2 he;rw [←e1,←e2];generalize sX:(f r).2=st;generalize uW:(f r).1=e;rw [sX] at he;simp only [DH,Cn,sX,uW]
   by_cases hc:nextB ts st A0=true
   ·simp only [hc,if_true]
    by_cases h3:a1.length+1=4
    ·have h3':(a1.length+1==4)=true:=by simp [h3]
     have h3'':4≤(a1++[e]).length:=by simp;omega
     simp only [h3',if_true,h3''];have e3:(st.fail st.at_ 4).step.err=some (st.at_,4):=by simp [St.step,G8,he]
     have e4:=h.2.1 _ _ e3;simp only [DH,Im e4,Bool.false_eq_true,if_false,IE e4];exact ⟨⟨by simp [e4,G8,he],fun hh=>by rw [e4] at hh;cases hh⟩,fun hh=>by rw [e4] at hh;cases hh⟩
    ·have h3':(a1.length+1==4)=false:=by rw [beq_eq_false_iff_ne];exact h3
     have h3'':¬4≤(a1++[e]).length:=by simp;omega
     simp only [h3',if_neg h3'',Bool.false_eq_true,if_false];refine U1 h n (a1++[e]) (a1++[e]) st.step st.step ⟨rfl,fun _=>rfl⟩ (fun _=>rfl) rfl ?_ ?_
     all_goals
      rw [List.length_append];simp only [List.length_cons,List.length_nil];omega
   ·rw [Bool.not_eq_true] at hc
    simp only [hc,Bool.false_eq_true,if_false];exact ⟨⟨rfl,fun _=>rfl⟩,by simp⟩
theorem U2 {ts:List Wd} {f:Rd} (h:∀r,(f r).2.deep=r.deep):∀(n:Nat) (a:List Ex) (r:St),(DH ts f n a r).2.deep=r.deep
 |0,_,_=>rfl
 |n+1,a,r=>by
  simp only [DH]
  split
  ·rw [U2 h n]
   split
   ·simp [St.step,Il,h]
   ·simp [St.step,h]
  ·exact h r
theorem U3 {ts:List Wd} {f:Rd} (h:∀r,(f r).2.deep=r.deep):∀(n:Nat) (a:List Ex) (r:St),(Cn ts f n a r).2.deep=r.deep
 |0,_,_=>rfl
 |n+1,a,r=>by
  simp only [Cn]
  split
  ·split
   ·simp [Il]
   ·rw [U3 h n,h];rfl
  ·simp [NK]
theorem iM {ts:List Wd} {f g sf sg:Rd} (h:okR f g) (hs:okR sf sg):okR (Cm ts sf f) (B1 ts sg g):=by
 refine ⟨fun r => ?_,fun r x he => ?_,fun r x he => ?_,fun r => ?_,fun r => ?_⟩
 ·have same:∀x:Ex × St,okX x x:=fun x=>⟨⟨rfl,fun _=>rfl⟩,fun _=>rfl⟩
  have odd:∀x,r.err=some x∨ts[r.at_]? = Option.none→okX (Cm ts sf f r) (B1 ts sg g r):=by
   intro x hx
   have e1:Cm ts sf f r=(.none,r.fail r.at_ 2):=by
    unfold Cm;split
    ·rcases hx with hx|hx<;>simp_all
    ·rfl
   have e2:B1 ts sg g r=(.none,r.fail r.at_ 2):=by
    unfold B1;split
    ·rcases hx with hx|hx<;>simp_all
    ·rfl
   rw [e1,e2];exact same _
  cases he:r.err with
  |some x=>exact odd x (.inl he)
  |none =>
  cases ht:ts[r.at_]? with
  |none=>exact odd (0,0) (.inr ht)
  |some t =>
   simp only [Cm,B1,he,ht]
   split
   ·exact same _
   ·split
    ·unfold D0
     split
     ·have key:=U1 (ts:=ts) hs 5 [] [] r.step.step r.step.step ⟨rfl,fun _=>rfl⟩ (fun _=>rfl) rfl (by decide) rfl
      exact ⟨key.1,fun hh=>by rw [key.2 hh];rfl⟩
     ·exact same _
    ·by_cases hm:isS ts r.at_ BY=true
     ·simp only [hm,Bool.true_or,if_true]
      by_cases hd:20≤r.deep
      ·have e1:=U0 r.at_ f r.step hd (by simpa [St.step] using he)
       simp only [if_pos hd];exact ⟨⟨by simp [e1,G8,he],fun hh=>by rw [e1] at hh;cases hh⟩,fun hh=>by rw [e1] at hh;cases hh⟩
      ·simp only [if_neg hd]
       have key:=Uy h r.at_ r.step hd;exact ⟨key.1,fun hh=>by rw [key.2 hh]⟩
     ·rw [Bool.not_eq_true] at hm
      simp only [hm,Bool.false_or,Bool.false_eq_true,if_false]
      split
      ·by_cases hd:20≤r.deep
       ·have e1:=U0 r.at_ sf r.step hd (by simpa [St.step] using he)
        simp only [if_pos hd,IE e1];exact ⟨⟨by simp [e1,G8,he],fun hh=>by rw [e1] at hh;cases hh⟩,fun hh=>by rw [e1] at hh;cases hh⟩
       ·simp only [if_neg hd]
        have key:=Uy hs r.at_ r.step hd;refine ⟨key.1.must _,fun hh=>key.2 ?_⟩;cases hx:(inF r.at_ sf r.step).2.err with
        |none=>rfl
        |some x=>rw [IE hx,hx] at hh;cases hh
      ·exact same _
 ·simp only [Cm,he,KY he]
 ·simp only [B1,he,KY he]
 ·unfold Cm
  split
  ·split
   ·rfl
   ·split
    ·unfold D0
     split
     ·simp [NK,U2 hs.2.2.2.1,St.step]
     ·rfl
    ·split
     ·simp [Uz _ h.2.2.2.1,St.step]
     ·split
      ·simp [NK,Uz _ hs.2.2.2.1,St.step]
      ·simp [Il]
  ·simp [Il]
 ·unfold B1
  split
  ·split
   ·rfl
   ·split
    ·split
     ·simp [Bv,U3 hs.2.2.2.2,hs.2.2.2.2,St.step]
     ·rfl
    ·split
     ·split
      ·simp [Il]
      ·split
       ·simp [D2,St.step]
       ·simp [NK,D2,St.step]
     ·simp [Il]
  ·simp [Il]
theorem Fd (ts:List Wd):∀n,okR (fac ts n) (Ar ts n)
 |0=>⟨fun _=>⟨⟨rfl,fun _=>rfl⟩,fun _=>rfl⟩,fun _ _ h=>h,fun _ _ h=>h,fun _=>rfl,fun _=>rfl⟩
 |n+1=>iM (Fd ts n) (In (Fd ts n))
theorem P3 (ts:List Wd) {r q:St} (h:okS r q):okX (CC ts r) (Bn ts q):=okX.run (In (Fd ts _)) h
def Ka (ts:List Wd):Ex × Nat × Option (Nat × Nat) :=
 match (Bn ts ⟨0,0,none⟩).2.err with
 |none=>((Bn ts ⟨0,0,none⟩).1,(Bn ts ⟨0,0,none⟩).2.at_,none)
 |some x=>(.none,0,some x)
theorem P6 (ts:List Wd):Ka ts=Bb ts:=by
 have h:=P3 ts (r:=⟨0,0,none⟩) (q:=⟨0,0,none⟩) ⟨rfl,fun _=>rfl⟩;unfold Ka Bb;cases he:(CC ts ⟨0,0,none⟩).2.err with
 |none =>rw [←h.1.1,he,h.2 he,h.1.2 he]
 |some x=>rw [←h.1.1,he]
def Ld (ts:List Wd):(List UInt8 × Ex × Ex) × Nat × Option (Nat × Nat) :=
 match (Cf ts (Bn ts ⟨0,0,none⟩).2).2.err with
 |some x=>(([],.none,.none),0,some x)
 |none=>(match (Bn ts (Cf ts (Bn ts ⟨0,0,none⟩).2).2).2.err with
  |none=>(((Cf ts (Bn ts ⟨0,0,none⟩).2).1,(Bn ts ⟨0,0,none⟩).1,(Bn ts (Cf ts (Bn ts ⟨0,0,none⟩).2).2).1),(Bn ts (Cf ts (Bn ts ⟨0,0,none⟩).2).2).2.at_,none)
  |some x=>(([],.none,.none),0,some x))
theorem U4 {ts:List Wd} {r:St} {x:Nat × Nat} (h:r.err=some x):Cf ts r=([],r):=by simp [Cf,h]
theorem U5 (ts:List Wd):Ld ts=CK ts:=by
 have h:=P3 ts (r:=⟨0,0,none⟩) (q:=⟨0,0,none⟩) ⟨rfl,fun _=>rfl⟩;have keep:NJ (CC ts):=(In (ts:=ts) (Fd ts (ts.length+1))).2.1;unfold Ld CK;simp only;cases he:(CC ts ⟨0,0,none⟩).2.err with
 |some x =>
  have he':(Bn ts ⟨0,0,none⟩).2.err=some x:=by rw [←h.1.1,he]
  rw [U4 he,U4 he'];simp only [he'];rw [show (CC ts (CC ts ⟨0,0,none⟩).2).2.err=some x from keep _ _ he]
 |none =>
  rw [←h.1.2 he,←h.2 he];cases hm:(Cf ts (CC ts ⟨0,0,none⟩).2).2.err with
  |some x =>simp only;rw [show (CC ts (Cf ts (CC ts ⟨0,0,none⟩).2).2).2.err=some x from keep _ _ hm]
  |none =>
   have h2:=P3 ts (r:=(Cf ts (CC ts ⟨0,0,none⟩).2).2) (q:=(Cf ts (CC ts ⟨0,0,none⟩).2).2) ⟨rfl,fun _=>rfl⟩;simp only;rw [←h2.1.1];cases h3:(CC ts (Cf ts (CC ts ⟨0,0,none⟩).2).2).2.err with
   |some x=>rfl
   |none =>simp only;rw [h2.2 h3,h2.1.2 h3]
abbrev Er:=Option (List (List UInt8 × Nat) × Nat)
def Bo:List UInt8:=[115,116,109,116]
def Hf:List UInt8:=[101,120,112,114]
def Kb:List UInt8:=[119,111,114,100]
structure Sr where
 at_:Nat
 err:Er
 deriving DecidableEq
def Sr.fail (r:Sr) (p e:Nat):Sr:=⟨r.at_,some (r.err.getD ([(Bo,p)],e))⟩
def Sr.step (r:Sr):Sr:=⟨r.at_+1,r.err⟩
def isK (ts:List Wd) (i:Nat) (k:Nat) (s:List UInt8):Bool:=match ts[i]? with
 |some w=>w.kind==k&&(s==[] || w.text==s)
 |none=>false
def isW (ts:List Wd) (r:Sr) (k:Nat) (s:List UInt8):Bool:=r.err.isNone&&isK ts r.at_ k s
def CO (ts:List Wd) (r:Sr) (k:Nat) (s:List UInt8):Sr:=if isW ts r k s then r.step else r
def wd0:Wd:=⟨0,[],0,0⟩
def A1 (ts:List Wd) (r:Sr) (k:Nat) (s:List UInt8):Wd × Sr:=if isW ts r k s then ((ts[r.at_]?).getD wd0,r.step) else (wd0,r.fail r.at_ 2)
def Dc {α:Type} (ts:List Wd) (none_:α) (of:List Wd→α × Nat × Option (Nat × Nat)) (r:Sr):α × Sr :=
 match r.err with
 |some _=>(none_,r)
 |none=>(match (of (ts.drop r.at_)).2.2 with
  |some (p,c)=>(none_,⟨r.at_,some ([(Bo,r.at_+p),(Hf,p)],c)⟩)
  |none=>((of (ts.drop r.at_)).1,⟨r.at_+(of (ts.drop r.at_)).2.1,none⟩))
def Cg (ts:List Wd) (r:Sr):Ex × Sr:=Dc ts .none Bb r
def Ez (ts:List Wd) (r:Sr):(List UInt8 × Ex × Ex) × Sr:=Dc ts ([],.none,.none) CK r
def Co:List Wd→Nat→Nat
 |[],_=>0
 |w::l,d =>
  if w.kind=3 then
   (if (if w.text=Ah then d+1 else if w.text=Ao then d-1 else d)=0 then 1
    else 1+Co l (if w.text=Ah then d+1 else if w.text=Ao then d-1 else d))
  else 1+Co l d
def GZ (ts:List Wd) (i:Nat):Nat:=if isK ts (i+1) 3 Ah then i+1+Co (ts.drop (i+1)) 0 else i+1
def toW (ts:List Wd) (r:Sr):Ex × Sr :=
 if isW ts r 1 [] then Dc ts .none (fun l=>Bb (l.take (GZ ts r.at_-r.at_))) r
 else (.none,r.fail r.at_ 2)
structure It where
 name:List UInt8
 dims:List Int
 deriving DecidableEq
def DV (ts:List Wd):Nat→List Int→Sr→List Int × Sr
 |0,d,r=>(d,r)
 |n+1,d,r =>
  match r.err with
  |some _=>(d,r)
  |none =>
   let m:=A1 ts r 2 []
   let r1:=if m.1.n=0 then m.2.fail r.at_ 1 else m.2
   let d1:=d++[(m.1.n:Int)]
   if isW ts r1 3 A0 then DV ts n d1 (if d1.length=4 then r1.fail r1.at_ 4 else r1).step else (d1,r1)
def DP (ts:List Wd) (r:Sr):It × Sr :=
 let m:=A1 ts r 1 []
 if isW ts m.2 3 Ah then
  (⟨m.1.text,(DV ts 5 [] m.2.step).1⟩,(A1 ts (DV ts 5 [] m.2.step).2 3 Ao).2)
 else (⟨m.1.text,[]⟩,m.2)
def F9 (ts:List Wd):Nat→List It→Sr→List It × Sr
 |0,l,r=>(l,r)
 |n+1,l,r=>if isW ts r 3 A0 then F9 ts n (l++[(DP ts r.step).1]) (DP ts r.step).2 else (l,r)
def GA (ts:List Wd) (r:Sr):List It × Sr:=F9 ts (ts.length+1) [(DP ts r).1] (DP ts r).2
def NL (n:Nat):Int:=IntKind.i64.wrap (0-(n:Int))
def FN (ts:List Wd) (r:Sr):Int × Sr :=
 if isW ts r 3 A0 then
  (if isW ts r.step 3 BY then (NL (A1 ts r.step.step 2 []).1.n,(A1 ts r.step.step 2 []).2)
   else (((A1 ts r.step 2 []).1.n:Int),(A1 ts r.step 2 []).2))
 else (1,r)
structure Sm where
 kind:Nat:=0
 items:List It:=[]
 to:Ex := .none
 e:Ex := .none
 op:List UInt8:=[]
 ca:Ex := .none
 cb:Ex := .none
 name:List UInt8:=[]
 lo:Ex := .none
 hi:Ex := .none
 step:Int:=0
 deriving Inhabited
def Io:List UInt8:=[105,110,116,101,103,101,114]
def doT:List UInt8:=[100,111]
def Hg:List UInt8:=[101,110,100]
def ifT:List UInt8:=[105,102]
def Ga:List UInt8:=[116,104,101,110]
def Ip:List UInt8:=[101,108,115,101]
def Iq:List UInt8:=[114,101,97,100]
def Ir:List UInt8:=[112,114,105,110,116]
def isT:List UInt8:=[61]
def doW (ts:List Wd) (r:Sr):Sm × Sr :=
 let m:=A1 ts r 1 []
 let a:=Cg ts (A1 ts m.2 3 isT).2
 let b:=Cg ts (A1 ts a.2 3 A0).2
 let s:=FN ts b.2
 ({kind:=3,name:=m.1.text,lo:=a.1,hi:=b.1,step:=s.1},s.2)
def ifW (ts:List Wd) (r:Sr):Sm × Sr :=
 let c:=Ez ts (A1 ts r 3 Ah).2
 ({kind:=5,op:=c.1.1,ca:=c.1.2.1,cb:=c.1.2.2},(A1 ts (A1 ts c.2 3 Ao).2 4 Ga).2)
def Gb (ts:List Wd) (word:List UInt8) (r:Sr):Sm × Sr :=
 if word=Io then ({kind:=1,items:=(GA ts r).1},(GA ts r).2)
 else if word=doT then doW ts r
 else if word=Hg then (if isW ts r 4 ifT then ({kind:=7},r.step) else ({kind:=4},(A1 ts r 4 doT).2))
 else if word=ifT then ifW ts r
 else if word=Ip then ({kind:=6},r)
 else if word=Iq then ({kind:=8,to:=(toW ts r).1},(toW ts r).2)
 else if word=Ir then ({kind:=9,e:=(Cg ts r).1},(Cg ts r).2)
 else ({},r.fail 0 2)
def NM (ts:List Wd) (r:Sr):Sm × Sr :=
 let a:=toW ts r
 let b:=Cg ts (A1 ts a.2 3 isT).2
 ({kind:=2,to:=a.1,e:=b.1},b.2)
def D3 (ts:List Wd):Sm × Sr :=
 match ts[0]? with
 |none=>({},⟨0,none⟩)
 |some w=>if w.kind=4 then Gb ts w.text ⟨1,none⟩ else if w.kind=1 then NM ts ⟨0,none⟩ else ({},⟨0,some ([(Bo,0)],2)⟩)
def Kc (ts:List Wd):Sm × Er :=
 if ts=[] then ({},none)
 else
  let r:=if (D3 ts).2.at_<ts.length then (D3 ts).2.fail (D3 ts).2.at_ 2 else (D3 ts).2
  match r.err with
  |some x=>({},some x)
  |none=>((D3 ts).1,none)
def Is (body:List UInt8):Sm × Er:=match lex (body.length+1) body 0 false with
 |.error (p,e)=>({},some ([(Bo,0),(Kb,p)],e))
 |.ok ts=>Kc ts
end Go.Proofs.YtffcldkblcmmiaaGreatDoor
namespace Go.Proofs.YtffcldkblcmmiaaGreatDoor.As
open Go.RowKit Go.Extern.Stop Go.Stop Go.Extern
set_option maxRecDepth 100000
theorem P7 (h:Value) (w:World):(Go.method 419 150 (.agg #[h]) "Kind").run Tryz.prog w = .ok (188,h) w:=by kernel_rfl
theorem P8 (h:Value) (w:World):(Go.method 419 150 (.agg #[h]) "Elem").run Tryz.prog w = .ok (200,.agg #[h]) w:=by kernel_rfl
theorem P9 (h:Value) (w:World):(Go.method 419 150 (.agg #[h]) "Implements").run Tryz.prog w = .ok (201,.agg #[h]) w:=by kernel_rfl
theorem QA (h:Value) (w:World):(Go.method 419 150 (.agg #[h]) "AssignableTo").run Tryz.prog w = .ok (198,.agg #[h]) w:=by kernel_rfl
theorem methodComparable (h:Value) (w:World):(Go.method 419 150 (.agg #[h]) "Comparable").run Tryz.prog w = .ok (199,.agg #[h]) w:=by kernel_rfl
theorem rlm (z:Sem Value) (f:TypeId→Addr→Nat→Nat→Sem Value) (v:Value) :
  ReflectliteValue.method z f #[v]=(do match ←ReflectliteValue.parts v with|none=>z|some (t,a,fl)=>f t a fl (fl % 32)):=rfl
theorem rls (v x:Value):ReflectliteValue.set #[v,x]=(do
  let (some (dst,a,fl),some (src,b,_)):=(←ReflectliteValue.parts v,←ReflectliteValue.parts x)
   |unsupported (.noEntry "extern/(internal/reflectlite.Value).Set.zeroValue")
  if fl / ReflectliteValue.flagAddr % 2==0 then unsupported (.noEntry "extern/(internal/reflectlite.Value).Set.unaddressable")
  let val ←loadVar src b
  if ←Rtype.directlyAssignable dst src then storeVar dst a val
  else if ←Rtype.implements dst src then
   if (←Rtype.kind src)==20 then
    match val with
    |.nilIface=>unsupported (.noEntry "extern/reflectlite: a nil value of one interface type handed on as a value of another")
    |_=>storeVar dst a val
   else storeVar dst a (.iface src val)
  else panicString ("reflectlite.Set: value of type " ++ (←Rtype.spelt src) ++ " is not assignable to type " ++ (←Rtype.spelt dst))
  pure (.tuple #[])):=rfl
theorem U6 (t:Addr) (w:World):(ReflectliteValue.unpack (.iface 77 (.pointer (some t)))).run Tryz.prog w
  = .ok (.agg #[.pointer (some ⟨12,77,none⟩),.pointer (some ⟨w.heap.size,0,none⟩),.int .u64 150]) (w.alloc (.cells #[.pointer (some t)] 77)):=by kernel_rfl
theorem U7 (a:Addr) (w:World):(ReflectliteValue.methodAny (ReflectliteValue.valueError "reflectlite.Value.Type" 0) (fun t _ _ _=>ReflectliteType.toType t) #[.agg #[.pointer (some ⟨12,77,none⟩),.pointer (some a),.int .u64 150]]).run Tryz.prog w
  = .ok (.iface 150 (.agg #[.pointer (some ⟨12,77,none⟩)])) w:=by kernel_rfl
theorem U8 (w:World):((ReflectliteType.abiMethod fun t=>(fun a:Nat=>Value.int IntKind.u8 (a:Int)) <$> Rtype.kind t) #[.pointer (some ⟨12,77,none⟩)]).run Tryz.prog w = .ok (.int .u8 22) w:=by kernel_rfl
theorem U9 (w:World):((ReflectliteType.abiMethod fun t=>(fun a:Nat=>Value.int IntKind.u8 (a:Int)) <$> Rtype.kind t) #[.pointer (some ⟨12,75,none⟩)]).run Tryz.prog w = .ok (.int .u8 22) w:=by kernel_rfl
theorem VA (a:Addr) (w:World):(ReflectliteValue.parts (.agg #[.pointer (some ⟨12,77,none⟩),.pointer (some a),.int .u64 150])).run Tryz.prog w = .ok (some (77,a,150)) w:=by kernel_rfl
theorem VB (a p:Addr) (W:World) (ha:W.cell? a=some (.pointer (some p))) :
  (ReflectliteValue.method (ReflectliteValue.valueError "reflectlite.Value.IsNil" 0) ReflectliteValue.isNil #[.agg #[.pointer (some ⟨12,77,none⟩),.pointer (some a),.int .u64 150]]).run Tryz.prog W = .ok (.bool false) W:=by
 rw [rlm];simp only [Sem.run_bind,VA,Result.andThen];simp [ReflectliteValue.isNil,loadVar,isAgg,underlying,Tryz.underlying77,ha,Result.andThen]
theorem VC (w:World):(ReflectliteType.method ReflectliteType.elem #[.agg #[.pointer (some ⟨12,77,none⟩)]]).run Tryz.prog w = .ok (.iface 150 (.agg #[.pointer (some ⟨12,75,none⟩)])) w:=by kernel_rfl
theorem VD (w:World):(ReflectliteType.relation "Implements" ReflectliteType.implements_ #[.agg #[.pointer (some ⟨12,75,none⟩)],.iface 150 (.agg #[.pointer (some ⟨12,27,none⟩)])]).run Tryz.prog w = .ok (.bool true) w:=by kernel_rfl
theorem iN (v:Value) (w:World):(ReflectliteType.typeOf #[.iface 75 v]).run Tryz.prog w = .ok (.iface 150 (.agg #[.pointer (some ⟨12,75,none⟩)])) w:=by kernel_rfl
theorem iO (w:World):(ReflectliteType.relation "AssignableTo" ReflectliteType.assignableTo #[.agg #[.pointer (some ⟨12,75,none⟩)],.iface 150 (.agg #[.pointer (some ⟨12,75,none⟩)])]).run Tryz.prog w = .ok (.bool true) w:=by kernel_rfl
theorem iP (e:Addr) (w:World):(ReflectliteValue.unpack (.iface 75 (.pointer (some e)))).run Tryz.prog w
  = .ok (.agg #[.pointer (some ⟨12,75,none⟩),.pointer (some ⟨w.heap.size,0,none⟩),.int .u64 150]) (w.alloc (.cells #[.pointer (some e)] 75)):=by kernel_rfl
theorem iQ (w:World):(Rtype.elem? 77).run Tryz.prog w = .ok (some 75) w:=by kernel_rfl
theorem mkEF (p:Addr) (w:World):(ReflectliteValue.mk 75 p ReflectliteValue.flagAddr).run Tryz.prog w = .ok (.agg #[.pointer (some ⟨12,75,none⟩),.pointer (some p),.int .u64 406]) w:=by kernel_rfl
theorem iR (a p:Addr) (W:World) (ha:W.cell? a=some (.pointer (some p))) :
  (ReflectliteValue.method (ReflectliteValue.valueError "reflectlite.Value.Elem" 0) ReflectliteValue.elem #[.agg #[.pointer (some ⟨12,77,none⟩),.pointer (some a),.int .u64 150]]).run Tryz.prog W
   = .ok (.agg #[.pointer (some ⟨12,75,none⟩),.pointer (some p),.int .u64 406]) W:=by
 rw [rlm];simp only [Sem.run_bind,VA,Result.andThen];simp [ReflectliteValue.elem,loadVar,isAgg,underlying,Tryz.underlying77,ha,Result.andThen,iQ,mkEF]
theorem iS (a:Addr) (w:World):(ReflectliteValue.parts (.agg #[.pointer (some ⟨12,75,none⟩),.pointer (some a),.int .u64 406])).run Tryz.prog w = .ok (some (75,a,406)) w:=by kernel_rfl
theorem iT (a:Addr) (w:World):(ReflectliteValue.parts (.agg #[.pointer (some ⟨12,75,none⟩),.pointer (some a),.int .u64 150])).run Tryz.prog w = .ok (some (75,a,150)) w:=by kernel_rfl
theorem iU (w:World):(Rtype.directlyAssignable 75 75).run Tryz.prog w = .ok true w:=by kernel_rfl
theorem iV (ta b:Addr) (e:Addr) (old:Value) (W:World) (hb:W.cell? b=some (.pointer (some e))) (ht:W.cell? ta=some old) (hf:W.frozen? ta=false) :
  (ReflectliteValue.set #[.agg #[.pointer (some ⟨12,75,none⟩),.pointer (some ta),.int .u64 406],.agg #[.pointer (some ⟨12,75,none⟩),.pointer (some b),.int .u64 150]]).run Tryz.prog W
   = .ok (.tuple #[]) (W.setCell ta (.pointer (some e))):=by
 rw [rls];simp only [Sem.run_bind,iS,iT,Result.andThen];simp [ReflectliteValue.flagAddr,loadVar,isAgg,underlying,Tryz.underlying75,hb,Result.andThen,iU,storeVar,Value.cells,storeCells,Addr.add];rw [run_store Tryz.prog W ta _ _ (by rfl)];simp [ht,hf]
theorem iW (t:Addr) (w:World):(ReflectliteValue.unpack (.iface 88 (.pointer (some t)))).run Tryz.prog w
  = .ok (.agg #[.pointer (some ⟨12,88,none⟩),.pointer (some ⟨w.heap.size,0,none⟩),.int .u64 150]) (w.alloc (.cells #[.pointer (some t)] 88)):=by kernel_rfl
theorem iX (a:Addr) (w:World):(ReflectliteValue.methodAny (ReflectliteValue.valueError "reflectlite.Value.Type" 0) (fun t _ _ _=>ReflectliteType.toType t) #[.agg #[.pointer (some ⟨12,88,none⟩),.pointer (some a),.int .u64 150]]).run Tryz.prog w
  = .ok (.iface 150 (.agg #[.pointer (some ⟨12,88,none⟩)])) w:=by kernel_rfl
theorem iY (w:World):((ReflectliteType.abiMethod fun t=>(fun a:Nat=>Value.int IntKind.u8 (a:Int)) <$> Rtype.kind t) #[.pointer (some ⟨12,88,none⟩)]).run Tryz.prog w = .ok (.int .u8 22) w:=by kernel_rfl
theorem iZ (w:World):((ReflectliteType.abiMethod fun t=>(fun a:Nat=>Value.int IntKind.u8 (a:Int)) <$> Rtype.kind t) #[.pointer (some ⟨12,83,none⟩)]).run Tryz.prog w = .ok (.int .u8 2) w:=by kernel_rfl
theorem VE (a:Addr) (w:World):(ReflectliteValue.parts (.agg #[.pointer (some ⟨12,88,none⟩),.pointer (some a),.int .u64 150])).run Tryz.prog w = .ok (some (88,a,150)) w:=by kernel_rfl
theorem ia (a p:Addr) (W:World) (ha:W.cell? a=some (.pointer (some p))) :
  (ReflectliteValue.method (ReflectliteValue.valueError "reflectlite.Value.IsNil" 0) ReflectliteValue.isNil #[.agg #[.pointer (some ⟨12,88,none⟩),.pointer (some a),.int .u64 150]]).run Tryz.prog W = .ok (.bool false) W:=by
 rw [rlm];simp only [Sem.run_bind,VE,Result.andThen];simp [ReflectliteValue.isNil,loadVar,isAgg,underlying,Tryz.underlying88,ha,Result.andThen]
theorem ib (w:World):(ReflectliteType.method ReflectliteType.elem #[.agg #[.pointer (some ⟨12,88,none⟩)]]).run Tryz.prog w = .ok (.iface 150 (.agg #[.pointer (some ⟨12,83,none⟩)])) w:=by kernel_rfl
theorem ic (w:World):(ReflectliteType.relation "Implements" ReflectliteType.implements_ #[.agg #[.pointer (some ⟨12,83,none⟩)],.iface 150 (.agg #[.pointer (some ⟨12,27,none⟩)])]).run Tryz.prog w = .ok (.bool true) w:=by kernel_rfl
theorem typeOfEN (v:Value) (w:World):(ReflectliteType.typeOf #[.iface 83 v]).run Tryz.prog w = .ok (.iface 150 (.agg #[.pointer (some ⟨12,83,none⟩)])) w:=by kernel_rfl
theorem ie (w:World):(ReflectliteType.relation "AssignableTo" ReflectliteType.assignableTo #[.agg #[.pointer (some ⟨12,83,none⟩)],.iface 150 (.agg #[.pointer (some ⟨12,83,none⟩)])]).run Tryz.prog w = .ok (.bool true) w:=by kernel_rfl
theorem ig (n:Int) (w:World):(ReflectliteValue.unpack (.iface 83 (.int .i64 n))).run Tryz.prog w
  = .ok (.agg #[.pointer (some ⟨12,83,none⟩),.pointer (some ⟨w.heap.size,0,none⟩),.int .u64 130]) (w.alloc (.cells #[.int .i64 n] 83)):=by kernel_rfl
theorem ii (w:World):(Rtype.elem? 88).run Tryz.prog w = .ok (some 83) w:=by kernel_rfl
theorem mkEN (p:Addr) (w:World):(ReflectliteValue.mk 83 p ReflectliteValue.flagAddr).run Tryz.prog w = .ok (.agg #[.pointer (some ⟨12,83,none⟩),.pointer (some p),.int .u64 386]) w:=by kernel_rfl
theorem ij (a p:Addr) (W:World) (ha:W.cell? a=some (.pointer (some p))) :
  (ReflectliteValue.method (ReflectliteValue.valueError "reflectlite.Value.Elem" 0) ReflectliteValue.elem #[.agg #[.pointer (some ⟨12,88,none⟩),.pointer (some a),.int .u64 150]]).run Tryz.prog W
   = .ok (.agg #[.pointer (some ⟨12,83,none⟩),.pointer (some p),.int .u64 386]) W:=by
 rw [rlm];simp only [Sem.run_bind,VE,Result.andThen];simp [ReflectliteValue.elem,loadVar,isAgg,underlying,Tryz.underlying88,ha,Result.andThen,ii,mkEN]
theorem ik (a:Addr) (w:World):(ReflectliteValue.parts (.agg #[.pointer (some ⟨12,83,none⟩),.pointer (some a),.int .u64 386])).run Tryz.prog w = .ok (some (83,a,386)) w:=by kernel_rfl
theorem il (a:Addr) (w:World):(ReflectliteValue.parts (.agg #[.pointer (some ⟨12,83,none⟩),.pointer (some a),.int .u64 130])).run Tryz.prog w = .ok (some (83,a,130)) w:=by kernel_rfl
theorem im (w:World):(Rtype.directlyAssignable 83 83).run Tryz.prog w = .ok true w:=by kernel_rfl
theorem io (ta b:Addr) (n:Int) (old:Value) (W:World) (hb:W.cell? b=some (.int .i64 n)) (ht:W.cell? ta=some old) (hf:W.frozen? ta=false) :
  (ReflectliteValue.set #[.agg #[.pointer (some ⟨12,83,none⟩),.pointer (some ta),.int .u64 386],.agg #[.pointer (some ⟨12,83,none⟩),.pointer (some b),.int .u64 130]]).run Tryz.prog W
   = .ok (.tuple #[]) (W.setCell ta (.int .i64 n)):=by
 rw [rls];simp only [Sem.run_bind,ik,il,Result.andThen];simp [ReflectliteValue.flagAddr,loadVar,isAgg,underlying,Tryz.underlying83,hb,Result.andThen,im,storeVar,Value.cells,storeCells,Addr.add];rw [run_store Tryz.prog W ta _ _ (by rfl)];simp [ht,hf]
set_option maxHeartbeats 4000000 in
theorem hitF (e:Addr) (t:Addr) (old:Value) (w:World) (hg:w.cell? ⟨0,0,none⟩=some (.iface 150 (.agg #[.pointer (some ⟨12,27,none⟩)]))) (yi:w.cell? t=some old) (yj:w.frozen? t=false) :
  Calls Tryz.prog 22 #[.iface 75 (.pointer (some e)),.iface 77 (.pointer (some t))] w fun ev w'=>ev = .returned (.bool true)∧w'=((((w.alloc (.cells #[.pointer (some t)] 77)).alloc (.cells #[.pointer (some ⟨12,77,none⟩),.pointer (some ⟨w.heap.size,0,none⟩),.int .u64 150] 109)).alloc (.cells #[.pointer (some ⟨12,77,none⟩),.pointer (some ⟨w.heap.size,0,none⟩),.int .u64 150] 109)).alloc (.cells #[.pointer (some e)] 75)).setCell t (.pointer (some e)):=by
 have zBN := @run_callFunc_extern Tryz.prog 36 _ (fun args=>ReflectliteValue.unpack (args.getD 0 (.tuple #[]))) Tryz.func36 (by kernel_rfl) (by kernel_rfl) (by kernel_rfl) (by kernel_rfl);have zBO := @run_callFunc_extern Tryz.prog 37 _ (ReflectliteValue.methodAny (ReflectliteValue.valueError "reflectlite.Value.Type" 0) (fun t _ _ _=>ReflectliteType.toType t)) Tryz.func37 (by kernel_rfl) (by kernel_rfl) (by kernel_rfl) (by kernel_rfl);have zBP := @run_callFunc_extern Tryz.prog 38 _ (ReflectliteValue.method (ReflectliteValue.valueError "reflectlite.Value.IsNil" 0) ReflectliteValue.isNil) Tryz.func38 (by kernel_rfl) (by kernel_rfl) (by kernel_rfl) (by kernel_rfl);have zBQ := @run_callFunc_extern Tryz.prog 188 _ (ReflectliteType.abiMethod fun t=>do pure (.int .u8 (←Rtype.kind t))) Tryz.func188 (by kernel_rfl) (by kernel_rfl) (by kernel_rfl) (by kernel_rfl);have zBR := @run_callFunc_extern Tryz.prog 200 _ (ReflectliteType.method ReflectliteType.elem) Tryz.func200 (by kernel_rfl) (by kernel_rfl) (by kernel_rfl) (by kernel_rfl);have zBS := @run_callFunc_extern Tryz.prog 201 _ (ReflectliteType.relation "Implements" ReflectliteType.implements_) Tryz.func201 (by kernel_rfl) (by kernel_rfl) (by kernel_rfl) (by kernel_rfl);have zBT := @run_callFunc_extern Tryz.prog 43 _ ReflectliteType.typeOf Tryz.func43 (by kernel_rfl) (by kernel_rfl) (by kernel_rfl) (by kernel_rfl);have zBU := @run_callFunc_extern Tryz.prog 198 _ (ReflectliteType.relation "AssignableTo" ReflectliteType.assignableTo) Tryz.func198 (by kernel_rfl) (by kernel_rfl) (by kernel_rfl) (by kernel_rfl);have zBV := @run_callFunc_extern Tryz.prog 56 _ (ReflectliteValue.method (ReflectliteValue.valueError "reflectlite.Value.Elem" 0) ReflectliteValue.elem) Tryz.func56 (by kernel_rfl) (by kernel_rfl) (by kernel_rfl) (by kernel_rfl);have zBW := @run_callFunc_extern Tryz.prog 57 _ ReflectliteValue.set Tryz.func57 (by kernel_rfl) (by kernel_rfl) (by kernel_rfl) (by kernel_rfl);have mK:=P7;have mE:=P8;have mI:=P9;have mA:=QA;have f6:=U6;have f7:=U7;have k27:=U8;have k25:=U9;have e27:=VC;have i25:=VD;have n8:=VB ⟨w.heap.size,0,none⟩ t ((w.alloc (.cells #[.pointer (some t)] 77)).alloc (.cells #[.pointer (some ⟨12,77,none⟩),.pointer (some ⟨w.heap.size,0,none⟩),.int .u64 150] 109)) (by simp)
 have sd:0<w.heap.size:=by
  rcases Nat.lt_or_ge 0 w.heap.size with h|h
  ·exact h
  ·simp [World.cell?,Array.getElem?_eq_none h] at hg
 have vm:((w.alloc (.cells #[.pointer (some t)] 77)).alloc (.cells #[.pointer (some ⟨12,77,none⟩),.pointer (some ⟨w.heap.size,0,none⟩),.int .u64 150] 109)).cell? ⟨0,0,none⟩=some (.iface 150 (.agg #[.pointer (some ⟨12,27,none⟩)])):=by rw [World.cell?_alloc_lt _ _ ⟨0,0,none⟩ (by simp<;>omega),World.cell?_alloc_lt _ _ ⟨0,0,none⟩ sd];exact hg
 have tO:=iN;have a25:=iO;have v25:=iP
 have vX:t.block<w.heap.size:=by
  rcases Nat.lt_or_ge t.block w.heap.size with h|h
  ·exact h
  ·simp [World.cell?,Array.getElem?_eq_none h] at yi
 have el:=iR ⟨w.heap.size,0,none⟩ t (((w.alloc (.cells #[.pointer (some t)] 77)).alloc (.cells #[.pointer (some ⟨12,77,none⟩),.pointer (some ⟨w.heap.size,0,none⟩),.int .u64 150] 109)).alloc (.cells #[.pointer (some ⟨12,77,none⟩),.pointer (some ⟨w.heap.size,0,none⟩),.int .u64 150] 109)) (by rw [World.cell?_alloc_lt _ _ ⟨w.heap.size,0,none⟩ (by simp;omega)];simp)
 have st:=iV t ⟨w.heap.size+1+1+1,0,none⟩ e old ((((w.alloc (.cells #[.pointer (some t)] 77)).alloc (.cells #[.pointer (some ⟨12,77,none⟩),.pointer (some ⟨w.heap.size,0,none⟩),.int .u64 150] 109)).alloc (.cells #[.pointer (some ⟨12,77,none⟩),.pointer (some ⟨w.heap.size,0,none⟩),.int .u64 150] 109)).alloc (.cells #[.pointer (some e)] 75))
  (by rw [World.cell?_alloc_at _ _ _ _ (by simp)];rfl)
  (by rw [World.cell?_alloc_lt _ _ t (by simp;omega),World.cell?_alloc_lt _ _ t (by simp;omega),World.cell?_alloc_lt _ _ t (by simp;omega),World.cell?_alloc_lt _ _ t vX];exact yi)
  (by rw [World.frozen?_alloc_old _ _ t (by simp;omega),World.frozen?_alloc_old _ _ t (by simp;omega),World.frozen?_alloc_old _ _ t (by simp;omega),World.frozen?_alloc_old _ _ t (Nat.ne_of_lt vX)];exact yj)
 go_enter Tryz.func22,Tryz.ntmps22
 go_wp2
 refine wp_loop_rounds 1 ?_;rw [rounds_succ]
 go_wp2
 go_ret
 exact ⟨rfl,rfl⟩
set_option maxHeartbeats 4000000 in
theorem hitN (n:Int) (t:Addr) (old:Value) (w:World) (hg:w.cell? ⟨0,0,none⟩=some (.iface 150 (.agg #[.pointer (some ⟨12,27,none⟩)]))) (yi:w.cell? t=some old) (yj:w.frozen? t=false) :
  Calls Tryz.prog 22 #[.iface 83 (.int .i64 n),.iface 88 (.pointer (some t))] w fun ev w'=>ev = .returned (.bool true)∧w'=((((w.alloc (.cells #[.pointer (some t)] 88)).alloc (.cells #[.pointer (some ⟨12,88,none⟩),.pointer (some ⟨w.heap.size,0,none⟩),.int .u64 150] 109)).alloc (.cells #[.pointer (some ⟨12,88,none⟩),.pointer (some ⟨w.heap.size,0,none⟩),.int .u64 150] 109)).alloc (.cells #[.int .i64 n] 83)).setCell t (.int .i64 n):=by
 have zBN := @run_callFunc_extern Tryz.prog 36 _ (fun args=>ReflectliteValue.unpack (args.getD 0 (.tuple #[]))) Tryz.func36 (by kernel_rfl) (by kernel_rfl) (by kernel_rfl) (by kernel_rfl);have zBO := @run_callFunc_extern Tryz.prog 37 _ (ReflectliteValue.methodAny (ReflectliteValue.valueError "reflectlite.Value.Type" 0) (fun t _ _ _=>ReflectliteType.toType t)) Tryz.func37 (by kernel_rfl) (by kernel_rfl) (by kernel_rfl) (by kernel_rfl);have zBP := @run_callFunc_extern Tryz.prog 38 _ (ReflectliteValue.method (ReflectliteValue.valueError "reflectlite.Value.IsNil" 0) ReflectliteValue.isNil) Tryz.func38 (by kernel_rfl) (by kernel_rfl) (by kernel_rfl) (by kernel_rfl);have zBQ := @run_callFunc_extern Tryz.prog 188 _ (ReflectliteType.abiMethod fun t=>do pure (.int .u8 (←Rtype.kind t))) Tryz.func188 (by kernel_rfl) (by kernel_rfl) (by kernel_rfl) (by kernel_rfl);have zBR := @run_callFunc_extern Tryz.prog 200 _ (ReflectliteType.method ReflectliteType.elem) Tryz.func200 (by kernel_rfl) (by kernel_rfl) (by kernel_rfl) (by kernel_rfl);have zBS := @run_callFunc_extern Tryz.prog 201 _ (ReflectliteType.relation "Implements" ReflectliteType.implements_) Tryz.func201 (by kernel_rfl) (by kernel_rfl) (by kernel_rfl) (by kernel_rfl);have zBT := @run_callFunc_extern Tryz.prog 43 _ ReflectliteType.typeOf Tryz.func43 (by kernel_rfl) (by kernel_rfl) (by kernel_rfl) (by kernel_rfl);have zBU := @run_callFunc_extern Tryz.prog 198 _ (ReflectliteType.relation "AssignableTo" ReflectliteType.assignableTo) Tryz.func198 (by kernel_rfl) (by kernel_rfl) (by kernel_rfl) (by kernel_rfl);have zBV := @run_callFunc_extern Tryz.prog 56 _ (ReflectliteValue.method (ReflectliteValue.valueError "reflectlite.Value.Elem" 0) ReflectliteValue.elem) Tryz.func56 (by kernel_rfl) (by kernel_rfl) (by kernel_rfl) (by kernel_rfl);have zBW := @run_callFunc_extern Tryz.prog 57 _ ReflectliteValue.set Tryz.func57 (by kernel_rfl) (by kernel_rfl) (by kernel_rfl) (by kernel_rfl);have mK:=P7;have mE:=P8;have mI:=P9;have mA:=QA;have f6:=iW;have f7:=iX;have k27:=iY;have k25:=iZ;have e27:=ib;have i25:=ic;have n8:=ia ⟨w.heap.size,0,none⟩ t ((w.alloc (.cells #[.pointer (some t)] 88)).alloc (.cells #[.pointer (some ⟨12,88,none⟩),.pointer (some ⟨w.heap.size,0,none⟩),.int .u64 150] 109)) (by simp)
 have sd:0<w.heap.size:=by
  rcases Nat.lt_or_ge 0 w.heap.size with h|h
  ·exact h
  ·simp [World.cell?,Array.getElem?_eq_none h] at hg
 have vm:((w.alloc (.cells #[.pointer (some t)] 88)).alloc (.cells #[.pointer (some ⟨12,88,none⟩),.pointer (some ⟨w.heap.size,0,none⟩),.int .u64 150] 109)).cell? ⟨0,0,none⟩=some (.iface 150 (.agg #[.pointer (some ⟨12,27,none⟩)])):=by rw [World.cell?_alloc_lt _ _ ⟨0,0,none⟩ (by simp<;>omega),World.cell?_alloc_lt _ _ ⟨0,0,none⟩ sd];exact hg
 have tO:=typeOfEN;have a25:=ie;have v25:=ig
 have vX:t.block<w.heap.size:=by
  rcases Nat.lt_or_ge t.block w.heap.size with h|h
  ·exact h
  ·simp [World.cell?,Array.getElem?_eq_none h] at yi
 have el:=ij ⟨w.heap.size,0,none⟩ t (((w.alloc (.cells #[.pointer (some t)] 88)).alloc (.cells #[.pointer (some ⟨12,88,none⟩),.pointer (some ⟨w.heap.size,0,none⟩),.int .u64 150] 109)).alloc (.cells #[.pointer (some ⟨12,88,none⟩),.pointer (some ⟨w.heap.size,0,none⟩),.int .u64 150] 109)) (by rw [World.cell?_alloc_lt _ _ ⟨w.heap.size,0,none⟩ (by simp;omega)];simp)
 have st:=io t ⟨w.heap.size+1+1+1,0,none⟩ n old ((((w.alloc (.cells #[.pointer (some t)] 88)).alloc (.cells #[.pointer (some ⟨12,88,none⟩),.pointer (some ⟨w.heap.size,0,none⟩),.int .u64 150] 109)).alloc (.cells #[.pointer (some ⟨12,88,none⟩),.pointer (some ⟨w.heap.size,0,none⟩),.int .u64 150] 109)).alloc (.cells #[.int .i64 n] 83))
  (by rw [World.cell?_alloc_at _ _ _ _ (by simp)];rfl)
  (by rw [World.cell?_alloc_lt _ _ t (by simp;omega),World.cell?_alloc_lt _ _ t (by simp;omega),World.cell?_alloc_lt _ _ t (by simp;omega),World.cell?_alloc_lt _ _ t vX];exact yi)
  (by rw [World.frozen?_alloc_old _ _ t (by simp;omega),World.frozen?_alloc_old _ _ t (by simp;omega),World.frozen?_alloc_old _ _ t (by simp;omega),World.frozen?_alloc_old _ _ t (Nat.ne_of_lt vX)];exact yj)
 go_enter Tryz.func22,Tryz.ntmps22
 go_wp2
 refine wp_loop_rounds 1 ?_;rw [rounds_succ]
 go_wp2
 go_ret
 exact ⟨rfl,rfl⟩
theorem ip (w:World):(ReflectliteType.relation "AssignableTo" ReflectliteType.assignableTo #[.agg #[.pointer (some ⟨12,83,none⟩)],.iface 150 (.agg #[.pointer (some ⟨12,75,none⟩)])]).run Tryz.prog w = .ok (.bool false) w:=by kernel_rfl
theorem noAs (v:Value) (xT:TypeId) (w:World):(Instr.typeAssert (.iface 83 v) xT 154 true).run Tryz.prog w = .ok (.tuple #[.nilIface,.bool false]) w:=run_typeAssert_lacksB Tryz.underlying154 (by kernel_rfl) (by kernel_rfl) v xT w
theorem noUn (v:Value) (xT:TypeId) (w:World):(Instr.typeAssert (.iface 83 v) xT 157 true).run Tryz.prog w = .ok (.tuple #[.nilIface,.bool false]) w:=run_typeAssert_lacksB Tryz.underlying157 (by kernel_rfl) (by kernel_rfl) v xT w
theorem noUs (v:Value) (xT:TypeId) (w:World):(Instr.typeAssert (.iface 83 v) xT 159 true).run Tryz.prog w = .ok (.tuple #[.nilIface,.bool false]) w:=run_typeAssert_lacksB Tryz.underlying159 (by kernel_rfl) (by kernel_rfl) v xT w
set_option maxHeartbeats 4000000 in
theorem missF (n:Int) (t:Addr) (w:World) (hg:w.cell? ⟨0,0,none⟩=some (.iface 150 (.agg #[.pointer (some ⟨12,27,none⟩)]))) :
  Calls Tryz.prog 22 #[.iface 83 (.int .i64 n),.iface 77 (.pointer (some t))] w fun ev w'=>ev = .returned (.bool false)∧w'=(((w.alloc (.cells #[.pointer (some t)] 77)).alloc (.cells #[.pointer (some ⟨12,77,none⟩),.pointer (some ⟨w.heap.size,0,none⟩),.int .u64 150] 109)).alloc (.cells #[.pointer (some ⟨12,77,none⟩),.pointer (some ⟨w.heap.size,0,none⟩),.int .u64 150] 109)):=by
 have zBN := @run_callFunc_extern Tryz.prog 36 _ (fun args=>ReflectliteValue.unpack (args.getD 0 (.tuple #[]))) Tryz.func36 (by kernel_rfl) (by kernel_rfl) (by kernel_rfl) (by kernel_rfl);have zBO := @run_callFunc_extern Tryz.prog 37 _ (ReflectliteValue.methodAny (ReflectliteValue.valueError "reflectlite.Value.Type" 0) (fun t _ _ _=>ReflectliteType.toType t)) Tryz.func37 (by kernel_rfl) (by kernel_rfl) (by kernel_rfl) (by kernel_rfl);have zBP := @run_callFunc_extern Tryz.prog 38 _ (ReflectliteValue.method (ReflectliteValue.valueError "reflectlite.Value.IsNil" 0) ReflectliteValue.isNil) Tryz.func38 (by kernel_rfl) (by kernel_rfl) (by kernel_rfl) (by kernel_rfl);have zBQ := @run_callFunc_extern Tryz.prog 188 _ (ReflectliteType.abiMethod fun t=>do pure (.int .u8 (←Rtype.kind t))) Tryz.func188 (by kernel_rfl) (by kernel_rfl) (by kernel_rfl) (by kernel_rfl);have zBR := @run_callFunc_extern Tryz.prog 200 _ (ReflectliteType.method ReflectliteType.elem) Tryz.func200 (by kernel_rfl) (by kernel_rfl) (by kernel_rfl) (by kernel_rfl);have zBS := @run_callFunc_extern Tryz.prog 201 _ (ReflectliteType.relation "Implements" ReflectliteType.implements_) Tryz.func201 (by kernel_rfl) (by kernel_rfl) (by kernel_rfl) (by kernel_rfl);have zBT := @run_callFunc_extern Tryz.prog 43 _ ReflectliteType.typeOf Tryz.func43 (by kernel_rfl) (by kernel_rfl) (by kernel_rfl) (by kernel_rfl);have zBU := @run_callFunc_extern Tryz.prog 198 _ (ReflectliteType.relation "AssignableTo" ReflectliteType.assignableTo) Tryz.func198 (by kernel_rfl) (by kernel_rfl) (by kernel_rfl) (by kernel_rfl);have zBV := @run_callFunc_extern Tryz.prog 56 _ (ReflectliteValue.method (ReflectliteValue.valueError "reflectlite.Value.Elem" 0) ReflectliteValue.elem) Tryz.func56 (by kernel_rfl) (by kernel_rfl) (by kernel_rfl) (by kernel_rfl);have zBW := @run_callFunc_extern Tryz.prog 57 _ ReflectliteValue.set Tryz.func57 (by kernel_rfl) (by kernel_rfl) (by kernel_rfl) (by kernel_rfl);have mK:=P7;have mE:=P8;have mI:=P9;have mA:=QA;have f6:=U6;have f7:=U7;have k27:=U8;have k25:=U9;have e27:=VC;have i25:=VD;have n8:=VB ⟨w.heap.size,0,none⟩ t ((w.alloc (.cells #[.pointer (some t)] 77)).alloc (.cells #[.pointer (some ⟨12,77,none⟩),.pointer (some ⟨w.heap.size,0,none⟩),.int .u64 150] 109)) (by simp)
 have sd:0<w.heap.size:=by
  rcases Nat.lt_or_ge 0 w.heap.size with h|h
  ·exact h
  ·simp [World.cell?,Array.getElem?_eq_none h] at hg
 have vm:((w.alloc (.cells #[.pointer (some t)] 77)).alloc (.cells #[.pointer (some ⟨12,77,none⟩),.pointer (some ⟨w.heap.size,0,none⟩),.int .u64 150] 109)).cell? ⟨0,0,none⟩=some (.iface 150 (.agg #[.pointer (some ⟨12,27,none⟩)])):=by rw [World.cell?_alloc_lt _ _ ⟨0,0,none⟩ (by simp<;>omega),World.cell?_alloc_lt _ _ ⟨0,0,none⟩ sd];exact hg
 have tO:=typeOfEN;have a25:=ip;have b1:=noAs;have b2:=noUn;have b3:=noUs
 go_enter Tryz.func22,Tryz.ntmps22
 go_wp2
 refine wp_loop_rounds 1 ?_;rw [rounds_succ]
 go_wp2
 go_ret
 exact ⟨rfl,rfl⟩
end Go.Proofs.YtffcldkblcmmiaaGreatDoor.As
namespace Go.Proofs.YtffcldkblcmmiaaGreatDoor
open Go.RowKit Go.Proofs.Fw Go.Stop Go.Extern
set_option maxRecDepth 100000
set_option maxHeartbeats 4000000
def Kd:List (Nat × AV):=(0,.vptr [.iface 150 (.agg [.adr 12 27])] 0)::Jd
def Le (t:TypeId) (n:String):Option FuncId:=if t=75∧n = "Unwrap" then some 192 else none
def Cp:Env:=⟨HZ Kd,Le,fun t=>t==85 || t==258 || t==33,fun _=>false,fun _=>false⟩
@[simp] theorem p6 (t:TypeId):Cp.soft t=false:=AP rfl
@[simp] theorem immW:Cp.imm 33=true:=by decide
theorem Ke:C7 zP Cp:=by
 intro t name f h v w;simp only [Cp,Le] at h
 split at h
 ·rename_i hh
  obtain ⟨rfl,rfl⟩:=hh;injection h with h;subst h
  kernel_rfl
 ·cases h
@[simp] theorem methU:Cp.meth 75 "Unwrap" = some 192:=rfl
theorem Lf:∀i,low 0 (Cp.glob i)=true:=Pf (by
 intro x hx;simp only [Kd,Jd,List.mem_cons,List.not_mem_nil,or_false] at hx;rcases hx with rfl|rfl|rfl
 ·rfl
 ·show lowL 0 LY=true
  kernel_rfl
 ·rfl)
theorem iq {g:Gh} (h:An Cp g):An AM g:=by
 intro i
 by_cases hi:i=0
 ·subst hi
  have:AM.glob 0 = .undef:=by rfl
  rw [this];trivial
 ·have:AM.glob i=Cp.glob i:=by
   simp only [AM,Cp,HZ,Kd,List.find?_cons];rw [show ((0:Nat)==i)=false by simp;omega]
  rw [this];exact h i
theorem CS.toN {f:FuncId} {args:List AV} {H H':AH} {v:AV} (h:CS zP AM f args H v H'):CS zP Cp f args H v H':=fun g w cargs R hG hA=>h g w cargs R (iq hG) hA
theorem AS.toN {O:Orc} (h:AS zP AM O):AS zP Cp O:=fun f args H v H' ho=>by obtain ⟨h1,h2,h3⟩:=h f args H v H' ho;exact ⟨CS.toN h1,h2,h3⟩
def AY:List (List UInt8 × Int)→Int→AV
 |[],c => .iface 83 (.int .i64 c)
 |(w,p)::r,c => .iface 75 (.vptr [.str w,.int .i64 p,AY r c] 0)
theorem Gc:∀(l:List (List UInt8 × Int)) (c:Int),low 0 (AY l c)=true
 |[],c=>rfl
 |(w,p)::r,c=>by simp [AY,Gc r c]
section
variable {P:Program}
theorem NN {t I:TypeId} {z:AV} {want:Array (String × TypeId)} (hu:P.underlying I=some (.interface want)) (h:(P.info? t).map (fun i=>(lacking want i.methods).isEmpty)=some false) (hz:Am P I=some z) (v:AV) :
  EX P (.iface t v) I true=some (.tup [z,.bool false]):=by
 obtain ⟨i,hi,hl⟩:=Option.map_eq_some_iff.1 h;obtain ⟨m,hm⟩:=missingMethod_some (want:=want) (got:=i.methods) (fun e=>by rw [e] at hl;cases hl);simp [EX,hu,hi,hm,hz]
theorem ir {t I:TypeId} {want:Array (String × TypeId)} (hu:P.underlying I=some (.interface want)) (h:(P.info? t).map (fun i=>(lacking want i.methods).isEmpty)=some true) (v:AV) :
  EX P (.iface t v) I true=some (.tup [.iface t v,.bool true]):=by
 obtain ⟨i,hi,hl⟩:=Option.map_eq_some_iff.1 h;have hm:=missingMethod_none (want:=want) (got:=i.methods) (List.isEmpty_iff.1 hl);simp [EX,hu,hi,hm]
end
@[simp high] theorem fIs (v:AV):EX zP (.iface 75 v) 176 true=some (.tup [.nilIface,.bool false]):=NN Tryz.underlying176 (by kernel_rfl) (by kernel_rfl) v
@[simp high] theorem fUn (v:AV):EX zP (.iface 75 v) 157 true=some (.tup [.iface 75 v,.bool true]):=ir Tryz.underlying157 (by kernel_rfl) v
@[simp high] theorem eIs (v:AV):EX zP (.iface 83 v) 176 true=some (.tup [.nilIface,.bool false]):=NN Tryz.underlying176 (by kernel_rfl) (by kernel_rfl) v
@[simp high] theorem eUn (v:AV):EX zP (.iface 83 v) 157 true=some (.tup [.nilIface,.bool false]):=NN Tryz.underlying157 (by kernel_rfl) (by kernel_rfl) v
@[simp high] theorem eUs (v:AV):EX zP (.iface 83 v) 159 true=some (.tup [.nilIface,.bool false]):=NN Tryz.underlying159 (by kernel_rfl) (by kernel_rfl) v
@[simp high] theorem eqEE (a b:Int):aeq zP 27 (.iface 83 (.int .i64 a)) (.iface 83 (.int .i64 b))=some (a==b):=by obtain ⟨i,hi,hc⟩:=Option.map_eq_some_iff.1 (show (zP.info? 83).map (·.comparable)=some true by kernel_rfl);simp [aeq,hi,hc]
@[simp high] theorem eqFE (v:AV) (b:Int):aeq zP 27 (.iface 75 v) (.iface 83 (.int .i64 b))=some false:=by simp [aeq]
def oUw:Orc:=fun f args H=>if f=192 then (match args with
 |[.vptr [a,b,e] 0]=>if low 0 a=true∧low 0 b=true∧low 0 e=true then some (e,H) else none
 |_=>none) else none
theorem iu (a b e:AV) (ha:low 0 a=true) (hb:low 0 b=true) (he:low 0 e=true) (H:AH):CS zP Cp 192 [.vptr [a,b,e] 0] H e H:=by refine CS.run0 (O:=Bl) ⟨Jc,Ke,Ae⟩ Lf Tryz.func192 (by kernel_rfl) (by kernel_rfl) 0 (by simp [Tryz.f192]) ?_ he (by simp [ha,hb,he]) H;simp [Tryz.f192,Ja _ _ he]
theorem iw:AS zP Cp oUw:=AS.pure fun f args H v H' h=>by
 unfold oUw at h
 split at h
 ·rename_i hf
  subst hf
  split at h
  ·split at h
   ·rename_i hl
    injection h with h;simp only [Prod.mk.injEq] at h;obtain ⟨rfl,rfl⟩:=h;exact ⟨rfl,iu _ _ _ hl.1 hl.2.1 hl.2.2 _⟩
   ·cases h
  ·cases h
 ·cases h
@[simp high] theorem p9 (w:List UInt8) (p:Int) (l:List (List UInt8 × Int)) (c:Int) (H:AH):oUw 192 [.vptr [.str w,.int .i64 p,AY l c] 0] H=some (AY l c,H):=by simp [oUw,Gc]
theorem VF:Cx oUw zP Cp:=⟨iw,Ke,Ae⟩
@[simp high] theorem qA (l:List (List UInt8 × Int)) (c:Int):aeq zP 27 (AY l c) .nilIface=some false:=by cases l<;>simp [AY,aeq]
@[simp high] theorem qB (l:List (List UInt8 × Int)) (c:Int) (k:Bool):BI zP .eql 27 k (AY l c) .nilIface=some (.bool false):=by cases l<;>simp [AY]
@[simp high] theorem qC (l:List (List UInt8 × Int)) (c:Int) (k:Bool):BI zP .neq 27 k (AY l c) .nilIface=some (.bool true):=by cases l<;>simp [AY]
def TiI (c n:Int) (k:Nat) (t:List AV) (H:AH):Prop :=∃r:List (List UInt8 × Int),r.length=k∧t=mkT 54 [(0,AY r c),(1,.iface 83 (.int .i64 n)),(2,.bool true)]∧H=[]
theorem ix (l:List (List UInt8 × Int)) (c n:Int) (H:AH):CS zP Cp 44 [AY l c,.iface 83 (.int .i64 n),.bool true] H (.bool (c==n)) H:=by
 refine CS.tr0 Lf Tryz.func44 (by kernel_rfl) 0 (by simp [Tryz.f44]) (fun B hB hG => ?_) rfl (by simp [Gc]) H;refine Tr.go VF hG (by kernel_rfl) ?_;simp [Tryz.f44];refine LpT.loopN VF hG (by kernel_rfl) (TiI c n) l.length (t':=mkT 54 [(0,AY l c),(1,.iface 83 (.int .i64 n)),(2,.bool true)]) (H':=[]) (AE.mk0 hB (by simp [Gc])) ⟨l,rfl,rfl,rfl⟩ ?_;rintro k t H ⟨r,hk,rfl,rfl⟩;cases r with
 |nil =>
  by_cases h:c=n
  ·subst h
   simp [AY,Bj,M5]
  ·have h2:(c==n)=false:=by simp [h]
   simp [AY,h,h2,Bj,M5]
 |cons x r =>obtain ⟨w,p⟩:=x;subst hk;simp [AY,M7];exact Nxt.mk r.length (by simp) (AE.mk0 (l':=[(0,AY r c),(1,.iface 83 (.int .i64 n)),(2,.bool true)]) hB (by simp [Gc])) ⟨r,rfl,rfl,rfl⟩
theorem iy (w:World):(Go.Extern.ReflectliteType.method (fun t=>do Go.Extern.Rtype.noPackHeld "Comparable" t;(fun a:TypeInfo=>Value.bool a.comparable) <$> typeInfo t) #[.agg #[.pointer (some ⟨12,83,none⟩)]]).run zP w = .ok (.bool true) w:=by kernel_rfl
theorem iz (l:List (List UInt8 × Int)) (c n:Int) (H:AH):CS Tryz.prog Cp 25 [AY l c,.iface 83 (.int .i64 n)] H (.bool (c==n)) H:=by
 refine CS.frame ?_ Lf (by simp [Gc]) H;intro g w cargs R hG hA;have hA':=hA;simp only [AB] at hA;obtain ⟨v0,ws0,rfl,h0,v1,ws1,rfl,h1,rfl⟩:=hA;simp only [AA] at h1;obtain ⟨y1,rfl,rfl⟩:=h1
 have h38:=ix l c n [] g w [v0,.iface 83 (.int .i64 n),.bool true] R hG (by
  simp only [AB]
  exact ⟨_,_,rfl,h0,_,_,rfl,by simp [AA],_,_,rfl,by simp [AA],rfl⟩)
 have tO:=As.typeOfEN;have mC:=As.methodComparable;have cE:=iy;have x1 := @run_callFunc_extern Tryz.prog 199 _ (Go.Extern.ReflectliteType.method (fun t=>do Go.Extern.Rtype.noPackHeld "Comparable" t;pure (.bool (←typeInfo t).comparable))) Tryz.func199 (by kernel_rfl) (by kernel_rfl) (by kernel_rfl) (by kernel_rfl);have x2 := @run_callFunc_extern Tryz.prog 43 _ Go.Extern.ReflectliteType.typeOf Tryz.func43 (by kernel_rfl) (by kernel_rfl) (by kernel_rfl) (by kernel_rfl);cases l with
 |nil =>
  simp only [AY,AA] at h0;obtain ⟨y0,rfl,rfl⟩:=h0
  go_enter Tryz.func25,Tryz.ntmps25
  go_wp2_with (go_at_call 44;refine h38.mono ?_;rintro e w' ⟨g',cv,rfl,R',p,hr⟩)
  go_ret
  exact ⟨g',_,rfl,R',p,hr⟩
 |cons x r =>
  obtain ⟨wd,p⟩:=x;simp only [AY,AA] at h0;obtain ⟨y0,rfl,hy⟩:=h0
  go_enter Tryz.func25,Tryz.ntmps25
  go_wp2_with (go_at_call 44;refine h38.mono ?_;rintro e w' ⟨g',cv,rfl,R',p,hr⟩)
  go_ret
  exact ⟨g',_,rfl,R',p,hr⟩
open Go.RowKit Go.Proofs.Fw
theorem VG {g:Gh} {H:AH} {w W4:World} (R:Rel g H w) {id b:Nat} {x a:AV} {el:TypeId} {ov v:Value} (hH:H.at id=some (.box [x])) (hM:g.M id=some (.box b)) (h1:w.heap[b]? = some (.cells #[ov] el (0,0)))
  (hb:Below w.heap.size w W4) (hr:AA g a v) :
  Rel g (H.set id (some (.box [a]))) (W4.setCell ⟨b,0,none⟩ v)∧AK g H w g (H.set id (some (.box [a]))) (W4.setCell ⟨b,0,none⟩ v):=by
 obtain ⟨R4,P4⟩:=R.below hb;have sd:b<w.heap.size:=(Array.getElem?_eq_some_iff.1 h1).1;have h4:W4.heap[b]? = some (.cells #[ov] el (0,0)):=by rw [hb.block b sd];exact h1
 have hs:(W4.setCell ⟨b,0,none⟩ v).heap[b]? = some (.cells (List.toArray [v]) el (0,0)):=by simp [World.setCell,Array.getElem?_modify,h4]
 obtain ⟨R5,P5⟩:=R4.write_box (w':=W4.setCell ⟨b,0,none⟩ v) (cs:=[a]) (vs:=[v]) hH hM hs (by simp only [AB];exact ⟨_,_,rfl,hr,rfl⟩) (fun k hk=>Below.heap_setCell W4 ⟨b,0,none⟩ v k hk) (by simp [World.setCell]) rfl rfl rfl;exact ⟨R5,AK.trans R P4 P5⟩
theorem QB {g:Gh} {H:AH} {w:World} (hG:An Cp g) (R:Rel g H w):w.cell? ⟨0,0,none⟩=some (.iface 150 (.agg #[.pointer (some ⟨12,27,none⟩)])):=by have h:=hG 0;rw [show Cp.glob 0 = .vptr [.iface 150 (.agg [.adr 12 27])] 0 from rfl] at h;simp only [AA,AB] at h;obtain ⟨b,o,vs,hv,⟨v,ws,rfl,⟨y,rfl,vs2,rfl,v3,ws3,rfl,rfl,rfl⟩,rfl⟩,hh⟩:=h;simp at hv;obtain ⟨rfl,rfl⟩:=hv;exact R.imm _ _ _ (hh 0 _ rfl)
theorem VH (w:World) (a b c:Obj):Below w.heap.size w (((w.alloc a).alloc b).alloc c) :=(((Below.refl _ w).alloc (Nat.le_refl _) a).alloc (by simp) b).alloc (by simp;omega) c
theorem NO (w:World) (a b c d:Obj):Below w.heap.size w ((((w.alloc a).alloc b).alloc c).alloc d) :=(VH w a b c).alloc (by simp;omega) d
theorem VI {cs:List AV} {id:Nat} {x:AV} {H:AH} (hH:H.at id=some (.box [x])) :
  CS zP Cp 22 [.iface 75 (.vptr cs 0),.iface 77 (.ptr id 0)] H (.bool true) (H.set id (some (.box [.vptr cs 0]))):=by
 intro g w cargs R hG hA;simp only [AB,AA] at hA;obtain ⟨v0,ws0,rfl,⟨y0,rfl,b0,o0,vs0,rfl,hr0,zi⟩,v1,ws1,rfl,⟨y1,rfl,b,hM,rfl⟩,rfl⟩:=hA;obtain ⟨vs,el,h1,h2,h3⟩:=Hw R hH hM;simp only [AB] at h2;obtain ⟨ov,ws,rfl,_,rfl⟩:=h2;have hc:w.cell? ⟨b,0,none⟩=some ov:=by simpa using h3 0 ov rfl
 have hf:w.frozen? ⟨b,0,none⟩=false:=by simp [World.frozen?,h1]
 refine (As.hitF ⟨b0,o0+0,none⟩ ⟨b,0,none⟩ ov w (QB hG R) hc hf).mono ?_;rintro e w' ⟨rfl,rfl⟩;have hr:=fun W4 hb=>VG (W4:=W4) (a := .vptr cs 0) (v := .pointer (some ⟨b0,o0+0,none⟩)) R hH hM h1 hb (by simp only [AA];exact ⟨b0,o0,vs0,rfl,hr0,zi⟩)
 exact ⟨g,_,rfl,(hr _ (NO w _ _ _ _)).1,(hr _ (NO w _ _ _ _)).2,by simp [AA]⟩
theorem i6 {c:Int} {id:Nat} {x:AV} {H:AH} (hH:H.at id=some (.box [x])) :
  CS zP Cp 22 [.iface 83 (.int .i64 c),.iface 88 (.ptr id 0)] H (.bool true) (H.set id (some (.box [.int .i64 c]))):=by
 intro g w cargs R hG hA;simp only [AB,AA] at hA;obtain ⟨v0,ws0,rfl,⟨y0,rfl,rfl⟩,v1,ws1,rfl,⟨y1,rfl,b,hM,rfl⟩,rfl⟩:=hA;obtain ⟨vs,el,h1,h2,h3⟩:=Hw R hH hM;simp only [AB] at h2;obtain ⟨ov,ws,rfl,_,rfl⟩:=h2;have hc:w.cell? ⟨b,0,none⟩=some ov:=by simpa using h3 0 ov rfl
 have hf:w.frozen? ⟨b,0,none⟩=false:=by simp [World.frozen?,h1]
 refine (As.hitN c ⟨b,0,none⟩ ov w (QB hG R) hc hf).mono ?_;rintro e w' ⟨rfl,rfl⟩;have hr:=fun W4 hb=>VG (W4:=W4) (a := .int .i64 c) (v := .int .i64 c) R hH hM h1 hb (by simp only [AA])
 exact ⟨g,_,rfl,(hr _ (NO w _ _ _ _)).1,(hr _ (NO w _ _ _ _)).2,by simp [AA]⟩
theorem i7 {c:Int} {id:Nat} {H:AH} :
  CS zP Cp 22 [.iface 83 (.int .i64 c),.iface 77 (.ptr id 0)] H (.bool false) H:=by
 intro g w cargs R hG hA;simp only [AB,AA] at hA;obtain ⟨v0,ws0,rfl,⟨y0,rfl,rfl⟩,v1,ws1,rfl,⟨y1,rfl,b,hM,rfl⟩,rfl⟩:=hA;refine (As.missF c ⟨b,0,none⟩ w (QB hG R)).mono ?_;rintro e w' ⟨rfl,rfl⟩;obtain ⟨R',P'⟩:=R.below (VH w _ _ _);exact ⟨g,_,rfl,R',P',by simp [AA]⟩
end Go.Proofs.YtffcldkblcmmiaaGreatDoor
