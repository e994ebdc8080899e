/- Statements: what the reference's reader makes of words, aS p .. The document's trees: Tree. -/
import Derived.Test.YtejjlojfgcgopaaGreatDoorZw8
set_option linter.unusedSimpArgs false
set_option linter.unusedVariables false
namespace Go.Proofs.YtejjlojfgcgopaaGreatDoor
set_option maxHeartbeats 1000000
def B3 (ts:List Wd) (r:Sr) (k:Nat) (s:List UInt8):Sr:=(if isW ts r k s then r else r.fail r.at_ 2).step
def CD (ts:List Wd) (r:Sr):List UInt8 × Sr:=if isW ts r 1 [] then (((ts[r.at_]?).getD wd0).text,r.step) else ([],r.fail r.at_ 2)
def Co (ts:List Wd) (r:Sr):Nat × Sr:=if isW ts r 2 [] then (((ts[r.at_]?).getD wd0).n,r.step) else (0,r.fail r.at_ 2)
def C4 (r:Sr) (n:Nat) (w:Option (Nat × Nat)):Sr:=match r.err with
 | some _=>r
 | none=>(match w with
  | some (p,c)=>⟨r.at_,some ([(Bo,r.at_+p),(Hv,p)],c)⟩
  | none=>⟨r.at_+n,none⟩)
def B9 (ts:List Wd) (r:Sr):Ex × Sr:=match r.err with
 | some _=>(.none,r)
 | none=>((B1 (ts.drop r.at_)).1,C4 r (B1 (ts.drop r.at_)).2.1 (B1 (ts.drop r.at_)).2.2)
def CV (ts:List Wd) (r:Sr):Ex × Sr :=
 if isW ts r 1 [] then
  (if isK ts (r.at_+1) 3 Ay then
   (.elem ((ts[r.at_]?).getD wd0).text (C8 (ts.drop r.at_) (B2 (ts.drop r.at_)) ⟨2,0,none⟩).1,C4 r (C8 (ts.drop r.at_) (B2 (ts.drop r.at_)) ⟨2,0,none⟩).2.at_ (C8 (ts.drop r.at_) (B2 (ts.drop r.at_)) ⟨2,0,none⟩).2.err)
  else (.var ((ts[r.at_]?).getD wd0).text,r.step))
 else (.none,r.fail r.at_ 2)
def Dk (ts:List Wd):Nat→List Int→Sr→List Int × Sr
 | 0,d,r=>(d,r)
 | n+1,d,r =>
  let r1:=if 4≤d.length then r.fail (r.at_-1) 4 else r
  let m:=Co ts r1
  let r2:=if m.2.err=none∧m.1=0 then m.2.fail r1.at_ 1 else m.2
  if isW ts r2 3 A7 then Dk ts n (d++[(m.1:Int)]) r2.step else (d++[(m.1:Int)],r2)
def CA (ts:List Wd) (r:Sr):It × Sr :=
 let m:=CD ts r
 if isW ts m.2 3 Ay then (⟨m.1,(Dk ts 6 [] m.2.step).1⟩,B3 ts (Dk ts 6 [] m.2.step).2 3 A0) else (⟨m.1,[]⟩,m.2)
def D2 (ts:List Wd):Nat→List It→Sr→List It × Sr
 | 0,l,r=>(l,r)
 | n+1,l,r=>if isW ts (CA ts r).2 3 A7 then D2 ts n (l++[(CA ts r).1]) (CA ts r).2.step else (l++[(CA ts r).1],(CA ts r).2)
def Fe (ts:List Wd) (r:Sr):List It × Sr:=D2 ts (ts.length+1) [] r
def Lh (ts:List Wd) (r:Sr):Int × Sr :=
 if isW ts r 3 A7 then
  ((if isW ts r.step 3 Bb then Mp (Co ts (CM ts r.step 3 Bb)).1 else ((Co ts (CM ts r.step 3 Bb)).1:Int)),(Co ts (CM ts r.step 3 Bb)).2)
 else (1,r)
def Ff (ts:List Wd) (r:Sr):Sm × Sr :=
 let m:=CD ts r
 let a:=B9 ts (B3 ts m.2 3 isT)
 let b:=B9 ts (B3 ts a.2 3 A7)
 let s:=Lh ts b.2
 ({kind:=3,name:=m.1,lo:=a.1,hi:=b.1,step:=s.1},s.2)
def G9 (ts:List Wd) (r:Sr):(List UInt8 × Ex × Ex) × Sr:=match r.err with
 | some _=>(([],.none,.none),r)
 | none=>((CE (ts.drop r.at_)).1,C4 r (CE (ts.drop r.at_)).2.1 (CE (ts.drop r.at_)).2.2)
def Qn (ts:List Wd) (r:Sr):Sm × Sr :=
 let c:=G9 ts (B3 ts r 3 Ay)
 ({kind:=5,op:=c.1.1,ca:=c.1.2.1,cb:=c.1.2.2},B3 ts (B3 ts c.2 3 A0) 4 Gu)
def Cc (ts:List Wd) (word:List UInt8) (r:Sr):Sm × Sr :=
 if word=IY then ({kind:=1,items:=(Fe ts r).1},(Fe ts r).2)
 else if word=doT then Ff ts r
 else if word=HS then (if isW ts r 4 doT then ({kind:=4},r.step) else ({kind:=7},B3 ts r 4 ifT))
 else if word=ifT then Qn ts r
 else if word=IZ then ({kind:=6},r)
 else if word=Ia then ({kind:=8,to:=(CV ts r).1},(CV ts r).2)
 else if word=Ib then ({kind:=9,e:=(B9 ts r).1},(B9 ts r).2)
 else ({},r.fail (r.at_-1) 2)
def Qo (ts:List Wd) (r:Sr):Sm × Sr :=
 let a:=CV ts r
 let b:=B9 ts (B3 ts a.2 3 isT)
 ({kind:=2,to:=a.1,e:=b.1},b.2)
def D3 (ts:List Wd) (w:Wd):Sm × Sr :=if w.kind=4 then Cc ts w.text ⟨1,none⟩ else if w.kind=1 then Qo ts ⟨0,none⟩ else ({},⟨0,some ([(Bo,0)],2)⟩)
def Kd (ts:List Wd):Sm × Er:=match ts with
 | []=>({},none)
 | w::_ =>
  let x:=D3 ts w
  let r:=if x.2.err=none∧x.2.at_<ts.length then x.2.fail x.2.at_ 2 else x.2
  match r.err with
  | some y=>({},some y)
  | none=>(x.1,none)
def Eg (body:List UInt8):Sm × Er:=match lex (body.length+1) body 0 false with
 | .error (p,e)=>({},some ([(Bo,0),(KG,p)],e))
 | .ok ts=>Kd ts
open Go.RowKit Go.Proofs.Fw
set_option maxRecDepth 100000
set_option maxHeartbeats 4000000
@[simp] theorem immFM:AJ.imm 229=false:=by decide
@[simp] theorem pY:AJ.imm 293=false:=by decide
@[simp] theorem immFW:AJ.imm 57=true:=by decide
@[simp] theorem pZ:AJ.imm 42=true:=by decide
def erP:Er→AV
 | none => .nilSlice
 | some (l,_) => .slice (if l.length=1 then .full else .unk) 2 l.length (B0 (CO l))
def erC:Er→Int
 | none=>0
 | some (_,c)=>(c:Int)
theorem EI {e:Er} (h:AO e):(erC e=0)↔e=none:=by
 cases e with
 | none=>simp [erC]
 | some y =>obtain ⟨l,c⟩:=y;have:=(h l c rfl).2;simp [erC];omega
theorem Hf {e:Er} (h:AO e):((erC e==0):Bool)=e.isNone:=by
 cases e with
 | none=>rfl
 | some y =>rw [Option.isNone_some,beq_eq_false_iff_ne];intro h0;have:=(EI h).1 h0;cases this
theorem Li:∀l,lowL 0 (B0 l)=true
 | []=>rfl
 | (w,p)::l=>by simp [B0,Li l]
@[simp ↓ high] theorem Qp (e:Er):low 0 (erP e)=true:=by
 cases e with
 | none=>rfl
 | some x =>
  simp only [erP]
  split
  ·exact Li _
  ·exact Li _
@[simp ↓ high] theorem pa (m:Nat) (e:Er):low m (erP e)=true:=CY (Nat.zero_le m) _ (Qp e)
@[simp ↓ high] theorem pb (e:Er):Bg (erP e)=[]:=K9 _ (Qp e)
@[simp ↓ high] theorem pd (e:Er):(erP e).known=true:=by cases e<;>rfl
@[simp ↓ high] theorem pf (e:Er):(erP e).one=true:=by cases e<;>rfl
@[simp ↓ high] theorem pg (e:Er):At (erP e)=[erP e]:=by cases e<;>rfl
theorem Vi:∀{a b:List (List UInt8 × Int)},B0 a=B0 b→a=b
 | [],[],_=>rfl
 | [],(w,p)::b,h=>by simp [B0] at h
 | (w,p)::a,[],h=>by simp [B0] at h
 | (w,p)::a,(w',p')::b,h=>by simp only [B0,List.cons.injEq,AV.str.injEq,AV.int.injEq,true_and] at h;rw [h.1,h.2.1,Vi h.2.2]
theorem Nm {x y:Er} (h1:erP x=erP y) (h2:erC x=erC y):x=y:=by
 cases x with
 | none=>cases y with
  | none=>rfl
  | some y=>simp [erP] at h1
 | some x=>cases y with
  | none=>simp [erP] at h1
  | some y =>
   obtain ⟨l,c⟩:=x;obtain ⟨m,d⟩:=y;simp only [erP,AV.slice.injEq] at h1;simp only [erC] at h2;have e2:c=d:=by omega
   rw [QP (Vi h1.2.2.2),e2]
def mkC (ts:List Wd) (a:Int) (e:Er):List AV:=[AD ts,.int .i64 a,erP e,.int .i64 (erC e)]
@[simp] theorem lq (ts:List Wd) (a:Int) (e:Er):mkC ts a e=[AD ts,.int .i64 a,erP e,.int .i64 (erC e)]:=AR rfl
theorem lr (ts:List Wd) (a:Int) (e:Er):lowL 0 (mkC ts a e)=true:=by simp
def Sr.mc (ts:List Wd) (r:Sr):List AV:=mkC ts r.at_ r.err
theorem F8 (ts:List Wd) (r s:Sr) (h:r.mc ts=s.mc ts):r=s:=by
 obtain ⟨a,x⟩:=r;obtain ⟨b,y⟩:=s;simp only [Sr.mc,lq,List.cons.injEq,AV.int.injEq,true_and,and_true] at h;have:=Nm h.2.1 h.2.2;subst this;have:a=b:=by omega
 subst this;rfl
theorem C5 (ts:List Wd) (r:Sr):lowL 0 (r.mc ts)=true:=lr _ _ _
theorem Qq:Cx JT zP AJ:=⟨AS.toF (AS.toX (AS.toN NF)),Bz,Af⟩
theorem lu (ts:List Wd) (r:Sr) (he:AO r.err) (p c:Nat) {H:AH} {id:Nat} (hH:H.at id=some (.box (r.mc ts))) :
  CS zP AJ 121 [.ptr id 0,.int .i64 (p:Int),.int .i64 (c:Int)] H (.tup []) (H.set id (some (.box ((r.fail p c).mc ts)))):=by
 obtain ⟨a,e⟩:=r;refine CS.rd BY Tryz.func121 (by kernel_rfl) 0 (by simp [Tryz.f121]) (fun B hB hG => ?_) (by simp) rfl (C5 _ _) (C5 _ _) hH;refine Tr.goD Qq hG (by kernel_rfl) ?_;cases e with
 | none=>simp [Tryz.f121,Sr.mc,Sr.fail,erC,erP,LQ,Bo,CO,B0]
 | some y =>
  have h0:¬erC (some y)=0:=fun h=>by have:=(EI he).1 h;cases this
  simp [Tryz.f121,Sr.mc,Sr.fail,h0]
theorem lv (ts:List Wd) (r:Sr) (he:AO r.err) (k:Nat) (s:List UInt8) (hs:s≠[]) {H:AH} {id:Nat} (hH:H.at id=some (.box (r.mc ts))) :
  CS zP AJ 164 [.ptr id 0,.int .i64 (k:Int),.str s] H (.bool (isW ts r k s)) (H.set id (some (.box (r.mc ts)))):=by
 obtain ⟨a,e⟩:=r;refine CS.rd BY Tryz.func164 (by kernel_rfl) 0 (by simp [Tryz.f164]) (fun B hB hG => ?_) (by simp) rfl (C5 _ _) (C5 _ _) hH;refine Tr.goD FF hG (by kernel_rfl) ?_;simp [Tryz.f164,Sr.mc];refine LpD.turns FF hG [] [] (by kernel_rfl) ?_;cases e with
 | some y =>
  have h0:(erC (some y)==0)=false:=by rw [Hf he];rfl
  simp [isW,h0]
 | none =>
  by_cases hl:a<ts.length
  ·have hl':(a:Int)<ts.length:=by omega
   obtain ⟨w,hw⟩:∃w,ts[a]? = some w:=⟨_,List.getElem?_eq_getElem hl⟩
   obtain ⟨c0,c1,c3⟩:=Ea hw;have hn:=U7 hw hs k
   by_cases hk:w.kind=k
   ·simp [isW,hn,erC,hl,hl',hk,c0,c1]
   ·have hk':((w.kind:Int)==(k:Int))=false:=by rw [beq_eq_false_iff_ne];omega
    simp [isW,hn,erC,hl,hl',hk,hk',c0,c1]
  ·have hl':¬((a:Int)<ts.length):=by omega
   have hw:ts[a]? = none:=List.getElem?_eq_none (by omega);have hn:isK ts a k s=false:=by simp only [isK,hw]
   simp [isW,hn,erC,hl',hw]
noncomputable def EJ (ts:List Wd):AG zP AJ:=AG.meth 121 (Sr.mc ts) (F8 ts) (fun (_:Nat × Nat) r=>AO r.err) (fun _ x=>[.int .i64 (x.1:Int),.int .i64 (x.2:Int)]) (fun _ _ => .tup []) (fun x r=>r.fail x.1 x.2)
 (fun x r he H id hH=>lu ts r he x.1 x.2 hH) (fun id x y r _ _ h=>by
  obtain ⟨a,b⟩:=x;obtain ⟨c,d⟩:=y;simp only [List.cons.injEq,AV.int.injEq,true_and,and_true] at h;have e1:a=c:=by omega
  have e2:b=d:=by omega
  rw [e1,e2]
  exact ⟨rfl,rfl⟩)
noncomputable def IC (ts:List Wd):AG zP AJ:=AG.meth 164 (Sr.mc ts) (F8 ts) (fun (x:Nat × List UInt8) r=>AO r.err∧x.2≠[]) (fun _ x=>[.int .i64 (x.1:Int),.str x.2]) (fun x r => .bool (isW ts r x.1 x.2)) (fun _ r=>r)
 (fun x r h H id hH=>lv ts r h.1 x.1 x.2 h.2 hH) (fun id x y r _ _ h=>by
  obtain ⟨a,b⟩:=x;obtain ⟨c,d⟩:=y;simp only [List.cons.injEq,AV.int.injEq,AV.str.injEq,true_and,and_true] at h;have e1:a=c:=by omega
  rw [e1,h.2]
  exact ⟨rfl,rfl⟩)
section
variable {L:List (AG zP AJ)} {ts:List Wd}
theorem Nn (hL:(L.map (·.f)).Nodup) (hF:EJ ts∈L) (r:Sr) (he:AO r.err) (p c:Int) (hp:0≤p) (hc:0≤c) (H:AH):oOf L 121 [.ptr 0 0,.int .i64 p,.int .i64 c] (some (.box [AD ts,.int .i64 (r.at_:Int),erP r.err,.int .i64 (erC r.err)])::H) =
  some (.tup [],some (.box [AD ts,.int .i64 (r.at_:Int),erP (some (r.err.getD ([(Bo,p.toNat)],c.toNat))),.int .i64 (erC (some (r.err.getD ([(Bo,p.toNat)],c.toNat))))])::H):=by
 have:=Bn hL hF (p.toNat,c.toNat) r (H:=some (.box (r.mc ts))::H) (id:=0) rfl he;simpa [Sr.mc,Sr.fail,Int.toNat_of_nonneg hp,Int.toNat_of_nonneg hc] using this
theorem No (hL:(L.map (·.f)).Nodup) (hF:IC ts∈L) (r:Sr) (he:AO r.err) (k:Nat) (s:List UInt8) (hs:s≠[]) (H:AH):oOf L 164 [.ptr 0 0,.int .i64 (k:Int),.str s] (some (.box [AD ts,.int .i64 (r.at_:Int),erP r.err,.int .i64 (erC r.err)])::H) =
  some (.bool (isW ts r k s),some (.box [AD ts,.int .i64 (r.at_:Int),erP r.err,.int .i64 (erC r.err)])::H):=by
 have:=Bn hL hF (k,s) r (H:=some (.box (r.mc ts))::H) (id:=0) rfl ⟨he,hs⟩;simpa [Sr.mc] using this
end
theorem lw (ts:List Wd) (r:Sr) (he:AO r.err) (hr:r.at_<1000000000) (k:Nat) (s:List UInt8) (hs:s≠[]) {H:AH} {id:Nat} (hH:H.at id=some (.box (r.mc ts))) :
  CS zP AJ 119 [.ptr id 0,.int .i64 (k:Int),.str s] H (.tup []) (H.set id (some (.box ((B3 ts r k s).mc ts)))):=by
 refine CS.rd BY Tryz.func119 (by kernel_rfl) 0 (by simp [Tryz.f119]) (fun B hB hG => ?_) (by simp) rfl (C5 _ _) (C5 _ _) hH;have hL:([EJ ts,IC ts].map (·.f)).Nodup:=show ([121,164]:List Nat).Nodup by decide
 have X:=Bv [EJ ts,IC ts] Bz Af;have h1:=Nn hL (ts:=ts) (by simp) r he r.at_ 2 (by omega) (by omega);have h2:=No hL (ts:=ts) (by simp) r he k s hs;generalize oOf [EJ ts,IC ts]=O at X h1 h2;refine Tr.goD X hG (by kernel_rfl) ?_;have w1:IntKind.i64.wrap ((r.at_:Int)+1)=(r.at_:Int)+1:=Ab (by omega) (by omega);simp at h1;cases hw:isW ts r k s with
 | true =>rw [hw] at h2;simp [Tryz.f119,Sr.mc,h1,h2,w1,B3,hw,Sr.step]
 | false =>rw [hw] at h2;simp [Tryz.f119,Sr.mc,h1,h2,w1,B3,hw,Sr.step,Sr.fail]
theorem ly (ts:List Wd) (po:ts.length<1000000) (r:Sr) (he:AO r.err) (s:List UInt8) (hs:s≠[]) {H:AH} {id:Nat} (hH:H.at id=some (.box (r.mc ts))) :
  CS zP AJ 190 [.ptr id 0,.str s] H (.bool (isW ts r 3 s)) (H.set id (some (.box ((CM ts r 3 s).mc ts)))):=by
 refine CS.rd BY Tryz.func190 (by kernel_rfl) 0 (by simp [Tryz.f190]) (fun B hB hG => ?_) (by simp) rfl (C5 _ _) (C5 _ _) hH;have hL:([IC ts].map (·.f)).Nodup:=show ([164]:List Nat).Nodup by decide
 have X:=Bv [IC ts] Bz Af;have h2:=No hL (ts:=ts) (by simp) r he 3 s hs;generalize oOf [IC ts]=O at X h2;refine Tr.goD X hG (by kernel_rfl) ?_;simp at h2;cases hw:isW ts r 3 s with
 | true =>have hl:=(D1 hw).1;have w1:IntKind.i64.wrap ((r.at_:Int)+1)=(r.at_:Int)+1:=Ab (by omega) (by omega);rw [hw] at h2;simp [Tryz.f190,Sr.mc,h2,w1,CM,hw,Sr.step]
 | false =>rw [hw] at h2;simp [Tryz.f190,Sr.mc,h2,CM,hw]
theorem lz (ts:List Wd) (po:ts.length<1000000) (r:Sr) (he:AO r.err) {H:AH} {id:Nat} (hH:H.at id=some (.box (r.mc ts))) :
  CS zP AJ 191 [.ptr id 0] H (.str (CD ts r).1) (H.set id (some (.box ((CD ts r).2.mc ts)))):=by
 refine CS.rd BY Tryz.func191 (by kernel_rfl) 0 (by simp [Tryz.f191]) (fun B hB hG => ?_) (by simp) rfl (C5 _ _) (C5 _ _) hH;have hL:([EJ ts].map (·.f)).Nodup:=show ([121]:List Nat).Nodup by decide
 have X:=Bv [EJ ts] Bz Af;have h1:=Nn hL (ts:=ts) (by simp) r he r.at_ 2 (by omega) (by omega);generalize oOf [EJ ts]=O at X h1;refine Tr.goD X hG (by kernel_rfl) ?_;obtain ⟨a,e⟩:=r;simp at h1;simp [Tryz.f191,Sr.mc];refine LpD.turns X hG [] [] (by kernel_rfl) ?_;cases e with
 | some y =>
  have h0:(erC (some y)==0)=false:=by rw [Hf he];rfl
  have h0':¬erC (some y)=0:=by rwa [beq_eq_false_iff_ne] at h0
  have yI:(erC (some y) != 0)=true:=by rw [bne,h0];rfl
  simp at h1;simp [yI,h0',h1,CD,isW,Sr.fail]
 | none =>
  by_cases hl:a<ts.length
  ·have hl':(a:Int)<ts.length:=by omega
   obtain ⟨w,hw⟩:∃w,ts[a]? = some w:=⟨_,List.getElem?_eq_getElem hl⟩
   obtain ⟨c0,c1,c3⟩:=Ea hw;have hn:=QS (ts:=ts) (r:=⟨a,none⟩) rfl hw 1;have w1:IntKind.i64.wrap ((a:Int)+1)=(a:Int)+1:=Ab (by omega) (by omega);have w2:IntKind.i64.wrap (a:Int)=(a:Int):=Ab (by omega) (by omega);have sI:¬ts.length≤a:=by omega
   have tu:ts[a]=w:=by rw [List.getElem?_eq_getElem hl] at hw;injection hw
   simp [erC] at h1
   by_cases hk:w.kind=1
   ·rw [hk] at hn
    simp [erC,hl,hl',sI,hk,c0,w1,Sr.step];refine LpD.turns X hG [] [] (by kernel_rfl) ?_;simp [hl,hl',sI,c1,w2,CD,hn,hw,tu,Sr.step,erC]
   ·have hk':((w.kind:Int)==1)=false:=by rw [beq_eq_false_iff_ne];omega
    have rU:(w.kind==1)=false:=by rw [beq_eq_false_iff_ne];exact hk
    have rV:¬(w.kind:Int)=1:=by omega
    rw [rU] at hn;simp [erC,hl,hl',sI,hk,hk',rV,c0,h1,CD,hn,Sr.fail]
  ·have hl':¬((a:Int)<ts.length):=by omega
   have hw:ts[a]? = none:=List.getElem?_eq_none (by omega);have hn:isW ts ⟨a,none⟩ 1 []=false:=by simp [isW,isK,hw]
   have hg:(ts.length:Int)≤a:=by omega
   have hg':ts.length≤a:=by omega
   simp [erC] at h1;simp [erC,hl',hg,hg',h1,CD,hn,Sr.fail]
theorem l0 (ts:List Wd) (po:ts.length<1000000) (r:Sr) (he:AO r.err) {H:AH} {id:Nat} (hH:H.at id=some (.box (r.mc ts))) :
  CS zP AJ 192 [.ptr id 0] H (.int .i64 ((Co ts r).1:Int)) (H.set id (some (.box ((Co ts r).2.mc ts)))):=by
 refine CS.rd BY Tryz.func192 (by kernel_rfl) 0 (by simp [Tryz.f192]) (fun B hB hG => ?_) (by simp) rfl (C5 _ _) (C5 _ _) hH;have hL:([EJ ts].map (·.f)).Nodup:=show ([121]:List Nat).Nodup by decide
 have X:=Bv [EJ ts] Bz Af;have h1:=Nn hL (ts:=ts) (by simp) r he r.at_ 2 (by omega) (by omega);generalize oOf [EJ ts]=O at X h1;refine Tr.goD X hG (by kernel_rfl) ?_;obtain ⟨a,e⟩:=r;simp at h1;simp [Tryz.f192,Sr.mc];refine LpD.turns X hG [] [] (by kernel_rfl) ?_;cases e with
 | some y =>
  have h0:(erC (some y)==0)=false:=by rw [Hf he];rfl
  have h0':¬erC (some y)=0:=by rwa [beq_eq_false_iff_ne] at h0
  have yI:(erC (some y) != 0)=true:=by rw [bne,h0];rfl
  simp at h1;simp [yI,h0',h1,Co,isW,Sr.fail]
 | none =>
  by_cases hl:a<ts.length
  ·have hl':(a:Int)<ts.length:=by omega
   obtain ⟨w,hw⟩:∃w,ts[a]? = some w:=⟨_,List.getElem?_eq_getElem hl⟩
   obtain ⟨c0,c1,c3⟩:=Ea hw;have hn:=QS (ts:=ts) (r:=⟨a,none⟩) rfl hw 2;have w1:IntKind.i64.wrap ((a:Int)+1)=(a:Int)+1:=Ab (by omega) (by omega);have w2:IntKind.i64.wrap (a:Int)=(a:Int):=Ab (by omega) (by omega);have sI:¬ts.length≤a:=by omega
   have tu:ts[a]=w:=by rw [List.getElem?_eq_getElem hl] at hw;injection hw
   simp [erC] at h1
   by_cases hk:w.kind=2
   ·rw [hk] at hn
    simp [erC,hl,hl',sI,hk,c0,w1,Sr.step];refine LpD.turns X hG [] [] (by kernel_rfl) ?_;simp [hl,hl',sI,c3,w2,Co,hn,hw,tu,Sr.step,erC]
   ·have hk':((w.kind:Int)==2)=false:=by rw [beq_eq_false_iff_ne];omega
    have rU:(w.kind==2)=false:=by rw [beq_eq_false_iff_ne];exact hk
    have rV:¬(w.kind:Int)=2:=by omega
    rw [rU] at hn;simp [erC,hl,hl',sI,hk,hk',rV,c0,h1,Co,hn,Sr.fail]
  ·have hl':¬((a:Int)<ts.length):=by omega
   have hw:ts[a]? = none:=List.getElem?_eq_none (by omega);have hn:isW ts ⟨a,none⟩ 2 []=false:=by simp [isW,isK,hw]
   have hg:(ts.length:Int)≤a:=by omega
   have hg':ts.length≤a:=by omega
   simp [erC] at h1;simp [erC,hl',hg,hg',h1,Co,hn,Sr.fail]
theorem Vj (n:Nat) (l:List Wd):CX n (A6 l)=A6 l:=E8 n _ (Hu l)
theorem l3 (ts:List Wd) (a:Nat):(A6 ts).drop (a*4)=A6 (ts.drop a):=by
 induction a generalizing ts with
 | zero=>simp
 | succ a ih =>
  cases ts with
  | nil=>simp [A6]
  | cons w ts =>have hc:A6 (w::ts)=BD w++A6 ts:=rfl;have hx:(BD w).length=4:=rfl;rw [hc,List.drop_append,List.drop_of_length_le (by omega),hx,List.nil_append,show (a+1)*4-4=a*4 by omega,ih,List.drop_succ_cons]
theorem l4 (ts:List Wd) (po:ts.length<1000000) (r:Sr) {H:AH} {id:Nat} (hH:H.at id=some (.box (r.mc ts))) :
  CS zP AJ 166 [.ptr id 0] H (AD (ts.drop r.at_)) (H.set id (some (.box (r.mc ts)))):=by
 refine CS.rd BY Tryz.func166 (by kernel_rfl) 0 (by simp [Tryz.f166]) (fun B hB hG => ?_) (by simp) (by simp) (C5 _ _) (C5 _ _) hH;refine Tr.goD FF hG (by kernel_rfl) ?_;obtain ⟨a,e⟩:=r;simp [Tryz.f166,Sr.mc];refine LpD.turns FF hG [] [] (by kernel_rfl) ?_
 by_cases hl:a<ts.length
 ·have sI:¬ts.length≤a:=by omega
  have yJ:¬(ts.length:Int)≤a:=by omega
  have pp:ts≠[]:=by rintro rfl;simp at hl
  have hd:ts.drop a≠[]:=by intro h;have:=congrArg List.length h;simp at this;omega
  have hdc:=l3 ts a;have qS:(A6 (ts.drop a)).take ((ts.length-a)*4)=A6 (ts.drop a):=List.take_of_length_le (by rw [KC,List.length_drop];omega);have e1:(a:Int)≤ts.length:=by omega
  have e2:a≤ts.length:=by omega
  simp [sI,yJ];refine LpD.turns FF hG [] [] (by kernel_rfl) ?_
  by_cases h0:a=0
  ·subst h0
   have e3:(A6 ts).take (ts.length*4)=A6 ts:=List.take_of_length_le (by rw [KC];omega);simp [AD,pp,e3,Vj]
  ·simp [AD,pp,hd,hdc,qS,e1,e2,h0,Vj]
 ·have sI:ts.length≤a:=by omega
  have yJ:(ts.length:Int)≤a:=by omega
  have hd:ts.drop a=[]:=List.drop_of_length_le sI;have sw:AD ([]:List Wd) = .nilSlice:=rfl;simp [sI,yJ,hd,sw]
def erA (e:Er):AV := .agg [erP e,.int .i64 (erC e)]
@[simp] theorem Lj (e:Er):erA e = .agg [erP e,.int .i64 (erC e)]:=AR rfl
def inE (w:List UInt8) (p:Nat) (e:Er):Er:=e.map fun x=>((w,p)::x.1,x.2)
theorem l5:Bu zP 55 2=true:=by kernel_rfl
theorem Vk:∀l,(B0 l).all AV.one=true
 | []=>rfl
 | (w,p)::l=>by simp [B0,Vk l]
theorem l6 (w:List UInt8) (p:Nat) (l:List (List UInt8 × Nat)):CO ((w,p)::l)=(w,(p:Int))::CO l:=rfl
theorem l8 (n:Nat) (l):CX n (B0 l)=B0 l:=E8 n _ (Li l)
@[simp] theorem buPt (w:List UInt8) (p:Int):A3 zP 158 [(0,.str w),(1,.int .i64 p)]=some (.agg [.str w,.int .i64 p]):=by kernel_rfl
@[simp] theorem bsPt (w:List UInt8) (p:Int):Ch zP 55 1 [(0,.agg [.str w,.int .i64 p])]=some (.slice .full 2 1 [.str w,.int .i64 p]):=by kernel_rfl
@[simp] theorem buWr2 (ow:Own) (sz n:Nat) (cs:List AV) (c:Int):A3 zP 57 [(0,.slice ow sz n cs),(1,.int .i64 c)]=some (.agg [.slice ow sz n cs,.int .i64 c]):=by kernel_rfl
theorem mB (w:List UInt8) (p:Nat) (e:Er) (he:AO e) (hl:∀l c,e=some (l,c)→l.length<1000) (H:AH) :
  CS zP AJ 49 [.str w,.int .i64 (p:Int),erA e] H (erA (inE w p e)) H:=by
 refine CS.tr0 BY Tryz.func49 (by kernel_rfl) 0 (by simp [Tryz.f49]) (fun B hB hG => ?_) (by simp) (by simp) H;refine Tr.goD FF hG (by kernel_rfl) ?_;cases e with
 | none=>simp [Tryz.f49,erC,erP,inE]
 | some y =>
  obtain ⟨l,c⟩:=y;have hc:¬(c:Int)=0:=by have:=(he l c rfl).2;omega
  have hc':((c:Int)==0)=false:=by rw [beq_eq_false_iff_ne];exact hc
  have qZ:=hl l c rfl;have qK:l≠[]:=(he l c rfl).1;have qz:0<l.length:=List.length_pos_iff.2 qK;have py:=fun H ow fid=>O5 (P:=zP) (t:=55) (sz:=2) (n:=1) (m:=l.length) (H:=H) (fid:=fid) (ow:=ow) (xs:=[.str w,.int .i64 (p:Int)]) (ys:=B0 (CO l)) l5 qz (by omega) (Vk _)
  have h2:¬l.length+1=1:=by omega
  have h3:1+l.length=l.length+1:=by omega
  simp [Tryz.f49,erC,erP,hc,hc'];refine LpD.turns FF hG [6,10] [(6,7),(6,8)] (by kernel_rfl) ?_;simp [py,inE,erC,erP,h2,h3,qK,l6,B0,Li,l8]
theorem ID (x:Option (Nat × Nat)):DY x=erA (xE x):=by
 cases x with
 | none=>rfl
 | some y=>rfl
noncomputable def IE:AG zP AJ:=AG.pure 49 (fun x:List UInt8 × Nat × Er=>AO x.2.2∧∀l c,x.2.2=some (l,c)→l.length<1000) (fun x=>[.str x.1,.int .i64 (x.2.1:Int),erA x.2.2]) (fun x=>erA (inE x.1 x.2.1 x.2.2))
 (fun x h H=>mB x.1 x.2.1 x.2.2 h.1 h.2 H) (fun x y _ _ h=>by
  obtain ⟨a,b,c⟩:=x;obtain ⟨a',b',c'⟩:=y;simp only [Lj,List.cons.injEq,AV.int.injEq,AV.str.injEq,AV.agg.injEq,true_and,and_true] at h;have e1:b=b':=by omega
  have e2:=Nm h.2.2.1 h.2.2.2;simp only
  rw [h.1,e1,e2])
theorem Vl {L:List (AG zP AJ)} (hL:(L.map (·.f)).Nodup) (hF:IE∈L) (w:List UInt8) (p:Int) (hp:0≤p) (e:Er) (he:AO e) (hl:∀l c,e=some (l,c)→l.length<1000) (H:AH) :
  oOf L 49 [.str w,.int .i64 p,.agg [erP e,.int .i64 (erC e)]] H=some (.agg [erP (inE w p.toNat e),.int .i64 (erC (inE w p.toNat e))],H):=by
 have:=Cr hL hF (w,p.toNat,e) ⟨he,hl⟩ H;simpa [Int.toNat_of_nonneg hp] using this
theorem mD (ts:List Wd) (r:Sr) (he:AO r.err) (hr:r.at_<1000000000) (n:Nat) (x:Option (Nat × Nat)) (hn:x=none→n<1000000000) (hx:BO x) (hxp:∀p c,x=some (p,c)→p<1000000000) {H:AH} {id:Nat} (hH:H.at id=some (.box (r.mc ts))) :
  CS zP AJ 167 [.ptr id 0,.int .i64 (n:Int),DY x] H (.tup []) (H.set id (some (.box ((C4 r n x).mc ts)))):=by
 refine CS.rd BY Tryz.func167 (by kernel_rfl) 0 (by simp [Tryz.f167]) (fun B hB hG => ?_) (by simp [ID]) rfl (C5 _ _) (C5 _ _) hH;have hL:([IE].map (·.f)).Nodup:=show ([49]:List Nat).Nodup by decide
 have X:=Bv [IE] Bz Af;have h1:=Vl hL (by simp) Bo;generalize oOf [IE]=O at X h1;refine Tr.goD X hG (by kernel_rfl) ?_;obtain ⟨a,e⟩:=r;cases e with
 | some y =>
  have h0:(erC (some y)==0)=false:=by rw [Hf he];rfl
  have h0':¬erC (some y)=0:=by rwa [beq_eq_false_iff_ne] at h0
  simp [Tryz.f167,Sr.mc,ID,h0',C4]
 | none =>
  cases x with
  | none =>have hn:=hn rfl;have w1:IntKind.i64.wrap ((a:Int)+(n:Int))=(a:Int)+(n:Int):=Ab (by simp only at hr;omega) (by simp only at hr;omega);simp [Tryz.f167,Sr.mc,ID,erC,erP,xE,C4,w1]
  | some y =>
   obtain ⟨p,c⟩:=y;have hp:=hxp p c rfl
   have hc:¬(c:Int)=0:=fun h0=>by
    have:c=0:=by omega
    subst this;exact hx p rfl
   have hcn:¬c=0:=by omega
   have w1:IntKind.i64.wrap ((a:Int)+(p:Int))=(a:Int)+(p:Int):=Ab (by simp only at hr;omega) (by simp only at hr;omega);have h2:=h1 ((a+p:Nat):Int) (by omega) (xE (some (p,c))) (kC hx) (by simp [xE]);simp only [Int.toNat_natCast] at h2;simp [xE,erP,erC,inE,CO,B0,Bo] at h2;simp [Tryz.f167,Sr.mc,ID,erC,erP,xE,C4,hc,hcn,CO,B0];refine LpD.turns X hG [12,15] [(0,12)] (by kernel_rfl) ?_;simp [h2,w1,CO,B0,Bo]
noncomputable def Ip (ts:List Wd) (po:ts.length<1000000):AG zP AJ:=AG.meth 166 (Sr.mc ts) (F8 ts) (fun (_:Unit) _=>True) (fun _ _=>[]) (fun _ r=>AD (ts.drop r.at_)) (fun _ r=>r)
 (fun _ r _ H id hH=>l4 ts po r hH) (fun id x y r _ _ h=>⟨rfl,rfl⟩)
def Ke (r:Sr) (n:Nat) (x:Option (Nat × Nat)):Prop:=AO r.err∧r.at_<1000000000∧(x=none→n<1000000000)∧BO x∧∀p c,x=some (p,c)→p<1000000000
theorem mF {x y:Option (Nat × Nat)} (h:DY x=DY y):x=y:=by simp only [DY,AV.agg.injEq,List.cons.injEq,AV.int.injEq,true_and,and_true] at h;exact Ub h.1 h.2
noncomputable def IF (ts:List Wd):AG zP AJ:=AG.meth 167 (Sr.mc ts) (F8 ts) (fun (x:Nat × Option (Nat × Nat)) r=>Ke r x.1 x.2) (fun _ x=>[.int .i64 (x.1:Int),DY x.2]) (fun _ _ => .tup []) (fun x r=>C4 r x.1 x.2)
 (fun x r h H id hH=>mD ts r h.1 h.2.1 x.1 x.2 h.2.2.1 h.2.2.2.1 h.2.2.2.2 hH) (fun id x y r _ _ h=>by
  obtain ⟨a,b⟩:=x;obtain ⟨c,d⟩:=y;simp only [List.cons.injEq,AV.int.injEq,true_and,and_true] at h;have e1:a=c:=by omega
  rw [e1,mF h.2]
  exact ⟨rfl,rfl⟩)
noncomputable def Np:AG zP AJ:=AG.pure 169 (fun ts:List Wd=>ts.length<1000000) (fun ts=>[AD ts]) (fun ts=>KW (B1 ts)) (fun ts h H=>jw ts h H) (fun x y _ _ h=>by
 simp only [List.cons.injEq,and_true] at h
 rw [QF h])
noncomputable def Qr:AG zP AJ:=AG.pure 165 (fun ts:List Wd=>ts.length<1000000) (fun ts=>[AD ts]) (fun ts=>KY (CE ts)) (fun ts h H=>jy ts h H) (fun x y _ _ h=>by
 simp only [List.cons.injEq,and_true] at h
 rw [QF h])
section
variable {L:List (AG zP AJ)} {ts:List Wd}
theorem Qs (po:ts.length<1000000) (hL:(L.map (·.f)).Nodup) (hF:Ip ts po∈L) (r:Sr) (H:AH):oOf L 166 [.ptr 0 0] (some (.box [AD ts,.int .i64 (r.at_:Int),erP r.err,.int .i64 (erC r.err)])::H) =
  some (AD (ts.drop r.at_),some (.box [AD ts,.int .i64 (r.at_:Int),erP r.err,.int .i64 (erC r.err)])::H):=by
 have:=Bn hL hF () r (H:=some (.box (r.mc ts))::H) (id:=0) rfl trivial;simpa [Sr.mc] using this
theorem Qt (hL:(L.map (·.f)).Nodup) (hF:IF ts∈L) (r:Sr) (n:Nat) (x:Option (Nat × Nat)) (h:Ke r n x) (H:AH):oOf L 167 [.ptr 0 0,.int .i64 (n:Int),DY x] (some (.box [AD ts,.int .i64 (r.at_:Int),erP r.err,.int .i64 (erC r.err)])::H) =
  some (.tup [],some (.box [AD ts,.int .i64 ((C4 r n x).at_:Int),erP (C4 r n x).err,.int .i64 (erC (C4 r n x).err)])::H):=by
 have:=Bn hL hF (n,x) r (H:=some (.box (r.mc ts))::H) (id:=0) rfl h;simpa [Sr.mc] using this
theorem mG (hL:(L.map (·.f)).Nodup) (hF:Np∈L) (us:List Wd) (h:us.length<1000000) (H:AH):oOf L 169 [AD us] H=some (KW (B1 us),H):=Cr hL hF us h H
theorem mH (hL:(L.map (·.f)).Nodup) (hF:Qr∈L) (us:List Wd) (h:us.length<1000000) (H:AH):oOf L 165 [AD us] H=some (KY (CE us),H):=Cr hL hF us h H
end
theorem A1:erP none = .nilSlice:=rfl
theorem A2:erC none=0:=rfl
theorem mJ {ts:List Wd} (po:ts.length<1000000) {r:Sr} (he:AO r.err) (hr:r.at_<1000000000):Ke r (B1 (ts.drop r.at_)).2.1 (B1 (ts.drop r.at_)).2.2:=by obtain ⟨h1,h2⟩:=KZ (ts.drop r.at_);rw [List.length_drop] at h1;refine ⟨he,hr,fun _=>by omega,QN _,fun p c h => ?_⟩;have:=h2 p c h;rw [List.length_drop] at this;omega
theorem mL (ts:List Wd) (po:ts.length<1000000) (r:Sr) (he:AO r.err) (hr:r.at_<1000000000) {H:AH} {id:Nat} (hH:H.at id=some (.box (r.mc ts))) :
  CS zP AJ 120 [.ptr id 0] H (.agg (tC (B9 ts r).1.tn)) (H.set id (some (.box ((B9 ts r).2.mc ts)))):=by
 refine CS.rd BY Tryz.func120 (by kernel_rfl) 0 (by simp [Tryz.f120]) (fun B hB hG => ?_) (by simp) (by simp) (C5 _ _) (C5 _ _) hH;have hL:([Ip ts po,Np,IF ts].map (·.f)).Nodup:=show ([166,169,167]:List Nat).Nodup by decide
 have X:=Bv [Ip ts po,Np,IF ts] Bz Af;have h1:=Qs po hL (by simp) r;have h2:=mG hL (by simp) (ts.drop r.at_) (by rw [List.length_drop];omega);have h3:=fun H=>Qt hL (ts:=ts) (by simp) r _ _ (mJ po he hr) H
 generalize oOf [Ip ts po,Np,IF ts]=O at X h1 h2 h3;refine Tr.goD X hG (by kernel_rfl) ?_;simp only [KW,ID,Lj] at h2 h3;cases qN:r.err with
 | some y =>
  have h0':¬erC (some y)=0:=by rw [qN] at he;intro h;have:=(EI he).1 h;cases this
  simp [Tryz.f120,Sr.mc,qN,h0',B9,Ex.tn,Tn.k,Tn.n,Tn.s,Tn.ar,tC]
 | none =>
  have hx:B9 ts r=((B1 (ts.drop r.at_)).1,C4 r (B1 (ts.drop r.at_)).2.1 (B1 (ts.drop r.at_)).2.2):=by simp [B9,qN]
  rw [hx];generalize B1 (ts.drop r.at_)=x at *;obtain ⟨e,n,q⟩:=x;simp only [qN,A2,A1] at h1 h2 h3 ⊢;generalize C4 r n q=r2 at *;simp only [CT] at h2;simp [Tryz.f120,Sr.mc,qN,A2,A1,h1,h2,h3]
abbrev Dc (ts:List Wd) (r:St):List Ex × St:=C8 ts (B2 ts) r
theorem mM (ts:List Wd):Bx ts (Az ts (ts.length+1))=B2 ts:=rfl
theorem mN (ts:List Wd) (po:ts.length<1000000) (a:Nat) (x:Option (Nat × Nat)) (hx:BO x) {H:AH} {id:Nat} (hH:H.at id=some (.box (rrC ts a x))) :
  CS zP AJ 168 [.ptr id 0,.int .i64 0] H (.slice .unk 4 (Dc ts ⟨a,0,x⟩).1.length (tsC (Ex.tns (Dc ts ⟨a,0,x⟩).1))) (H.set id (some (.box (rrC ts (Dc ts ⟨a,0,x⟩).2.at_ (Dc ts ⟨a,0,x⟩).2.err)))):=by
 have h1:=Un po (P9 po);have h2:=Hz (f0:=168) (spec:=JV ts (ts.length+1)) (rest:=[.int .i64 0]) hx hH;have hc:(0:Int)≤0∧(0:Int)≤20∧ts.length-a<ts.length+1:=⟨by omega,by omega,by omega⟩
 simp only [JV,if_pos hc,Option.map_some,mM] at h2;have h3:=(h1 _ _ _ _ _ h2).1
 exact CS.toF (CS.weak h3 fun g cv h=>by
  simp only [AA] at h ⊢;obtain ⟨b,o,cap,vs,rfl,q1,q2,q3,q4,q5⟩:=h;refine ⟨b,o,cap,vs,rfl,QE g _ vs q1,q2,?_,q4,q5⟩
  rw [LY,JY])
noncomputable def Nq (ts:List Wd) (po:ts.length<1000000):AG zP AJ:=AG.meth 168 (S:=Nat × Option (Nat × Nat)) (fun r=>rrC ts (r.1:Nat) r.2) (fun r s h=>by
  obtain ⟨e1,e2⟩:=Uc h
  exact Prod.ext e1 e2) (fun (_:Unit) r=>BO r.2) (fun _ _=>[.int .i64 0]) (fun _ r => .slice .unk 4 (Dc ts ⟨r.1,0,r.2⟩).1.length (tsC (Ex.tns (Dc ts ⟨r.1,0,r.2⟩).1))) (fun _ r=>((Dc ts ⟨r.1,0,r.2⟩).2.at_,(Dc ts ⟨r.1,0,r.2⟩).2.err))
 (fun _ r h H id hH=>mN ts po r.1 r.2 h hH) (fun id x y r _ _ h=>⟨rfl,rfl⟩)
theorem mO {L:List (AG zP AJ)} {ts:List Wd} (po:ts.length<1000000) (hL:(L.map (·.f)).Nodup) (hF:Nq ts po∈L) (e0 e1:Option Ent) (H:AH):oOf L 168 [.ptr 2 0,.int .i64 0] (e0::e1::some (.box [AD ts,.int .i64 2,.nilSlice,.int .i64 0])::H) =
  some (.slice .unk 4 (Dc ts ⟨2,0,none⟩).1.length (tsC (Ex.tns (Dc ts ⟨2,0,none⟩).1)),e0::e1::some (.box [AD ts,.int .i64 ((Dc ts ⟨2,0,none⟩).2.at_:Nat),erP (xE (Dc ts ⟨2,0,none⟩).2.err),.int .i64 (erC (xE (Dc ts ⟨2,0,none⟩).2.err))])::H):=by
 have:=Bn hL hF () (2,none) (H:=e0::e1::some (.box (rrC ts ((2:Nat):Int) none))::H) (id:=2) rfl Ct;have hw:=ID (Dc ts ⟨2,0,none⟩).2.err;simp only [DY,Lj,AV.agg.injEq,List.cons.injEq,AV.int.injEq,true_and,and_true] at hw;simpa [LX,CC,hw.1,hw.2] using this
def bSw (ts:List Wd) (r:St):Prop:=(r.err=none→r.at_≤ts.length)∧∀p c,r.err=some (p,c)→p≤ts.length
def bW (ts:List Wd) (of:Rd):Prop:=∀r,bS ts r→bSw ts (of r).2
theorem mQ (ts:List Wd):okR (B6 ts) (B2 ts):=KF (KF (FS ts _) (by decide) 7 8) (by decide) 5 6
theorem Vm (ts:List Wd):bW ts (B2 ts):=fun r h=>by have hk:=(mQ ts).1 r;have hb:=NU ts r h;obtain ⟨h1,h2⟩:=hk.1;refine ⟨fun he => ?_,fun p c he=>hb.2 p c (by rw [h1,he])⟩;rw [←h2 (by rw [h1,he])];exact hb.1
theorem Vn {ts:List Wd} {sum:Rd} (ho:bW ts sum):∀(n:Nat) (a:List Ex) (r:St),bSw ts r→bSw ts (Dh ts sum n a r).2
 | 0,a,r,h=>h
 | n+1,a,r,h=>by
  have uT:∀s,Ac ts r s=true→r.err=none∧r.at_<ts.length:=fun s hn=>by refine ⟨?_,FE hn⟩;simp only [Ac,Bool.and_eq_true,Option.isNone_iff_eq_none] at hn;exact hn.1
  simp only [Dh]
  split
  ·rename_i hn
   obtain ⟨he,hl⟩:=uT _ hn
   split
   ·have:=bS.fail (ts:=ts) (r:=r) ⟨h.1 he,h.2⟩ (h.1 he) 4
    exact ⟨fun _=>this.1,this.2⟩
   ·exact Vn ho n _ _ (ho _ ⟨hl,h.2⟩)
  ·unfold CL
   split
   ·rename_i hn
    obtain ⟨he,hl⟩:=uT _ hn;exact ⟨fun _=>hl,h.2⟩
   ·cases he:r.err with
    | none =>have:=bS.fail (ts:=ts) (r:=r) ⟨h.1 he,h.2⟩ (h.1 he) 2;exact ⟨fun _=>this.1,this.2⟩
    | some x =>rw [Mn he];exact h
theorem Vo {ts:List Wd} {r:St} (h:bS ts r):bSw ts (Dc ts r).2:=Vn (Vm ts) 5 _ _ (Vm ts r h)
theorem Qu (ts:List Wd) (r:St) (h:BO r.err):BO (Dc ts r).2.err:=P7 (JX ts) 5 _ _ (JX ts r h)
theorem mR {ts:List Wd} (po:ts.length<1000000) {r:Sr} (he:AO r.err) (hr:r.at_<1000000000) (h2:2≤(ts.drop r.at_).length):Ke r (Dc (ts.drop r.at_) ⟨2,0,none⟩).2.at_ (Dc (ts.drop r.at_) ⟨2,0,none⟩).2.err:=by
 obtain ⟨h1,h3⟩:=Vo (ts:=ts.drop r.at_) (r:=⟨2,0,none⟩) ⟨h2,fun p c h=>by cases h⟩;rw [List.length_drop] at h1;refine ⟨he,hr,fun h => ?_,Qu _ _ Ct,fun p c h => ?_⟩
 ·have:=h1 h;omega
 ·have:=h3 p c h
  rw [List.length_drop] at this;omega
@[simp high] theorem ph {l:List Wd} (h:0<l.length):Av zP 54 (AD l) (.int .i64 0)=some (.vptr (A6 l) 0):=by simpa using Ua (l:=l) (i:=0) h
@[simp high] theorem pi {l:List Wd} (h:1<l.length):Av zP 54 (AD l) (.int .i64 1)=some (.vptr (A6 l) 4):=by simpa using Ua (l:=l) (i:=1) h
@[simp] theorem buRR2 (ts:List Wd) (n:Int):A3 zP 293 [(0,AD ts),(1,.int .i64 n)]=some (.agg [AD ts,.int .i64 n,.nilSlice,.int .i64 0]):=by
 unfold AD
 split<;>kernel_rfl
theorem mS (ts:List Wd) (po:ts.length<1000000) (r:Sr) (he:AO r.err) (hr:r.at_<1000000000) {H:AH} {id:Nat} (hH:H.at id=some (.box (r.mc ts))) :
  CS zP AJ 118 [.ptr id 0] H (.agg (tC (CV ts r).1.tn)) (H.set id (some (.box ((CV ts r).2.mc ts)))):=by
 refine CS.rd BY Tryz.func118 (by kernel_rfl) 0 (by simp [Tryz.f118]) (fun B hB hG => ?_) (by simp) (by simp) (C5 _ _) (C5 _ _) hH;have tV:(ts.drop r.at_).length<1000000:=by rw [List.length_drop];omega
 have hL:([EJ ts,Ip ts po,Nq (ts.drop r.at_) tV,IF ts].map (·.f)).Nodup:=show ([121,166,168,167]:List Nat).Nodup by decide
 have X:=Bv [EJ ts,Ip ts po,Nq (ts.drop r.at_) tV,IF ts] Bz Af;have h0:=Nn hL (ts:=ts) (by simp) r he r.at_ 2 (by omega) (by omega);have h1:=Qs po hL (by simp) r;have h2:=fun e0 e1 H=>mO (ts:=ts.drop r.at_) tV hL (by simp) e0 e1 H
 have h3:=fun vO H=>Qt hL (ts:=ts) (by simp) r _ _ (mR po he hr vO) H
 generalize oOf [EJ ts,Ip ts po,Nq (ts.drop r.at_) tV,IF ts]=O at X h0 h1 h2 h3;refine Tr.goD X hG (by kernel_rfl) ?_;simp only [ID,Lj] at h3;obtain ⟨a,e⟩:=r;simp at h0;simp [Tryz.f118,Sr.mc];refine LpD.turns X hG [] [] (by kernel_rfl) ?_;cases e with
 | some y =>
  have hq:(erC (some y)==0)=false:=by rw [Hf he];rfl
  have hq':¬erC (some y)=0:=by rwa [beq_eq_false_iff_ne] at hq
  have hqn:(erC (some y) != 0)=true:=by rw [bne,hq];rfl
  simp at h0;simp [hqn,hq',h0,CV,isW,Sr.fail,Ex.tn,Tn.k,Tn.n,Tn.s,Tn.ar,tC]
 | none =>
  by_cases hl:a<ts.length
  ·have hl':(a:Int)<ts.length:=by omega
   obtain ⟨w,hw⟩:∃w,ts[a]? = some w:=⟨_,List.getElem?_eq_getElem hl⟩
   obtain ⟨c0,c1,c3⟩:=Ea hw;have hn:=QS (ts:=ts) (r:=⟨a,none⟩) rfl hw 1;have sI:¬ts.length≤a:=by omega
   have tu:ts[a]=w:=by rw [List.getElem?_eq_getElem hl] at hw;injection hw
   simp [erC] at h0
   by_cases hk:w.kind=1
   ·rw [hk] at hn
    have tP:(ts.drop a)[0]? = some w:=by rw [List.getElem?_drop];exact hw
    have qJ:(ts.drop a)[1]? = ts[a+1]? := by rw [List.getElem?_drop]
    have hdn:(ts.drop a).length=ts.length-a:=List.length_drop
    have zR:CV ts ⟨a,none⟩=if isK ts (a+1) 3 Ay then (.elem w.text (Dc (ts.drop a) ⟨2,0,none⟩).1,C4 ⟨a,none⟩ (Dc (ts.drop a) ⟨2,0,none⟩).2.at_ (Dc (ts.drop a) ⟨2,0,none⟩).2.err) else (.var w.text,⟨a+1,none⟩):=by simp [CV,hn,hw,tu,Sr.step]
    simp only [A1,A2] at h1 h2 h3;generalize ts.drop a=l at *;have pz:0<l.length:=by omega
    have vP:¬l=[]:=List.length_pos_iff.1 pz;obtain ⟨k0,k1,_⟩:=Ea tP;simp at k0 k1;simp [A2,A1,hl,hl',sI,hk,c0,h1];have w1:IntKind.i64.wrap ((a:Int)+1)=(a:Int)+1:=Ab (by omega) (by omega);have yK:isK ts (a+1) 3 Ay=false→CV ts ⟨a,none⟩=(.var w.text,⟨a+1,none⟩):=fun h=>by rw [zR,h];rfl
    by_cases vO:l.length<2
    ·have hK:isK ts (a+1) 3 Ay=false:=by
      have:ts[a+1]? = none:=List.getElem?_eq_none (by omega);simp only [isK,this]
     have wN:(l.length:Int)<2:=by omega
     have h2x:¬(2:Int)≤l.length:=by omega
     have h2y:¬2≤l.length:=by omega
     rw [yK hK];simp [vO,wN,h2x,h2y,pz,vP,k1,w1,Ex.tn,Tn.k,Tn.n,Tn.s,Tn.ar,tC,A1,A2]
    ·have wN:¬(l.length:Int)<2:=by omega
     have yL:2≤l.length:=by omega
     have yM:(2:Int)≤l.length:=by omega
     obtain ⟨v,hv⟩:∃v,l[1]? = some v:=⟨_,List.getElem?_eq_getElem (by omega)⟩
     have i1:1<l.length:=by omega
     obtain ⟨q0,q1,_⟩:=Ea hv;simp at q0 q1;rw [qJ] at hv;have hK:=U7 hv (s:=Ay) (by decide) 3
     by_cases wO:v.kind=3
     ·by_cases wz:v.text=Ay
      ·have wP:isK ts (a+1) 3 Ay=true:=by rw [hK];simp [wO,wz]
       rw [zR,wP];simp only [if_true];have yN:v.text=[40]:=wz;have h3:=h3 (by omega);generalize Dc l ⟨2,0,none⟩=p at *;obtain ⟨xs,⟨b,dd,q⟩⟩:=p;simp only at h2 h3 ⊢;generalize C4 ⟨a,none⟩ b q=r2 at *;have tlow:=KU (Ex.tns xs);simp [vO,wN,yL,yM,pz,vP,i1,k1,q0,q1,wO,yN,h2];refine LpD.turns X hG [9] [] (by kernel_rfl) ?_;have hws:AD l = .slice .unk 4 l.length (A6 l):=if_neg vP;simp [h3,hws,pz,vP,k1,Ex.tn,Tn.k,Tn.n,Tn.s,Tn.ar,tC,A1,A2,JY,tlow,E8]
      ·have wP:isK ts (a+1) 3 Ay=false:=by
        rw [hK];simp only [Bool.and_eq_false_iff,beq_eq_false_iff_ne];exact .inr wz
       have yN:¬v.text=[40]:=wz;rw [yK wP];simp [vO,wN,yL,yM,pz,vP,i1,k1,q0,q1,wO,yN,w1,Ex.tn,Tn.k,Tn.n,Tn.s,Tn.ar,tC,A1,A2]
     ·have wP:isK ts (a+1) 3 Ay=false:=by
       rw [hK];simp only [Bool.and_eq_false_iff,beq_eq_false_iff_ne];exact .inl wO
      have zAC:¬(v.kind:Int)=3:=by omega
      rw [yK wP];simp [vO,wN,yL,yM,pz,vP,i1,k1,q0,q1,wO,zAC,w1,Ex.tn,Tn.k,Tn.n,Tn.s,Tn.ar,tC,A1,A2]
   ·have hk':((w.kind:Int)==1)=false:=by rw [beq_eq_false_iff_ne];omega
    have rU:(w.kind==1)=false:=by rw [beq_eq_false_iff_ne];exact hk
    have rV:¬(w.kind:Int)=1:=by omega
    rw [rU] at hn;simp [erC,hl,hl',sI,hk,hk',rV,c0,h0,CV,hn,Sr.fail,Ex.tn,Tn.k,Tn.n,Tn.s,Tn.ar,tC]
  ·have hl':¬((a:Int)<ts.length):=by omega
   have hw:ts[a]? = none:=List.getElem?_eq_none (by omega);have hn:isW ts ⟨a,none⟩ 1 []=false:=by simp [isW,isK,hw]
   have hg:(ts.length:Int)≤a:=by omega
   have hg':ts.length≤a:=by omega
   simp [erC] at h0;simp [erC,hl',hg,hg',h0,CV,hn,Sr.fail,Ex.tn,Tn.k,Tn.n,Tn.s,Tn.ar,tC]
theorem Nr (ts:List Wd) (r:Sr):r.at_≤(CD ts r).2.at_∧(r.at_≤ts.length→(CD ts r).2.at_≤ts.length)∧(AO r.err→AO (CD ts r).2.err):=by
 unfold CD
 split
 ·rename_i h
  have:=(D1 h).1;exact ⟨Nat.le_succ _,fun _=>this,fun h=>h⟩
 ·exact ⟨Nat.le_refl _,fun h=>h,fun h=>Sr.fail_ok h _ (by decide)⟩
theorem Ns (ts:List Wd) (r:Sr):r.at_≤(Co ts r).2.at_∧(r.at_≤ts.length→(Co ts r).2.at_≤ts.length)∧(AO r.err→AO (Co ts r).2.err):=by
 unfold Co
 split
 ·rename_i h
  have:=(D1 h).1;exact ⟨Nat.le_succ _,fun _=>this,fun h=>h⟩
 ·exact ⟨Nat.le_refl _,fun h=>h,fun h=>Sr.fail_ok h _ (by decide)⟩
theorem Vp (ts:List Wd):∀(n:Nat) (d:List Int) (r:Sr),r.at_≤(Dk ts n d r).2.at_∧(r.at_≤ts.length→(Dk ts n d r).2.at_≤ts.length)∧(AO r.err→AO (Dk ts n d r).2.err)
 | 0,d,r=>⟨Nat.le_refl _,fun h=>h,fun h=>h⟩
 | n+1,d,r=>by
  simp only [Dk];obtain ⟨r1,qP⟩:∃r1,r1=if 4≤d.length then r.fail (r.at_-1) 4 else r:=⟨_,rfl⟩
  rw [←qP]
  have h1:r1.at_=r.at_∧(AO r.err→AO r1.err):=by
   rw [qP]
   split
   ·exact ⟨rfl,fun h=>Sr.fail_ok h _ (by decide)⟩
   ·exact ⟨rfl,fun h=>h⟩
  obtain ⟨a1,a2,a3⟩:=Ns ts r1;generalize Co ts r1=m at *;obtain ⟨r2,qN⟩:∃r2,r2=if m.2.err=none∧m.1=0 then m.2.fail r1.at_ 1 else m.2:=⟨_,rfl⟩
  rw [←qN]
  have h2:r2.at_=m.2.at_∧(AO m.2.err→AO r2.err):=by
   rw [qN]
   split
   ·exact ⟨rfl,fun h=>Sr.fail_ok h _ (by decide)⟩
   ·exact ⟨rfl,fun h=>h⟩
  split
  ·rename_i hc
   have hl:=(D1 hc).1;obtain ⟨b1,b2,b3⟩:=Vp ts n (d++[(m.1:Int)]) r2.step;simp only [Sr.step] at b1 b2 b3;refine ⟨by simp only [Sr.step];omega,fun h=>b2 (by omega),fun h=>b3 (h2.2 (a3 (h1.2 h)))⟩
  ·exact ⟨by simp only;omega,fun h=>by have:=a2 (by omega);simp only;omega,fun h=>h2.2 (a3 (h1.2 h))⟩
theorem FJ (ts:List Wd) (r:Sr) (k:Nat) (s:List UInt8):(B3 ts r k s).at_=r.at_+1∧(AO r.err→AO (B3 ts r k s).err)∧((B3 ts r k s).err=none→r.at_<ts.length):=by
 unfold B3
 split
 ·rename_i h
  exact ⟨rfl,fun h=>h,fun _=>(D1 h).1⟩
 ·exact ⟨rfl,fun h=>Sr.fail_ok h _ (by decide),fun h=>by simp [Sr.step,Sr.fail] at h⟩
theorem Qv (ts:List Wd) (r:Sr) (hr:r.at_≤ts.length):r.at_≤(CA ts r).2.at_∧(CA ts r).2.at_≤ts.length+1∧(AO r.err→AO (CA ts r).2.err):=by
 simp only [CA];obtain ⟨a1,a2,a3⟩:=Nr ts r;generalize CD ts r=m at *
 split
 ·rename_i h
  have hl:=(D1 h).1;obtain ⟨b1,b2,b3⟩:=Vp ts 6 [] m.2.step;obtain ⟨c1,c2,_⟩:=FJ ts (Dk ts 6 [] m.2.step).2 3 A0;have pu:m.2.step.at_=m.2.at_+1:=rfl;have:=b2 (by omega);exact ⟨by simp only;omega,by simp only;omega,fun h=>c2 (b3 (a3 h))⟩
 ·exact ⟨a1,by have:=a2 hr;simp only;omega,a3⟩
noncomputable def Lk (ts:List Wd):AG zP AJ:=AG.meth 119 (Sr.mc ts) (F8 ts) (fun (x:Nat × List UInt8) r=>AO r.err∧r.at_<1000000000∧x.2≠[]) (fun _ x=>[.int .i64 (x.1:Int),.str x.2]) (fun _ _ => .tup []) (fun x r=>B3 ts r x.1 x.2)
 (fun x r h H id hH=>lw ts r h.1 h.2.1 x.1 x.2 h.2.2 hH) (fun id x y r _ _ h=>by
  obtain ⟨a,b⟩:=x;obtain ⟨c,d⟩:=y;simp only [List.cons.injEq,AV.int.injEq,AV.str.injEq,true_and,and_true] at h;have e1:a=c:=by omega
  rw [e1,h.2]
  exact ⟨rfl,rfl⟩)
noncomputable def Vq (ts:List Wd) (po:ts.length<1000000):AG zP AJ:=AG.meth 190 (Sr.mc ts) (F8 ts) (fun (s:List UInt8) r=>AO r.err∧s≠[]) (fun _ s=>[.str s]) (fun s r => .bool (isW ts r 3 s)) (fun s r=>CM ts r 3 s)
 (fun s r h H id hH=>ly ts po r h.1 s h.2 hH) (fun id x y r _ _ h=>by
  simp only [List.cons.injEq,AV.str.injEq,and_true] at h;rw [h]
  exact ⟨rfl,rfl⟩)
noncomputable def Vr (ts:List Wd) (po:ts.length<1000000):AG zP AJ:=AG.meth 191 (Sr.mc ts) (F8 ts) (fun (_:Unit) r=>AO r.err) (fun _ _=>[]) (fun _ r => .str (CD ts r).1) (fun _ r=>(CD ts r).2)
 (fun _ r h H id hH=>lz ts po r h hH) (fun id x y r _ _ h=>⟨rfl,rfl⟩)
noncomputable def Vs (ts:List Wd) (po:ts.length<1000000):AG zP AJ:=AG.meth 192 (Sr.mc ts) (F8 ts) (fun (_:Unit) r=>AO r.err) (fun _ _=>[]) (fun _ r => .int .i64 ((Co ts r).1:Int)) (fun _ r=>(Co ts r).2)
 (fun _ r h H id hH=>l0 ts po r h hH) (fun id x y r _ _ h=>⟨rfl,rfl⟩)
noncomputable def Ll (ts:List Wd) (po:ts.length<1000000):AG zP AJ:=AG.meth 120 (Sr.mc ts) (F8 ts) (fun (_:Unit) r=>AO r.err∧r.at_<1000000000) (fun _ _=>[]) (fun _ r => .agg (tC (B9 ts r).1.tn)) (fun _ r=>(B9 ts r).2)
 (fun _ r h H id hH=>mL ts po r h.1 h.2 hH) (fun id x y r _ _ h=>⟨rfl,rfl⟩)
noncomputable def Nt (ts:List Wd) (po:ts.length<1000000):AG zP AJ:=AG.meth 118 (Sr.mc ts) (F8 ts) (fun (_:Unit) r=>AO r.err∧r.at_<1000000000) (fun _ _=>[]) (fun _ r => .agg (tC (CV ts r).1.tn)) (fun _ r=>(CV ts r).2)
 (fun _ r h H id hH=>mS ts po r h.1 h.2 hH) (fun id x y r _ _ h=>⟨rfl,rfl⟩)
abbrev mbx (ts:List Wd) (r:Sr):Option Ent:=some (.box [AD ts,.int .i64 (r.at_:Int),erP r.err,.int .i64 (erC r.err)])
section
variable {L:List (AG zP AJ)} {ts:List Wd}
theorem Vt (hL:(L.map (·.f)).Nodup) (hF:EJ ts∈L) (r:Sr) (he:AO r.err) (p c:Nat) (H:AH):oOf L 121 [.ptr 0 0,.int .i64 (p:Int),.int .i64 (c:Int)] (mbx ts r::H)=some (.tup [],mbx ts (r.fail p c)::H):=by have:=Bn hL hF (p,c) r (H:=some (.box (r.mc ts))::H) (id:=0) rfl he;simpa [Sr.mc] using this
theorem Vu (hL:(L.map (·.f)).Nodup) (hF:Lk ts∈L) (r:Sr) (he:AO r.err) (hr:r.at_<1000000000) (k:Nat) (s:List UInt8) (hs:s≠[]) (H:AH):oOf L 119 [.ptr 0 0,.int .i64 (k:Int),.str s] (mbx ts r::H)=some (.tup [],mbx ts (B3 ts r k s)::H):=by have:=Bn hL hF (k,s) r (H:=some (.box (r.mc ts))::H) (id:=0) rfl ⟨he,hr,hs⟩;simpa [Sr.mc] using this
theorem mT (po:ts.length<1000000) (hL:(L.map (·.f)).Nodup) (hF:Vq ts po∈L) (r:Sr) (he:AO r.err) (s:List UInt8) (hs:s≠[]) (H:AH):oOf L 190 [.ptr 0 0,.str s] (mbx ts r::H)=some (.bool (isW ts r 3 s),mbx ts (CM ts r 3 s)::H):=by have:=Bn hL hF s r (H:=some (.box (r.mc ts))::H) (id:=0) rfl ⟨he,hs⟩;simpa [Sr.mc] using this
theorem mU (po:ts.length<1000000) (hL:(L.map (·.f)).Nodup) (hF:Vr ts po∈L) (r:Sr) (he:AO r.err) (H:AH):oOf L 191 [.ptr 0 0] (mbx ts r::H)=some (.str (CD ts r).1,mbx ts (CD ts r).2::H):=by have:=Bn hL hF () r (H:=some (.box (r.mc ts))::H) (id:=0) rfl he;simpa [Sr.mc] using this
theorem mV (po:ts.length<1000000) (hL:(L.map (·.f)).Nodup) (hF:Vs ts po∈L) (r:Sr) (he:AO r.err) (H:AH):oOf L 192 [.ptr 0 0] (mbx ts r::H)=some (.int .i64 ((Co ts r).1:Int),mbx ts (Co ts r).2::H):=by have:=Bn hL hF () r (H:=some (.box (r.mc ts))::H) (id:=0) rfl he;simpa [Sr.mc] using this
theorem Vv (po:ts.length<1000000) (hL:(L.map (·.f)).Nodup) (hF:Ll ts po∈L) (r:Sr) (he:AO r.err) (hr:r.at_<1000000000) (H:AH):oOf L 120 [.ptr 0 0] (mbx ts r::H)=some (.agg (tC (B9 ts r).1.tn),mbx ts (B9 ts r).2::H):=by have:=Bn hL hF () r (H:=some (.box (r.mc ts))::H) (id:=0) rfl ⟨he,hr⟩;simpa [Sr.mc] using this
theorem mW (po:ts.length<1000000) (hL:(L.map (·.f)).Nodup) (hF:Nt ts po∈L) (r:Sr) (he:AO r.err) (hr:r.at_<1000000000) (H:AH):oOf L 118 [.ptr 0 0] (mbx ts r::H)=some (.agg (tC (CV ts r).1.tn),mbx ts (CV ts r).2::H):=by have:=Bn hL hF () r (H:=some (.box (r.mc ts))::H) (id:=0) rfl ⟨he,hr⟩;simpa [Sr.mc] using this
end
theorem IG (ψ:Nat→Nat) (l:List Wd):ren ψ (AD l)=AD l:=FN ψ _ (Pf l)
theorem Fg (ψ:Nat→Nat) (e:Er):ren ψ (erP e)=erP e:=FN ψ _ (Qp e)
def Nu (ts:List Wd) (nm:List UInt8) (outv:AV) (e1:Option Ent) (res:List Int × Sr) (k:Nat) (t:List AV) (H:AH):Prop :=
 ∃(d:List Int) (r:Sr) (nx:Bool),(nx=true→Dk ts k d r=res∧k+d.length=6∧d.length≤4∧1≤r.at_∧r.at_≤ts.length)∧(nx=false→res=(d,r))∧AO r.err∧r.at_≤ts.length ∧
  t=mkT 63 [(0,.ptr 0 0),(3,outv),(5,.ptr 2 0),(6,.bool nx)]∧H=[mbx ts r,e1,some (.box [.str nm,Ak.tk 3 d]),AW d]
structure ItO (O:Orc) (ts:List Wd):Prop where
 fail:∀(r:Sr) (p c:Nat) (H:AH),AO r.err→O 121 [.ptr 0 0,.int .i64 (p:Int),.int .i64 (c:Int)] (mbx ts r::H)=some (.tup [],mbx ts (r.fail p c)::H)
 must:∀(r:Sr) (k:Nat) (s:List UInt8) (H:AH),AO r.err→r.at_<1000000000→s≠[]→O 119 [.ptr 0 0,.int .i64 (k:Int),.str s] (mbx ts r::H)=some (.tup [],mbx ts (B3 ts r k s)::H)
 sign:∀(r:Sr) (s:List UInt8) (H:AH),AO r.err→s≠[]→O 190 [.ptr 0 0,.str s] (mbx ts r::H)=some (.bool (isW ts r 3 s),mbx ts (CM ts r 3 s)::H)
 name:∀(r:Sr) (H:AH),AO r.err→O 191 [.ptr 0 0] (mbx ts r::H)=some (.str (CD ts r).1,mbx ts (CD ts r).2::H)
 num:∀(r:Sr) (H:AH),AO r.err→O 192 [.ptr 0 0] (mbx ts r::H)=some (.int .i64 ((Co ts r).1:Int),mbx ts (Co ts r).2::H)
 expr:∀(r:Sr) (H:AH),AO r.err→r.at_<1000000000→O 120 [.ptr 0 0] (mbx ts r::H)=some (.agg (tC (B9 ts r).1.tn),mbx ts (B9 ts r).2::H)
 is:∀(r:Sr) (k:Nat) (s:List UInt8) (H:AH),AO r.err→s≠[]→O 164 [.ptr 0 0,.int .i64 (k:Int),.str s] (mbx ts r::H)=some (.bool (isW ts r k s),mbx ts r::H)
noncomputable def Ga (ts:List Wd) (po:ts.length<1000000):List (AG zP AJ):=[EJ ts,Lk ts,Vq ts po,Vr ts po,Vs ts po,Ll ts po,IC ts]
theorem Vw (ts:List Wd) (po:ts.length<1000000):ItO (oOf (Ga ts po)) ts:=by
 have hL:((Ga ts po).map (·.f)).Nodup:=show ([121,119,190,191,192,120,164]:List Nat).Nodup by decide
 exact ⟨fun r p c H he=>Vt hL (by simp [Ga]) r he p c H,fun r k s H he hr hs=>Vu hL (by simp [Ga]) r he hr k s hs H,fun r s H he hs=>mT po hL (by simp [Ga]) r he s hs H,
  fun r H he=>mU po hL (by simp [Ga]) r he H,fun r H he=>mV po hL (by simp [Ga]) r he H,fun r H he hr=>Vv po hL (by simp [Ga]) r he hr H,fun r k s H he hs=>No hL (by simp [Ga]) r he k s hs H⟩
theorem Vx (ts:List Wd) (po:ts.length<1000000):Cx (oOf (Ga ts po)) zP AJ:=Bv _ Bz Af
theorem Nv:Bu zP 39 2=true:=by kernel_rfl
@[simp] theorem bsIt (s:List UInt8) (v:AV):Ch zP 39 1 [(0,.agg [.str s,v])]=some (.slice .full 2 1 [.str s,v]):=by kernel_rfl
@[simp] theorem buIt (s:List UInt8):A3 zP 51 [(0,.str s)]=some (.agg [.str s,.nilSlice]):=by kernel_rfl
def ItI (ts:List Wd) (res:List It × Sr) (k:Nat) (t:List AV) (H:AH):Prop :=
 ∃(l:List It) (r:Sr) (mo:Bool),(mo=true→D2 ts k l r=res∧ts.length<k+r.at_∧1≤r.at_∧r.at_≤ts.length)∧(mo=false→res=(l,r))∧AO r.err∧r.at_≤ts.length+1∧l.length+k≤ts.length+2 ∧
  t=mkT 63 [(0,.ptr 0 0),(3,itE.tk 1 l),(4,.bool mo)]∧H=[mbx ts r,AW l]
theorem Vy {ts:List Wd} {res:List It × Sr} {l:List It} {r:Sr} {k:Nat} (pq:(if isW ts (CA ts r).2 3 A7=true then D2 ts k (l++[(CA ts r).1]) (CA ts r).2.step else (l++[(CA ts r).1],(CA ts r).2))=res)
  (sN:ts.length<k+1+r.at_) (h1:1≤r.at_) (hr:r.at_≤ts.length) (wJ:l.length+(k+1)≤ts.length+2) (he:AO r.err) :
  ItI ts res k (mkT 63 [(0,.ptr 0 0),(3,itE.tk 1 (l++[(CA ts r).1])),(4,.bool (isW ts (CA ts r).2 3 A7))]) [mbx ts (CM ts (CA ts r).2 3 A7),AW (l++[(CA ts r).1])]:=by
 obtain ⟨u1,u2,u3⟩:=Qv ts r hr;generalize CA ts r=p at *;obtain ⟨x,q⟩:=p;simp only at *;cases hc:isW ts q 3 A7 with
 | false =>rw [hc] at pq;rw [G3 hc];exact ⟨l++[x],q,false,(fun h=>by cases h),fun _=>pq.symm,u3 he,u2,by rw [List.length_append,List.length_cons,List.length_nil];omega,rfl,rfl⟩
 | true =>rw [hc] at pq;rw [G2 hc];have hl:=(D1 hc).1;have hs:q.step.at_=q.at_+1:=rfl;exact ⟨l++[x],q.step,true,fun _=>⟨pq,by omega,by omega,by omega⟩,(fun h=>by cases h),u3 he,by omega,by rw [List.length_append,List.length_cons,List.length_nil];omega,rfl,rfl⟩
theorem ma {ts:List Wd} {res:List Int × Sr} {nm:List UInt8} {outv:AV} {e1:Option Ent} {d:List Int} {r r1 r2:Sr} {m:Nat × Sr} {k:Nat} (qP:r1=if 4≤d.length then r.fail (r.at_-1) 4 else r) (hm:Co ts r1=m) (qN:r2=if m.2.err=none∧m.1=0 then m.2.fail r1.at_ 1 else m.2)
  (pq:Dk ts (k+1) d r=res) (hk:k+1+d.length=6) (h1:1≤r.at_) (hr:r.at_≤ts.length) (he:AO r.err) :
  Nu ts nm outv e1 res k (mkT 63 [(0,.ptr 0 0),(3,outv),(5,.ptr 2 0),(6,.bool (isW ts r2 3 A7))]) [mbx ts (CM ts r2 3 A7),e1,some (.box [.str nm,Ak.tk 3 (d++[(m.1:Int)])]),AW (d++[(m.1:Int)])]:=by
 have yO:Dk ts (k+1) d r=if isW ts r2 3 A7 then Dk ts k (d++[(m.1:Int)]) r2.step else (d++[(m.1:Int)],r2):=by rw [qN,←hm,qP];rfl
 rw [yO] at pq
 have q1:r1.at_=r.at_∧(AO r.err→AO r1.err)∧(4≤d.length→r1.err≠none):=by
  rw [qP]
  split
  ·exact ⟨rfl,fun h=>Sr.fail_ok h _ (by decide),fun _=>by simp [Sr.fail]⟩
  ·exact ⟨rfl,fun h=>h,fun h=>absurd h ‹_›⟩
 obtain ⟨a1,a2,a3⟩:=Ns ts r1
 have hme:r1.err≠none→m.2.err≠none:=by
  intro h;rw [←hm];unfold Co
  split
  ·exact h
  ·simp [Sr.fail]
 rw [hm] at a1 a2 a3
 have q2:r2.at_=m.2.at_∧(AO m.2.err→AO r2.err)∧(m.2.err≠none→r2.err≠none):=by
  rw [qN]
  split
  ·exact ⟨rfl,fun h=>Sr.fail_ok h _ (by decide),fun _=>by simp [Sr.fail]⟩
  ·exact ⟨rfl,fun h=>h,fun h=>h⟩
 have zAD:r2.at_≤ts.length:=by have:=a2 (by omega);omega
 have zS:=q2.2.1 (a3 (q1.2.1 he));cases hc:isW ts r2 3 A7 with
 | false =>rw [hc] at pq;rw [G3 hc];exact ⟨_,r2,false,(fun h=>by cases h),fun _=>pq.symm,zS,zAD,rfl,rfl⟩
 | true =>
  rw [hc] at pq;rw [G2 hc];obtain ⟨hl,hn⟩:=D1 hc;have hs:r2.step.at_=r2.at_+1:=rfl;have rz:¬4≤d.length:=fun h=>q2.2.2 (hme (q1.2.2 h)) hn
  exact ⟨_,r2.step,true,fun _=>⟨pq,by rw [List.length_append,List.length_cons,List.length_nil];omega,by rw [List.length_append,List.length_cons,List.length_nil];omega,by omega,by omega⟩,(fun h=>by cases h),zS,by omega,rfl,rfl⟩
theorem mb (ts:List Wd) (po:ts.length<1000000) (r:Sr) (he:AO r.err) (h1:1≤r.at_) (hr:r.at_≤ts.length) {H:AH} {id:Nat} (hH:H.at id=some (.box (r.mc ts))) :
  CS zP AJ 162 [.ptr id 0] H (itE.av (Fe ts r).1) (H.set id (some (.box ((Fe ts r).2.mc ts)))):=by
 refine CS.rd BY Tryz.func162 (by kernel_rfl) 0 (by simp [Tryz.f162]) (fun B hB hG => ?_) (by simp) (by simp) (C5 _ _) (C5 _ _) hH;have X:=Vx ts po;have hO:=Vw ts po;generalize oOf (Ga ts po)=O at X hO;refine Tr.goD X hG (by kernel_rfl) ?_;unfold Fe;generalize uN:D2 ts (ts.length+1) [] r=res;simp [Tryz.f162,Sr.mc]
 refine LpD.loopN X hG (by kernel_rfl) (ItI ts res) (ts.length+1) (t':=mkT 63 [(0,.ptr 0 0),(3,itE.tk 1 []),(4,.bool true)]) (H':=[mbx ts r,none])
  (AF.mkV 100 (fun i=>i) 2 (by simp [hB]) (by simp) (by simp) rfl (by
   intro i hi;rcases (by omega:i=0∨i=1) with rfl|rfl
   ·simp [AH.at,mbx,AI,AM,ren,IG,Fg]
   ·simp [AH.at]) (by simp [mbx]) (by simp [ren]))
  ⟨[],r,true,fun _=>⟨uN,by omega,h1,hr⟩,(fun h=>by cases h),he,by omega,by simp,rfl,by simp⟩ ?_
 rintro k t H ⟨l,r,mo,hmt,hmf,he,qP,wJ,rfl,rfl⟩;cases mo with
 | false =>obtain rfl:=hmf rfl;have qV:=itE.tk_cut (show ¬1<1 by omega) l;simp [Bt,qV]
 | true =>
  obtain ⟨pq,sN,h1,hr⟩:=hmt rfl;obtain ⟨k,rfl⟩:∃j,k=j+1:=⟨k-1,by omega⟩
  have uO:=fun H=>hO.name r H he
  obtain ⟨a1,a2,a3⟩:=Nr ts r;have zAE:D2 ts (k+1) l r=if isW ts (CA ts r).2 3 A7 then D2 ts k (l++[(CA ts r).1]) (CA ts r).2.step else (l++[(CA ts r).1],(CA ts r).2):=rfl
  have yP:CA ts r=if isW ts (CD ts r).2 3 Ay then (⟨(CD ts r).1,(Dk ts 6 [] (CD ts r).2.step).1⟩,B3 ts (Dk ts 6 [] (CD ts r).2.step).2 3 A0) else (⟨(CD ts r).1,[]⟩,(CD ts r).2):=rfl
  have hiu:=Qv ts r hr;rw [zAE] at pq;generalize CD ts r=m at *;obtain ⟨nm,r1⟩:=m;simp only at uO a1 a2 a3 yP;have uB:=a3 he;have qk:=fun H=>hO.sign r1 Ay H uB (by decide)
  simp [mbx] at uO;cases qX:isW ts r1 3 Ay with
  | false =>
   rw [G3 qX,qX] at qk;simp [mbx,Ay] at qk;have yQ:CA ts r=(⟨nm,[]⟩,r1):=by rw [yP,qX];rfl
   have ri:=Vy pq sN h1 hr wJ he;rw [yQ] at ri;simp only at ri;have rI:=fun H=>hO.sign r1 A7 H uB (by decide)
   simp only [A7] at rI ri;simp only [mbx] at rI;generalize CM ts r1 3 [44]=r2 at *;generalize isW ts r1 3 [44]=b2 at *;cases l with
   | nil =>
    have py:=fun H ow=>GI (P:=zP) (t:=39) (sz:=2) (m:=1) (H:=H) (fid:=3) (ow:=ow) (ys:=[.str nm,.nilSlice]) Nv (by decide) (by decide) (by simp)
    simp [mbx,uO,qk,py,rI]
    refine Nxt.mk k (by omega) (AF.mkV 100 (fun i=>if i=1 then 3 else i) 2 (by simp [hB]) (by intro i j hi hj h;split at h<;>split at h<;>omega) (by simp [hB]) rfl (by
     intro i hi;rcases (by omega:i=0∨i=1) with rfl|rfl
     ·simp [AH.at,mbx,AI,AM,ren,IG,Fg]
     ·simp [AH.at,AW,AI]) (by simp [mbx,AW]) (by simp [ren,AM,Enc.tk,GU,Enc.row,QR,strip,CX])) ri
   | cons x l =>
    have py:=fun H ow (h:AH.at H 1=some (.tok (x::l).length))=>Em (P:=zP) (t:=39) (sz:=2) (n:=(x::l).length) (m:=1) (H:=H) (fid:=3) (ow:=ow) (xs:=itE.row (x::l)) (ys:=[.str nm,.nilSlice]) Nv h (by decide) (by omega) (by simp)
    have tz:itE.row (x::l)++[.str nm,.nilSlice]=itE.row (x::l++[⟨nm,[]⟩]):=by rw [itE.row_append];rfl
    rw [tz] at py;have qS:itE.tk 1 (x::l) = .slice (.tok 1) 2 (x::l).length (itE.row (x::l)):=rfl
    have rr:itE.tk 1 (x::l++[⟨nm,[]⟩]) = .slice (.tok 1) 2 ((x::l).length+1) (itE.row (x::l++[⟨nm,[]⟩])):=by rw [itE.tk_ne 1 (by simp),List.length_append];rfl
    have qp:AW (x::l)=some (.tok (x::l).length):=rfl;have sp:AW (x::l++[(⟨nm,[]⟩:It)])=some (.tok ((x::l).length+1)):=by rw [Cs (by simp),List.length_append];rfl
    have qB:=itE.row_lowm 2 (x::l++[⟨nm,[]⟩]);rw [rr,sp] at ri;rw [qS,qp];generalize itE.row (x::l++[⟨nm,[]⟩])=cs2 at *;generalize itE.row (x::l)=cs at *;generalize (x::l).length=n at *;simp [mbx,uO,qk,py,rI];exact Nxt.mk k (by omega) (AF.mkK 2 (by simp [hB]) (by simp [qB]) (by simp [mbx]) (by simp [mbx])) ri
  | true =>
   rw [G2 qX,qX] at qk;simp [mbx,Ay] at qk;have qz:=(D1 qX).1;have rF:r1.step.at_=r1.at_+1:=rfl;have hs1e:r1.step.err=r1.err:=rfl;generalize rL:Dk ts 6 [] r1.step=dres at *;have yQ:CA ts r=(⟨nm,dres.1⟩,B3 ts dres.2 3 A0):=by rw [yP,qX];rfl
   have ri:=Vy pq sN h1 hr wJ he;rw [yQ] at ri;simp only at ri;have qF:mbx ts r1.step=some (.box [AD ts,.int .i64 ((r1.at_:Int)+1),erP r1.err,.int .i64 (erC r1.err)]):=by simp [mbx,Sr.step]
   simp [mbx,uO,qk]
   refine LpD.loopN X hG (by kernel_rfl) (Nu ts nm (itE.tk 1 l) (AW l) dres) 6 (t':=mkT 63 [(0,.ptr 0 0),(3,itE.tk 1 l),(5,.ptr 2 0),(6,.bool true)]) (H':=[mbx ts r1.step,AW l,some (.box [.str nm,Ak.tk 3 []]),none])
    (AF.mkV 100 (fun i=>i) 4 (by simp [hB]) (by simp) (by simp) rfl (by
     intro i hi;rcases (by omega:i=0∨i=1∨i=2∨i=3) with rfl|rfl|rfl|rfl
     ·simp [qF,AI,AM,ren,IG,Fg,Sr.step]
     ·simp [LA]
     ·simp [AI,AM,ren]
     ·simp) (by
      have:=GJ 4 l;simp [qF] at this ⊢
      exact this) (by simp [ren,itE.tk_ren,itE.tk_strip,itE.tk_low,strip]))
    ⟨[],r1.step,true,fun _=>⟨rL,rfl,by decide,by omega,by omega⟩,(fun h=>by cases h),uB,by omega,rfl,rfl⟩ ?_
   rintro k2 t H ⟨d,q,nx,hnt,hnf,rf,hql,rfl,rfl⟩;cases nx with
   | false =>
    obtain rfl:=hnf rfl;simp only at ri;have so:=fun H=>hO.must q 3 A0 H rf (by omega) (by decide)
    obtain ⟨v1,v2,_⟩:=FJ ts q 3 A0;have rI:=fun H=>hO.sign (B3 ts q 3 A0) A7 H (v2 rf) (by decide)
    generalize B3 ts q 3 A0=q1 at *;simp only [A7] at rI ri;simp only [A0] at so;simp only [mbx] at rI so;simp at so;generalize CM ts q1 3 [44]=r2 at *;generalize isW ts q1 3 [44]=b2 at *
    have sA:∀(n:Nat) (a b:List AV),CX n (a++b)=CX n a++CX n b:=by
     intro n a b
     induction a with
     | nil=>rfl
     | cons x a ih=>simp [CX,ih]
    have rA:∀(ψ:Nat→Nat) (a b:List AV),AM ψ (a++b)=AM ψ a++AM ψ b:=by
     intro ψ a b
     induction a with
     | nil=>rfl
     | cons x a ih=>simp [AM,ih]
    cases l with
    | nil =>
     have py:=fun H ow=>GI (P:=zP) (t:=39) (sz:=2) (m:=1) (H:=H) (fid:=4) (ow:=ow) (ys:=[.str nm,Ak.tk 3 d]) Nv (by decide) (by decide) (by simp)
     simp [mbx,Bt,so,py,rI]
     refine Nxt.mk k (by omega) (AF.trans (AF.mkV (l':=[(0,.ptr 0 0),(3,.slice (.tok 1) 2 1 [.str nm,Ak.tk 2 d]),(4,.bool b2)]) (H':=[mbx ts r2,some (.tok 1),AW d]) 100 (fun i=>if i=1 then 4 else if i=2 then 3 else i) 3 (by simp [hB]) (by
      intro i j hi hj h
      rcases (by omega:i=0∨i=1∨i=2) with rfl|rfl|rfl<;>rcases (by omega:j=0∨j=1∨j=2) with rfl|rfl|rfl<;>simp at h ⊢) (by simp [hB]) rfl (by
      intro i hi;rcases (by omega:i=0∨i=1∨i=2) with rfl|rfl|rfl
      ·simp [AH.at,mbx,AI,AM,ren,IG,Fg]
      ·simp [AH.at,AI]
      ·simp [AH.at,LA]) (by
      have:=GJ 3 d;simp [mbx] at this ⊢
      exact this) (by simp [ren,AM,strip,CX,Ak.tk_ren,Ak.tk_strip,Ak.tk_low]))
      (AF.mkV 2 (fun i=>i) 2 (by simp [hB]) (by simp) (by simp) rfl (by
      intro i hi;rcases (by omega:i=0∨i=1) with rfl|rfl
      ·simp [AH.at,mbx,AI,AM,ren,IG,Fg]
      ·simp [AH.at,AW,AI]) (by simp [mbx,AW]) (by simp [ren,AM,Enc.tk_ne,GU,Enc.row,QR,strip,CX,Ak.tk_cut,Ak.av_ren]))) ri
    | cons x l =>
     have py:=fun H ow (h:AH.at H 1=some (.tok (x::l).length))=>Em (P:=zP) (t:=39) (sz:=2) (n:=(x::l).length) (m:=1) (H:=H) (fid:=4) (ow:=ow) (xs:=itE.row (x::l)) (ys:=[.str nm,Ak.tk 3 d]) Nv h (by decide) (by omega) (by simp)
     have tz:itE.row (x::l++[⟨nm,d⟩])=itE.row (x::l)++[.str nm,Ak.av d]:=by rw [itE.row_append];rfl
     have qS:itE.tk 1 (x::l) = .slice (.tok 1) 2 (x::l).length (itE.row (x::l)):=rfl
     have rr:itE.tk 1 (x::l++[⟨nm,d⟩]) = .slice (.tok 1) 2 ((x::l).length+1) (itE.row (x::l)++[.str nm,Ak.av d]):=by rw [itE.tk_ne 1 (by simp),List.length_append,tz];rfl
     have qp:AW (x::l)=some (.tok (x::l).length):=rfl;have sp:AW (x::l++[(⟨nm,d⟩:It)])=some (.tok ((x::l).length+1)):=by rw [Cs (by simp),List.length_append];rfl
     have qB:=itE.row_lowm 2 (x::l);have yG:=itE.row_strip 2 (x::l);have zAF:AM (fun i=>i) (itE.row (x::l))=itE.row (x::l):=BA _ _ (itE.row_low _);rw [rr,sp] at ri;rw [qS,qp];generalize itE.row (x::l)=cs at *;generalize (x::l).length=n at *;simp [mbx,Bt,so,py,rI]
     exact Nxt.mk k (by omega) (AF.mkV 2 (fun i=>i) 2 (by simp [hB]) (by simp) (by simp) rfl (by
      intro i hi;rcases (by omega:i=0∨i=1) with rfl|rfl
      ·simp [AH.at,mbx,AI,AM,ren,IG,Fg]
      ·simp [AH.at,AI]) (by simp [mbx]) (by simp [ren,rA,AM,strip,sA,CX,qB,yG,zAF,Ak.tk_cut,Ak.av_ren])) ri
   | true =>
    obtain ⟨yO,rU,rz,hq1,rh⟩:=hnt rfl;obtain ⟨k2,rfl⟩:∃j,k2=j+1:=⟨k2-1,by omega⟩
    obtain ⟨q1,rJ⟩:∃q1,q1=if 4≤d.length then q.fail (q.at_-1) 4 else q:=⟨_,rfl⟩
    obtain ⟨m,hm⟩:∃m,Co ts q1=m:=⟨_,rfl⟩
    obtain ⟨q2,wQ⟩:∃q2,q2=if m.2.err=none∧m.1=0 then m.2.fail q1.at_ 1 else m.2:=⟨_,rfl⟩
    have rj:=ma (nm:=nm) (outv:=itE.tk 1 l) (e1:=AW l) rJ hm wQ yO (by omega) hq1 rh rf;have qG:=fun H=>hO.fail q (q.at_-1) 4 H rf
    have uB:AO q1.err:=by
     rw [rJ]
     split
     ·exact Sr.fail_ok rf _ (by decide)
     ·exact rf
    have hq1a:q1.at_=q.at_:=by rw [rJ];split<;>rfl
    have se:=fun H=>hO.num q1 H uB
    have qT:AO m.2.err:=by rw [←hm];exact (Ns ts q1).2.2 uB
    rw [hm] at se;have rp:=fun H=>hO.fail m.2 q1.at_ 1 H qT
    have he3:AO q2.err:=by
     rw [wQ]
     split
     ·exact Sr.fail_ok qT _ (by decide)
     ·exact qT
    have rI:=fun H=>hO.sign q2 A7 H he3 (by decide)
    obtain ⟨p,hp⟩:∃p,p=q.at_-1:=⟨_,rfl⟩
    have w1:IntKind.i64.wrap ((q.at_:Int)-1)=(p:Int):=by rw [Ab (by omega) (by omega)];omega
    rw [←hp] at qG rJ;obtain ⟨n,qm⟩:=m;simp only at se rp qT wQ rj
    have ul:(erC qm.err=0∧n=0∧q2=qm.fail q1.at_ 1)∨(erC qm.err=0∧n≠0∧q2=qm)∨(erC qm.err≠0∧q2=qm):=by
     rw [wQ]
     by_cases h1:qm.err=none
     ·have h1':=(EI qT).2 h1
      by_cases h2:n=0
      ·rw [if_pos ⟨h1,h2⟩];exact .inl ⟨h1',h2,rfl⟩
      ·rw [if_neg fun h=>h2 h.2];exact .inr (.inl ⟨h1',h2,rfl⟩)
     ·rw [if_neg fun h=>h1 h.1];exact .inr (.inr ⟨fun h=>h1 ((EI qT).1 h),rfl⟩)
    clear wQ;simp only [A7] at rI rj;simp only [mbx] at qG se rp rI;simp at qG se rp;have tV:(d.length:Int)≤4:=by omega
    have sq:∀(t:List AV) (H:AH) (b2:Bool) (q3:Sr),AF B t H (mkT 63 [(0,.ptr 0 0),(3,itE.tk 1 l),(5,.ptr 2 0),(6,.bool b2)]) [mbx ts q3,AW l,some (.box [.str nm,Ak.tk 3 (d++[(n:Int)])]),AW (d++[(n:Int)])] →
      Nu ts nm (itE.tk 1 l) (AW l) dres k2 (mkT 63 [(0,.ptr 0 0),(3,itE.tk 1 l),(5,.ptr 2 0),(6,.bool b2)]) [mbx ts q3,AW l,some (.box [.str nm,Ak.tk 3 (d++[(n:Int)])]),AW (d++[(n:Int)])]→Nxt B (Nu ts nm (itE.tk 1 l) (AW l) dres) (k2+1) t H:=fun t H b2 q3 h1 h2=>Nxt.mk k2 (by omega) h1 h2
    rcases ul with ⟨rT,qy,ul⟩|⟨rT,qy,ul⟩|⟨rT,ul⟩
    ·rw [←ul] at rp
     have tI:(erC qm.err==0)=true:=by rw [rT];rfl
     rw [rT] at rp;subst qy;have qy:True:=trivial;have tJ:True:=trivial;generalize CM ts q2 3 [44]=q3 at *;generalize isW ts q2 3 [44]=b2 at *;cases d with
     | nil =>
      rw [if_neg (by simp)] at rJ;subst rJ;have py:=fun H ow fid v=>GI (P:=zP) (t:=49) (sz:=1) (m:=1) (H:=H) (fid:=fid) (ow:=ow) (ys:=[.int .i64 v]) Ij (by decide) (by decide) (by simp)
      simp [mbx,se,rT,qy,tI,tJ,rp,py,rI];refine sq _ _ b2 q3 ?_ rj
      exact (AF.mkV 100 (fun i=>if i=3 then 4 else i) 4 (by simp [hB]) (by
       intro i j hi hj h
       rcases (by omega:i=0∨i=1∨i=2∨i=3) with rfl|rfl|rfl|rfl<;>rcases (by omega:j=0∨j=1∨j=2∨j=3) with rfl|rfl|rfl|rfl<;>simp at h ⊢) (by simp [hB]) rfl (by
       intro i hi;rcases (by omega:i=0∨i=1∨i=2∨i=3) with rfl|rfl|rfl|rfl
       ·simp [AH.at,mbx,AI,AM,ren,IG,Fg]
       ·simp [AH.at,LA]
       ·simp [AH.at,AI,AM,ren,Ak.tk_ren,Enc.tk,Enc.row,La,QQ]
       ·simp [AH.at,AI,AW]) (by
       have h1:=GJ 4 l;have h2:=fun v:Int=>GJ 4 [v]
       simp [mbx,Ak.tk_low] at h1 h2 ⊢
       exact ⟨h1,h2 0⟩) (by simp [ren,itE.tk_ren,itE.tk_strip,itE.tk_low,strip]))
     | cons x d =>
      have py:=fun H ow fid v (h:AH.at H 3=some (.tok (x::d).length))=>Em (P:=zP) (t:=49) (sz:=1) (n:=(x::d).length) (m:=1) (H:=H) (fid:=fid) (ow:=ow) (xs:=Ak.row (x::d)) (ys:=[.int .i64 v]) Ij h (by decide) (by omega) (by simp)
      have qS:Ak.tk 3 (x::d) = .slice (.tok 3) 1 (x::d).length (Ak.row (x::d)):=rfl
      have rr:∀v:Int,Ak.tk 3 (x::d++[v]) = .slice (.tok 3) 1 ((x::d).length+1) (Ak.row (x::d)++[.int .i64 v]):=fun v=>by rw [Ak.tk_ne 3 (by simp),List.length_append,Ak.row_append];rfl
      have qp:AW (x::d)=some (.tok (x::d).length):=rfl;have sp:∀v:Int,AW (x::d++[v])=some (.tok ((x::d).length+1)):=fun v=>by rw [Cs (by simp),List.length_append];rfl
      have qB:=Ak.row_lowm 4 (x::d);have pw:Ak.row (x::d)=Ak.row (x::d):=rfl;rw [rr,sp] at rj;simp only [rr,sp] at sq;rw [qS,qp];have tK:AP 4 [AW l]=true:=GJ 4 l;simp at tK;generalize Ak.row (x::d)=cs at *
      by_cases h4:4≤(x::d).length
      ·rw [if_pos h4] at rJ
       rw [←rJ] at qG;have h4':(4:Int)≤((x::d).length:Int):=by omega
       generalize (x::d).length=nd at *;simp [w1,qG,h4,h4',mbx,se,rT,qy,tI,tJ,rp,py,rI];refine sq _ _ b2 q3 ?_ rj;exact AF.mkK 4 (by simp [hB]) (by simp [itE.tk_low]) (by simp [mbx]) (by simp [mbx,qB,tK])
      ·rw [if_neg h4] at rJ
       subst rJ;have h4':¬(4:Int)≤((x::d).length:Int):=by omega
       generalize (x::d).length=nd at *;simp [h4,h4',mbx,se,rT,qy,tI,tJ,rp,py,rI];refine sq _ _ b2 q3 ?_ rj;exact AF.mkK 4 (by simp [hB]) (by simp [itE.tk_low]) (by simp [mbx]) (by simp [mbx,qB,tK])
    ·subst ul
     have tI:(erC q2.err==0)=true:=by rw [rT];rfl
     rw [rT] at rI;have tJ:((n:Int)==0)=false:=by rw [beq_eq_false_iff_ne];omega
     generalize CM ts q2 3 [44]=q3 at *;generalize isW ts q2 3 [44]=b2 at *;cases d with
     | nil =>
      rw [if_neg (by simp)] at rJ;subst rJ;have py:=fun H ow fid v=>GI (P:=zP) (t:=49) (sz:=1) (m:=1) (H:=H) (fid:=fid) (ow:=ow) (ys:=[.int .i64 v]) Ij (by decide) (by decide) (by simp)
      simp [mbx,se,rT,qy,tI,tJ,rp,py,rI];refine sq _ _ b2 q3 ?_ rj
      exact (AF.mkV 100 (fun i=>if i=3 then 4 else i) 4 (by simp [hB]) (by
       intro i j hi hj h
       rcases (by omega:i=0∨i=1∨i=2∨i=3) with rfl|rfl|rfl|rfl<;>rcases (by omega:j=0∨j=1∨j=2∨j=3) with rfl|rfl|rfl|rfl<;>simp at h ⊢) (by simp [hB]) rfl (by
       intro i hi;rcases (by omega:i=0∨i=1∨i=2∨i=3) with rfl|rfl|rfl|rfl
       ·simp [AH.at,mbx,AI,AM,ren,IG,Fg]
       ·simp [AH.at,LA]
       ·simp [AH.at,AI,AM,ren,Ak.tk_ren,Enc.tk,Enc.row,La,QQ]
       ·simp [AH.at,AI,AW]) (by
       have h1:=GJ 4 l;have h2:=fun v:Int=>GJ 4 [v]
       simp [mbx,Ak.tk_low] at h1 h2 ⊢
       exact ⟨h1,h2 n⟩) (by simp [ren,itE.tk_ren,itE.tk_strip,itE.tk_low,strip]))
     | cons x d =>
      have py:=fun H ow fid v (h:AH.at H 3=some (.tok (x::d).length))=>Em (P:=zP) (t:=49) (sz:=1) (n:=(x::d).length) (m:=1) (H:=H) (fid:=fid) (ow:=ow) (xs:=Ak.row (x::d)) (ys:=[.int .i64 v]) Ij h (by decide) (by omega) (by simp)
      have qS:Ak.tk 3 (x::d) = .slice (.tok 3) 1 (x::d).length (Ak.row (x::d)):=rfl
      have rr:∀v:Int,Ak.tk 3 (x::d++[v]) = .slice (.tok 3) 1 ((x::d).length+1) (Ak.row (x::d)++[.int .i64 v]):=fun v=>by rw [Ak.tk_ne 3 (by simp),List.length_append,Ak.row_append];rfl
      have qp:AW (x::d)=some (.tok (x::d).length):=rfl;have sp:∀v:Int,AW (x::d++[v])=some (.tok ((x::d).length+1)):=fun v=>by rw [Cs (by simp),List.length_append];rfl
      have qB:=Ak.row_lowm 4 (x::d);have pw:Ak.row (x::d)=Ak.row (x::d):=rfl;rw [rr,sp] at rj;simp only [rr,sp] at sq;rw [qS,qp];have tK:AP 4 [AW l]=true:=GJ 4 l;simp at tK;generalize Ak.row (x::d)=cs at *
      by_cases h4:4≤(x::d).length
      ·rw [if_pos h4] at rJ
       rw [←rJ] at qG;have h4':(4:Int)≤((x::d).length:Int):=by omega
       generalize (x::d).length=nd at *;simp [w1,qG,h4,h4',mbx,se,rT,qy,tI,tJ,rp,py,rI];refine sq _ _ b2 q3 ?_ rj;exact AF.mkK 4 (by simp [hB]) (by simp [itE.tk_low]) (by simp [mbx]) (by simp [mbx,qB,tK])
      ·rw [if_neg h4] at rJ
       subst rJ;have h4':¬(4:Int)≤((x::d).length:Int):=by omega
       generalize (x::d).length=nd at *;simp [h4,h4',mbx,se,rT,qy,tI,tJ,rp,py,rI];refine sq _ _ b2 q3 ?_ rj;exact AF.mkK 4 (by simp [hB]) (by simp [itE.tk_low]) (by simp [mbx]) (by simp [mbx,qB,tK])
    ·subst ul
     have tI:(erC q2.err==0)=false:=by rw [beq_eq_false_iff_ne];exact rT
     have qy:True:=trivial;have tJ:True:=trivial;generalize CM ts q2 3 [44]=q3 at *;generalize isW ts q2 3 [44]=b2 at *;cases d with
     | nil =>
      rw [if_neg (by simp)] at rJ;subst rJ;have py:=fun H ow fid v=>GI (P:=zP) (t:=49) (sz:=1) (m:=1) (H:=H) (fid:=fid) (ow:=ow) (ys:=[.int .i64 v]) Ij (by decide) (by decide) (by simp)
      simp [mbx,se,rT,qy,tI,tJ,rp,py,rI];refine sq _ _ b2 q3 ?_ rj
      exact (AF.mkV 100 (fun i=>if i=3 then 4 else i) 4 (by simp [hB]) (by
       intro i j hi hj h
       rcases (by omega:i=0∨i=1∨i=2∨i=3) with rfl|rfl|rfl|rfl<;>rcases (by omega:j=0∨j=1∨j=2∨j=3) with rfl|rfl|rfl|rfl<;>simp at h ⊢) (by simp [hB]) rfl (by
       intro i hi;rcases (by omega:i=0∨i=1∨i=2∨i=3) with rfl|rfl|rfl|rfl
       ·simp [AH.at,mbx,AI,AM,ren,IG,Fg]
       ·simp [AH.at,LA]
       ·simp [AH.at,AI,AM,ren,Ak.tk_ren,Enc.tk,Enc.row,La,QQ]
       ·simp [AH.at,AI,AW]) (by
       have h1:=GJ 4 l;have h2:=fun v:Int=>GJ 4 [v]
       simp [mbx,Ak.tk_low] at h1 h2 ⊢
       exact ⟨h1,h2 n⟩) (by simp [ren,itE.tk_ren,itE.tk_strip,itE.tk_low,strip]))
     | cons x d =>
      have py:=fun H ow fid v (h:AH.at H 3=some (.tok (x::d).length))=>Em (P:=zP) (t:=49) (sz:=1) (n:=(x::d).length) (m:=1) (H:=H) (fid:=fid) (ow:=ow) (xs:=Ak.row (x::d)) (ys:=[.int .i64 v]) Ij h (by decide) (by omega) (by simp)
      have qS:Ak.tk 3 (x::d) = .slice (.tok 3) 1 (x::d).length (Ak.row (x::d)):=rfl
      have rr:∀v:Int,Ak.tk 3 (x::d++[v]) = .slice (.tok 3) 1 ((x::d).length+1) (Ak.row (x::d)++[.int .i64 v]):=fun v=>by rw [Ak.tk_ne 3 (by simp),List.length_append,Ak.row_append];rfl
      have qp:AW (x::d)=some (.tok (x::d).length):=rfl;have sp:∀v:Int,AW (x::d++[v])=some (.tok ((x::d).length+1)):=fun v=>by rw [Cs (by simp),List.length_append];rfl
      have qB:=Ak.row_lowm 4 (x::d);have pw:Ak.row (x::d)=Ak.row (x::d):=rfl;rw [rr,sp] at rj;simp only [rr,sp] at sq;rw [qS,qp];have tK:AP 4 [AW l]=true:=GJ 4 l;simp at tK;generalize Ak.row (x::d)=cs at *
      by_cases h4:4≤(x::d).length
      ·rw [if_pos h4] at rJ
       rw [←rJ] at qG;have h4':(4:Int)≤((x::d).length:Int):=by omega
       generalize (x::d).length=nd at *;simp [w1,qG,h4,h4',mbx,se,rT,qy,tI,tJ,rp,py,rI];refine sq _ _ b2 q3 ?_ rj;exact AF.mkK 4 (by simp [hB]) (by simp [itE.tk_low]) (by simp [mbx]) (by simp [mbx,qB,tK])
      ·rw [if_neg h4] at rJ
       subst rJ;have h4':¬(4:Int)≤((x::d).length:Int):=by omega
       generalize (x::d).length=nd at *;simp [h4,h4',mbx,se,rT,qy,tI,tJ,rp,py,rI];refine sq _ _ b2 q3 ?_ rj;exact AF.mkK 4 (by simp [hB]) (by simp [itE.tk_low]) (by simp [mbx]) (by simp [mbx,qB,tK])
@[simp] theorem buS0:A3 zP 46 []=some (.agg (Sx.c ⟨0,[],t0,t0,[],t0,t0,[],t0,t0,0⟩)):=by kernel_rfl
@[simp] theorem buSk (k:Int):A3 zP 46 [(0,.int .i64 k)]=some (.agg (Sx.c ⟨k,[],t0,t0,[],t0,t0,[],t0,t0,0⟩)):=by kernel_rfl
@[simp] theorem buSi (k:Int) (l:List It):A3 zP 46 [(0,.int .i64 k),(1,itE.av l)]=some (.agg (Sx.c ⟨k,l,t0,t0,[],t0,t0,[],t0,t0,0⟩)):=by
 unfold Sx.c Enc.av
 split
 ·kernel_rfl
 ·kernel_rfl
theorem me (k:Int) (t:Tn):A3 zP 46 [(0,.int .i64 k),(2,.agg (tC t))]=some (.agg (Sx.c ⟨k,[],t,t0,[],t0,t0,[],t0,t0,0⟩)):=by cases t<;>kernel_rfl
theorem mf (k:Int) (t:Tn):A3 zP 46 [(0,.int .i64 k),(3,.agg (tC t))]=some (.agg (Sx.c ⟨k,[],t0,t,[],t0,t0,[],t0,t0,0⟩)):=by cases t<;>kernel_rfl
theorem mg (k:Int) (op:List UInt8) (a b:Tn):A3 zP 46 [(0,.int .i64 k),(4,.agg (.str op::(tC a++tC b)))]=some (.agg (Sx.c ⟨k,[],t0,t0,op,a,b,[],t0,t0,0⟩)):=by cases a<;>cases b<;>kernel_rfl
@[simp] theorem buSt (k:Int) (t:Tn):A3 zP 46 [(0,.int .i64 k),(2,.agg [.int .i64 t.k,.int .i64 t.n,.str t.s,t.ar])]=some (.agg (Sx.c ⟨k,[],t,t0,[],t0,t0,[],t0,t0,0⟩)):=by rw [←CT];exact me k t
@[simp] theorem buSe (k:Int) (t:Tn):A3 zP 46 [(0,.int .i64 k),(3,.agg [.int .i64 t.k,.int .i64 t.n,.str t.s,t.ar])]=some (.agg (Sx.c ⟨k,[],t0,t,[],t0,t0,[],t0,t0,0⟩)):=by rw [←CT];exact mf k t
@[simp] theorem buSc (k:Int) (op:List UInt8) (a b:Tn):A3 zP 46 [(0,.int .i64 k),(4,.agg [.str op,.int .i64 a.k,.int .i64 a.n,.str a.s,a.ar,.int .i64 b.k,.int .i64 b.n,.str b.s,b.ar])]=some (.agg (Sx.c ⟨k,[],t0,t0,op,a,b,[],t0,t0,0⟩)):=by
 have:=mg k op a b
 rwa [CT,CT] at this
@[simp] theorem buSd (k s:Int) (nm:List UInt8):A3 zP 46 [(0,.int .i64 k),(5,.str nm),(8,.int .i64 s)]=some (.agg (Sx.c ⟨k,[],t0,t0,[],t0,t0,nm,t0,t0,s⟩)):=by kernel_rfl
theorem Nw (r:Sr) (n:Nat) (x:Option (Nat × Nat)):r.at_≤(C4 r n x).at_∧(C4 r n x).at_≤r.at_+n∧(AO r.err→BO x→AO (C4 r n x).err)∧(r.err≠none→(C4 r n x)=r):=by
 unfold C4;cases he:r.err with
 | some y=>exact ⟨Nat.le_refl _,Nat.le_add_right _ _,fun h _=>by rw [he];exact h,fun _=>rfl⟩
 | none =>
  cases x with
  | none=>exact ⟨Nat.le_add_right _ _,Nat.le_refl _,fun _ _=>Bp,fun h=>absurd rfl h⟩
  | some y =>obtain ⟨p,c⟩:=y;exact ⟨Nat.le_refl _,Nat.le_add_right _ _,fun _ h=>G1 (by simp) fun hc=>h p (by rw [hc]),fun h=>absurd rfl h⟩
theorem Kf (ts:List Wd) (r:Sr):r.at_≤(B9 ts r).2.at_∧(B9 ts r).2.at_≤r.at_+ts.length∧(AO r.err→AO (B9 ts r).2.err):=by
 unfold B9;cases he:r.err with
 | some y=>exact ⟨Nat.le_refl _,Nat.le_add_right _ _,fun h=>by rw [he];exact h⟩
 | none =>obtain ⟨h1,h2,h3,_⟩:=Nw r (B1 (ts.drop r.at_)).2.1 (B1 (ts.drop r.at_)).2.2;have h4:=(KZ (ts.drop r.at_)).1;rw [List.length_drop] at h4;exact ⟨h1,by simp only;omega,fun h=>h3 (by rw [he];exact h) (QN _)⟩
theorem Vz (ts:List Wd) (r:Sr):r.at_≤(G9 ts r).2.at_∧(G9 ts r).2.at_≤r.at_+ts.length∧(AO r.err→AO (G9 ts r).2.err):=by
 unfold G9;cases he:r.err with
 | some y=>exact ⟨Nat.le_refl _,Nat.le_add_right _ _,fun h=>by rw [he];exact h⟩
 | none =>obtain ⟨h1,h2,h3,_⟩:=Nw r (CE (ts.drop r.at_)).2.1 (CE (ts.drop r.at_)).2.2;have h4:=(NV (ts.drop r.at_)).1;rw [List.length_drop] at h4;exact ⟨h1,by simp only;omega,fun h=>h3 (by rw [he];exact h) (QO _)⟩
theorem V0 (ts:List Wd) (r:Sr) (k:Nat) (s:List UInt8):r.at_≤(CM ts r k s).at_∧(CM ts r k s).at_≤r.at_+1∧(AO r.err→AO (CM ts r k s).err):=by
 unfold CM
 split
 ·exact ⟨Nat.le_succ _,Nat.le_refl _,fun h=>h⟩
 ·exact ⟨Nat.le_refl _,Nat.le_succ _,fun h=>h⟩
theorem mh (ts:List Wd) (r:Sr):(CD ts r).2.at_≤r.at_+1:=by
 unfold CD
 split
 ·exact Nat.le_refl _
 ·exact Nat.le_succ _
theorem mi (ts:List Wd) (po:ts.length<1000000) (r:Sr) (he:AO r.err) (hr:r.at_≤ts.length) {H:AH} {id:Nat} (hH:H.at id=some (.box (r.mc ts))) :
  CS zP AJ 163 [.ptr id 0] H (.agg (Ff ts r).1.x.c) (H.set id (some (.box ((Ff ts r).2.mc ts)))):=by
 refine CS.rd BY Tryz.func163 (by kernel_rfl) 0 (by simp [Tryz.f163]) (fun B hB hG => ?_) (by simp) (by simp [Sx.c_low]) (C5 _ _) (C5 _ _) hH;have X:=Vx ts po;have hO:=Vw ts po;generalize oOf (Ga ts po)=O at X hO;have f1:=fun H=>hO.name r H he
 obtain ⟨_,_,u1⟩:=Nr ts r;have v1:=mh ts r;unfold Ff;generalize CD ts r=m at *;obtain ⟨nm,r1⟩:=m;simp only at f1 u1 v1 ⊢;have e1:=u1 he;have f2:=fun H=>hO.must r1 3 isT H e1 (by omega) (by decide)
 obtain ⟨v2,u2,_⟩:=FJ ts r1 3 isT;generalize B3 ts r1 3 isT=r2 at *;have e2:=u2 e1;have f3:=fun H=>hO.expr r2 H e2 (by omega)
 obtain ⟨_,v3,u3⟩:=Kf ts r2;generalize B9 ts r2=a at *;obtain ⟨lo,r3⟩:=a;simp only at f3 v3 u3 ⊢;have e3:=u3 e2;have f4:=fun H=>hO.must r3 3 A7 H e3 (by omega) (by decide)
 obtain ⟨v4,u4,_⟩:=FJ ts r3 3 A7;generalize B3 ts r3 3 A7=r4 at *;have e4:=u4 e3;have f5:=fun H=>hO.expr r4 H e4 (by omega)
 obtain ⟨_,v5,u5⟩:=Kf ts r4;generalize B9 ts r4=b at *;obtain ⟨hi,r5⟩:=b;simp only at f5 v5 u5 ⊢;have e5:=u5 e4;have f6:=fun H=>hO.sign r5 A7 H e5 (by decide)
 refine Tr.goD X hG (by kernel_rfl) ?_;simp only [isT,mbx] at f1 f2 f3;simp only [A7,mbx] at f4 f5;simp at f2 f4;simp only [CT] at f3 f5;cases hc:isW ts r5 3 A7 with
 | false =>rw [G3 hc,hc] at f6;simp [A7] at f6;simp [Lh,hc];simp [Tryz.f163,Sr.mc,f1,f2,f3,f4,f5,f6,Sx.c,Sm.x,Bq]
 | true =>
  rw [G2 hc,hc] at f6;have f7:=fun H=>hO.sign r5.step Bb H e5 (by decide)
  obtain ⟨_,v7,u7⟩:=V0 ts r5.step 3 Bb;simp [Lh,hc];generalize isW ts r5.step 3 Bb=neg at *;generalize CM ts r5.step 3 Bb=r6 at *;have e6:=u7 e5;have f8:=fun H=>hO.num r6 H e6
  generalize Co ts r6=p at *;obtain ⟨n,r7⟩:=p;generalize r5.step=r5s at *;simp only at f8 ⊢;simp [A7] at f6;simp [Bb] at f7
  try simp at f8
  cases neg with
  | true=>simp [Tryz.f163,Sr.mc,f1,f2,f3,f4,f5,f6,f7,f8,Sx.c,Sm.x,Bq,Mp]
  | false=>simp [Tryz.f163,Sr.mc,f1,f2,f3,f4,f5,f6,f7,f8,Sx.c,Sm.x,Bq]
theorem V1 (ts:List Wd):∀(n:Nat) (l:List It) (r:Sr),r.at_≤ts.length→(D2 ts n l r).2.at_≤ts.length+1∧(AO r.err→AO (D2 ts n l r).2.err)
 | 0,l,r,h=>⟨by simp only [D2];omega,fun h=>h⟩
 | n+1,l,r,h=>by
  obtain ⟨_,u2,u3⟩:=Qv ts r h;simp only [D2]
  split
  ·rename_i hc
   have hl:=(D1 hc).1;obtain ⟨v1,v2⟩:=V1 ts n (l++[(CA ts r).1]) (CA ts r).2.step hl;exact ⟨v1,fun h=>v2 (u3 h)⟩
  ·exact ⟨u2,u3⟩
noncomputable def V2 (ts:List Wd) (po:ts.length<1000000):AG zP AJ:=AG.meth 162 (Sr.mc ts) (F8 ts) (fun (_:Unit) r=>AO r.err∧1≤r.at_∧r.at_≤ts.length) (fun _ _=>[]) (fun _ r=>itE.av (Fe ts r).1) (fun _ r=>(Fe ts r).2)
 (fun _ r h H id hH=>mb ts po r h.1 h.2.1 h.2.2 hH) (fun id x y r _ _ h=>⟨rfl,rfl⟩)
noncomputable def V3 (ts:List Wd) (po:ts.length<1000000):AG zP AJ:=AG.meth 163 (Sr.mc ts) (F8 ts) (fun (_:Unit) r=>AO r.err∧r.at_≤ts.length) (fun _ _=>[]) (fun _ r => .agg (Ff ts r).1.x.c) (fun _ r=>(Ff ts r).2)
 (fun _ r h H id hH=>mi ts po r h.1 h.2 hH) (fun id x y r _ _ h=>⟨rfl,rfl⟩)
noncomputable def Lky (ts:List Wd) (po:ts.length<1000000):List (AG zP AJ):=[EJ ts,Lk ts,IC ts,Ll ts po,Nt ts po,V2 ts po,V3 ts po,Ip ts po,IF ts,Qr]
structure KyO (O:Orc) (ts:List Wd):Prop where
 fail:∀(r:Sr) (p c:Nat) (H:AH),AO r.err→O 121 [.ptr 0 0,.int .i64 (p:Int),.int .i64 (c:Int)] (mbx ts r::H)=some (.tup [],mbx ts (r.fail p c)::H)
 must:∀(r:Sr) (k:Nat) (s:List UInt8) (H:AH),AO r.err→r.at_<1000000000→s≠[]→O 119 [.ptr 0 0,.int .i64 (k:Int),.str s] (mbx ts r::H)=some (.tup [],mbx ts (B3 ts r k s)::H)
 is:∀(r:Sr) (k:Nat) (s:List UInt8) (H:AH),AO r.err→s≠[]→O 164 [.ptr 0 0,.int .i64 (k:Int),.str s] (mbx ts r::H)=some (.bool (isW ts r k s),mbx ts r::H)
 expr:∀(r:Sr) (H:AH),AO r.err→r.at_<1000000000→O 120 [.ptr 0 0] (mbx ts r::H)=some (.agg (tC (B9 ts r).1.tn),mbx ts (B9 ts r).2::H)
 to:∀(r:Sr) (H:AH),AO r.err→r.at_<1000000000→O 118 [.ptr 0 0] (mbx ts r::H)=some (.agg (tC (CV ts r).1.tn),mbx ts (CV ts r).2::H)
 items:∀(r:Sr) (H:AH),AO r.err→1≤r.at_→r.at_≤ts.length→O 162 [.ptr 0 0] (mbx ts r::H)=some (itE.av (Fe ts r).1,mbx ts (Fe ts r).2::H)
 loop:∀(r:Sr) (H:AH),AO r.err→r.at_≤ts.length→O 163 [.ptr 0 0] (mbx ts r::H)=some (.agg (Ff ts r).1.x.c,mbx ts (Ff ts r).2::H)
 rest:∀(r:Sr) (H:AH),O 166 [.ptr 0 0] (mbx ts r::H)=some (AD (ts.drop r.at_),mbx ts r::H)
 took:∀(r:Sr) (n:Nat) (x:Option (Nat × Nat)) (H:AH),Ke r n x→O 167 [.ptr 0 0,.int .i64 (n:Int),erA (xE x)] (mbx ts r::H)=some (.tup [],mbx ts (C4 r n x)::H)
 cond:∀(us:List Wd) (H:AH),us.length<1000000→O 165 [AD us] H=some (.tup [FG (CE us).1,.int .i64 (CE us).2.1,erA (xE (CE us).2.2)],H)
theorem mj (ts:List Wd) (po:ts.length<1000000):KyO (oOf (Lky ts po)) ts:=by
 have hL:((Lky ts po).map (·.f)).Nodup:=show ([121,119,164,120,118,162,163,166,167,165]:List Nat).Nodup by decide
 refine ⟨fun r p c H he=>Vt hL (by simp [Lky]) r he p c H,fun r k s H he hr hs=>Vu hL (by simp [Lky]) r he hr k s hs H,fun r k s H he hs=>No hL (by simp [Lky]) r he k s hs H,fun r H he hr=>Vv po hL (by simp [Lky]) r he hr H,
  fun r H he hr=>mW po hL (by simp [Lky]) r he hr H,fun r H he h1 h2 => ?_,fun r H he h2 => ?_,fun r H=>Qs po hL (by simp [Lky]) r H,fun r n x H h => ?_,fun us H h => ?_⟩
 ·have:=Bn hL (show V2 ts po∈Lky ts po by simp [Lky]) () r (H:=some (.box (r.mc ts))::H) (id:=0) rfl ⟨he,h1,h2⟩
  simpa [Sr.mc] using this
 ·have:=Bn hL (show V3 ts po∈Lky ts po by simp [Lky]) () r (H:=some (.box (r.mc ts))::H) (id:=0) rfl ⟨he,h2⟩
  simpa [Sr.mc] using this
 ·have:=Qt hL (show IF ts∈Lky ts po by simp [Lky]) r n x h H
  rwa [ID] at this
 ·have:=mH hL (show Qr∈Lky ts po by simp [Lky]) us h H
  simp only [KY,ID] at this;exact this
theorem ml (ts:List Wd) (po:ts.length<1000000):Cx (oOf (Lky ts po)) zP AJ:=Bv _ Bz Af
theorem mn {ts:List Wd} (po:ts.length<1000000) {r:Sr} (he:AO r.err) (hr:r.at_<1000000000):Ke r (CE (ts.drop r.at_)).2.1 (CE (ts.drop r.at_)).2.2:=by obtain ⟨h1,h2⟩:=NV (ts.drop r.at_);rw [List.length_drop] at h1;refine ⟨he,hr,fun _=>by omega,QO _,fun p c h => ?_⟩;have:=h2 p c h;rw [List.length_drop] at this;omega
@[simp] theorem pj (k:Int):A3 zP 46 [(0,.int .i64 k),(4,.agg [.str [],.int .i64 0,.int .i64 0,.str [],.nilSlice,.int .i64 0,.int .i64 0,.str [],.nilSlice])]=some (.agg (Sx.c ⟨k,[],t0,t0,[],t0,t0,[],t0,t0,0⟩)):=by kernel_rfl
theorem mp (ts:List Wd) (po:ts.length<1000000) (h1:1≤ts.length) (s:List UInt8) {H:AH} {id:Nat} (hH:H.at id=some (.box ((⟨0,none⟩:Sr).mc ts))) :
  CS zP AJ 117 [.ptr id 0,.str s] H (.agg (Cc ts s ⟨1,none⟩).1.x.c) (H.set id (some (.box ((Cc ts s ⟨1,none⟩).2.mc ts)))):=by
 refine CS.rd BY Tryz.func117 (by kernel_rfl) 0 (by simp [Tryz.f117]) (fun B hB hG => ?_) (by simp) (by simp [Sx.c_low]) (C5 _ _) (C5 _ _) hH;have X:=ml ts po;have hO:=mj ts po;generalize oOf (Lky ts po)=O at X hO;refine Tr.goD X hG (by kernel_rfl) ?_;have w1:IntKind.i64.wrap (1:Int)=1:=by decide
 have w2:IntKind.i64.wrap (0:Int)=0:=by decide
 have hb:mbx ts ⟨1,none⟩=some (.box [AD ts,.int .i64 1,.nilSlice,.int .i64 0]):=rfl
 by_cases rF:s=IY
 ·have hk:Cc ts s ⟨1,none⟩=({kind:=1,items:=(Fe ts ⟨1,none⟩).1},(Fe ts ⟨1,none⟩).2):=by unfold Cc;rw [if_pos rF]
  rw [hk];have f1:=fun H=>hO.items ⟨1,none⟩ H Bp (Nat.le_refl _) h1
  rw [hb] at f1;generalize Fe ts ⟨1,none⟩=p at *;subst rF;simp [Tryz.f117,Sr.mc,A1,A2,w1,w2,IY,f1,Sx.c,Sm.x,Bq]
 by_cases rk:s=doT
 ·have hk:Cc ts s ⟨1,none⟩=Ff ts ⟨1,none⟩:=by unfold Cc;rw [if_neg rF];rw [if_pos rk]
  rw [hk];have f1:=fun H=>hO.loop ⟨1,none⟩ H Bp h1
  rw [hb] at f1;generalize Ff ts ⟨1,none⟩=p at *;subst rk;simp [Tryz.f117,Sr.mc,A1,A2,w1,w2,doT,f1,Sx.c]
 by_cases sy:s=HS
 ·have hk:Cc ts s ⟨1,none⟩=(if isW ts ⟨1,none⟩ 4 doT then ({kind:=4},(⟨1,none⟩:Sr).step) else ({kind:=7},B3 ts ⟨1,none⟩ 4 ifT)):=by unfold Cc;rw [if_neg rF];rw [if_neg rk];rw [if_pos sy]
  rw [hk];have f1:=fun H=>hO.is ⟨1,none⟩ 4 doT H Bp (by decide)
  have f2:=fun H=>hO.must ⟨1,none⟩ 4 ifT H Bp (by decide) (by decide)
  have w3:IntKind.i64.wrap (2:Int)=2:=by decide
  subst sy;cases hd:isW ts ⟨1,none⟩ 4 doT with
  | true =>rw [hd,hb] at f1;simp [doT] at f1;simp [Tryz.f117,Sr.mc,A1,A2,w1,w2,w3,HS,f1,Sx.c,Sm.x,Bq,Sr.step]
  | false =>rw [hd,hb] at f1;rw [hb] at f2;simp [doT] at f1;generalize B3 ts ⟨1,none⟩ 4 ifT=r2 at *;simp [ifT] at f2;simp [Tryz.f117,Sr.mc,A1,A2,w1,w2,HS,f1,f2,Sx.c,Sm.x,Bq]
 by_cases uR:s=ifT
 ·have hk:Cc ts s ⟨1,none⟩=Qn ts ⟨1,none⟩:=by unfold Cc;rw [if_neg rF];rw [if_neg rk];rw [if_neg sy];rw [if_pos uR]
  rw [hk];have f1:=fun H=>hO.must ⟨1,none⟩ 3 Ay H Bp (by decide) (by decide)
  rw [hb] at f1;obtain ⟨v1,u1,_⟩:=FJ ts ⟨1,none⟩ 3 Ay;unfold Qn;generalize B3 ts ⟨1,none⟩ 3 Ay=r1 at *;have e1:=u1 Bp;obtain ⟨_,v2,u2⟩:=Vz ts r1;have f2:=fun H=>hO.rest r1 H
  have f3:=fun H=>hO.cond (ts.drop r1.at_) H (by rw [List.length_drop];omega)
  have f4:=fun H=>hO.took r1 _ _ H (mn po e1 (by simp only at v1;omega))
  have um:G9 ts r1=match r1.err with
   | some _=>(([],.none,.none),r1)
   | none=>((CE (ts.drop r1.at_)).1,C4 r1 (CE (ts.drop r1.at_)).2.1 (CE (ts.drop r1.at_)).2.2):=rfl
  subst uR;simp [Ay] at f1;cases qP:r1.err with
  | some y =>
   rw [qP] at um;simp only at um;rw [um];simp only
   have q0:¬erC r1.err=0:=fun h=>by have:=(EI e1).1 h;rw [qP] at this;cases this
   have q1:(erC r1.err==0)=false:=by rw [beq_eq_false_iff_ne];exact q0
   rw [←qP] at *;have f5:=fun H=>hO.must r1 3 A0 H e1 (by simp only at v1;omega) (by decide)
   obtain ⟨v5,u5,_⟩:=FJ ts r1 3 A0;generalize B3 ts r1 3 A0=r3 at *;have f6:=fun H=>hO.must r3 4 Gu H (u5 e1) (by simp only at v1;omega) (by decide)
   generalize B3 ts r3 4 Gu=r4 at *;simp [A0] at f5;simp [Gu] at f6;simp [Tryz.f117,Sr.mc,A1,A2,w1,w2,ifT,q0,q1,f1,f5,f6,Sx.c,Sm.x,Bq]
  | none =>
   rw [qP] at um;simp only at um;rw [um];have q0:erC r1.err=0:=by rw [qP];rfl
   generalize CE (ts.drop r1.at_)=x at *;obtain ⟨c,n,q⟩:=x;obtain ⟨op,ca,cb⟩:=c;rw [um] at v2 u2;simp only at f3 f4 v2 u2 ⊢;generalize C4 r1 n q=r2 at *;have e2:=u2 e1;have f5:=fun H=>hO.must r2 3 A0 H e2 (by simp only at v1;omega) (by decide)
   obtain ⟨v5,u5,_⟩:=FJ ts r2 3 A0;generalize B3 ts r2 3 A0=r3 at *;have f6:=fun H=>hO.must r3 4 Gu H (u5 e2) (by simp only at v1;omega) (by decide)
   generalize B3 ts r3 4 Gu=r4 at *;simp [A0] at f5;simp [Gu] at f6;simp only [mbx,q0] at f1 f2 f4;simp only [FG,CT,List.cons_append,List.nil_append] at f3;simp at f2 f4;simp [Tryz.f117,Sr.mc,A1,A2,w1,w2,ifT,q0,f1,f2,f3,f4,f5,f6,Sx.c,Sm.x,Bq]
 by_cases un:s=IZ
 ·have hk:Cc ts s ⟨1,none⟩=({kind:=6},⟨1,none⟩):=by unfold Cc;rw [if_neg rF];rw [if_neg rk];rw [if_neg sy];rw [if_neg uR];rw [if_pos un]
  rw [hk];subst un;simp [Tryz.f117,Sr.mc,A1,A2,w1,w2,IZ,Sx.c,Sm.x,Bq]
 by_cases vQ:s=Ia
 ·have hk:Cc ts s ⟨1,none⟩=({kind:=8,to:=(CV ts ⟨1,none⟩).1},(CV ts ⟨1,none⟩).2):=by unfold Cc;rw [if_neg rF];rw [if_neg rk];rw [if_neg sy];rw [if_neg uR];rw [if_neg un];rw [if_pos vQ]
  rw [hk];have f1:=fun H=>hO.to ⟨1,none⟩ H Bp (by decide)
  rw [hb] at f1;generalize CV ts ⟨1,none⟩=p at *;simp only [CT] at f1;subst vQ;simp [Tryz.f117,Sr.mc,A1,A2,w1,w2,Ia,f1,Sx.c,Sm.x,Bq]
 by_cases wR:s=Ib
 ·have hk:Cc ts s ⟨1,none⟩=({kind:=9,e:=(B9 ts ⟨1,none⟩).1},(B9 ts ⟨1,none⟩).2):=by unfold Cc;rw [if_neg rF];rw [if_neg rk];rw [if_neg sy];rw [if_neg uR];rw [if_neg un];rw [if_neg vQ];rw [if_pos wR]
  rw [hk];have f1:=fun H=>hO.expr ⟨1,none⟩ H Bp (by decide)
  rw [hb] at f1;generalize B9 ts ⟨1,none⟩=p at *;simp only [CT] at f1;subst wR;simp [Tryz.f117,Sr.mc,A1,A2,w1,w2,Ib,f1,Sx.c,Sm.x,Bq]
 have f1:=fun H=>hO.fail ⟨1,none⟩ 0 2 H Bp
 rw [hb] at f1;have hk:Cc ts s ⟨1,none⟩=({},(⟨1,none⟩:Sr).fail 0 2):=by unfold Cc;rw [if_neg rF,if_neg rk,if_neg sy,if_neg uR,if_neg un,if_neg vQ,if_neg wR];rfl
 rw [hk];generalize (⟨1,none⟩:Sr).fail 0 2=r2 at *;simp at f1;simp only [IY,doT,HS,ifT,IZ,Ia,Ib] at rF rk sy uR un vQ wR;simp [Tryz.f117,Sr.mc,A1,A2,w1,w2,rF,rk,sy,uR,un,vQ,wR,f1,Sx.c,Sm.x,Bq]
noncomputable def V4:AG zP AJ:=AG.pure 116 (fun s:List UInt8=>s.length<By) (fun s=>[.str s]) Ee (fun s h H=>CS.toF (CS.toX (CS.toN (lN s h H)))) (fun x y _ _ h=>by
 simp only [List.cons.injEq,AV.str.injEq,and_true] at h
 rw [h])
noncomputable def V5:AG zP AJ:=AG.pure 20 (fun s:List UInt8=>s.length<By) (fun s=>[.str s]) (fun s=>C3 (lex (s.length+1) s 0 false)) (fun s h H=>CS.toF (CS.toX (CS.toN (j5 s h H)))) (fun x y _ _ h=>by
 simp only [List.cons.injEq,AV.str.injEq,and_true] at h
 rw [h])
noncomputable def V6 (ts:List Wd) (po:ts.length<1000000):AG zP AJ:=AG.meth 117 (Sr.mc ts) (F8 ts) (fun (_:List UInt8) r=>r=⟨0,none⟩∧1≤ts.length) (fun _ s=>[.str s]) (fun s _ => .agg (Cc ts s ⟨1,none⟩).1.x.c) (fun s _=>(Cc ts s ⟨1,none⟩).2)
 (fun s r h H id hH=>mp ts po h.2 s (by rw [←h.1];exact hH)) (fun id x y r _ _ h=>by
  simp only [List.cons.injEq,AV.str.injEq,and_true] at h;rw [h]
  exact ⟨rfl,rfl⟩)
noncomputable def Lps (ts:List Wd) (po:ts.length<1000000):List (AG zP AJ):=[V4,V5,IE,V6 ts po,Nt ts po,Lk ts,Ll ts po,EJ ts]
structure PsO (O:Orc) (ts:List Wd):Prop where
 parts:∀(s:List UInt8) (H:AH),s.length<By→O 116 [.str s] H=some (Ee s,H)
 toks:∀(s:List UInt8) (H:AH),s.length<By→O 20 [.str s] H=some (C3 (lex (s.length+1) s 0 false),H)
 within:∀(w:List UInt8) (p:Nat) (e:Er) (H:AH),AO e→(∀l c,e=some (l,c)→l.length<1000)→O 49 [.str w,.int .i64 (p:Int),erA e] H=some (erA (inE w p e),H)
 key:∀(s:List UInt8) (e0 e1 e2:Option Ent) (H:AH),1≤ts.length→O 117 [.ptr 3 0,.str s] (e0::e1::e2::mbx ts ⟨0,none⟩::H)=some (.agg (Cc ts s ⟨1,none⟩).1.x.c,e0::e1::e2::mbx ts (Cc ts s ⟨1,none⟩).2::H)
 to:∀(r:Sr) (e0 e1 e2:Option Ent) (H:AH),AO r.err→r.at_<1000000000→O 118 [.ptr 3 0] (e0::e1::e2::mbx ts r::H)=some (.agg (tC (CV ts r).1.tn),e0::e1::e2::mbx ts (CV ts r).2::H)
 must:∀(r:Sr) (k:Nat) (s:List UInt8) (e0 e1 e2:Option Ent) (H:AH),AO r.err→r.at_<1000000000→s≠[]→O 119 [.ptr 3 0,.int .i64 (k:Int),.str s] (e0::e1::e2::mbx ts r::H)=some (.tup [],e0::e1::e2::mbx ts (B3 ts r k s)::H)
 expr:∀(r:Sr) (e0 e1 e2:Option Ent) (H:AH),AO r.err→r.at_<1000000000→O 120 [.ptr 3 0] (e0::e1::e2::mbx ts r::H)=some (.agg (tC (B9 ts r).1.tn),e0::e1::e2::mbx ts (B9 ts r).2::H)
 fail:∀(r:Sr) (p c:Nat) (e0 e1 e2:Option Ent) (H:AH),AO r.err→O 121 [.ptr 3 0,.int .i64 (p:Int),.int .i64 (c:Int)] (e0::e1::e2::mbx ts r::H)=some (.tup [],e0::e1::e2::mbx ts (r.fail p c)::H)
theorem V7 (ts:List Wd) (po:ts.length<1000000):PsO (oOf (Lps ts po)) ts:=by
 have hL:((Lps ts po).map (·.f)).Nodup:=show ([116,20,49,117,118,119,120,121]:List Nat).Nodup by decide
 refine ⟨fun s H h=>Cr hL (show V4∈Lps ts po by simp [Lps]) s h H,fun s H h=>Cr hL (show V5∈Lps ts po by simp [Lps]) s h H,fun w p e H he hl=>Cr hL (show IE∈Lps ts po by simp [Lps]) (w,p,e) ⟨he,hl⟩ H,
  fun s e0 e1 e2 H h => ?_,fun r e0 e1 e2 H he hr => ?_,fun r k s e0 e1 e2 H he hr hs => ?_,fun r e0 e1 e2 H he hr => ?_,fun r p c e0 e1 e2 H he => ?_⟩
 ·exact Bn hL (show V6 ts po∈Lps ts po by simp [Lps]) s ⟨0,none⟩ (H:=e0::e1::e2::some (.box ((⟨0,none⟩:Sr).mc ts))::H) (id:=3) rfl ⟨rfl,h⟩
 ·exact Bn hL (show Nt ts po∈Lps ts po by simp [Lps]) () r (H:=e0::e1::e2::some (.box (r.mc ts))::H) (id:=3) rfl ⟨he,hr⟩
 ·exact Bn hL (show Lk ts∈Lps ts po by simp [Lps]) (k,s) r (H:=e0::e1::e2::some (.box (r.mc ts))::H) (id:=3) rfl ⟨he,hr,hs⟩
 ·exact Bn hL (show Ll ts po∈Lps ts po by simp [Lps]) () r (H:=e0::e1::e2::some (.box (r.mc ts))::H) (id:=3) rfl ⟨he,hr⟩
 ·exact Bn hL (show EJ ts∈Lps ts po by simp [Lps]) (p,c) r (H:=e0::e1::e2::some (.box (r.mc ts))::H) (id:=3) rfl he
theorem V8 (ts:List Wd) (po:ts.length<1000000):Cx (oOf (Lps ts po)) zP AJ:=Bv _ Bz Af
@[simp] theorem buMk (ts:List Wd):A3 zP 229 [(0,AD ts)]=some (.agg [AD ts,.int .i64 0,.nilSlice,.int .i64 0]):=by
 unfold AD
 split<;>kernel_rfl
theorem Qw (ts:List Wd) (r:Sr) (hr:r.at_≤ts.length):(CV ts r).2.at_≤r.at_+ts.length+1000000∧(AO r.err→AO (CV ts r).2.err):=by
 unfold CV
 split
 ·split
  ·rename_i hw hk
   have h2:2≤(ts.drop r.at_).length:=by
    rw [List.length_drop];simp only [isK] at hk
    split at hk
    ·rename_i hx;have:=(List.getElem?_eq_some_iff.1 hx).1;omega
    ·cases hk
   obtain ⟨h1,h3⟩:=Vo (ts:=ts.drop r.at_) (r:=⟨2,0,none⟩) ⟨h2,fun p c h=>by cases h⟩;have rU:=Qu (ts.drop r.at_) ⟨2,0,none⟩ Ct;simp only;refine ⟨?_,fun h=>(Nw _ _ _).2.2.1 h rU⟩;unfold C4
   split
   ·omega
   ·split
    ·simp only;omega
    ·rename_i hn
     have this:(C8 (ts.drop r.at_) (B2 (ts.drop r.at_)) ⟨2,0,none⟩).2.at_≤(ts.drop r.at_).length:=h1 hn;rw [List.length_drop] at this;simp only;omega
  ·exact ⟨by simp only [Sr.step];omega,fun h=>h⟩
 ·exact ⟨by simp only [Sr.fail];omega,fun h=>Sr.fail_ok h _ (by decide)⟩
theorem mq (ts:List Wd) (r:Sr) (h:AO r.err):AO (Ff ts r).2.err:=by
 unfold Ff Lh;have h1:=(Nr ts r).2.2 h;have h2:=(FJ ts (CD ts r).2 3 isT).2.1 h1;have h3:=(Kf ts _).2.2 h2;have h4:=(FJ ts (B9 ts (B3 ts (CD ts r).2 3 isT)).2 3 A7).2.1 h3;have h5:=(Kf ts _).2.2 h4;simp only
 split
 ·exact (Ns ts _).2.2 ((V0 ts _ 3 Bb).2.2 h5)
 ·exact h5
theorem mr (ts:List Wd) (s:List UInt8) (h1:1≤ts.length):AO (Cc ts s ⟨1,none⟩).2.err:=by
 unfold Cc
 split
 ·exact (V1 ts _ _ _ h1).2 Bp
 ·split
  ·exact mq ts _ Bp
  ·split
   ·split
    ·exact Bp
    ·exact (FJ ts _ _ _).2.1 Bp
   ·split
    ·exact (FJ ts _ _ _).2.1 ((FJ ts _ _ _).2.1 ((Vz ts _).2.2 ((FJ ts _ _ _).2.1 Bp)))
    ·split
     ·exact Bp
     ·split
      ·exact (Qw ts ⟨1,none⟩ h1).2 Bp
      ·split
       ·exact (Kf ts _).2.2 Bp
       ·exact Sr.fail_ok Bp _ (by decide)
def Fh (x:Sm × Er):AV := .tup [.agg x.1.x.c,erA x.2]
theorem mt (s:List UInt8) (hs:s.length<1000000) (H:AH):CS zP AJ 76 [.str s] H (Fh (Eg (B8 s))) H:=by
 have hb:(B8 s).length<1000000:=by have h1:=Ni s;unfold B8;rw [List.length_take];omega
 have qj:s.length<By:=by rw [EE];omega
 have wL:(B8 s).length<By:=by rw [EE];omega
 unfold Eg;generalize uQ:lex ((B8 s).length+1) (B8 s) 0 false=lx;cases lx with
 | error x =>
  obtain ⟨p,e⟩:=x;have X:=V8 [] (by decide);have hO:=V7 [] (by decide);generalize oOf (Lps [] _)=O at X hO;have qw:=U0 _ _ _ _ _ _ uQ;have f1:=fun H=>hO.parts s H qj
  have f2:=fun H=>hO.toks (B8 s) H wL
  have f3:=fun H=>hO.within Bo 0 (some ([(KG,p)],e)) H (G1 (by simp) qw) (by simp)
  rw [uQ] at f2;simp [C3,FU] at f2;simp [erP,erC,inE,CO,B0,Bo,KG] at f3;refine CS.tr0 BY Tryz.func76 (by kernel_rfl) 0 (by simp [Tryz.f76]) (fun B hB hG => ?_) (by simp [Fh,Sx.c_low]) (by simp) H;refine Tr.goD X hG (by kernel_rfl) ?_;have hc:¬(e:Int)=0:=by omega
  simp [Tryz.f76,Ee,f1,f2,f3,hc,qw,DM,Sx.c,Fh,Sm.x,Bq,erP,erC,CO,B0,Bo,KG]
 | ok ts =>
  have po:=QG hb uQ;have X:=V8 ts po;have hO:=V7 ts po;generalize oOf (Lps ts po)=O at X hO;have f1:=fun H=>hO.parts s H qj
  have f2:=fun H=>hO.toks (B8 s) H wL
  rw [uQ] at f2;simp only [C3,LP] at f2;refine CS.tr0 BY Tryz.func76 (by kernel_rfl) 0 (by simp [Tryz.f76]) (fun B hB hG => ?_) (by simp [Fh,Sx.c_low]) (by simp) H;refine Tr.goD X hG (by kernel_rfl) ?_
  by_cases pp:ts=[]
  ·have sw:AD ts = .nilSlice:=if_pos pp
   have yH:Kd ts=({},none):=by rw [pp];rfl
   simp only;rw [yH];rw [sw] at f2;simp [Tryz.f76,Ee,f1,f2,Sx.c,Fh,Sm.x,Bq,A1,A2]
  have pz:0<ts.length:=List.length_pos_iff.2 pp;obtain ⟨w,hw⟩:∃w,ts[0]? = some w:=⟨_,List.getElem?_eq_getElem pz⟩
  obtain ⟨c0,c1,_⟩:=Ea hw;simp at c0 c1;have qK:¬ts.length=0:=by omega
  have uo:((ts.length:Int)==0)=false:=by rw [beq_eq_false_iff_ne];omega
  have vI:Kd ts=match (if (D3 ts w).2.err=none∧(D3 ts w).2.at_<ts.length then (D3 ts w).2.fail (D3 ts w).2.at_ 2 else (D3 ts w).2).err with
    | some y=>({},some y)
    | none=>((D3 ts w).1,none):=by
   cases ts with
   | nil=>exact absurd rfl pp
   | cons v us =>simp only [List.getElem?_cons_zero,Option.some.injEq] at hw;subst hw;rfl
  have re:mbx ts ⟨0,none⟩=some (.box [AD ts,.int .i64 0,.nilSlice,.int .i64 0]):=rfl;simp only;rw [vI];have fl:=fun r p e0 e1 e2 H he=>hO.fail r p 2 e0 e1 e2 H he
  simp only [mbx] at fl
  have key:∀x:Sm × Sr,AO x.2.err→∃y:Sm × Er,y=(match (if x.2.err=none∧x.2.at_<ts.length then x.2.fail x.2.at_ 2 else x.2).err with
    | some y=>(({}:Sm),some y)
    | none=>(x.1,none))∧((x.2.err=none∧x.2.at_<ts.length∧y=({},some ([(Bo,x.2.at_)],2))∧x.2.fail x.2.at_ 2=⟨x.2.at_,some ([(Bo,x.2.at_)],2)⟩)∨(x.2.err=none∧¬x.2.at_<ts.length∧y=(x.1,none))∨(erC x.2.err≠0∧y=({},x.2.err))):=by
   rintro ⟨x,⟨a,e⟩⟩ he;cases e with
   | none =>
    by_cases hl:a<ts.length
    ·exact ⟨_,rfl,.inl ⟨rfl,hl,by simp [hl,Sr.fail],rfl⟩⟩
    ·exact ⟨_,rfl,.inr (.inl ⟨rfl,hl,by simp [hl]⟩)⟩
   | some z=>exact ⟨_,rfl,.inr (.inr ⟨(fun h=>by have:=(EI he).1 h;cases this),by simp⟩)⟩
  have rb:AO (D3 ts w).2.err:=by
   unfold D3
   split
   ·exact mr ts _ pz
   ·split
    ·exact (Kf ts _).2.2 ((FJ ts _ _ _).2.1 ((Qw ts ⟨0,none⟩ (Nat.zero_le _)).2 Bp))
    ·exact G1 (by simp) (by decide)
  obtain ⟨y,hy,s5⟩:=key _ rb;rw [←hy];clear hy key vI
  by_cases sS:w.kind=4
  ·have hx:D3 ts w=Cc ts w.text ⟨1,none⟩:=if_pos sS
   have f3:=fun e0 e1 e2 H=>hO.key w.text e0 e1 e2 H pz
   rw [hx] at rb s5;rw [re] at f3;generalize Cc ts w.text ⟨1,none⟩=x at *;obtain ⟨m,r⟩:=x;simp only at rb s5 f3;obtain ⟨M,hM⟩:∃M,M=m.x:=⟨_,rfl⟩
   simp only [mbx,←hM] at f3;rcases s5 with ⟨qw,hl,hy,hf⟩|⟨qw,hl,hy⟩|⟨qw,hy⟩
   ·have hl':(r.at_:Int)<ts.length:=by omega
    have f9:=fun e0 e1 e2 H=>fl r r.at_ e0 e1 e2 H rb
    have hE:erC (some ([(Bo,r.at_)],2))=2:=rfl;rw [hf] at f9;simp [qw,A1,A2,hE] at f9 f3;simp [Tryz.f76,Ee,f1,f2,f3,f9,qK,uo,pz,pp,c0,c1,sS,qw,hl,hl',hE,A1,A2,Sx.c];refine LpD.turns X hG [5,6] [(1,5),(2,5),(3,5),(4,5)] (by kernel_rfl) ?_;simp [hy,Fh,Sx.c,Sm.x,Bq,hE]
   ·have hl':¬(r.at_:Int)<ts.length:=by omega
    simp [qw,A1,A2] at f3;simp [Tryz.f76,Ee,f1,f2,f3,qK,uo,pz,pp,c0,c1,sS,qw,hl,hl',A1,A2,Sx.c,hy,Fh,hM,Sm.x]
   ·have yR:(erC r.err==0)=false:=by rw [beq_eq_false_iff_ne];exact qw
    try simp at f3
    simp [Tryz.f76,Ee,f1,f2,f3,qK,uo,pz,pp,c0,c1,sS,qw,yR,A1,A2,Sx.c];refine LpD.turns X hG [5,6] [(1,5),(2,5),(3,5),(4,5)] (by kernel_rfl) ?_;simp [hy,Fh,Sx.c,Sm.x,Bq]
  by_cases rH:w.kind=1
  ·have hx:D3 ts w=Qo ts ⟨0,none⟩:=by unfold D3;rw [if_neg sS,if_pos rH]
   have sj:Qo ts ⟨0,none⟩=({kind:=2,to:=(CV ts ⟨0,none⟩).1,e:=(B9 ts (B3 ts (CV ts ⟨0,none⟩).2 3 isT)).1},(B9 ts (B3 ts (CV ts ⟨0,none⟩).2 3 isT)).2):=rfl;rw [hx,sj] at rb s5;have f3:=fun e0 e1 e2 H=>hO.to ⟨0,none⟩ e0 e1 e2 H Bp (by decide)
   obtain ⟨v3,u3⟩:=Qw ts ⟨0,none⟩ (Nat.zero_le _);rw [re] at f3;generalize CV ts ⟨0,none⟩=pt at *;obtain ⟨to,r1⟩:=pt;simp only at rb s5 f3 v3 u3;have e1:=u3 Bp;have f4:=fun e0 e1' e2 H=>hO.must r1 3 isT e0 e1' e2 H e1 (by omega) (by decide)
   obtain ⟨v4,u4,_⟩:=FJ ts r1 3 isT;generalize B3 ts r1 3 isT=r2 at *;have f5:=fun e0 e1' e2 H=>hO.expr r2 e0 e1' e2 H (u4 e1) (by omega)
   generalize B9 ts r2=pe at *;obtain ⟨ex,r⟩:=pe;simp only at rb s5 f5;simp only [CT,mbx] at f3 f5;simp only [isT,mbx] at f4;have wS:¬(w.kind:Int)=4:=by omega
   rcases s5 with ⟨qw,hl,hy,hf⟩|⟨qw,hl,hy⟩|⟨qw,hy⟩
   ·have hl':(r.at_:Int)<ts.length:=by omega
    have f9:=fun e0 e1 e2 H=>fl r r.at_ e0 e1 e2 H rb
    have hE:erC (some ([(Bo,r.at_)],2))=2:=rfl;rw [hf] at f9;simp [qw,A1,A2,hE] at f9 f3 f4 f5;simp [Tryz.f76,Ee,f1,f2,f3,f4,f5,f9,qK,uo,pz,pp,c0,c1,sS,rH,wS,qw,hl,hl',hE,A1,A2,Sx.c];refine LpD.turns X hG [5,6] [(1,5),(2,5),(3,5),(4,5)] (by kernel_rfl) ?_;simp [hy,Fh,Sx.c,Sm.x,Bq,hE]
   ·have hl':¬(r.at_:Int)<ts.length:=by omega
    simp [qw,A1,A2] at f3 f4 f5;simp [Tryz.f76,Ee,f1,f2,f3,f4,f5,qK,uo,pz,pp,c0,c1,sS,rH,wS,qw,hl,hl',A1,A2,Sx.c,hy,Fh,Sm.x,Bq]
   ·have yR:(erC r.err==0)=false:=by rw [beq_eq_false_iff_ne];exact qw
    try simp at f3 f4 f5
    simp [Tryz.f76,Ee,f1,f2,f3,f4,f5,qK,uo,pz,pp,c0,c1,sS,rH,wS,qw,yR,A1,A2,Sx.c];refine LpD.turns X hG [5,6] [(1,5),(2,5),(3,5),(4,5)] (by kernel_rfl) ?_;simp [hy,Fh,Sx.c,Sm.x,Bq]
  ·have hx:D3 ts w=({},⟨0,some ([(Bo,0)],2)⟩):=by unfold D3;rw [if_neg sS,if_neg rH]
   rw [hx] at rb s5;have f3:=fun e0 e1 e2 H=>fl ⟨0,none⟩ 0 e0 e1 e2 H Bp
   have vw:(⟨0,none⟩:Sr).fail 0 2=⟨0,some ([(Bo,0)],2)⟩:=rfl;rw [vw] at f3;have hE:erC (some ([(Bo,0)],2))=2:=rfl;simp [A1,A2,hE] at f3
   have hy:y=({},some ([(Bo,0)],2)):=by
    rcases s5 with ⟨h,_⟩|⟨h,_⟩|⟨_,h⟩
    ·cases h
    ·cases h
    ·exact h
   have wS:¬(w.kind:Int)=4:=by omega
   have zAG:¬(w.kind:Int)=1:=by omega
   simp [Tryz.f76,Ee,f1,f2,f3,qK,uo,pz,pp,c0,sS,rH,wS,zAG,hE,A1,A2,Sx.c];refine LpD.turns X hG [5,6] [(1,5),(2,5),(3,5),(4,5)] (by kernel_rfl) ?_;simp [hy,Fh,Sx.c,Sm.x,Bq,hE]
@[simp] theorem immFN:AJ.imm 108=false:=by decide
@[simp] theorem immFB:AJ.imm 175=false:=by decide
def wrE:Enc Er where
 sz:=2
 c:=fun e=>[erP e,.int .i64 (erC e)]
 pos:=by decide
 len:=fun _=>rfl
 low:=fun e=>by simp
 one:=fun e=>by simp
 inj:=fun x y h=>by simp only [List.cons.injEq,AV.int.injEq,true_and,and_true] at h;exact Nm h.1 h.2
def DR:List UInt8:=[108,105,110,101]
structure Bst where
 at_:Nat
 bad:Er
 plain:Bool
def Bst.fail (s:Bst) (p c:Nat):Bst:=⟨s.at_,some (s.bad.getD ([(DR,p)],c)),s.plain⟩
abbrev Zs:=List (Sx × Er)
def IH (z:Sx × Er):Bool:=decide (z.1.kind=0)&&z.2.isNone
def Dl (Z:Zs) (i:Nat):Nat:=i+((Z.drop i).takeWhile IH).length
def Dr (Z:Zs) (s:Bst):Bst:=⟨Dl Z s.at_,match s.bad,Z[Dl Z s.at_]? with
 | none,some (_,some x)=>inE DR (Dl Z s.at_) (some x)
 | e,_=>e,s.plain⟩
theorem mu {Z:Zs} {i:Nat} {z:Sx × Er} (h:Z[i]? = some z) (he:IH z=true):Dl Z (i+1)=Dl Z i:=by obtain ⟨hi,hz⟩:=List.getElem?_eq_some_iff.1 h;unfold Dl;rw [List.drop_eq_getElem_cons hi,hz,List.takeWhile_cons,if_pos he,List.length_cons];omega
theorem mv {Z:Zs} {i:Nat} (h:∀z,Z[i]? = some z→IH z=false):Dl Z i=i:=by
 unfold Dl;cases hd:Z.drop i with
 | nil=>simp
 | cons z r =>
  have hz:Z[i]? = some z:=by have:=List.getElem?_drop (xs:=Z) (i:=i) (j:=0);rw [hd] at this;simpa using this.symm
  rw [List.takeWhile_cons,if_neg (by rw [h z hz];decide)];simp
theorem V9 (Z:Zs) (i:Nat):i≤Dl Z i:=Nat.le_add_right _ _
theorem mw (Z:Zs) (i:Nat) (h:i≤Z.length):Dl Z i≤Z.length:=by unfold Dl;have:=(List.takeWhile_sublist (l:=Z.drop i) IH).length_le;rw [List.length_drop] at this;omega
theorem Lm {Z:Zs} {s:Bst} {i:Nat} (hf:i=Dl Z s.at_) {x:List (List UInt8 × Nat) × Nat} (h:s.bad=some x):Dr Z s=⟨i,some x,s.plain⟩:=by unfold Dr;rw [←hf,h]
theorem WA {Z:Zs} {s:Bst} {i:Nat} (hf:i=Dl Z s.at_) (h:s.bad=none) (hz:Z[i]? = none):Dr Z s=⟨i,none,s.plain⟩:=by unfold Dr;rw [←hf,h,hz]
theorem WC {Z:Zs} {s:Bst} {i:Nat} (hf:i=Dl Z s.at_) (h:s.bad=none) {z:Sx × Er} (hz:Z[i]? = some z) (h2:z.2=none):Dr Z s=⟨i,none,s.plain⟩:=by obtain ⟨a,b⟩:=z;simp only at h2;unfold Dr;rw [←hf,h,hz,h2]
theorem Qx {Z:Zs} {s:Bst} {i:Nat} (hf:i=Dl Z s.at_) (h:s.bad=none) {z:Sx × Er} (hz:Z[i]? = some z) {y:List (List UInt8 × Nat) × Nat} (h2:z.2=some y):Dr Z s=⟨i,inE DR i (some y),s.plain⟩:=by obtain ⟨a,b⟩:=z;simp only at h2;unfold Dr;rw [←hf,h,hz,h2]
def Zs.L (Z:Zs):List Sx:=Z.map (·.1)
def Zs.W (Z:Zs):List Er:=Z.map (·.2)
def bdC (ls:List (List UInt8)) (Z:Zs) (s:Bst):List AV:=[Am.av ls,sxE.av Z.L,wrE.av Z.W,.int .i64 (s.at_:Int),erP s.bad,.int .i64 (erC s.bad),.bool s.plain]
@[simp] theorem my (ls:List (List UInt8)) (Z:Zs) (s:Bst):bdC ls Z s=[Am.av ls,sxE.av Z.L,wrE.av Z.W,.int .i64 (s.at_:Int),erP s.bad,.int .i64 (erC s.bad),.bool s.plain]:=AR rfl
theorem Iq (ls:List (List UInt8)) (Z:Zs) (s:Bst):lowL 0 (bdC ls Z s)=true:=by simp
theorem Nx (ls:List (List UInt8)) (Z:Zs) (s r:Bst) (h:bdC ls Z s=bdC ls Z r):s=r:=by
 obtain ⟨a,b,c⟩:=s;obtain ⟨a',b',c'⟩:=r;simp only [my,List.cons.injEq,AV.int.injEq,AV.bool.injEq,true_and,and_true] at h;have e1:a=a':=by omega
 rw [e1,Nm h.2.1 h.2.2.1,h.2.2.2]
structure ZOk (Z:Zs):Prop where
 len:Z.length<1000000
 err:∀z∈Z,AO z.2∧∀l c,z.2=some (l,c)→l.length<1000
@[simp high] theorem pk (l:List Sx):alen zP 172 (sxE.av l)=some (.int .i64 l.length):=sxE.alen Tryz.underlying172 l
@[simp high] theorem pm {l:List Sx} {i:Nat} (h:i<l.length):Av zP 172 (sxE.av l) (.int .i64 (i:Int))=some (.vptr (sxE.row l) (i*29)):=sxE.aidx Tryz.underlying172 (by kernel_rfl) h
@[simp high] theorem pn {l:List Er} {i:Nat} (h:i<l.length):Av zP 173 (wrE.av l) (.int .i64 (i:Int))=some (.vptr (wrE.row l) (i*2)):=wrE.aidx Tryz.underlying173 (by kernel_rfl) h
theorem mz (ls:List (List UInt8)) (Z:Zs) (s:Bst) (he:AO s.bad) (p c:Nat) {H:AH} {id:Nat} (hH:H.at id=some (.box (bdC ls Z s))) :
  CS zP AJ 123 [.ptr id 0,.int .i64 (p:Int),.int .i64 (c:Int)] H (.tup []) (H.set id (some (.box (bdC ls Z (s.fail p c))))):=by
 obtain ⟨a,e,pl⟩:=s;refine CS.rd BY Tryz.func123 (by kernel_rfl) 0 (by simp [Tryz.f123]) (fun B hB hG => ?_) (by simp) rfl (Iq ls _ _) (Iq ls _ _) hH;refine Tr.goD Qq hG (by kernel_rfl) ?_;cases e with
 | none=>simp [Tryz.f123,Bst.fail,erC,erP,LQ,DR,CO,B0]
 | some y =>
  have h0:¬erC (some y)=0:=fun h=>by have:=(EI he).1 h;cases this
  simp [Tryz.f123,Bst.fail,h0]
theorem Zs.L_at {Z:Zs} {i:Nat} {z:Sx × Er} (h:Z[i]? = some z):Z.L[i]? = some z.1:=by simp [Zs.L,h]
theorem Zs.W_at {Z:Zs} {i:Nat} {z:Sx × Er} (h:Z[i]? = some z):Z.W[i]? = some z.2:=by simp [Zs.W,h]
@[simp] theorem Zs.L_len (Z:Zs):Z.L.length=Z.length:=AR (by simp [Zs.L])
@[simp] theorem Zs.W_len (Z:Zs):Z.W.length=Z.length:=AR (by simp [Zs.W])
def SkI (ls:List (List UInt8)) (Z:Zs) (s:Bst) (k:Nat) (t:List AV) (H:AH):Prop :=∃i,i+k=Z.length∧Dl Z i=Dl Z s.at_∧t=mkT 97 [(0,.ptr 0 0)]∧H=[some (.box (bdC ls Z ⟨i,s.bad,s.plain⟩))]
theorem m0 (ls:List (List UInt8)) (Z:Zs) (hZ:ZOk Z) (s:Bst) (he:AO s.bad) (ha:s.at_≤Z.length) {H:AH} {id:Nat} (hH:H.at id=some (.box (bdC ls Z s))) :
  CS zP AJ 122 [.ptr id 0] H (.tup []) (H.set id (some (.box (bdC ls Z (Dr Z s))))):=by
 refine CS.rd BY Tryz.func122 (by kernel_rfl) 0 (by simp [Tryz.f122]) (fun B hB hG => ?_) (by simp) rfl (Iq ls _ _) (Iq ls _ _) hH;have hL:([IE].map (·.f)).Nodup:=show ([49]:List Nat).Nodup by decide
 have X:=Bv [IE] Bz Af;have h1:=Vl hL (by simp) DR;generalize oOf [IE]=O at X h1;refine Tr.goD X hG (by kernel_rfl) ?_;simp [Tryz.f122]
 refine LpD.loopN X hG (by kernel_rfl) (SkI ls Z s) (Z.length-s.at_) (t':=mkT 97 [(0,.ptr 0 0)]) (H':=[some (.box (bdC ls Z s))])
  (AF.mkK 1 (by simp [hB]) (by simp) (by simp) (by simp)) ⟨s.at_,by omega,rfl,rfl,rfl⟩ ?_
 rintro k t H ⟨i,px,xA,rfl,rfl⟩;have pw:=hZ.len;have fin:∀i,Dl Z i=Dl Z s.at_→(∀z,Z[i]? = some z→IH z=false)→i=Dl Z s.at_:=fun i h1 h2=>by rw [←h1,mv h2]
 by_cases hi:i<Z.length
 ·obtain ⟨z,hz⟩:∃z,Z[i]? = some z:=⟨_,List.getElem?_eq_getElem hi⟩
  have hi':(i:Int)<Z.length:=by omega
  obtain ⟨yS,zT⟩:=hZ.err z (List.mem_of_getElem? hz);have g0:=sxE.row_cell (Zs.L_at hz) 0 (by decide);have g1:=wrE.row_cell (Zs.W_at hz) 1 (by decide);obtain ⟨g2,g3⟩:=wrE.row_at _ _ (Zs.W_at hz);have e0:(sxE.c z.1)[0]? = some (.int .i64 z.1.kind):=rfl;have e1:(wrE.c z.2)[1]? = some (.int .i64 (erC z.2)):=rfl;have e2:wrE.c z.2=[erP z.2,.int .i64 (erC z.2)]:=rfl;have e3:sxE.sz=29:=rfl;have e4:wrE.sz=2:=rfl;rw [e0,e3] at g0;rw [e1,e4] at g1;rw [e2,e4] at g2;rw [e4] at g3;simp only [Nat.add_zero] at g0;cases qy:z.2 with
  | none =>
   have hc:erC z.2=0:=by rw [qy];rfl
   rw [hc] at g1
   by_cases hk:z.1.kind=0
   ·have hem:IH z=true:=by simp [IH,hk,qy]
    rw [hk] at g0;have w1:IntKind.i64.wrap ((i:Int)+1)=(i:Int)+1:=Ab (by omega) (by omega);simp;refine LpD.turns X hG [] [] (by kernel_rfl) ?_;simp [hi,hi',g0,g1,w1];have hI:SkI ls Z s (k-1) (mkT 97 [(0,.ptr 0 0)]) [some (.box (bdC ls Z ⟨i+1,s.bad,s.plain⟩))]:=⟨i+1,by omega,by rw [mu hz hem];exact xA,rfl,rfl⟩
    exact Nxt.mk (k-1) (by omega) (AF.mkK 1 (by simp [hB]) (by simp) (by simp) (by simp)) hI
   ·have sN:(z.1.kind==0)=false:=by rw [beq_eq_false_iff_ne];exact hk
    have hf:=fin i xA (fun z' h=>by rw [hz] at h;injection h with h;subst h;simp [IH,hk]);simp;refine LpD.turns X hG [] [] (by kernel_rfl) ?_;simp [hi,hi',g0,hk,sN];refine LpD.turns X hG [] [] (by kernel_rfl) ?_;cases rQ:s.bad with
    | none=>simp [hi,hi',g0,g1,A2,A1,WC hf rQ hz qy]
    | some x =>
     have h0:(erC (some x)==0)=false:=by rw [←rQ,Hf he,rQ];rfl
     simp [h0,Lm hf rQ]
  | some y =>
   have qc:(erC z.2==0)=false:=by rw [Hf yS,qy];rfl
   have tQ:¬erC z.2=0:=by rwa [beq_eq_false_iff_ne] at qc
   have hf:=fin i xA (fun z' h=>by rw [hz] at h;injection h with h;subst h;simp [IH,qy]);rw [qy] at yS zT qc tQ g1 g2;have h2:=h1 (i:Int) (by omega) (some y) yS zT;simp only [Int.toNat_natCast,DR] at h2;simp;refine LpD.turns X hG [] [] (by kernel_rfl) ?_
   by_cases hk:z.1.kind=0
   ·simp [hi,hi',g0,g1,hk,qc,tQ]
    refine LpD.turns X hG [] [] (by kernel_rfl) ?_;cases rQ:s.bad with
    | none =>simp [hi,hi',g0,g1,qc,tQ,A2,A1,Qx hf rQ hz qy];refine LpD.turns X hG [15,18] [(0,15)] (by kernel_rfl) ?_;simp [hi,hi',g0,g1,g2,g3,h2,DR]
    | some x =>
     have h0:(erC (some x)==0)=false:=by rw [←rQ,Hf he,rQ];rfl
     simp [h0,Lm hf rQ]
   ·have sN:(z.1.kind==0)=false:=by rw [beq_eq_false_iff_ne];exact hk
    simp [hi,hi',g0,g1,hk,sN,qc,tQ];refine LpD.turns X hG [] [] (by kernel_rfl) ?_;cases rQ:s.bad with
    | none =>simp [hi,hi',g0,g1,qc,tQ,A2,A1,Qx hf rQ hz qy];refine LpD.turns X hG [15,18] [(0,15)] (by kernel_rfl) ?_;simp [hi,hi',g0,g1,g2,g3,h2,DR]
    | some x =>
     have h0:(erC (some x)==0)=false:=by rw [←rQ,Hf he,rQ];rfl
     simp [h0,Lm hf rQ]
 ·have hi':¬(i:Int)<Z.length:=by omega
  have hz:Z[i]? = none:=List.getElem?_eq_none (by omega);have hf:=fin i xA (fun z h=>by rw [hz] at h;cases h);simp;refine LpD.turns X hG [] [] (by kernel_rfl) ?_;simp [hi,hi'];refine LpD.turns X hG [] [] (by kernel_rfl) ?_;cases rQ:s.bad with
  | none=>simp [hi,hi',A2,A1,WA hf rQ hz]
  | some x =>
   have h0:(erC (some x)==0)=false:=by rw [←rQ,Hf he,rQ];rfl
   simp [h0,Lm hf rQ]
def Nd.leaf (l:Nat) (x:Sx):Nd := .mk l l x [] [] (-1)
def DS (Z:Zs) (nest:Nat→Sx→Bst→Nd × Bst) (top:Bool) (of:Int) (beg:Nat):Nat→Bst→List Nd→List Nd × Bst
 | 0,s,out=>(out,s.fail 0 1)
 | f+1,s0,out =>
  let s:=Dr Z s0
  if s.bad.isSome then (out,s) else
  match Z[s.at_]? with
  | none=>(out,if of=0 then s else s.fail beg 11)
  | some z =>
   if z.1.kind=4 then (out,if of=3 then s else s.fail s.at_ 12)
   else if z.1.kind=7 then (out,if of=5∨of=6 then s else s.fail s.at_ 12)
   else if z.1.kind=6 then (out,if of=5 then s else s.fail s.at_ 12)
   else if z.1.kind=1 then (if s.plain=true∨of≠0 then (out,s.fail s.at_ 2) else DS Z nest top of beg f ⟨s.at_+1,s.bad,s.plain⟩ (out++[.leaf s.at_ z.1]))
   else if z.1.kind=3∨z.1.kind=5 then
    (if top then (out,(⟨s.at_,s.bad,true⟩:Bst).fail s.at_ 4) else
     if (nest s.at_ z.1 ⟨s.at_,s.bad,true⟩).2.bad.isSome then (out,(nest s.at_ z.1 ⟨s.at_,s.bad,true⟩).2)
     else DS Z nest top of beg f (nest s.at_ z.1 ⟨s.at_,s.bad,true⟩).2 (out++[(nest s.at_ z.1 ⟨s.at_,s.bad,true⟩).1]))
   else DS Z nest top of beg f ⟨s.at_+1,s.bad,true⟩ (out++[.leaf s.at_ z.1])
def Eh (Z:Zs) (blk:Int→Nat→Bst→List Nd × Bst) (l:Nat) (x:Sx) (s:Bst):Nd × Bst :=
 let b:=blk x.kind l ⟨s.at_+1,s.bad,s.plain⟩
 if b.2.bad.isSome then (.mk l l x b.1 [] (-1),b.2) else
 match Z[b.2.at_]? with
 | none=>(.mk l b.2.at_ x b.1 [] (-1),b.2)
 | some z =>
  if z.1.kind=6 then
   let c:=blk 6 l ⟨b.2.at_+1,b.2.bad,b.2.plain⟩
   if c.2.bad.isSome then (.mk l l x b.1 c.1 b.2.at_,c.2)
   else (.mk l c.2.at_ x b.1 c.1 b.2.at_,⟨c.2.at_+1,c.2.bad,c.2.plain⟩)
  else (.mk l b.2.at_ x b.1 [] (-1),⟨b.2.at_+1,b.2.bad,b.2.plain⟩)
def EK (Z:Zs):Nat→Int→Nat→Bst→List Nd × Bst
 | 0,of,beg,s=>DS Z (fun l x s=>(.leaf l x,s)) true of beg (Z.length+1) s []
 | d+1,of,beg,s=>DS Z (Eh Z (EK Z d)) false of beg (Z.length+1) s []
theorem m5 {w:List UInt8} {p:Nat} {e:Er} (h:AO e):AO (inE w p e):=by
 cases e with
 | none=>exact Bp
 | some y =>obtain ⟨l,c⟩:=y;exact G1 (by simp) (h l c rfl).2
theorem m6 {Z:Zs} (hZ:ZOk Z) {s:Bst} (h:AO s.bad):AO (Dr Z s).bad:=by
 cases hb:s.bad with
 | some x=>rw [Lm rfl hb,←hb];exact h
 | none =>
  cases hz:Z[Dl Z s.at_]? with
  | none=>rw [WA rfl hb hz];exact Bp
  | some z =>
   cases h2:z.2 with
   | none=>rw [WC rfl hb hz h2];exact Bp
   | some y =>rw [Qx rfl hb hz h2];have h3:=(hZ.err z (List.mem_of_getElem? hz)).1;rw [h2] at h3;exact m5 h3
theorem Bst.fail_ok {s:Bst} (h:AO s.bad) (p:Nat) {c:Nat} (hc:c≠0):AO (s.fail p c).bad:=U6 h (by simp) hc
theorem Bst.fail_bad (s:Bst) (p c:Nat):(s.fail p c).bad≠none:=by simp [Bst.fail]
structure Goes (Z:Zs) (s r:Bst):Prop where
 up:s.at_≤r.at_
 len:s.at_≤Z.length→r.at_≤Z.length
 ok:AO s.bad→AO r.bad
theorem Goes.refl (Z:Zs) (s:Bst):Goes Z s s:=⟨Nat.le_refl _,fun h=>h,fun h=>h⟩
theorem Goes.trans {Z:Zs} {s r q:Bst} (h:Goes Z s r) (k:Goes Z r q):Goes Z s q:=⟨Nat.le_trans h.up k.up,fun x=>k.len (h.len x),fun x=>k.ok (h.ok x)⟩
theorem Goes.fail (Z:Zs) (s:Bst) (p:Nat) {c:Nat} (hc:c≠0):Goes Z s (s.fail p c):=⟨Nat.le_refl _,fun h=>h,fun h=>Bst.fail_ok h p hc⟩
theorem Goes.skip {Z:Zs} (hZ:ZOk Z) (s:Bst):Goes Z s (Dr Z s):=⟨V9 Z _,fun h=>mw Z _ h,fun h=>m6 hZ h⟩
theorem Goes.step {Z:Zs} {s:Bst} (h:s.at_<Z.length) (p:Bool):Goes Z s ⟨s.at_+1,s.bad,p⟩:=⟨Nat.le_succ _,fun _=>h,fun h=>h⟩
theorem Goes.mark (Z:Zs) (s:Bst) (p:Bool):Goes Z s ⟨s.at_,s.bad,p⟩:=⟨Nat.le_refl _,fun h=>h,fun h=>h⟩
theorem Qy {Z:Zs} {i:Nat} {z:Sx × Er} (h:Z[i]? = some z):i<Z.length:=(List.getElem?_eq_some_iff.1 h).1
theorem Goes.ite {Z:Zs} {s a b:Bst} {c:Prop} [Decidable c] (h:Goes Z s a) (k:Goes Z s b):Goes Z s (if c then a else b):=by split<;>assumption
theorem Ln {Z:Zs} (hZ:ZOk Z) {nest:Nat→Sx→Bst→Nd × Bst} (hn:∀l x s,s.at_<Z.length→Goes Z s (nest l x s).2) (top:Bool) (of:Int) (beg:Nat):∀(f:Nat) (s:Bst) (out:List Nd),Goes Z s (DS Z nest top of beg f s out).2
 | 0,s,out=>Goes.fail Z s 0 (by decide)
 | f+1,s0,out=>by
  unfold DS;have hs:=Goes.skip hZ s0;generalize Dr Z s0=s at *;simp only
  split
  ·exact hs
  ·split
   ·exact hs.trans (Goes.ite (Goes.refl Z s) (Goes.fail Z s _ (by decide)))
   ·rename_i z hz
    have hl:=Qy hz
    split
    ·exact hs.trans (Goes.ite (Goes.refl Z s) (Goes.fail Z s _ (by decide)))
    ·split
     ·exact hs.trans (Goes.ite (Goes.refl Z s) (Goes.fail Z s _ (by decide)))
     ·split
      ·exact hs.trans (Goes.ite (Goes.refl Z s) (Goes.fail Z s _ (by decide)))
      ·split
       ·split
        ·exact hs.trans (Goes.fail Z s _ (by decide))
        ·exact (hs.trans (Goes.step hl _)).trans (Ln hZ hn top of beg f _ _)
       ·split
        ·split
         ·exact hs.trans ((Goes.mark Z s true).trans (Goes.fail Z _ _ (by decide)))
         ·have h2:=hn s.at_ z.1 ⟨s.at_,s.bad,true⟩ hl
          split
          ·exact hs.trans ((Goes.mark Z s true).trans h2)
          ·exact (hs.trans ((Goes.mark Z s true).trans h2)).trans (Ln hZ hn top of beg f _ _)
        ·exact (hs.trans (Goes.step hl _)).trans (Ln hZ hn top of beg f _ _)
theorem Lo {Z:Zs} {nest:Nat→Sx→Bst→Nd × Bst} {top:Bool} {of:Int} (h0:of≠0) {beg:Nat}:∀(f:Nat) (s:Bst) (out:List Nd),(DS Z nest top of beg f s out).2.bad=none→(DS Z nest top of beg f s out).2.at_<Z.length
 | 0,s,out=>fun h=>absurd h (Bst.fail_bad _ _ _)
 | f+1,s0,out=>by
  unfold DS;generalize Dr Z s0=s at *;simp only
  split
  ·rename_i h
   intro h2;rw [h2] at h;cases h
  ·split
   ·try rw [if_neg h0]
    exact fun h=>absurd h (Bst.fail_bad _ _ _)
   ·rename_i z hz
    have hl:=Qy hz
    have qG:∀(c:Prop) [Decidable c] (p e:Nat),(if c then s else s.fail p e).bad=none→(if c then s else s.fail p e).at_<Z.length:=by
     intro c _ p e
     split
     ·exact fun _=>hl
     ·exact fun h=>absurd h (Bst.fail_bad _ _ _)
    split
    ·exact qG _ _ _
    ·split
     ·exact qG _ _ _
     ·split
      ·exact qG _ _ _
      ·split
       ·split
        ·exact fun h=>absurd h (Bst.fail_bad _ _ _)
        ·exact Lo h0 f _ _
       ·split
        ·split
         ·exact fun h=>absurd h (Bst.fail_bad _ _ _)
         ·split
          ·rename_i h
           intro h2;simp only at h2;rw [h2] at h;cases h
          ·exact Lo h0 f _ _
        ·exact Lo h0 f _ _
structure WD (Z:Zs) (blk:Int→Nat→Bst→List Nd × Bst):Prop where
 goes:∀of beg s,Goes Z s (blk of beg s).2
 ends:∀of beg s,of≠0→(blk of beg s).2.bad=none→(blk of beg s).2.at_<Z.length
theorem Qz {Z:Zs} {blk:Int→Nat→Bst→List Nd × Bst} (hb:WD Z blk) (l:Nat) (x:Sx) (s:Bst) (h:s.at_<Z.length):Goes Z s (Eh Z blk l x s).2∧s.at_<(Eh Z blk l x s).2.at_:=by
 unfold Eh;have h1:=Goes.step h s.plain;have h2:=hb.goes x.kind l ⟨s.at_+1,s.bad,s.plain⟩;generalize blk x.kind l ⟨s.at_+1,s.bad,s.plain⟩=b at *;have hbu:=h2.up;simp only at hbu ⊢
 split
 ·exact ⟨h1.trans h2,by simp only;omega⟩
 ·split
  ·exact ⟨h1.trans h2,by simp only;omega⟩
  ·rename_i z hz
   have hl:=Qy hz
   split
   ·have h3:=Goes.step hl b.2.plain
    have h4:=hb.goes 6 l ⟨b.2.at_+1,b.2.bad,b.2.plain⟩;have h5:=hb.ends 6 l ⟨b.2.at_+1,b.2.bad,b.2.plain⟩ (by decide);generalize blk 6 l ⟨b.2.at_+1,b.2.bad,b.2.plain⟩=c at *;have wV:=h4.up;simp only at wV
    split
    ·exact ⟨((h1.trans h2).trans h3).trans h4,by simp only;omega⟩
    ·rename_i hc
     have h6:=h5 (by simpa using hc);exact ⟨(((h1.trans h2).trans h3).trans h4).trans (Goes.step h6 _),by simp only;omega⟩
   ·exact ⟨(h1.trans h2).trans (Goes.step hl _),by simp only;omega⟩
theorem Jh {Z:Zs} (hZ:ZOk Z):∀d,WD Z (EK Z d)
 | 0=>⟨fun of beg s=>Ln hZ (fun l x s _=>Goes.refl Z s) _ _ _ _ _ _,fun of beg s h=>Lo h _ _ _⟩
 | d+1=>⟨fun of beg s=>Ln hZ (fun l x s h=>(Qz (Jh hZ d) l x s h).1) _ _ _ _ _ _,fun of beg s h=>Lo h _ _ _⟩
noncomputable def Ir (ls:List (List UInt8)) (Z:Zs) (hZ:ZOk Z):AG zP AJ:=AG.meth 122 (bdC ls Z) (Nx ls Z) (fun (_:Unit) s=>AO s.bad∧s.at_≤Z.length) (fun _ _=>[]) (fun _ _ => .tup []) (fun _ s=>Dr Z s)
 (fun _ s h H id hH=>m0 ls Z hZ s h.1 h.2 hH) (fun id x y s _ _ h=>⟨rfl,rfl⟩)
noncomputable def Is (ls:List (List UInt8)) (Z:Zs):AG zP AJ:=AG.meth 123 (bdC ls Z) (Nx ls Z) (fun (_:Nat × Nat) s=>AO s.bad) (fun _ x=>[.int .i64 (x.1:Int),.int .i64 (x.2:Int)]) (fun _ _ => .tup []) (fun x s=>s.fail x.1 x.2)
 (fun x s h H id hH=>mz ls Z s h x.1 x.2 hH) (fun id x y s _ _ h=>by
  obtain ⟨a,b⟩:=x;obtain ⟨c,d⟩:=y;simp only [List.cons.injEq,AV.int.injEq,true_and,and_true] at h;have e1:a=c:=by omega
  have e2:b=d:=by omega
  rw [e1,e2]
  exact ⟨rfl,rfl⟩)
def Ny (ls:List (List UInt8)) (Z:Zs) (d:Nat):Prop:=∀(of:Int) (beg:Nat) (s:Bst),AO s.bad→s.at_≤Z.length→∀(H:AH) (id:Nat),H.at id=some (.box (bdC ls Z s)) →
 CS zP AJ 77 [.ptr id 0,.int .i64 of,.int .i64 (beg:Int),.int .i64 (8-(d:Int))] H (ndE.av (EK Z d of beg s).1) (H.set id (some (.box (bdC ls Z (EK Z d of beg s).2))))
noncomputable def Iu {ls:List (List UInt8)} {Z:Zs} {d:Nat} (hC:Ny ls Z d):AG zP AJ:=AG.meth 77 (bdC ls Z) (Nx ls Z) (fun (_:Int × Nat) s=>AO s.bad∧s.at_≤Z.length) (fun _ x=>[.int .i64 x.1,.int .i64 (x.2:Int),.int .i64 (8-(d:Int))]) (fun x s=>ndE.av (EK Z d x.1 x.2 s).1) (fun x s=>(EK Z d x.1 x.2 s).2)
 (fun x s h H id hH=>hC x.1 x.2 s h.1 h.2 H id hH) (fun id x y s _ _ h=>by
  obtain ⟨a,b⟩:=x;obtain ⟨c,d⟩:=y;simp only [List.cons.injEq,AV.int.injEq,true_and,and_true] at h;have e2:b=d:=by omega
  rw [h.1,e2]
  exact ⟨rfl,rfl⟩)
def bbx (ls:List (List UInt8)) (Z:Zs) (s:Bst):Option Ent:=some (.box [Am.av ls,sxE.av Z.L,wrE.av Z.W,.int .i64 (s.at_:Int),erP s.bad,.int .i64 (erC s.bad),.bool s.plain])
theorem Hg (l:Nat) (x:Sx):ndC (Nd.leaf l x) = .int .i64 (l:Int) :: .int .i64 (l:Int)::(x.c++[.nilSlice,.nilSlice,.int .i64 (-1)]):=rfl
theorem Nz (l e:Int) (x:Sx) (b c:List Nd) (m:Int):ndC (.mk l e x b c m) = .int .i64 l :: .int .i64 e::(x.c++[ndE.av b,ndE.av c,.int .i64 m]):=C9 _
theorem m7 {ls:List (List UInt8)} {Z:Zs} (hZ:ZOk Z) {d:Nat} (hd:d<8) (hC:Ny ls Z d) (l:Nat) (hl:l<1000000) (x:Sx) (hx:x.kind≠0) (s:Bst) (he:AO s.bad) (ha:s.at_<Z.length) {H:AH} {id:Nat} (hH:H.at id=some (.box (bdC ls Z s))) :
  CS zP AJ 124 [.ptr id 0,.agg (ndC (.leaf l x)),.int .i64 (7-(d:Int))] H (.agg (ndC (Eh Z (EK Z d) l x s).1)) (H.set id (some (.box (bdC ls Z (Eh Z (EK Z d) l x s).2)))):=by
 refine CS.rd BY Tryz.func124 (by kernel_rfl) 0 (by simp [Tryz.f124]) (fun B hB hG => ?_) (by simp [Br]) (by simp [Br]) (Iq ls _ _) (Iq ls _ _) hH;have hL:([Iu hC].map (·.f)).Nodup:=show ([77]:List Nat).Nodup by decide
 have X:=Bv [Iu hC] Bz Af;have h1:=fun (of:Int) (beg:Nat) (s:Bst) (H:AH) (he:AO s.bad) (ha:s.at_≤Z.length)=>Bn hL (show Iu hC∈_ by simp) (of,beg) s (H:=some (.box (bdC ls Z s))::H) (id:=0) rfl ⟨he,ha⟩
 generalize oOf [Iu hC]=O at X h1;have pw:=hZ.len;have sh:=Jh hZ d;refine Tr.goD X hG (by kernel_rfl) ?_;have w1:IntKind.i64.wrap ((s.at_:Int)+1)=(s.at_:Int)+1:=Ab (by omega) (by omega);have w2:IntKind.i64.wrap (7-(d:Int)+1)=8-(d:Int):=by rw [Ab (by omega) (by omega)];omega
 unfold Eh;have g1:=fun H=>h1 x.kind l ⟨s.at_+1,s.bad,s.plain⟩ H he ha
 have b1:=sh.goes x.kind l ⟨s.at_+1,s.bad,s.plain⟩;have b2:=sh.ends x.kind l ⟨s.at_+1,s.bad,s.plain⟩ hx;generalize EK Z d x.kind l ⟨s.at_+1,s.bad,s.plain⟩=b at *;obtain ⟨nb,r⟩:=b;have o1:=b1.ok he;simp only at b2 o1 g1 ⊢;simp at g1;cases hb:r.bad with
 | some y =>
  have qc:¬erC (some y)=0:=fun h=>by rw [hb] at o1;have:=(EI o1).1 h;cases this
  rw [hb] at g1;simp [Tryz.f124,Hg,Sx.c,w1,w2,g1,hb,qc,Nz]
 | none =>
  have hr:=b2 hb;obtain ⟨z,hz⟩:∃z,Z[r.at_]? = some z:=⟨_,List.getElem?_eq_getElem hr⟩
  have g0:=sxE.row_cell (Zs.L_at hz) 0 (by decide);have e0:(sxE.c z.1)[0]? = some (.int .i64 z.1.kind):=rfl;have e3:sxE.sz=29:=rfl;rw [e0,e3] at g0;simp only [Nat.add_zero] at g0;rw [hb] at g1;have w3:IntKind.i64.wrap ((r.at_:Int)+1)=(r.at_:Int)+1:=Ab (by omega) (by omega)
  by_cases hk:z.1.kind=6
  ·simp only [A1,A2] at g1
   have g2:=fun H=>h1 6 l ⟨r.at_+1,none,r.plain⟩ H Bp hr
   have c1:=sh.goes 6 l ⟨r.at_+1,none,r.plain⟩;have c2:=sh.ends 6 l ⟨r.at_+1,none,r.plain⟩ (by decide);rw [hk] at g0;simp only [hb,hz,hk];generalize EK Z d 6 l ⟨r.at_+1,none,r.plain⟩=c at *;obtain ⟨nc,q⟩:=c;have o2:=c1.ok Bp;simp only at c2 o2 g2 ⊢;simp [A1,A2] at g2;cases hq:q.bad with
   | some y =>
    have qc:¬erC (some y)=0:=fun h=>by rw [hq] at o2;have:=(EI o2).1 h;cases this
    rw [hq] at g2;simp [Tryz.f124,Hg,Sx.c,w1,w2,g1,hb,A2,A1];refine LpD.turns X hG [] [] (by kernel_rfl) ?_;simp [hr,g0,w3,g2,qc,Nz,Sx.c,hq,A2,A1,w2]
   | none =>have rh:=c2 hq;have w4:IntKind.i64.wrap ((q.at_:Int)+1)=(q.at_:Int)+1:=Ab (by omega) (by omega);rw [hq] at g2;simp only [A1,A2] at g2;simp [Tryz.f124,Hg,Sx.c,w1,w2,g1,hb,A2,A1];refine LpD.turns X hG [] [] (by kernel_rfl) ?_;simp [hr,g0,w3,w4,g2,Nz,Sx.c,hq,A2,A1,w2]
  ·simp only [A1,A2] at g1
   have sN:(z.1.kind==6)=false:=by rw [beq_eq_false_iff_ne];exact hk
   simp only [hb,hz,if_neg hk,Option.isSome_none,Bool.false_eq_true,if_false];simp [Tryz.f124,Hg,Sx.c,w1,w2,g1,hb,A2,A1];refine LpD.turns X hG [] [] (by kernel_rfl) ?_;simp [hr,g0,w3,hk,sN,hz,hb,Nz,Sx.c,A2,A1]
set_option maxHeartbeats 8000000
@[simp] theorem bsNd (a0 a1 a2 a3 a4 a5 a6 a7 a8 a9 a10 a11 a12 a13 a14 a15 a16 a17 a18 a19 a20 a21 a22 a23 a24 a25 a26 a27 a28 a29 a30 a31 a32 a33:AV):Ch zP 68 1 [(0,.agg [a0,a1,a2,a3,a4,a5,a6,a7,a8,a9,a10,a11,a12,a13,a14,a15,a16,a17,a18,a19,a20,a21,a22,a23,a24,a25,a26,a27,a28,a29,a30,a31,a32,a33])]=some (.slice .full 34 1 [a0,a1,a2,a3,a4,a5,a6,a7,a8,a9,a10,a11,a12,a13,a14,a15,a16,a17,a18,a19,a20,a21,a22,a23,a24,a25,a26,a27,a28,a29,a30,a31,a32,a33]):=by kernel_rfl
@[simp] theorem buNd (l e m:Int) (c0 c1 c2 c3 c4 c5 c6 c7 c8 c9 c10 c11 c12 c13 c14 c15 c16 c17 c18 c19 c20 c21 c22 c23 c24 c25 c26 c27 c28:AV):A3 zP 108 [(0,.int .i64 l),(1,.int .i64 e),(2,.agg [c0,c1,c2,c3,c4,c5,c6,c7,c8,c9,c10,c11,c12,c13,c14,c15,c16,c17,c18,c19,c20,c21,c22,c23,c24,c25,c26,c27,c28]),(5,.int .i64 m)]=some (.agg [.int .i64 l,.int .i64 e,c0,c1,c2,c3,c4,c5,c6,c7,c8,c9,c10,c11,c12,c13,c14,c15,c16,c17,c18,c19,c20,c21,c22,c23,c24,c25,c26,c27,c28,.nilSlice,.nilSlice,.int .i64 m]):=by kernel_rfl
theorem WE:Bu zP 68 34=true:=by kernel_rfl
theorem WF (ls:List (List UInt8)) (Z:Zs) (s:Bst):some (.box (bdC ls Z s))=bbx ls Z s:=rfl
theorem m8 (ls:List (List UInt8)) (Z:Zs) (s:Bst) (ψ:Nat→Nat):(bbx ls Z s).map (AI ψ)=bbx ls Z s:=by simp [bbx,AI,AM,Fg,Enc.av_ren,ren]
structure BlO (O:Orc) (ls:List (List UInt8)) (Z:Zs) (nest:Nat→Sx→Bst→Nd × Bst) (top:Bool) (dv:Int):Prop where
 skip:∀(s:Bst) (H:AH),AO s.bad→s.at_≤Z.length→O 122 [.ptr 0 0] (bbx ls Z s::H)=some (.tup [],bbx ls Z (Dr Z s)::H)
 fail:∀(s:Bst) (p c:Nat) (H:AH),AO s.bad→O 123 [.ptr 0 0,.int .i64 (p:Int),.int .i64 (c:Int)] (bbx ls Z s::H)=some (.tup [],bbx ls Z (s.fail p c)::H)
 nest:top=false→∀(l:Nat) (x:Sx) (s:Bst) (H:AH),l<1000000→x.kind≠0→AO s.bad→s.at_<Z.length→O 124 [.ptr 0 0,.agg (ndC (.leaf l x)),.int .i64 dv] (bbx ls Z s::H)=some (.agg (ndC (nest l x s).1),bbx ls Z (nest l x s).2::H)
 top:top=true↔8≤dv
def BkI (ls:List (List UInt8)) (Z:Zs) (nest:Nat→Sx→Bst→Nd × Bst) (top:Bool) (of:Int) (beg:Nat) (dv:Int) (res:List Nd × Bst) (k:Nat) (t:List AV) (H:AH):Prop :=
 ∃(s:Bst) (out:List Nd),DS Z nest top of beg k s out=res∧Z.length<k+s.at_∧s.at_≤Z.length∧AO s.bad∧out.length+k≤Z.length+1 ∧
  t=mkT 160 [(0,.ptr 0 0),(1,.int .i64 of),(2,.int .i64 (beg:Int)),(3,.int .i64 dv),(9,ndE.tk 1 out)]∧H=[bbx ls Z s,AW out]
theorem m9 (out:List Nd) (n:Nd):ndE.row out++ndC n=ndE.row (out++[n]):=by rw [ndE.row_append,ndE.row_one1];rfl
theorem N0 {H:AH} {fid:Nat} {ow:Own} (out:List Nd) (n:Nd) (h0:out≠[]) (hk:H.at 1=some (.tok out.length)) (hb:out.length+1≤137438953472) :
  De zP H fid 68 68 (ndE.tk 1 out) (.slice ow 34 1 (ndC n))=some (ndE.tk 1 (out++[n]),[(1,.tok (out.length+1))]):=by
 rw [ndE.tk_ne 1 h0,ndE.tk_ne 1 (by simp),List.length_append,←m9];exact Em WE hk (by decide) hb (H9 n)
theorem N1 {H:AH} {fid:Nat} {ow:Own} (n:Nd) :
  De zP H fid 68 68 .nilSlice (.slice ow 34 1 (ndC n))=some (ndE.tk fid [n],[(fid,.tok 1)]):=by
 rw [ndE.tk_ne fid (by simp),ndE.row_one1];exact GI WE (by decide) (by decide) (H9 n)
theorem WH {O:Orc} (X:Cx O zP AJ) (ls:List (List UInt8)) {Z:Zs} (hZ:ZOk Z) {nest:Nat→Sx→Bst→Nd × Bst} {top:Bool} (hn:∀l x s,s.at_<Z.length→Goes Z s (nest l x s).2∧(top=false→s.at_<(nest l x s).2.at_)) (of:Int) (beg:Nat) {dv:Int}
  (hO:BlO O ls Z nest top dv) (s:Bst) (he:AO s.bad) (ha:s.at_≤Z.length) {H:AH} {id:Nat} (hH:H.at id=some (.box (bdC ls Z s))) :
  CS zP AJ 77 [.ptr id 0,.int .i64 of,.int .i64 (beg:Int),.int .i64 dv] H (ndE.av (DS Z nest top of beg (Z.length+1) s []).1) (H.set id (some (.box (bdC ls Z (DS Z nest top of beg (Z.length+1) s []).2)))):=by
 refine CS.rd BY Tryz.func77 (by kernel_rfl) 0 (by simp [Tryz.f77]) (fun B hB hG => ?_) (by simp) (by simp) (Iq ls _ _) (Iq ls _ _) hH;rw [WF,WF];generalize uN:DS Z nest top of beg (Z.length+1) s []=res;have pw:=hZ.len;refine Tr.goD X hG (by kernel_rfl) ?_;simp [Tryz.f77]
 refine LpD.loopN X hG (by kernel_rfl) (BkI ls Z nest top of beg dv res) (Z.length+1) (t':=mkT 160 [(0,.ptr 0 0),(1,.int .i64 of),(2,.int .i64 (beg:Int)),(3,.int .i64 dv),(9,ndE.tk 1 [])]) (H':=[bbx ls Z s,none])
  (AF.mkV 100 (fun i=>i) 2 (by simp [hB]) (by simp) (by simp) rfl (by
   intro i hi;rcases (by omega:i=0∨i=1) with rfl|rfl
   ·simp [AH.at,m8]
   ·simp [AH.at]) (by simp [bbx]) (by simp [ren]))
  ⟨s,[],uN,by omega,ha,he,by simp,rfl,by simp⟩ ?_
 clear uN he ha;have qh:B.H.length=1:=by rw [hB];rfl
 clear hB hH;rintro k t H ⟨s,out,pq,sN,ha,he,wJ,rfl,rfl⟩;obtain ⟨k,rfl⟩:∃j,k=j+1:=⟨k-1,by omega⟩
 have f1:=fun H=>hO.skip s H he ha
 have s1:=Goes.skip hZ s;rw [DS] at pq;generalize Dr Z s=s' at *;obtain ⟨a,e,pl⟩:=s';have a1:=s1.up;have a2:=s1.len ha;have a3:=s1.ok he;simp only at a1 a2 a3 pq;have qV:=ndE.tk_cut (show ¬1<1 by omega) out;have hf:=fun p c H=>hO.fail ⟨a,e,pl⟩ p c H a3
 have ud:=fun p c H=>hO.fail ⟨a,e,true⟩ p c H a3
 simp only [Bst.fail] at hf ud;cases e with
 | some y =>
  simp only [Option.isSome_some,if_true] at pq;have qc:¬erC (some y)=0:=fun h=>by have:=(EI a3).1 h;cases this
  simp only [bbx] at f1;simp [bbx,f1,qc,qV,←pq]
 | none =>
  simp only [Option.isSome_none,Bool.false_eq_true,if_false,Option.getD_none,Bst.fail] at pq hf ud;have hE:∀p c,c≠0→¬erC (some ([(DR,p)],c))=0:=fun p c hc=>by simp [erC,hc]
  simp only [bbx,A1,A2] at f1 hf ud
  by_cases hl:a<Z.length
  ·have hl':(a:Int)<Z.length:=by omega
   have p6:¬(Z.length:Int)≤a:=by omega
   have qI:¬Z.length≤a:=by omega
   obtain ⟨z,hz⟩:∃z,Z[a]? = some z:=⟨_,List.getElem?_eq_getElem hl⟩
   simp only [hz] at pq;obtain ⟨g2,g3⟩:=sxE.row_at _ _ (Zs.L_at hz);obtain ⟨x,ze⟩:=z;clear hz;simp only at pq g2;have e2:sxE.c x=x.c:=rfl;have e3:sxE.sz=29:=rfl;rw [e3,e2,Sx.c] at g2;rw [e3] at g3;have w1:IntKind.i64.wrap ((a:Int)+1)=(a:Int)+1:=Ab (by omega) (by omega);have hn':=hn a x ⟨a,none,true⟩ hl
   have qO:∀(n:Nd) (s2:Bst),s.at_<s2.at_→s2.at_≤Z.length→AO s2.bad→DS Z nest top of beg k s2 (out++[n])=res→BkI ls Z nest top of beg dv res k (mkT 160 [(0,.ptr 0 0),(1,.int .i64 of),(2,.int .i64 (beg:Int)),(3,.int .i64 dv),(9,ndE.tk 1 (out++[n]))]) [bbx ls Z s2,AW (out++[n])] :=fun n s2 h1 h2 h3 h4=>⟨s2,out++[n],h4,by omega,h2,h3,by rw [List.length_append,List.length_singleton];omega,rfl,rfl⟩
   simp [bbx,f1];refine LpD.turns X hG [] [] (by kernel_rfl) ?_;simp [hl,hl',p6,qI];refine LpD.turns X hG [10,11] [(0,10),(1,10),(2,10),(3,10),(4,10),(5,10),(6,10),(7,10),(8,10),(9,10)] (by kernel_rfl) ?_;simp [hl,g2,g3];refine LpD.turns X hG [10,11] [(0,10),(1,10),(2,10),(3,10),(4,10),(5,10),(6,10),(7,10),(8,10),(9,10)] (by kernel_rfl) ?_
   by_cases k4:x.kind=4
   ·simp [k4] at pq
    by_cases o0:of=3
    ·simp [o0] at pq
     simp [k4,o0,qV,←pq,A2,A1]
    ·skip
     have c1:=fun H=>hf a 12 H
     simp at c1;simp [o0] at pq;simp [k4,o0,qV,←pq,c1]
   ·skip
    by_cases k7:x.kind=7
    ·simp [k4,k7] at pq
     by_cases o0:of=5
     ·simp [o0] at pq
      simp [k4,k7,o0,qV,←pq,A2,A1]
     ·skip
      by_cases o1:of=6
      ·simp [o0,o1] at pq
       simp [k4,k7,o0,o1,qV,←pq,A2,A1]
      ·skip
       have c1:=fun H=>hf a 12 H
       simp at c1;simp [o0,o1] at pq;simp [k4,k7,o0,o1,qV,←pq,c1]
    ·skip
     by_cases k6:x.kind=6
     ·simp [k4,k7,k6] at pq
      by_cases o0:of=5
      ·simp [o0] at pq
       simp [k4,k7,k6,o0,qV,←pq,A2,A1]
      ·skip
       have c1:=fun H=>hf a 12 H
       simp at c1;simp [o0] at pq;simp [k4,k7,k6,o0,qV,←pq,c1]
     ·skip
      by_cases k1:x.kind=1
      ·simp [k4,k7,k6,k1] at pq
       by_cases q1:pl=true
       ·simp [q1] at pq
        have c1:=fun H=>hf a 2 H
        simp [q1] at c1;simp only [q1] at f1;simp [k4,k7,k6,k1,q1,qV,←pq,c1]
       ·have q2:pl=false:=by simpa using q1
        subst q2
        by_cases q3:of=0
        ·simp [q3] at pq
         rw [←q3] at pq;have hI:=qO (.leaf a x) ⟨a+1,none,false⟩ (by simp only;omega) hl Bp pq;simp only [q3] at hI
         by_cases h0:out=[]
         ·subst h0
          have ap:=fun H ow fid=>N1 (H:=H) (fid:=fid) (ow:=ow) (Nd.leaf a x)
          simp only [Hg,Sx.c,List.cons_append,List.nil_append,k1] at ap;simp [k4,k7,k6,k1,q3,w1,ap]
          refine Nxt.mk k (by omega) (AF.mkV 100 (fun i=>if i=1 then 4 else i) 2 (by simp [qh]) (by intro i j hi hj h;split at h<;>split at h<;>omega) (by simp [qh]) rfl (by
           intro i hi;rcases (by omega:i=0∨i=1) with rfl|rfl
           ·simp [AH.at,bbx,AI,AM,ren,Enc.av_ren,Fg,A1,A2]
           ·simp [AH.at,AW,AI]) (by simp [bbx,AW]) (by simp [ren,ndE.tk_ren,ndE.tk_strip,ndE.tk_low])) hI
         ·have ap:=fun H ow fid (h:AH.at H 1=some (.tok out.length))=>N0 (H:=H) (fid:=fid) (ow:=ow) out (Nd.leaf a x) h0 h (by omega)
          simp only [Hg,Sx.c,List.cons_append,List.nil_append,k1] at ap;have qp:AW out=some (.tok out.length):=Cs h0;rw [qp];simp [k4,k7,k6,k1,q3,w1,ap];exact Nxt.mk k (by omega) (AF.mkK 2 (by simp [qh]) (by simp [ndE.tk_low]) (by simp [bbx,AW,A1,A2]) (by simp [bbx,AW])) hI
        ·simp [q3] at pq
         have c1:=fun H=>hf a 2 H
         simp at c1;simp [k4,k7,k6,k1,q3,qV,←pq,c1]
      ·skip
       by_cases k3:x.kind=3
       ·simp [k4,k7,k6,k1,k3] at pq
        cases top with
        | true =>
         have hd:=hO.top.1 rfl;simp at pq;have c1:=fun H=>ud a 4 H
         simp at c1;simp [k4,k7,k6,k1,k3,hd,qV,←pq,c1]
        | false =>
         have hd:¬8≤dv:=fun h=>by have:=hO.top.2 h;cases this
         have c1:=fun H=>hO.nest rfl a x ⟨a,none,true⟩ H (by omega) (by rw [k3];decide) Bp hl
         have hg:=hn'.1.len (by simp only;omega);have uL:=hn'.2 rfl;have t9:=hn'.1.ok Bp;simp only at pq uL;generalize nest a x ⟨a,none,true⟩=m at *;obtain ⟨nd,s2⟩:=m;simp only at pq hg uL t9 c1;simp only [Hg,Sx.c,k3] at c1;simp only [C9,Sx.c,bbx,A1,A2] at c1;simp at c1;cases qA:s2.bad with
         | some y =>
          have qc:¬erC (some y)=0:=fun h=>by rw [qA] at t9;have:=(EI t9).1 h;cases this
          simp [qA] at pq;rw [qA] at c1;simp [k4,k7,k6,k1,k3,hd,qV,←pq,c1,qc,qA]
         | none =>
          simp [qA] at pq;rw [qA] at c1;simp only [A1,A2] at c1;have hI:=qO nd s2 (by omega) hg t9 pq
          by_cases h0:out=[]
          ·subst h0
           have ap:=fun H ow fid=>N1 (H:=H) (fid:=fid) (ow:=ow) nd
           simp only [C9,Sx.c,List.cons_append,List.nil_append] at ap;simp [k4,k7,k6,k1,k3,hd,c1,qA,ap]
           refine Nxt.mk k (by omega) (AF.mkV 100 (fun i=>if i=1 then 4 else i) 2 (by simp [qh]) (by intro i j hi hj h;split at h<;>split at h<;>omega) (by simp [qh]) rfl (by
            intro i hi;rcases (by omega:i=0∨i=1) with rfl|rfl
            ·simp [AH.at,bbx,AI,AM,ren,Enc.av_ren,Fg,A1,A2,qA]
            ·simp [AH.at,AW,AI]) (by simp [bbx,AW]) (by simp [ren,ndE.tk_ren,ndE.tk_strip,ndE.tk_low])) hI
          ·have ap:=fun H ow fid (h:AH.at H 1=some (.tok out.length))=>N0 (H:=H) (fid:=fid) (ow:=ow) out nd h0 h (by omega)
           simp only [C9,Sx.c,List.cons_append,List.nil_append] at ap;have qp:AW out=some (.tok out.length):=Cs h0;rw [qp];simp [k4,k7,k6,k1,k3,hd,c1,qA,ap];exact Nxt.mk k (by omega) (AF.mkK 2 (by simp [qh]) (by simp [ndE.tk_low]) (by simp [bbx,AW,A1,A2,qA]) (by simp [bbx,AW])) hI
       ·skip
        by_cases k5:x.kind=5
        ·simp [k4,k7,k6,k1,k3,k5] at pq
         cases top with
         | true =>
          have hd:=hO.top.1 rfl;simp at pq;have c1:=fun H=>ud a 4 H
          simp at c1;simp [k4,k7,k6,k1,k3,k5,hd,qV,←pq,c1]
         | false =>
          have hd:¬8≤dv:=fun h=>by have:=hO.top.2 h;cases this
          have c1:=fun H=>hO.nest rfl a x ⟨a,none,true⟩ H (by omega) (by rw [k5];decide) Bp hl
          have hg:=hn'.1.len (by simp only;omega);have uL:=hn'.2 rfl;have t9:=hn'.1.ok Bp;simp only at pq uL;generalize nest a x ⟨a,none,true⟩=m at *;obtain ⟨nd,s2⟩:=m;simp only at pq hg uL t9 c1;simp only [Hg,Sx.c,k5] at c1;simp only [C9,Sx.c,bbx,A1,A2] at c1;simp at c1;cases qA:s2.bad with
          | some y =>
           have qc:¬erC (some y)=0:=fun h=>by rw [qA] at t9;have:=(EI t9).1 h;cases this
           simp [qA] at pq;rw [qA] at c1;simp [k4,k7,k6,k1,k3,k5,hd,qV,←pq,c1,qc,qA]
          | none =>
           simp [qA] at pq;rw [qA] at c1;simp only [A1,A2] at c1;have hI:=qO nd s2 (by omega) hg t9 pq
           by_cases h0:out=[]
           ·subst h0
            have ap:=fun H ow fid=>N1 (H:=H) (fid:=fid) (ow:=ow) nd
            simp only [C9,Sx.c,List.cons_append,List.nil_append] at ap;simp [k4,k7,k6,k1,k3,k5,hd,c1,qA,ap]
            refine Nxt.mk k (by omega) (AF.mkV 100 (fun i=>if i=1 then 4 else i) 2 (by simp [qh]) (by intro i j hi hj h;split at h<;>split at h<;>omega) (by simp [qh]) rfl (by
             intro i hi;rcases (by omega:i=0∨i=1) with rfl|rfl
             ·simp [AH.at,bbx,AI,AM,ren,Enc.av_ren,Fg,A1,A2,qA]
             ·simp [AH.at,AW,AI]) (by simp [bbx,AW]) (by simp [ren,ndE.tk_ren,ndE.tk_strip,ndE.tk_low])) hI
           ·have ap:=fun H ow fid (h:AH.at H 1=some (.tok out.length))=>N0 (H:=H) (fid:=fid) (ow:=ow) out nd h0 h (by omega)
            simp only [C9,Sx.c,List.cons_append,List.nil_append] at ap;have qp:AW out=some (.tok out.length):=Cs h0;rw [qp];simp [k4,k7,k6,k1,k3,k5,hd,c1,qA,ap];exact Nxt.mk k (by omega) (AF.mkK 2 (by simp [qh]) (by simp [ndE.tk_low]) (by simp [bbx,AW,A1,A2,qA]) (by simp [bbx,AW])) hI
        ·skip
         simp [k4,k7,k6,k1,k3,k5] at pq;have hI:=qO (.leaf a x) ⟨a+1,none,true⟩ (by simp only;omega) hl Bp pq
         by_cases h0:out=[]
         ·subst h0
          have ap:=fun H ow fid=>N1 (H:=H) (fid:=fid) (ow:=ow) (Nd.leaf a x)
          simp only [Hg,Sx.c,List.cons_append,List.nil_append] at ap;simp [k4,k7,k6,k1,k3,k5,k1,w1,ap]
          refine Nxt.mk k (by omega) (AF.mkV 100 (fun i=>if i=1 then 4 else i) 2 (by simp [qh]) (by intro i j hi hj h;split at h<;>split at h<;>omega) (by simp [qh]) rfl (by
           intro i hi;rcases (by omega:i=0∨i=1) with rfl|rfl
           ·simp [AH.at,bbx,AI,AM,ren,Enc.av_ren,Fg,A1,A2]
           ·simp [AH.at,AW,AI]) (by simp [bbx,AW]) (by simp [ren,ndE.tk_ren,ndE.tk_strip,ndE.tk_low])) hI
         ·have ap:=fun H ow fid (h:AH.at H 1=some (.tok out.length))=>N0 (H:=H) (fid:=fid) (ow:=ow) out (Nd.leaf a x) h0 h (by omega)
          simp only [Hg,Sx.c,List.cons_append,List.nil_append] at ap;have qp:AW out=some (.tok out.length):=Cs h0;rw [qp];simp [k4,k7,k6,k1,k3,k5,k1,w1,ap];exact Nxt.mk k (by omega) (AF.mkK 2 (by simp [qh]) (by simp [ndE.tk_low]) (by simp [bbx,AW,A1,A2]) (by simp [bbx,AW])) hI
  ·have hl':¬(a:Int)<Z.length:=by omega
   have p6:(Z.length:Int)≤a:=by omega
   have qI:Z.length≤a:=by omega
   have hz:Z[a]? = none:=List.getElem?_eq_none (by omega);simp only [hz] at pq
   by_cases h0:of=0
   ·simp only [h0,if_true] at pq
    simp [bbx,f1];refine LpD.turns X hG [] [] (by kernel_rfl) ?_;simp [hl,hl',p6,qI,h0,qV,←pq,A2,A1]
   ·simp only [h0,if_false] at pq
    have c1:=fun H=>hf beg 11 H
    simp at c1;simp [bbx,f1];refine LpD.turns X hG [] [] (by kernel_rfl) ?_;simp [hl,hl',p6,qI,h0,qV,←pq,c1]
noncomputable def N2 {ls:List (List UInt8)} {Z:Zs} (hZ:ZOk Z) {d:Nat} (hd:d<8) (hC:Ny ls Z d):AG zP AJ:=AG.meth 124 (bdC ls Z) (Nx ls Z) (fun (x:Nat × Sx) s=>x.1<1000000∧x.2.kind≠0∧AO s.bad∧s.at_<Z.length)
 (fun _ x=>[.agg (ndC (.leaf x.1 x.2)),.int .i64 (7-(d:Int))]) (fun x s => .agg (ndC (Eh Z (EK Z d) x.1 x.2 s).1)) (fun x s=>(Eh Z (EK Z d) x.1 x.2 s).2)
 (fun x s h H id hH=>m7 hZ hd hC x.1 h.1 x.2 h.2.1 s h.2.2.1 h.2.2.2 hH) (fun id x y s _ _ h=>by
  obtain ⟨a,b⟩:=x;obtain ⟨c,e⟩:=y;simp only [List.cons.injEq,AV.agg.injEq,true_and,and_true] at h;have h1:=NW _ _ h;simp only [Nd.leaf,Nd.mk.injEq,and_true] at h1;have e1:a=c:=by omega
  rw [e1,h1.2.2]
  exact ⟨rfl,rfl⟩)
theorem WI (ls:List (List UInt8)) {Z:Zs} (hZ:ZOk Z):∀d,d≤8→Ny ls Z d
 | 0,_=>fun of beg s he ha H id hH=>by
  have hL:([Ir ls Z hZ,Is ls Z].map (·.f)).Nodup:=show ([122,123]:List Nat).Nodup by decide
  have X:=Bv [Ir ls Z hZ,Is ls Z] Bz Af
  have hO:BlO (oOf [Ir ls Z hZ,Is ls Z]) ls Z (fun l x s=>(.leaf l x,s)) true 8:={
   skip:=fun s H h1 h2=>Bn hL (show Ir ls Z hZ∈_ by simp) () s (H:=bbx ls Z s::H) (id:=0) rfl ⟨h1,h2⟩
   fail:=fun s p c H h1=>Bn hL (show Is ls Z∈_ by simp) (p,c) s (H:=bbx ls Z s::H) (id:=0) rfl h1
   nest:=fun h=>by cases h
   top:=by simp}
  exact WH X ls hZ (fun l x s h=>⟨Goes.refl Z s,fun h=>by cases h⟩) of beg hO s he ha hH
 | d+1,hd=>fun of beg s he ha H id hH=>by
  have hC:=WI ls hZ d (by omega);have hd':d<8:=by omega
  have hL:([Ir ls Z hZ,Is ls Z,N2 hZ hd' hC].map (·.f)).Nodup:=show ([122,123,124]:List Nat).Nodup by decide
  have X:=Bv [Ir ls Z hZ,Is ls Z,N2 hZ hd' hC] Bz Af;have hdv:(8-((d+1:Nat):Int))=7-(d:Int):=by omega
  rw [hdv]
  have hO:BlO (oOf [Ir ls Z hZ,Is ls Z,N2 hZ hd' hC]) ls Z (Eh Z (EK Z d)) false (7-(d:Int)):={
   skip:=fun s H h1 h2=>Bn hL (show Ir ls Z hZ∈_ by simp) () s (H:=bbx ls Z s::H) (id:=0) rfl ⟨h1,h2⟩
   fail:=fun s p c H h1=>Bn hL (show Is ls Z∈_ by simp) (p,c) s (H:=bbx ls Z s::H) (id:=0) rfl h1
   nest:=fun _ l x s H h1 h2 h3 h4=>Bn hL (show N2 hZ hd' hC∈_ by simp) (l,x) s (H:=bbx ls Z s::H) (id:=0) rfl ⟨h1,h2,h3,h4⟩
   top:=by
    constructor
    ·intro h;cases h
    ·intro h;omega}
  exact WH X ls hZ (fun l x s h=>⟨(Qz (Jh hZ d) l x s h).1,fun _=>(Qz (Jh hZ d) l x s h).2⟩) of beg hO s he ha hH
def erG (e:Er):Prop:=AO e∧∀l c,e=some (l,c)→l.length≤2
theorem N3:erG none:=⟨Bp,fun _ _ h=>by cases h⟩
theorem Iv {r:Sr} (h:erG r.err) (p:Nat) {c:Nat} (hc:c≠0):erG (r.fail p c).err:=by
 refine ⟨Sr.fail_ok h.1 p hc,fun l c' he => ?_⟩;unfold Sr.fail at he;cases hr:r.err with
 | none =>rw [hr] at he;simp only [Option.getD_none,Option.some.injEq,Prod.mk.injEq] at he;rw [←he.1];exact Nat.le_succ 1
 | some y =>rw [hr] at he;simp only [Option.getD_some] at he;exact h.2 l c' (by rw [hr];exact he)
theorem nA {r:Sr} (h:erG r.err):erG r.step.err:=h
theorem Q0 {r:Sr} (h:erG r.err) (n:Nat) {x:Option (Nat × Nat)} (hx:BO x):erG (C4 r n x).err:=by
 refine ⟨(Nw r n x).2.2.1 h.1 hx,fun l c he => ?_⟩;unfold C4 at he;cases hr:r.err with
 | some y =>rw [hr] at he;exact h.2 l c he
 | none =>
  rw [hr] at he;cases x with
  | none=>cases he
  | some y =>obtain ⟨p,c'⟩:=y;simp only [Option.some.injEq,Prod.mk.injEq] at he;rw [←he.1];exact Nat.le_refl 2
theorem Iw {ts:List Wd} {r:Sr} (h:erG r.err) (k:Nat) (s:List UInt8):erG (B3 ts r k s).err:=by
 unfold B3
 split
 ·exact h
 ·exact Iv h _ (by decide)
theorem WJ {ts:List Wd} {r:Sr} (h:erG r.err):erG (CD ts r).2.err:=by
 unfold CD
 split
 ·exact h
 ·exact Iv h _ (by decide)
theorem WK {ts:List Wd} {r:Sr} (h:erG r.err):erG (Co ts r).2.err:=by
 unfold Co
 split
 ·exact h
 ·exact Iv h _ (by decide)
theorem nB {ts:List Wd} {r:Sr} (h:erG r.err) (k:Nat) (s:List UInt8):erG (CM ts r k s).err:=by
 unfold CM
 split
 ·exact h
 ·exact h
theorem N4 {ts:List Wd} {r:Sr} (h:erG r.err):erG (B9 ts r).2.err:=by
 unfold B9
 split
 ·exact h
 ·exact Q0 h _ (QN _)
theorem nC {ts:List Wd} {r:Sr} (h:erG r.err):erG (G9 ts r).2.err:=by
 unfold G9
 split
 ·exact h
 ·exact Q0 h _ (QO _)
theorem WL {ts:List Wd} {r:Sr} (h:erG r.err):erG (CV ts r).2.err:=by
 unfold CV
 split
 ·split
  ·exact Q0 h _ (Qu _ _ Ct)
  ·exact h
 ·exact Iv h _ (by decide)
theorem WM {ts:List Wd}:∀(n:Nat) (d:List Int) {r:Sr},erG r.err→erG (Dk ts n d r).2.err
 | 0,d,r,h=>h
 | n+1,d,r,h=>by
  rw [Dk]
  have h1:erG (if 4≤d.length then r.fail (r.at_-1) 4 else r).err:=by
   split
   ·exact Iv h _ (by decide)
   ·exact h
  generalize (if 4≤d.length then r.fail (r.at_-1) 4 else r)=r1 at *;have h2:=WK (ts:=ts) h1;generalize Co ts r1=m at *
  have h3:erG (if m.2.err=none∧m.1=0 then m.2.fail r1.at_ 1 else m.2).err:=by
   split
   ·exact Iv h2 _ (by decide)
   ·exact h2
  generalize (if m.2.err=none∧m.1=0 then m.2.fail r1.at_ 1 else m.2)=r2 at *
  split
  ·exact WM n _ (r:=r2.step) h3
  ·exact h3
theorem nD {ts:List Wd} {r:Sr} (h:erG r.err):erG (CA ts r).2.err:=by
 unfold CA;have h1:=WJ (ts:=ts) h;simp only
 split
 ·exact Iw (WM _ _ (r:=(CD ts r).2.step) h1) _ _
 ·exact h1
theorem WN {ts:List Wd}:∀(n:Nat) (l:List It) {r:Sr},erG r.err→erG (D2 ts n l r).2.err
 | 0,l,r,h=>h
 | n+1,l,r,h=>by
  rw [D2];have h1:=nD (ts:=ts) h
  split
  ·exact WN n _ (r:=(CA ts r).2.step) h1
  ·exact h1
theorem nE {ts:List Wd} {r:Sr} (h:erG r.err):erG (Ff ts r).2.err:=by
 unfold Ff Lh;have h1:=N4 (ts:=ts) (Iw (ts:=ts) (N4 (ts:=ts) (Iw (ts:=ts) (WJ (ts:=ts) h) 3 isT)) 3 A7);simp only
 split
 ·exact WK (nB (nA h1) _ _)
 ·exact h1
theorem nF {ts:List Wd} (s:List UInt8) {r:Sr} (h:erG r.err):erG (Cc ts s r).2.err:=by
 unfold Cc
 split
 ·exact WN _ _ h
 ·split
  ·exact nE h
  ·split
   ·split
    ·exact h
    ·exact Iw h _ _
   ·split
    ·exact Iw (Iw (nC (Iw h _ _)) _ _) _ _
    ·split
     ·exact h
     ·split
      ·exact WL h
      ·split
       ·exact N4 h
       ·exact Iv h _ (by decide)
theorem nG (ts:List Wd) (w:Wd):erG (D3 ts w).2.err:=by
 unfold D3
 split
 ·exact nF _ N3
 ·split
  ·exact N4 (Iw (WL N3) _ _)
  ·exact ⟨G1 (by simp) (by decide),fun l c h=>by injection h with h;injection h with h1 h2;rw [←h1];exact Nat.le_succ 1⟩
theorem nH (ts:List Wd):erG (Kd ts).2:=by
 cases ts with
 | nil=>exact N3
 | cons w ts =>
  unfold Kd;have h1:=nG (w::ts) w;simp only;generalize D3 (w::ts) w=x at *
  have h2:erG (if x.2.err=none∧x.2.at_<(w::ts).length then x.2.fail x.2.at_ 2 else x.2).err:=by
   split
   ·exact Iv h1 _ (by decide)
   ·exact h1
  generalize (if x.2.err=none∧x.2.at_<(w::ts).length then x.2.fail x.2.at_ 2 else x.2)=r at *
  split
  ·rename_i h;rw [h] at h2;exact h2
  ·exact N3
theorem nI (b:List UInt8):erG (Eg b).2:=by
 unfold Eg
 split
 ·rename_i p e h
  exact ⟨G1 (by simp) (U0 _ _ _ _ _ _ h),fun l c h=>by injection h with h;injection h with h1 h2;rw [←h1];exact Nat.le_refl 2⟩
 ·exact nH _
def Cb (ls:List (List UInt8)):Zs:=ls.map fun s=>((Eg (B8 s)).1.x,(Eg (B8 s)).2)
theorem Q2 (ls:List (List UInt8)):(Cb ls).length=ls.length:=by simp [Cb]
theorem Q3 {ls:List (List UInt8)} (h:ls.length<1000000):ZOk (Cb ls):=by refine ⟨by rw [Q2];exact h,fun z hz => ?_⟩;obtain ⟨s,_,rfl⟩:=List.mem_map.1 hz;have hg:=nI (B8 s);exact ⟨hg.1,fun l c h=>by have:=hg.2 l c h;omega⟩
def Fi (ls:List (List UInt8)):List Nd × Er :=
 let b:=EK (Cb ls) 8 0 0 ⟨0,none,false⟩
 match b.2.bad with
 | some y=>([],some y)
 | none=>(b.1,none)
noncomputable def Lv:AG zP AJ:=AG.pure 76 (fun s:List UInt8=>s.length<1000000) (fun s=>[.str s]) (fun s=>Fh (Eg (B8 s))) (fun s h H=>mt s h H) (fun x y _ _ h=>by
 simp only [List.cons.injEq,AV.str.injEq,and_true] at h
 rw [h])
def Jm (x:List Nd × Er):AV := .tup [ndE.av x.1,erA x.2]
@[simp high] theorem nO (l:List (List UInt8)):alen zP 23 (Am.av l)=some (.int .i64 l.length):=Am.alen Tryz.underlying23 l
@[simp high] theorem W6 {l:List (List UInt8)} {i:Nat} (h:i<l.length):Av zP 23 (Am.av l) (.int .i64 (i:Int))=some (.vptr (Am.row l) (i*1)):=Am.aidx Tryz.underlying23 (by kernel_rfl) h
@[simp high] theorem nP {l:List (List UInt8)} (h:0<l.length):Av zP 23 (Am.av l) (.int .i64 0)=some (.vptr (Am.row l) 0):=W6 (i:=0) h
@[simp] theorem buBd (ls:List (List UInt8)):A3 zP 175 [(0,Am.av ls)]=some (.agg [Am.av ls,.nilSlice,.nilSlice,.int .i64 0,.nilSlice,.int .i64 0,.bool false]):=by
 unfold Enc.av
 split<;>kernel_rfl
@[simp] theorem bsSx (c0 c1 c2 c3 c4 c5 c6 c7 c8 c9 c10 c11 c12 c13 c14 c15 c16 c17 c18 c19 c20 c21 c22 c23 c24 c25 c26 c27 c28:AV):Ch zP 172 1 [(0,.agg [c0,c1,c2,c3,c4,c5,c6,c7,c8,c9,c10,c11,c12,c13,c14,c15,c16,c17,c18,c19,c20,c21,c22,c23,c24,c25,c26,c27,c28])]=some (.slice .full 29 1 [c0,c1,c2,c3,c4,c5,c6,c7,c8,c9,c10,c11,c12,c13,c14,c15,c16,c17,c18,c19,c20,c21,c22,c23,c24,c25,c26,c27,c28]):=by kernel_rfl
@[simp] theorem bsWr (a b:AV):Ch zP 173 1 [(0,.agg [a,b])]=some (.slice .full 2 1 [a,b]):=by kernel_rfl
theorem RN:Bu zP 172 29=true:=by kernel_rfl
theorem RO:Bu zP 173 2=true:=by kernel_rfl
theorem AF.boxStrip {B:Bs} {t:List AV} {H:AH} (id n:Nat) {cs:List AV} (h:H.at id=some (.box cs)):AF B t H t (H.set id (some (.box (CX n cs)))):=by
 intro a w hs;obtain ⟨g,R,p,hT,hd⟩:=hs;refine ⟨g,⟨R.imm,?_,?_,R.inj,R.blk⟩,⟨p.le,?_,p.new,p.old,p.size,p.os,p.tape,p.output⟩,hT,hd⟩
 ·intro i hi
  rw [AH.at_set] at hi
  split at hi
  ·cases hi
  ·exact R.free i hi
 ·intro i e he pp
  rw [AH.at_set] at he
  split at he
  ·rename_i hh
   obtain ⟨rfl,_⟩:=hh;simp only [Option.some.injEq] at he;subst he;obtain ⟨ge,h1,h2⟩:=R.ent id _ h (by simp);refine ⟨ge,h1,?_⟩;cases ge with
   | box b =>obtain ⟨vs,el,h3,h4,h5⟩:=h2;exact ⟨vs,el,h3,AB.strip n _ _ h4,h5⟩
   | tok=>exact h2
  ·exact R.ent i e he pp
 ·intro i hi
  obtain ⟨h1,h2⟩:=p.hid i hi;refine ⟨h1,?_⟩;rw [AH.at_set,if_neg]
  ·exact h2
  ·rintro ⟨rfl,_⟩
   rw [h] at h2;cases h2
theorem I2 {α:Type} (E:Enc α) {P:Program} {H:AH} {fid k:Nat} {t:TypeId} {ow:Own} (h:Bu P t E.sz=true) (l:List α) (x:α) (h0:l≠[]) (hk:H.at k=some (.tok l.length)) (hb:l.length+1≤137438953472) :
  De P H fid t t (E.tk k l) (.slice ow E.sz 1 (E.c x))=some (E.tk k (l++[x]),[(k,.tok (l.length+1))]):=by
 rw [E.tk_ne k h0,E.tk_ne k (by simp),List.length_append];exact E.app1_tok h l x rfl hk hb
theorem I3 {α:Type} (E:Enc α) {P:Program} {H:AH} {fid:Nat} {t:TypeId} {ow:Own} (h:Bu P t E.sz=true) (x:α) :
  De P H fid t t .nilSlice (.slice ow E.sz 1 (E.c x))=some (E.tk fid [x],[(fid,.tok 1)]):=by
 rw [E.tk_ne fid (by simp),E.row_one1];exact E.app1_nil h x
theorem Hi {α:Type} (E:Enc α) (k:Nat) {l:List α} (h:l≠[]):Bg (E.tk k l)=[k]:=by rw [E.tk_ne k h];simp only [Bg,J1 _ (E.row_low l)]
def trT (ls:List (List UInt8)) (i:Nat):List AV:=mkT 60 [(0,Am.av ls),(3,.ptr 0 0),(4,.ptr 1 0),(5,.int .i64 (i:Int))]
def trH (ls:List (List UInt8)) (i:Nat):AH:=[some (.box [.nilSlice,.int .i64 0]),some (.box [Am.av ls,sxE.tk 2 (Cb (ls.take i)).L,wrE.tk 3 (Cb (ls.take i)).W,.int .i64 0,.nilSlice,.int .i64 0,.bool false]),AW (Cb (ls.take i)).L,AW (Cb (ls.take i)).W]
def trF (ls:List (List UInt8)):AH:=[some (.box [.nilSlice,.int .i64 0]),bbx ls (Cb ls) ⟨0,none,false⟩]
theorem RP {B:Bs} (hB:B.H=[]) (ls:List (List UInt8)):AF B (trT ls ls.length) (trH ls ls.length) (trT ls ls.length) (trF ls):=by have h1:=AF.boxStrip (B:=B) (t:=trT ls ls.length) (H:=trH ls ls.length) 1 2 rfl;refine h1.trans (AF.mkK 2 (by simp [hB]) (by simp) ?_ (by simp [trF,bbx]));simp [trH,trF,bbx,CX,Enc.tk_cut,Enc.av_strip,A1,A2,strip]
def TrI (ls:List (List UInt8)) (k:Nat) (t:List AV) (H:AH):Prop:=∃i,i+k=ls.length∧t=trT ls i∧H=if k=0 then trF ls else trH ls i
theorem W7 (ls:List (List UInt8)) (rn:ls.length<1000000) (hl:∀s∈ls,s.length<1000000) (H:AH):CS zP AJ 35 [Am.av ls] H (Jm (Fi ls)) H:=by
 have hZ:=Q3 rn;have hC:=WI ls hZ 8 (by decide);have hL:([Lv,Iu hC].map (·.f)).Nodup:=show ([76,77]:List Nat).Nodup by decide
 have X:=Bv [Lv,Iu hC] Bz Af;have f1:=fun (s:List UInt8) (H:AH) (h:s.length<1000000)=>Cr hL (show Lv∈_ by simp) s h H
 have f2:=fun e0 (s:Bst) (H:AH) (h1:AO s.bad) (h2:s.at_≤(Cb ls).length)=>Bn hL (show Iu hC∈_ by simp) (0,0) s (H:=e0::bbx ls (Cb ls) s::H) (id:=1) rfl ⟨h1,h2⟩
 generalize oOf [Lv,Iu hC]=O at X f1 f2;refine CS.tr0 BY Tryz.func35 (by kernel_rfl) 0 (by simp [Tryz.f35]) (fun B hB hG => ?_) (by simp [Jm]) (by simp) H;refine Tr.goD X hG (by kernel_rfl) ?_;simp [Tryz.f35];have hnil:Cb (ls.take 0)=[]:=rfl;refine LpD.loopN X hG (by kernel_rfl) (TrI ls) ls.length (t':=trT ls 0) (H':=if ls.length=0 then trF ls else trH ls 0) ?_ ⟨0,by omega,rfl,rfl⟩ ?_
 ·have h1:AF B (trT ls 0) (trH ls 0) (trT ls 0) (if ls.length=0 then trF ls else trH ls 0):=by
   split
   ·rename_i h0
    have:=RP hB ls;rw [h0] at this;exact this
   ·exact AF.refl
  refine AF.trans (AF.mkV 100 (fun i=>i) 4 (by simp [hB]) (by simp) (by simp) rfl (by
   intro i hi;rcases (by omega:i=0∨i=1∨i=2∨i=3) with rfl|rfl|rfl|rfl
   ·simp [AH.at,trH,AI,AM,ren]
   ·simp [AH.at,trH,AI,AM,ren,Enc.av_ren,Cb,Zs.L,Zs.W]
   ·simp [AH.at,trH,Cb,Zs.L]
   ·simp [AH.at,trH,Cb,Zs.W]) (by simp [trH,Cb,Zs.L,Zs.W]) (by simp [ren,Enc.av_ren])) h1
 rintro k t H ⟨i,px,rfl,rfl⟩;cases k with
 | zero =>
  obtain rfl:i=ls.length:=by omega
  have g1:=fun e0 H=>f2 e0 ⟨0,none,false⟩ H Bp (Nat.zero_le _)
  have b1:=((Jh hZ 8).goes 0 0 ⟨0,none,false⟩).ok Bp;unfold Fi;generalize EK (Cb ls) 8 0 0 ⟨0,none,false⟩=b at *;obtain ⟨nb,r⟩:=b;simp only at b1 g1 ⊢;simp [bbx,A1,A2] at g1;have vd:(if (0:Nat)=0 then trF ls else trH ls ls.length)=trF ls:=if_pos rfl
  try rw [vd]
  cases hb:r.bad with
  | none =>rw [hb] at g1;simp only [A1,A2] at g1;simp [trT,trF,bbx,A1,A2,g1,Jm]
  | some y =>
   rw [hb] at g1 b1;have qc:¬erC (some y)=0:=fun h=>by have:=(EI b1).1 h;cases this
   simp [trT,trF,bbx,A1,A2,g1,qc];refine LpD.turns X hG [5] [] (by kernel_rfl) ?_;simp [Jm]
 | succ k =>
  have hi:i<ls.length:=by omega
  rw [if_neg (by omega)];obtain ⟨s,hs⟩:∃s,ls[i]? = some s:=⟨_,List.getElem?_eq_getElem hi⟩
  have uw:=hl s (List.mem_of_getElem? hs);have g0:(Am.row ls)[i*1+0]? = some (.str s):=Am.row_cell hs 0 (by decide);simp only [Nat.mul_one,Nat.add_zero] at g0;have g1:=fun H=>f1 s H uw
  have qS:ls.take (i+1)=ls.take i++[s]:=by rw [List.take_add_one,hs];rfl
  have hz:Cb (ls.take (i+1))=Cb (ls.take i)++[((Eg (B8 s)).1.x,(Eg (B8 s)).2)]:=by rw [qS,Cb,List.map_append];rfl
  have pw:(Cb (ls.take i)).length=i:=by rw [Q2,List.length_take];omega
  have hI:TrI ls k (trT ls (i+1)) (if k=0 then trF ls else trH ls (i+1)):=⟨i+1,by omega,rfl,rfl⟩
  have qV:AF B (trT ls (i+1)) (trH ls (i+1)) (trT ls (i+1)) (if k=0 then trF ls else trH ls (i+1)):=by
   split
   ·have:=RP hB ls
    rw [show i+1=ls.length by omega];exact this
   ·exact AF.refl
  have uz:∀{t H},AF B t H (trT ls (i+1)) (trH ls (i+1))→AF B t H (trT ls (i+1)) (if k=0 then trF ls else trH ls (i+1)):=fun h=>h.trans qV
  generalize (if k=0 then trF ls else trH ls (i+1))=Hn at *
  have hH:trH ls (i+1)=[some (.box [.nilSlice,.int .i64 0]),some (.box [Am.av ls,sxE.tk 2 ((Cb (ls.take i)).L++[(Eg (B8 s)).1.x]),wrE.tk 3 ((Cb (ls.take i)).W++[(Eg (B8 s)).2]),.int .i64 0,.nilSlice,.int .i64 0,.bool false]),AW ((Cb (ls.take i)).L++[(Eg (B8 s)).1.x]),AW ((Cb (ls.take i)).W++[(Eg (B8 s)).2])]:=by unfold trH;rw [hz];simp [Zs.L,Zs.W]
  rw [hH] at uz;clear hH qV hz qS;simp only [Fh] at g1;generalize (Eg (B8 s)).1.x=x at *;generalize (Eg (B8 s)).2=e at *;simp only [Sx.c,Lj] at g1;have w1:IntKind.i64.wrap ((i:Int)+1)=(i:Int)+1:=Ab (by omega) (by omega);have hi':(i:Int)<ls.length:=by omega
  unfold trH;have uU:(Cb (ls.take i)).L.length=i:=by rw [Zs.L_len,pw]
  have uV:(Cb (ls.take i)).W.length=i:=by rw [Zs.W_len,pw]
  generalize (Cb (ls.take i)).L=L at *;generalize (Cb (ls.take i)).W=W at *
  by_cases h0:i=0
  ·subst h0
   obtain rfl:=List.eq_nil_of_length_eq_zero uU;obtain rfl:=List.eq_nil_of_length_eq_zero uV;simp only [List.nil_append] at uz;have a1:=fun H ow fid=>I3 sxE (P:=zP) (H:=H) (ow:=ow) (fid:=fid) RN x
   have a2:=fun H ow fid=>I3 wrE (P:=zP) (H:=H) (ow:=ow) (fid:=fid) RO e
   have e1:sxE.c x=x.c:=rfl;have e2:wrE.c e=[erP e,.int .i64 (erC e)]:=rfl;have e3:sxE.sz=29:=rfl;have e4:wrE.sz=2:=rfl;rw [e1,Sx.c,e3] at a1;rw [e2,e4] at a2;have i1:=fun k=>Hi sxE k (l:=[x]) (by simp)
   have i2:=fun k=>Hi wrE k (l:=[e]) (by simp)
   have t1:AW [x]=some (.tok 1):=rfl;have t2:AW [e]=some (.tok 1):=rfl;rw [t1,t2] at uz;simp [trT,hi,hi',g0,g1];refine LpD.turns X hG [7,10] [(0,7)] (by kernel_rfl) ?_;simp [a1,i1];refine LpD.turns X hG [7,10] [(0,7)] (by kernel_rfl) ?_;simp [a2,w1,i1,i2]
   refine Nxt.mk k (by omega) (uz (AF.mkV 100 (fun i=>if i=2 then 6 else if i=3 then 7 else i) 4 (by simp [hB]) (by
    intro i j hi hj h
    rcases (by omega:i=0∨i=1∨i=2∨i=3) with rfl|rfl|rfl|rfl<;>rcases (by omega:j=0∨j=1∨j=2∨j=3) with rfl|rfl|rfl|rfl<;>simp at h ⊢) (by simp [hB]) rfl (by
    intro i hi;rcases (by omega:i=0∨i=1∨i=2∨i=3) with rfl|rfl|rfl|rfl
    ·simp [AH.at,AI,AM,ren]
    ·simp [AH.at,AI,AM,ren,Enc.av_ren,Enc.tk_ren]
    ·simp [AH.at,AI]
    ·simp [AH.at,AI]) (by simp [Enc.tk_low]) (by
    have w0:IntKind.i64.wrap 1=1:=by decide
    simp [ren,Enc.av_ren,w0]))) hI
  ·have vf:L≠[]:=fun h=>by rw [h] at uU;exact h0 uU.symm
   have xO:W≠[]:=fun h=>by rw [h] at uV;exact h0 uV.symm
   have a1:=fun H ow fid (h:AH.at H 2=some (.tok i))=>I2 sxE (P:=zP) (H:=H) (ow:=ow) (fid:=fid) (k:=2) RN L x vf (by rw [uU];exact h) (by omega)
   have a2:=fun H ow fid (h:AH.at H 3=some (.tok i))=>I2 wrE (P:=zP) (H:=H) (ow:=ow) (fid:=fid) (k:=3) RO W e xO (by rw [uV];exact h) (by omega)
   have t1:AW L=some (.tok i):=by rw [Cs vf,uU]
   have t2:AW W=some (.tok i):=by rw [Cs xO,uV]
   have t3:AW (L++[x])=some (.tok (i+1)):=by rw [Cs (by simp),List.length_append,uU];rfl
   have t4:AW (W++[e])=some (.tok (i+1)):=by rw [Cs (by simp),List.length_append,uV];rfl
   have e1:sxE.c x=x.c:=rfl;have e2:wrE.c e=[erP e,.int .i64 (erC e)]:=rfl;have e3:sxE.sz=29:=rfl;have e4:wrE.sz=2:=rfl;rw [e1,Sx.c,uU,e3] at a1;rw [e2,uV,e4] at a2;rw [t3,t4] at uz;rw [t1,t2];have i1:=Hi sxE 2 vf;have i2:=Hi wrE 3 xO;have i3:=Hi sxE 2 (l:=L++[x]) (by simp);have i4:=Hi wrE 3 (l:=W++[e]) (by simp);simp [trT,hi,hi',g0,g1,i1,i2];refine LpD.turns X hG [7,10] [(0,7)] (by kernel_rfl) ?_;simp [a1,i1,i2,i3];refine LpD.turns X hG [7,10] [(0,7)] (by kernel_rfl) ?_;simp [a2,w1,i2,i3,i4];refine Nxt.mk k (by omega) (uz (AF.mkK 4 (by simp [hB]) (by simp) (by simp) (by simp [Enc.tk_low]))) hI
end Go.Proofs.YtejjlojfgcgopaaGreatDoor
