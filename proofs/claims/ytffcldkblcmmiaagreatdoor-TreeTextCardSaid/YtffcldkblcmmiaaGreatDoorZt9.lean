/- The reference's reader of statements: must, sign, name, numb .. The program's trees: Of, its loop. -/
import Derived.Test.YtffcldkblcmmiaaGreatDoorZt8
set_option linter.unusedSimpArgs false
set_option linter.unusedVariables false
namespace Go.Proofs.YtffcldkblcmmiaaGreatDoor
open Go.RowKit Go.Proofs.Fw
set_option maxRecDepth 100000
set_option maxHeartbeats 4000000
noncomputable def EU (ts:List Wd):AF zP AG:=AF.meth 65 (Sr.mc ts) (GJ ts) (fun (_:Nat × Nat) r=>AO r.err) (fun _ x=>[.int .i64 (x.1:Int),.int .i64 (x.2:Int)]) (fun _ _ => .tup []) (fun x r=>r.fail x.1 x.2)
 (fun x r he H id hH=>oL ts r he x.1 x.2 hH) (fun id x y r _ _ h=>by
  obtain ⟨a,b⟩:=x;obtain ⟨c,d⟩:=y;simp only [List.cons.injEq,AV.int.injEq,true_and,and_true] at h;have e1:a=c:=by omega
  have e2:b=d:=by omega
  rw [e1,e2]
  exact ⟨rfl,rfl⟩)
noncomputable def IN (ts:List Wd):AF zP AG:=AF.meth 88 (Sr.mc ts) (GJ ts) (fun (x:Nat × List UInt8) r=>AO r.err∧x.2≠[]) (fun _ x=>[.int .i64 (x.1:Int),.str x.2]) (fun x r => .bool (isW ts r x.1 x.2)) (fun _ r=>r)
 (fun x r h H id hH=>oM ts r h.1 x.1 x.2 h.2 hH) (fun id x y r _ _ h=>by
  obtain ⟨a,b⟩:=x;obtain ⟨c,d⟩:=y;simp only [List.cons.injEq,AV.int.injEq,AV.str.injEq,true_and,and_true] at h;have e1:a=c:=by omega
  rw [e1,h.2]
  exact ⟨rfl,rfl⟩)
section
variable {L:List (AF zP AG)} {ts:List Wd}
theorem OI (hL:(L.map (·.f)).Nodup) (hF:EU ts∈L) (r:Sr) (he:AO r.err) (p c:Int) (hp:0≤p) (hc:0≤c) (H:AH):oOf L 65 [.ptr 0 0,.int .i64 p,.int .i64 c] (some (.box [AD ts,.int .i64 (r.at_:Int),erP r.err,.int .i64 (erC r.err)])::H) =
  some (.tup [],some (.box [AD ts,.int .i64 (r.at_:Int),erP (some (r.err.getD ([(Bo,p.toNat)],c.toNat))),.int .i64 (erC (some (r.err.getD ([(Bo,p.toNat)],c.toNat))))])::H):=by
 have:=B0 hL hF (p.toNat,c.toNat) r (H:=some (.box (r.mc ts))::H) (id:=0) rfl he;simpa [Sr.mc,Sr.fail,Int.toNat_of_nonneg hp,Int.toNat_of_nonneg hc] using this
theorem OJ (hL:(L.map (·.f)).Nodup) (hF:IN ts∈L) (r:Sr) (he:AO r.err) (k:Nat) (s:List UInt8) (hs:s≠[]) (H:AH):oOf L 88 [.ptr 0 0,.int .i64 (k:Int),.str s] (some (.box [AD ts,.int .i64 (r.at_:Int),erP r.err,.int .i64 (erC r.err)])::H) =
  some (.bool (isW ts r k s),some (.box [AD ts,.int .i64 (r.at_:Int),erP r.err,.int .i64 (erC r.err)])::H):=by
 have:=B0 hL hF (k,s) r (H:=some (.box (r.mc ts))::H) (id:=0) rfl ⟨he,hs⟩;simpa [Sr.mc] using this
end
theorem oN (ts:List Wd) (r:Sr) (he:AO r.err) (hr:r.at_<1000000000) (k:Nat) (s:List UInt8) (hs:s≠[]) {H:AH} {id:Nat} (hH:H.at id=some (.box (r.mc ts))) :
  CS zP AG 63 [.ptr id 0,.int .i64 (k:Int),.str s] H (.tup []) (H.set id (some (.box ((Bp ts r k s).mc ts)))):=by
 refine CS.rd BL Tryz.func63 (by kernel_rfl) 0 (by simp [Tryz.f63]) (fun B hB hG => ?_) (by simp) rfl (DD _ _) (DD _ _) hH;have hL:([EU ts,IN ts].map (·.f)).Nodup:=show ([65,88]:List Nat).Nodup by decide
 have X:=Bq [EU ts,IN ts] Bw Ae;have h1:=OI hL (ts:=ts) (by simp) r he r.at_ 2 (by omega) (by omega);have h2:=OJ hL (ts:=ts) (by simp) r he k s hs;generalize oOf [EU ts,IN ts]=O at X h1 h2;refine Tr.goD X hG ?_;have w1:IntKind.i64.wrap ((r.at_:Int)+1)=(r.at_:Int)+1:=AZ (by omega) (by omega);simp at h1;cases hw:isW ts r k s with
 |true =>rw [hw] at h2;simp [Tryz.f63,Sr.mc,h1,h2,w1,Bp,hw,Sr.step]
 |false =>rw [hw] at h2;simp [Tryz.f63,Sr.mc,h1,h2,w1,Bp,hw,Sr.step,Sr.fail]
theorem oO (ts:List Wd) (sT:ts.length<1000000) (r:Sr) (he:AO r.err) (s:List UInt8) (hs:s≠[]) {H:AH} {id:Nat} (hH:H.at id=some (.box (r.mc ts))) :
  CS zP AG 113 [.ptr id 0,.str s] H (.bool (isW ts r 3 s)) (H.set id (some (.box ((CO ts r 3 s).mc ts)))):=by
 refine CS.rd BL Tryz.func113 (by kernel_rfl) 0 (by simp [Tryz.f113]) (fun B hB hG => ?_) (by simp) rfl (DD _ _) (DD _ _) hH;have hL:([IN ts].map (·.f)).Nodup:=show ([88]:List Nat).Nodup by decide
 have X:=Bq [IN ts] Bw Ae;have h2:=OJ hL (ts:=ts) (by simp) r he 3 s hs;generalize oOf [IN ts]=O at X h2;refine Tr.goD X hG ?_;simp at h2;cases hw:isW ts r 3 s with
 |true =>have hl:=(D8 hw).1;have w1:IntKind.i64.wrap ((r.at_:Int)+1)=(r.at_:Int)+1:=AZ (by omega) (by omega);rw [hw] at h2;simp [Tryz.f113,Sr.mc,h2,w1,CO,hw,Sr.step]
 |false =>rw [hw] at h2;simp [Tryz.f113,Sr.mc,h2,CO,hw]
theorem oP (ts:List Wd) (sT:ts.length<1000000) (r:Sr) (he:AO r.err) {H:AH} {id:Nat} (hH:H.at id=some (.box (r.mc ts))) :
  CS zP AG 114 [.ptr id 0] H (.str (B8 ts r).1) (H.set id (some (.box ((B8 ts r).2.mc ts)))):=by
 refine CS.rd BL Tryz.func114 (by kernel_rfl) 0 (by simp [Tryz.f114]) (fun B hB hG => ?_) (by simp) rfl (DD _ _) (DD _ _) hH;have hL:([EU ts].map (·.f)).Nodup:=show ([65]:List Nat).Nodup by decide
 have X:=Bq [EU ts] Bw Ae;have h1:=OI hL (ts:=ts) (by simp) r he r.at_ 2 (by omega) (by omega);generalize oOf [EU ts]=O at X h1;refine Tr.goD X hG ?_;obtain ⟨a,e⟩:=r;simp at h1;simp [Tryz.f114,Sr.mc];refine LpD.turns X hG [] [] ?_;cases e with
 |some y =>
  have h0:(erC (some y)==0)=false:=by rw [Hu he];rfl
  have h0':¬erC (some y)=0:=by rwa [beq_eq_false_iff_ne] at h0
  have h0n:(erC (some y) != 0)=true:=by rw [bne,h0];rfl
  simp at h1;simp [h0n,h0',h1,B8,isW,Sr.fail]
 |none =>
  by_cases hl:a<ts.length
  ·have hl':(a:Int)<ts.length:=by omega
   obtain ⟨w,hw⟩:∃w,ts[a]? = some w:=⟨_,List.getElem?_eq_getElem hl⟩
   obtain ⟨c0,c1,c3⟩:=Eh hw;have hn:=RB (ts:=ts) (r:=⟨a,none⟩) rfl hw 1;have w1:IntKind.i64.wrap ((a:Int)+1)=(a:Int)+1:=AZ (by omega) (by omega);have w2:IntKind.i64.wrap (a:Int)=(a:Int):=AZ (by omega) (by omega);have u0:¬ts.length≤a:=by omega
   have vn:ts[a]=w:=by rw [List.getElem?_eq_getElem hl] at hw;injection hw
   simp [erC] at h1
   by_cases hk:w.kind=1
   ·rw [hk] at hn
    simp [erC,hl,hl',u0,hk,c0,w1,Sr.step];refine LpD.turns X hG [] [] ?_;simp [hl,hl',u0,c1,w2,B8,hn,hw,vn,Sr.step,erC]
   ·have hk':((w.kind:Int)==1)=false:=by rw [beq_eq_false_iff_ne];omega
    have uT:(w.kind==1)=false:=by rw [beq_eq_false_iff_ne];exact hk
    have uU:¬(w.kind:Int)=1:=by omega
    rw [uT] at hn;simp [erC,hl,hl',u0,hk,hk',uU,c0,h1,B8,hn,Sr.fail]
  ·have hl':¬((a:Int)<ts.length):=by omega
   have hw:ts[a]? = none:=List.getElem?_eq_none (by omega);have hn:isW ts ⟨a,none⟩ 1 []=false:=by simp [isW,isK,hw]
   have hg:(ts.length:Int)≤a:=by omega
   have hg':ts.length≤a:=by omega
   simp [erC] at h1;simp [erC,hl',hg,hg',h1,B8,hn,Sr.fail]
theorem oQ (ts:List Wd) (sT:ts.length<1000000) (r:Sr) (he:AO r.err) {H:AH} {id:Nat} (hH:H.at id=some (.box (r.mc ts))) :
  CS zP AG 115 [.ptr id 0] H (.int .i64 ((CI ts r).1:Int)) (H.set id (some (.box ((CI ts r).2.mc ts)))):=by
 refine CS.rd BL Tryz.func115 (by kernel_rfl) 0 (by simp [Tryz.f115]) (fun B hB hG => ?_) (by simp) rfl (DD _ _) (DD _ _) hH;have hL:([EU ts].map (·.f)).Nodup:=show ([65]:List Nat).Nodup by decide
 have X:=Bq [EU ts] Bw Ae;have h1:=OI hL (ts:=ts) (by simp) r he r.at_ 2 (by omega) (by omega);generalize oOf [EU ts]=O at X h1;refine Tr.goD X hG ?_;obtain ⟨a,e⟩:=r;simp at h1;simp [Tryz.f115,Sr.mc];refine LpD.turns X hG [] [] ?_;cases e with
 |some y =>
  have h0:(erC (some y)==0)=false:=by rw [Hu he];rfl
  have h0':¬erC (some y)=0:=by rwa [beq_eq_false_iff_ne] at h0
  have h0n:(erC (some y) != 0)=true:=by rw [bne,h0];rfl
  simp at h1;simp [h0n,h0',h1,CI,isW,Sr.fail]
 |none =>
  by_cases hl:a<ts.length
  ·have hl':(a:Int)<ts.length:=by omega
   obtain ⟨w,hw⟩:∃w,ts[a]? = some w:=⟨_,List.getElem?_eq_getElem hl⟩
   obtain ⟨c0,c1,c3⟩:=Eh hw;have hn:=RB (ts:=ts) (r:=⟨a,none⟩) rfl hw 2;have w1:IntKind.i64.wrap ((a:Int)+1)=(a:Int)+1:=AZ (by omega) (by omega);have w2:IntKind.i64.wrap (a:Int)=(a:Int):=AZ (by omega) (by omega);have u0:¬ts.length≤a:=by omega
   have vn:ts[a]=w:=by rw [List.getElem?_eq_getElem hl] at hw;injection hw
   simp [erC] at h1
   by_cases hk:w.kind=2
   ·rw [hk] at hn
    simp [erC,hl,hl',u0,hk,c0,w1,Sr.step];refine LpD.turns X hG [] [] ?_;simp [hl,hl',u0,c3,w2,CI,hn,hw,vn,Sr.step,erC]
   ·have hk':((w.kind:Int)==2)=false:=by rw [beq_eq_false_iff_ne];omega
    have uT:(w.kind==2)=false:=by rw [beq_eq_false_iff_ne];exact hk
    have uU:¬(w.kind:Int)=2:=by omega
    rw [uT] at hn;simp [erC,hl,hl',u0,hk,hk',uU,c0,h1,CI,hn,Sr.fail]
  ·have hl':¬((a:Int)<ts.length):=by omega
   have hw:ts[a]? = none:=List.getElem?_eq_none (by omega);have hn:isW ts ⟨a,none⟩ 2 []=false:=by simp [isW,isK,hw]
   have hg:(ts.length:Int)≤a:=by omega
   have hg':ts.length≤a:=by omega
   simp [erC] at h1;simp [erC,hl',hg,hg',h1,CI,hn,Sr.fail]
theorem XA (n:Nat) (l:List Wd):Cc n (A7 l)=A7 l:=FH n _ (ID l)
theorem oS (ts:List Wd) (a:Nat):(A7 ts).drop (a*4)=A7 (ts.drop a):=by
 induction a generalizing ts with
 |zero=>simp
 |succ a ih =>
  cases ts with
  |nil=>simp [A7]
  |cons w ts =>have hc:A7 (w::ts)=BD w++A7 ts:=rfl;have hx:(BD w).length=4:=rfl;rw [hc,List.drop_append,List.drop_of_length_le (by omega),hx,List.nil_append,show (a+1)*4-4=a*4 by omega,ih,List.drop_succ_cons]
theorem oT (ts:List Wd) (sT:ts.length<1000000) (r:Sr) {H:AH} {id:Nat} (hH:H.at id=some (.box (r.mc ts))) :
  CS zP AG 90 [.ptr id 0] H (AD (ts.drop r.at_)) (H.set id (some (.box (r.mc ts)))):=by
 refine CS.rd BL Tryz.func90 (by kernel_rfl) 0 (by simp [Tryz.f90]) (fun B hB hG => ?_) (by simp) (by simp) (DD _ _) (DD _ _) hH;refine Tr.goD DX hG ?_;obtain ⟨a,e⟩:=r;simp [Tryz.f90,Sr.mc];refine LpD.turns DX hG [] [] ?_
 by_cases hl:a<ts.length
 ·have u0:¬ts.length≤a:=by omega
  have zAi:¬(ts.length:Int)≤a:=by omega
  have sU:ts≠[]:=by rintro rfl;simp at hl
  have hd:ts.drop a≠[]:=by intro h;have:=congrArg List.length h;simp at this;omega
  have hdc:=oS ts a;have sy:(A7 (ts.drop a)).take ((ts.length-a)*4)=A7 (ts.drop a):=List.take_of_length_le (by rw [KW,List.length_drop];omega);have e1:(a:Int)≤ts.length:=by omega
  have e2:a≤ts.length:=by omega
  simp [u0,zAi];refine LpD.turns DX hG [] [] ?_
  by_cases h0:a=0
  ·subst h0
   have e3:(A7 ts).take (ts.length*4)=A7 ts:=List.take_of_length_le (by rw [KW];omega);simp [AD,sU,e3,XA]
  ·simp [AD,sU,hd,hdc,sy,e1,e2,h0,XA]
 ·have u0:ts.length≤a:=by omega
  have zAi:(ts.length:Int)≤a:=by omega
  have hd:ts.drop a=[]:=List.drop_of_length_le u0;have vf:AD ([]:List Wd) = .nilSlice:=rfl;simp [u0,zAi,hd,vf]
def erA (e:Er):AV := .agg [erP e,.int .i64 (erC e)]
@[simp] theorem L8 (e:Er):erA e = .agg [erP e,.int .i64 (erC e)]:=AP rfl
def inE (w:List UInt8) (p:Nat) (e:Er):Er:=e.map fun x=>((w,p)::x.1,x.2)
theorem oU:B6 zP 31 2=true:=by kernel_rfl
theorem XB:∀l,(B3 l).all AV.one=true
 |[]=>rfl
 |(w,p)::l=>by simp [B3,XB l]
theorem oV (w:List UInt8) (p:Nat) (l:List (List UInt8 × Nat)):CB ((w,p)::l)=(w,(p:Int))::CB l:=rfl
theorem oW (n:Nat) (l):Cc n (B3 l)=B3 l:=FH n _ (L7 l)
@[simp] theorem buPt (w:List UInt8) (p:Int):Ay zP 87 [(0,.str w),(1,.int .i64 p)]=some (.agg [.str w,.int .i64 p]):=by kernel_rfl
@[simp] theorem bsPt (w:List UInt8) (p:Int):Cr zP 31 1 [(0,.agg [.str w,.int .i64 p])]=some (.slice .full 2 1 [.str w,.int .i64 p]):=by kernel_rfl
@[simp] theorem buWr2 (ow:Own) (sz n:Nat) (cs:List AV) (c:Int):Ay zP 33 [(0,.slice ow sz n cs),(1,.int .i64 c)]=some (.agg [.slice ow sz n cs,.int .i64 c]):=by kernel_rfl
theorem oX (w:List UInt8) (p:Nat) (e:Er) (he:AO e) (hl:∀l c,e=some (l,c)→l.length<1000) (H:AH) :
  CS zP AG 60 [.str w,.int .i64 (p:Int),erA e] H (erA (inE w p e)) H:=by
 refine CS.tr0 BL Tryz.func60 (by kernel_rfl) 0 (by simp [Tryz.f60]) (fun B hB hG => ?_) (by simp) (by simp) H;refine Tr.goD DX hG ?_;cases e with
 |none=>simp [Tryz.f60,erC,erP,inE]
 |some y =>
  obtain ⟨l,c⟩:=y;have hc:¬(c:Int)=0:=by have:=(he l c rfl).2;omega
  have hc':((c:Int)==0)=false:=by rw [beq_eq_false_iff_ne];exact hc
  have tG:=hl l c rfl;have ss:l≠[]:=(he l c rfl).1;have tz:0<l.length:=List.length_pos_iff.2 ss;have sb:=fun H ow fid=>Pm (P:=zP) (t:=31) (sz:=2) (n:=1) (m:=l.length) (H:=H) (fid:=fid) (ow:=ow) (xs:=[.str w,.int .i64 (p:Int)]) (ys:=B3 (CB l)) oU tz (by omega) (XB _)
  have h2:¬l.length+1=1:=by omega
  have h3:1+l.length=l.length+1:=by omega
  simp [Tryz.f60,erC,erP,hc,hc'];refine LpD.turns DX hG [6,10] [(6,7),(6,8)] ?_;simp [sb,inE,erC,erP,h2,h3,ss,oV,B3,L7,oW]
theorem zAE (x:Option (Nat × Nat)):DJ x=erA (xE x):=by
 cases x with
 |none=>rfl
 |some y=>rfl
noncomputable def IP:AF zP AG:=AF.pure 60 (fun x:List UInt8 × Nat × Er=>AO x.2.2∧∀l c,x.2.2=some (l,c)→l.length<1000) (fun x=>[.str x.1,.int .i64 (x.2.1:Int),erA x.2.2]) (fun x=>erA (inE x.1 x.2.1 x.2.2))
 (fun x h H=>oX x.1 x.2.1 x.2.2 h.1 h.2 H) (fun x y _ _ h=>by
  obtain ⟨a,b,c⟩:=x;obtain ⟨a',b',c'⟩:=y;simp only [L8,List.cons.injEq,AV.int.injEq,AV.str.injEq,AV.agg.injEq,true_and,and_true] at h;have e1:b=b':=by omega
  have e2:=OH h.2.2.1 h.2.2.2;simp only
  rw [h.1,e1,e2])
theorem XC {L:List (AF zP AG)} (hL:(L.map (·.f)).Nodup) (hF:IP∈L) (w:List UInt8) (p:Int) (hp:0≤p) (e:Er) (he:AO e) (hl:∀l c,e=some (l,c)→l.length<1000) (H:AH) :
  oOf L 60 [.str w,.int .i64 p,.agg [erP e,.int .i64 (erC e)]] H=some (.agg [erP (inE w p.toNat e),.int .i64 (erC (inE w p.toNat e))],H):=by
 have:=CV hL hF (w,p.toNat,e) ⟨he,hl⟩ H;simpa [Int.toNat_of_nonneg hp] using this
theorem oY (ts:List Wd) (r:Sr) (he:AO r.err) (hr:r.at_<1000000000) (n:Nat) (x:Option (Nat × Nat)) (hn:x=none→n<1000000000) (hx:BN x) (hxp:∀p c,x=some (p,c)→p<1000000000) {H:AH} {id:Nat} (hH:H.at id=some (.box (r.mc ts))) :
  CS zP AG 91 [.ptr id 0,.int .i64 (n:Int),DJ x] H (.tup []) (H.set id (some (.box ((Ci r n x).mc ts)))):=by
 refine CS.rd BL Tryz.func91 (by kernel_rfl) 0 (by simp [Tryz.f91]) (fun B hB hG => ?_) (by simp [zAE]) rfl (DD _ _) (DD _ _) hH;have hL:([IP].map (·.f)).Nodup:=show ([60]:List Nat).Nodup by decide
 have X:=Bq [IP] Bw Ae;have h1:=XC hL (by simp) Bo;generalize oOf [IP]=O at X h1;refine Tr.goD X hG ?_;obtain ⟨a,e⟩:=r;cases e with
 |some y =>
  have h0:(erC (some y)==0)=false:=by rw [Hu he];rfl
  have h0':¬erC (some y)=0:=by rwa [beq_eq_false_iff_ne] at h0
  simp [Tryz.f91,Sr.mc,zAE,h0',Ci]
 |none =>
  cases x with
  |none =>have hn:=hn rfl;have w1:IntKind.i64.wrap ((a:Int)+(n:Int))=(a:Int)+(n:Int):=AZ (by simp only at hr;omega) (by simp only at hr;omega);simp [Tryz.f91,Sr.mc,zAE,erC,erP,xE,Ci,w1]
  |some y =>
   obtain ⟨p,c⟩:=y;have hp:=hxp p c rfl
   have hc:¬(c:Int)=0:=fun h0=>by
    have:c=0:=by omega
    subst this;exact hx p rfl
   have hcn:¬c=0:=by omega
   have w1:IntKind.i64.wrap ((a:Int)+(p:Int))=(a:Int)+(p:Int):=AZ (by simp only at hr;omega) (by simp only at hr;omega);have h2:=h1 ((a+p:Nat):Int) (by omega) (xE (some (p,c))) (mU hx) (by simp [xE]);simp only [Int.toNat_natCast] at h2;simp [xE,erP,erC,inE,CB,B3,Bo] at h2;simp [Tryz.f91,Sr.mc,zAE,erC,erP,xE,Ci,hc,hcn,CB,B3];refine LpD.turns X hG [12,15] [(0,12)] ?_;simp [h2,w1,CB,B3,Bo]
noncomputable def I8 (ts:List Wd) (sT:ts.length<1000000):AF zP AG:=AF.meth 90 (Sr.mc ts) (GJ ts) (fun (_:Unit) _=>True) (fun _ _=>[]) (fun _ r=>AD (ts.drop r.at_)) (fun _ r=>r)
 (fun _ r _ H id hH=>oT ts sT r hH) (fun id x y r _ _ h=>⟨rfl,rfl⟩)
def K2 (r:Sr) (n:Nat) (x:Option (Nat × Nat)):Prop:=AO r.err∧r.at_<1000000000∧(x=none→n<1000000000)∧BN x∧∀p c,x=some (p,c)→p<1000000000
theorem oZ {x y:Option (Nat × Nat)} (h:DJ x=DJ y):x=y:=by simp only [DJ,AV.agg.injEq,List.cons.injEq,AV.int.injEq,true_and,and_true] at h;exact Vk h.1 h.2
noncomputable def IQ (ts:List Wd):AF zP AG:=AF.meth 91 (Sr.mc ts) (GJ ts) (fun (x:Nat × Option (Nat × Nat)) r=>K2 r x.1 x.2) (fun _ x=>[.int .i64 (x.1:Int),DJ x.2]) (fun _ _ => .tup []) (fun x r=>Ci r x.1 x.2)
 (fun x r h H id hH=>oY ts r h.1 h.2.1 x.1 x.2 h.2.2.1 h.2.2.2.1 h.2.2.2.2 hH) (fun id x y r _ _ h=>by
  obtain ⟨a,b⟩:=x;obtain ⟨c,d⟩:=y;simp only [List.cons.injEq,AV.int.injEq,true_and,and_true] at h;have e1:a=c:=by omega
  rw [e1,oZ h.2]
  exact ⟨rfl,rfl⟩)
noncomputable def OK:AF zP AG:=AF.pure 93 (fun ts:List Wd=>ts.length<1000000) (fun ts=>[AD ts]) (fun ts=>Kv (Bb ts)) (fun ts h H=>mD ts h H) (fun x y _ _ h=>by
 simp only [List.cons.injEq,and_true] at h
 rw [Qy h])
noncomputable def Rb:AF zP AG:=AF.pure 89 (fun ts:List Wd=>ts.length<1000000) (fun ts=>[AD ts]) (fun ts=>Kx (CK ts)) (fun ts h H=>mG ts h H) (fun x y _ _ h=>by
 simp only [List.cons.injEq,and_true] at h
 rw [Qy h])
section
variable {L:List (AF zP AG)} {ts:List Wd}
theorem Rc (sT:ts.length<1000000) (hL:(L.map (·.f)).Nodup) (hF:I8 ts sT∈L) (r:Sr) (H:AH):oOf L 90 [.ptr 0 0] (some (.box [AD ts,.int .i64 (r.at_:Int),erP r.err,.int .i64 (erC r.err)])::H) =
  some (AD (ts.drop r.at_),some (.box [AD ts,.int .i64 (r.at_:Int),erP r.err,.int .i64 (erC r.err)])::H):=by
 have:=B0 hL hF () r (H:=some (.box (r.mc ts))::H) (id:=0) rfl trivial;simpa [Sr.mc] using this
theorem Re (hL:(L.map (·.f)).Nodup) (hF:IQ ts∈L) (r:Sr) (n:Nat) (x:Option (Nat × Nat)) (h:K2 r n x) (H:AH):oOf L 91 [.ptr 0 0,.int .i64 (n:Int),DJ x] (some (.box [AD ts,.int .i64 (r.at_:Int),erP r.err,.int .i64 (erC r.err)])::H) =
  some (.tup [],some (.box [AD ts,.int .i64 ((Ci r n x).at_:Int),erP (Ci r n x).err,.int .i64 (erC (Ci r n x).err)])::H):=by
 have:=B0 hL hF (n,x) r (H:=some (.box (r.mc ts))::H) (id:=0) rfl h;simpa [Sr.mc] using this
theorem oa (hL:(L.map (·.f)).Nodup) (hF:OK∈L) (us:List Wd) (h:us.length<1000000) (H:AH):oOf L 93 [AD us] H=some (Kv (Bb us),H):=CV hL hF us h H
theorem ob (hL:(L.map (·.f)).Nodup) (hF:Rb∈L) (us:List Wd) (h:us.length<1000000) (H:AH):oOf L 89 [AD us] H=some (Kx (CK us),H):=CV hL hF us h H
end
theorem A2:erP none = .nilSlice:=rfl
theorem A3:erC none=0:=rfl
theorem oc {ts:List Wd} (sT:ts.length<1000000) {r:Sr} (he:AO r.err) (hr:r.at_<1000000000):K2 r (Bb (ts.drop r.at_)).2.1 (Bb (ts.drop r.at_)).2.2:=by obtain ⟨h1,h2⟩:=Ky (ts.drop r.at_);rw [List.length_drop] at h1;refine ⟨he,hr,fun _=>by omega,Q7 _,fun p c h => ?_⟩;have:=h2 p c h;rw [List.length_drop] at this;omega
theorem od (ts:List Wd) (sT:ts.length<1000000) (r:Sr) (he:AO r.err) (hr:r.at_<1000000000) {H:AH} {id:Nat} (hH:H.at id=some (.box (r.mc ts))) :
  CS zP AG 64 [.ptr id 0] H (.agg (tC (B9 ts r).1.tn)) (H.set id (some (.box ((B9 ts r).2.mc ts)))):=by
 refine CS.rd BL Tryz.func64 (by kernel_rfl) 0 (by simp [Tryz.f64]) (fun B hB hG => ?_) (by simp) (by simp) (DD _ _) (DD _ _) hH;have hL:([I8 ts sT,OK,IQ ts].map (·.f)).Nodup:=show ([90,93,91]:List Nat).Nodup by decide
 have X:=Bq [I8 ts sT,OK,IQ ts] Bw Ae;have h1:=Rc sT hL (by simp) r;have h2:=oa hL (by simp) (ts.drop r.at_) (by rw [List.length_drop];omega);have h3:=fun H=>Re hL (ts:=ts) (by simp) r _ _ (oc sT he hr) H
 generalize oOf [I8 ts sT,OK,IQ ts]=O at X h1 h2 h3;refine Tr.goD X hG ?_;simp only [Kv,zAE,L8] at h2 h3;cases sx:r.err with
 |some y =>
  have h0':¬erC (some y)=0:=by rw [sx] at he;intro h;have:=(E7 he).1 h;cases this
  simp [Tryz.f64,Sr.mc,sx,h0',B9,Ex.tn,Tn.k,Tn.n,Tn.s,Tn.ar,tC]
 |none =>
  have hx:B9 ts r=((Bb (ts.drop r.at_)).1,Ci r (Bb (ts.drop r.at_)).2.1 (Bb (ts.drop r.at_)).2.2):=by simp [B9,sx]
  rw [hx];generalize Bb (ts.drop r.at_)=x at *;obtain ⟨e,n,q⟩:=x;simp only [sx,A3,A2] at h1 h2 h3 ⊢;generalize Ci r n q=r2 at *;simp only [CY] at h2;simp [Tryz.f64,Sr.mc,sx,A3,A2,h1,h2,h3]
abbrev Dm (ts:List Wd) (r:St):List Ex × St:=Bv ts (Bn ts) r
theorem oe (ts:List Wd):Bm ts (Ar ts (ts.length+1))=Bn ts:=rfl
theorem oh (ts:List Wd) (sT:ts.length<1000000) (a:Nat) (x:Option (Nat × Nat)) (hx:BN x) {H:AH} {id:Nat} (hH:H.at id=some (.box (rrC ts a x))) :
  CS zP AG 92 [.ptr id 0,.int .i64 0] H (.slice .unk 4 (Dm ts ⟨a,0,x⟩).1.length (tsC (Ex.tns (Dm ts ⟨a,0,x⟩).1))) (H.set id (some (.box (rrC ts (Dm ts ⟨a,0,x⟩).2.at_ (Dm ts ⟨a,0,x⟩).2.err)))):=by
 have h1:=Vw sT (Qp sT);have h2:=IH (f0:=92) (spec:=Jn ts (ts.length+1)) (rest:=[.int .i64 0]) hx hH;have hc:(0:Int)≤0∧(0:Int)≤20∧ts.length-a<ts.length+1:=⟨by omega,by omega,by omega⟩
 simp only [Jn,if_pos hc,Option.map_some,oe] at h2;have h3:=(h1 _ _ _ _ _ h2).1
 exact CS.toF (CS.weak h3 fun g cv h=>by
  simp only [AA] at h ⊢;obtain ⟨b,o,cap,vs,rfl,q1,q2,q3,q4,q5⟩:=h;refine ⟨b,o,cap,vs,rfl,Qu g _ vs q1,q2,?_,q4,q5⟩
  rw [Lw,Jr])
noncomputable def OL (ts:List Wd) (sT:ts.length<1000000):AF zP AG:=AF.meth 92 (S:=Nat × Option (Nat × Nat)) (fun r=>rrC ts (r.1:Nat) r.2) (fun r s h=>by
  obtain ⟨e1,e2⟩:=Vl h
  exact Prod.ext e1 e2) (fun (_:Unit) r=>BN r.2) (fun _ _=>[.int .i64 0]) (fun _ r => .slice .unk 4 (Dm ts ⟨r.1,0,r.2⟩).1.length (tsC (Ex.tns (Dm ts ⟨r.1,0,r.2⟩).1))) (fun _ r=>((Dm ts ⟨r.1,0,r.2⟩).2.at_,(Dm ts ⟨r.1,0,r.2⟩).2.err))
 (fun _ r h H id hH=>oh ts sT r.1 r.2 h hH) (fun id x y r _ _ h=>⟨rfl,rfl⟩)
theorem oi {L:List (AF zP AG)} {ts:List Wd} (sT:ts.length<1000000) (hL:(L.map (·.f)).Nodup) (hF:OL ts sT∈L) (e0 e1:Option Ent) (H:AH):oOf L 92 [.ptr 2 0,.int .i64 0] (e0::e1::some (.box [AD ts,.int .i64 2,.nilSlice,.int .i64 0])::H) =
  some (.slice .unk 4 (Dm ts ⟨2,0,none⟩).1.length (tsC (Ex.tns (Dm ts ⟨2,0,none⟩).1)),e0::e1::some (.box [AD ts,.int .i64 ((Dm ts ⟨2,0,none⟩).2.at_:Nat),erP (xE (Dm ts ⟨2,0,none⟩).2.err),.int .i64 (erC (xE (Dm ts ⟨2,0,none⟩).2.err))])::H):=by
 have:=B0 hL hF () (2,none) (H:=e0::e1::some (.box (rrC ts ((2:Nat):Int) none))::H) (id:=2) rfl C1;have hw:=zAE (Dm ts ⟨2,0,none⟩).2.err;simp only [DJ,L8,AV.agg.injEq,List.cons.injEq,AV.int.injEq,true_and,and_true] at hw;simpa [Kq,CH,hw.1,hw.2] using this
def bSw (ts:List Wd) (r:St):Prop:=(r.err=none→r.at_≤ts.length)∧∀p c,r.err=some (p,c)→p≤ts.length
def bW (ts:List Wd) (of:Rd):Prop:=∀r,bS ts r→bSw ts (of r).2
theorem oj (ts:List Wd):okR (CC ts) (Bn ts):=KZ (KZ (Fd ts _) (by decide) 7 8) (by decide) 5 6
theorem XD (ts:List Wd):bW ts (Bn ts):=fun r h=>by have hk:=(oj ts).1 r;have hb:=N0 ts r h;obtain ⟨h1,h2⟩:=hk.1;refine ⟨fun he => ?_,fun p c he=>hb.2 p c (by rw [h1,he])⟩;rw [←h2 (by rw [h1,he])];exact hb.1
theorem XE {ts:List Wd} {sum:Rd} (ho:bW ts sum):∀(n:Nat) (a:List Ex) (r:St),bSw ts r→bSw ts (Cn ts sum n a r).2
 |0,a,r,h=>h
 |n+1,a,r,h=>by
  have xK:∀s,nextB ts r s=true→r.err=none∧r.at_<ts.length:=fun s hn=>by refine ⟨?_,FO hn⟩;simp only [nextB,Bool.and_eq_true,Option.isNone_iff_eq_none] at hn;exact hn.1
  simp only [Cn]
  split
  ·rename_i hn
   obtain ⟨he,hl⟩:=xK _ hn
   split
   ·have:=bS.fail (ts:=ts) (r:=r) ⟨h.1 he,h.2⟩ (h.1 he) 4
    exact ⟨fun _=>this.1,this.2⟩
   ·exact XE ho n _ _ (ho _ ⟨hl,h.2⟩)
  ·unfold CJ
   split
   ·rename_i hn
    obtain ⟨he,hl⟩:=xK _ hn;exact ⟨fun _=>hl,h.2⟩
   ·cases he:r.err with
    |none =>have:=bS.fail (ts:=ts) (r:=r) ⟨h.1 he,h.2⟩ (h.1 he) 2;exact ⟨fun _=>this.1,this.2⟩
    |some x =>rw [KY he];exact h
theorem XF {ts:List Wd} {r:St} (h:bS ts r):bSw ts (Dm ts r).2:=XE (XD ts) 5 _ _ (XD ts r h)
theorem Rf (ts:List Wd) (r:St) (h:BN r.err):BN (Dm ts r).2.err:=Qn (Jp ts) 5 _ _ (Jp ts r h)
theorem ol {ts:List Wd} (sT:ts.length<1000000) {r:Sr} (he:AO r.err) (hr:r.at_<1000000000) (h2:2≤(ts.drop r.at_).length):K2 r (Dm (ts.drop r.at_) ⟨2,0,none⟩).2.at_ (Dm (ts.drop r.at_) ⟨2,0,none⟩).2.err:=by
 obtain ⟨h1,h3⟩:=XF (ts:=ts.drop r.at_) (r:=⟨2,0,none⟩) ⟨h2,fun p c h=>by cases h⟩;rw [List.length_drop] at h1;refine ⟨he,hr,fun h => ?_,Rf _ _ C1,fun p c h => ?_⟩
 ·have:=h1 h;omega
 ·have:=h3 p c h
  rw [List.length_drop] at this;omega
@[simp high] theorem sN {l:List Wd} (h:0<l.length):Au zP 162 (AD l) (.int .i64 0)=some (.vptr (A7 l) 0):=by simpa using Vj (l:=l) (i:=0) h
@[simp high] theorem sO {l:List Wd} (h:1<l.length):Au zP 162 (AD l) (.int .i64 1)=some (.vptr (A7 l) 4):=by simpa using Vj (l:=l) (i:=1) h
@[simp] theorem buRR2 (ts:List Wd) (n:Int):Ay zP 204 [(0,AD ts),(1,.int .i64 n)]=some (.agg [AD ts,.int .i64 n,.nilSlice,.int .i64 0]):=by
 unfold AD
 split<;>kernel_rfl
theorem om (ts:List Wd) (sT:ts.length<1000000) (r:Sr) (he:AO r.err) (hr:r.at_<1000000000) {H:AH} {id:Nat} (hH:H.at id=some (.box (r.mc ts))) :
  CS zP AG 62 [.ptr id 0] H (.agg (tC (CM ts r).1.tn)) (H.set id (some (.box ((CM ts r).2.mc ts)))):=by
 refine CS.rd BL Tryz.func62 (by kernel_rfl) 0 (by simp [Tryz.f62]) (fun B hB hG => ?_) (by simp) (by simp) (DD _ _) (DD _ _) hH;have wO:(ts.drop r.at_).length<1000000:=by rw [List.length_drop];omega
 have hL:([EU ts,I8 ts sT,OL (ts.drop r.at_) wO,IQ ts].map (·.f)).Nodup:=show ([65,90,92,91]:List Nat).Nodup by decide
 have X:=Bq [EU ts,I8 ts sT,OL (ts.drop r.at_) wO,IQ ts] Bw Ae;have h0:=OI hL (ts:=ts) (by simp) r he r.at_ 2 (by omega) (by omega);have h1:=Rc sT hL (by simp) r;have h2:=fun e0 e1 H=>oi (ts:=ts.drop r.at_) wO hL (by simp) e0 e1 H
 have h3:=fun yB H=>Re hL (ts:=ts) (by simp) r _ _ (ol sT he hr yB) H
 generalize oOf [EU ts,I8 ts sT,OL (ts.drop r.at_) wO,IQ ts]=O at X h0 h1 h2 h3;refine Tr.goD X hG ?_;simp only [zAE,L8] at h3;obtain ⟨a,e⟩:=r;simp at h0;simp [Tryz.f62,Sr.mc];refine LpD.turns X hG [] [] ?_;cases e with
 |some y =>
  have hq:(erC (some y)==0)=false:=by rw [Hu he];rfl
  have hq':¬erC (some y)=0:=by rwa [beq_eq_false_iff_ne] at hq
  have hqn:(erC (some y) != 0)=true:=by rw [bne,hq];rfl
  simp at h0;simp [hqn,hq',h0,CM,isW,Sr.fail,Ex.tn,Tn.k,Tn.n,Tn.s,Tn.ar,tC]
 |none =>
  by_cases hl:a<ts.length
  ·have hl':(a:Int)<ts.length:=by omega
   obtain ⟨w,hw⟩:∃w,ts[a]? = some w:=⟨_,List.getElem?_eq_getElem hl⟩
   obtain ⟨c0,c1,c3⟩:=Eh hw;have hn:=RB (ts:=ts) (r:=⟨a,none⟩) rfl hw 1;have u0:¬ts.length≤a:=by omega
   have vn:ts[a]=w:=by rw [List.getElem?_eq_getElem hl] at hw;injection hw
   simp [erC] at h0
   by_cases hk:w.kind=1
   ·rw [hk] at hn
    have vh:(ts.drop a)[0]? = some w:=by rw [List.getElem?_drop];exact hw
    have sr:(ts.drop a)[1]? = ts[a+1]? := by rw [List.getElem?_drop]
    have hdn:(ts.drop a).length=ts.length-a:=List.length_drop
    have zBi:CM ts ⟨a,none⟩=if isK ts (a+1) 3 Ah then (.elem w.text (Dm (ts.drop a) ⟨2,0,none⟩).1,Ci ⟨a,none⟩ (Dm (ts.drop a) ⟨2,0,none⟩).2.at_ (Dm (ts.drop a) ⟨2,0,none⟩).2.err) else (.var w.text,⟨a+1,none⟩):=by simp [CM,hn,hw,vn,Sr.step]
    simp only [A2,A3] at h1 h2 h3;generalize ts.drop a=l at *;have sc:0<l.length:=by omega
    have yC:¬l=[]:=List.length_pos_iff.1 sc;obtain ⟨k0,k1,_⟩:=Eh vh;simp at k0 k1;simp [A3,A2,hl,hl',u0,hk,c0,h1];have w1:IntKind.i64.wrap ((a:Int)+1)=(a:Int)+1:=AZ (by omega) (by omega);have zAj:isK ts (a+1) 3 Ah=false→CM ts ⟨a,none⟩=(.var w.text,⟨a+1,none⟩):=fun h=>by rw [zBi,h];rfl
    by_cases yB:l.length<2
    ·have hK:isK ts (a+1) 3 Ah=false:=by
      have:ts[a+1]? = none:=List.getElem?_eq_none (by omega);simp only [isK,this]
     have y7:(l.length:Int)<2:=by omega
     have h2x:¬(2:Int)≤l.length:=by omega
     have h2y:¬2≤l.length:=by omega
     rw [zAj hK];simp [yB,y7,h2x,h2y,sc,yC,k1,w1,Ex.tn,Tn.k,Tn.n,Tn.s,Tn.ar,tC,A2,A3]
    ·have y7:¬(l.length:Int)<2:=by omega
     have h2m:2≤l.length:=by omega
     have zAl:(2:Int)≤l.length:=by omega
     obtain ⟨v,hv⟩:∃v,l[1]? = some v:=⟨_,List.getElem?_eq_getElem (by omega)⟩
     have i1:1<l.length:=by omega
     obtain ⟨q0,q1,_⟩:=Eh hv;simp at q0 q1;rw [sr] at hv;have hK:=WT hv (s:=Ah) (by decide) 3
     by_cases xR:v.kind=3
     ·by_cases xu:v.text=Ah
      ·have y8:isK ts (a+1) 3 Ah=true:=by rw [hK];simp [xR,xu]
       rw [zBi,y8];simp only [if_true];have zAm:v.text=[40]:=xu;have h3:=h3 (by omega);generalize Dm l ⟨2,0,none⟩=p at *;obtain ⟨xs,⟨b,dd,q⟩⟩:=p;simp only at h2 h3 ⊢;generalize Ci ⟨a,none⟩ b q=r2 at *;have tlow:=Kr (Ex.tns xs);simp [yB,y7,h2m,zAl,sc,yC,i1,k1,q0,q1,xR,zAm,h2];refine LpD.turns X hG [9] [] ?_;have hws:AD l = .slice .unk 4 l.length (A7 l):=if_neg yC;simp [h3,hws,sc,yC,k1,Ex.tn,Tn.k,Tn.n,Tn.s,Tn.ar,tC,A2,A3,Jr,tlow,FH]
      ·have y8:isK ts (a+1) 3 Ah=false:=by
        rw [hK];simp only [Bool.and_eq_false_iff,beq_eq_false_iff_ne];exact .inr xu
       have zAm:¬v.text=[40]:=xu;rw [zAj y8];simp [yB,y7,h2m,zAl,sc,yC,i1,k1,q0,q1,xR,zAm,w1,Ex.tn,Tn.k,Tn.n,Tn.s,Tn.ar,tC,A2,A3]
     ·have y8:isK ts (a+1) 3 Ah=false:=by
       rw [hK];simp only [Bool.and_eq_false_iff,beq_eq_false_iff_ne];exact .inl xR
      have zCR:¬(v.kind:Int)=3:=by omega
      rw [zAj y8];simp [yB,y7,h2m,zAl,sc,yC,i1,k1,q0,q1,xR,zCR,w1,Ex.tn,Tn.k,Tn.n,Tn.s,Tn.ar,tC,A2,A3]
   ·have hk':((w.kind:Int)==1)=false:=by rw [beq_eq_false_iff_ne];omega
    have uT:(w.kind==1)=false:=by rw [beq_eq_false_iff_ne];exact hk
    have uU:¬(w.kind:Int)=1:=by omega
    rw [uT] at hn;simp [erC,hl,hl',u0,hk,hk',uU,c0,h0,CM,hn,Sr.fail,Ex.tn,Tn.k,Tn.n,Tn.s,Tn.ar,tC]
  ·have hl':¬((a:Int)<ts.length):=by omega
   have hw:ts[a]? = none:=List.getElem?_eq_none (by omega);have hn:isW ts ⟨a,none⟩ 1 []=false:=by simp [isW,isK,hw]
   have hg:(ts.length:Int)≤a:=by omega
   have hg':ts.length≤a:=by omega
   simp [erC] at h0;simp [erC,hl',hg,hg',h0,CM,hn,Sr.fail,Ex.tn,Tn.k,Tn.n,Tn.s,Tn.ar,tC]
theorem OM (ts:List Wd) (r:Sr):r.at_≤(B8 ts r).2.at_∧(r.at_≤ts.length→(B8 ts r).2.at_≤ts.length)∧(AO r.err→AO (B8 ts r).2.err):=by
 unfold B8
 split
 ·rename_i h
  have:=(D8 h).1;exact ⟨Nat.le_succ _,fun _=>this,fun h=>h⟩
 ·exact ⟨Nat.le_refl _,fun h=>h,fun h=>Sr.fail_ok h _ (by decide)⟩
theorem ON (ts:List Wd) (r:Sr):r.at_≤(CI ts r).2.at_∧(r.at_≤ts.length→(CI ts r).2.at_≤ts.length)∧(AO r.err→AO (CI ts r).2.err):=by
 unfold CI
 split
 ·rename_i h
  have:=(D8 h).1;exact ⟨Nat.le_succ _,fun _=>this,fun h=>h⟩
 ·exact ⟨Nat.le_refl _,fun h=>h,fun h=>Sr.fail_ok h _ (by decide)⟩
theorem XG (ts:List Wd):∀(n:Nat) (d:List Int) (r:Sr),r.at_≤(DC ts n d r).2.at_∧(r.at_≤ts.length→(DC ts n d r).2.at_≤ts.length)∧(AO r.err→AO (DC ts n d r).2.err)
 |0,d,r=>⟨Nat.le_refl _,fun h=>h,fun h=>h⟩
 |n+1,d,r=>by
  simp only [DC];obtain ⟨r1,s6⟩:∃r1,r1=if 4≤d.length then r.fail (r.at_-1) 4 else r:=⟨_,rfl⟩
  rw [←s6]
  have h1:r1.at_=r.at_∧(AO r.err→AO r1.err):=by
   rw [s6]
   split
   ·exact ⟨rfl,fun h=>Sr.fail_ok h _ (by decide)⟩
   ·exact ⟨rfl,fun h=>h⟩
  obtain ⟨a1,a2,a3⟩:=ON ts r1;generalize CI ts r1=m at *;obtain ⟨r2,sx⟩:∃r2,r2=if m.2.err=none∧m.1=0 then m.2.fail r1.at_ 1 else m.2:=⟨_,rfl⟩
  rw [←sx]
  have h2:r2.at_=m.2.at_∧(AO m.2.err→AO r2.err):=by
   rw [sx]
   split
   ·exact ⟨rfl,fun h=>Sr.fail_ok h _ (by decide)⟩
   ·exact ⟨rfl,fun h=>h⟩
  split
  ·rename_i hc
   have hl:=(D8 hc).1;obtain ⟨b1,b2,b3⟩:=XG ts n (d++[(m.1:Int)]) r2.step;simp only [Sr.step] at b1 b2 b3;refine ⟨by simp only [Sr.step];omega,fun h=>b2 (by omega),fun h=>b3 (h2.2 (a3 (h1.2 h)))⟩
  ·exact ⟨by simp only;omega,fun h=>by have:=a2 (by omega);simp only;omega,fun h=>h2.2 (a3 (h1.2 h))⟩
theorem FU (ts:List Wd) (r:Sr) (k:Nat) (s:List UInt8):(Bp ts r k s).at_=r.at_+1∧(AO r.err→AO (Bp ts r k s).err)∧((Bp ts r k s).err=none→r.at_<ts.length):=by
 unfold Bp
 split
 ·rename_i h
  exact ⟨rfl,fun h=>h,fun _=>(D8 h).1⟩
 ·exact ⟨rfl,fun h=>Sr.fail_ok h _ (by decide),fun h=>by simp [Sr.step,Sr.fail] at h⟩
theorem Rg (ts:List Wd) (r:Sr) (hr:r.at_≤ts.length):r.at_≤(CA ts r).2.at_∧(CA ts r).2.at_≤ts.length+1∧(AO r.err→AO (CA ts r).2.err):=by
 simp only [CA];obtain ⟨a1,a2,a3⟩:=OM ts r;generalize B8 ts r=m at *
 split
 ·rename_i h
  have hl:=(D8 h).1;obtain ⟨b1,b2,b3⟩:=XG ts 6 [] m.2.step;obtain ⟨c1,c2,_⟩:=FU ts (DC ts 6 [] m.2.step).2 3 Ao;have sX:m.2.step.at_=m.2.at_+1:=rfl;have:=b2 (by omega);exact ⟨by simp only;omega,by simp only;omega,fun h=>c2 (b3 (a3 h))⟩
 ·exact ⟨a1,by have:=a2 hr;simp only;omega,a3⟩
noncomputable def L9 (ts:List Wd):AF zP AG:=AF.meth 63 (Sr.mc ts) (GJ ts) (fun (x:Nat × List UInt8) r=>AO r.err∧r.at_<1000000000∧x.2≠[]) (fun _ x=>[.int .i64 (x.1:Int),.str x.2]) (fun _ _ => .tup []) (fun x r=>Bp ts r x.1 x.2)
 (fun x r h H id hH=>oN ts r h.1 h.2.1 x.1 x.2 h.2.2 hH) (fun id x y r _ _ h=>by
  obtain ⟨a,b⟩:=x;obtain ⟨c,d⟩:=y;simp only [List.cons.injEq,AV.int.injEq,AV.str.injEq,true_and,and_true] at h;have e1:a=c:=by omega
  rw [e1,h.2]
  exact ⟨rfl,rfl⟩)
noncomputable def XH (ts:List Wd) (sT:ts.length<1000000):AF zP AG:=AF.meth 113 (Sr.mc ts) (GJ ts) (fun (s:List UInt8) r=>AO r.err∧s≠[]) (fun _ s=>[.str s]) (fun s r => .bool (isW ts r 3 s)) (fun s r=>CO ts r 3 s)
 (fun s r h H id hH=>oO ts sT r h.1 s h.2 hH) (fun id x y r _ _ h=>by
  simp only [List.cons.injEq,AV.str.injEq,and_true] at h;rw [h]
  exact ⟨rfl,rfl⟩)
noncomputable def XI (ts:List Wd) (sT:ts.length<1000000):AF zP AG:=AF.meth 114 (Sr.mc ts) (GJ ts) (fun (_:Unit) r=>AO r.err) (fun _ _=>[]) (fun _ r => .str (B8 ts r).1) (fun _ r=>(B8 ts r).2)
 (fun _ r h H id hH=>oP ts sT r h hH) (fun id x y r _ _ h=>⟨rfl,rfl⟩)
noncomputable def XJ (ts:List Wd) (sT:ts.length<1000000):AF zP AG:=AF.meth 115 (Sr.mc ts) (GJ ts) (fun (_:Unit) r=>AO r.err) (fun _ _=>[]) (fun _ r => .int .i64 ((CI ts r).1:Int)) (fun _ r=>(CI ts r).2)
 (fun _ r h H id hH=>oQ ts sT r h hH) (fun id x y r _ _ h=>⟨rfl,rfl⟩)
noncomputable def MA (ts:List Wd) (sT:ts.length<1000000):AF zP AG:=AF.meth 64 (Sr.mc ts) (GJ ts) (fun (_:Unit) r=>AO r.err∧r.at_<1000000000) (fun _ _=>[]) (fun _ r => .agg (tC (B9 ts r).1.tn)) (fun _ r=>(B9 ts r).2)
 (fun _ r h H id hH=>od ts sT r h.1 h.2 hH) (fun id x y r _ _ h=>⟨rfl,rfl⟩)
noncomputable def OO (ts:List Wd) (sT:ts.length<1000000):AF zP AG:=AF.meth 62 (Sr.mc ts) (GJ ts) (fun (_:Unit) r=>AO r.err∧r.at_<1000000000) (fun _ _=>[]) (fun _ r => .agg (tC (CM ts r).1.tn)) (fun _ r=>(CM ts r).2)
 (fun _ r h H id hH=>om ts sT r h.1 h.2 hH) (fun id x y r _ _ h=>⟨rfl,rfl⟩)
abbrev mbx (ts:List Wd) (r:Sr):Option Ent:=some (.box [AD ts,.int .i64 (r.at_:Int),erP r.err,.int .i64 (erC r.err)])
section
variable {L:List (AF zP AG)} {ts:List Wd}
theorem XK (hL:(L.map (·.f)).Nodup) (hF:EU ts∈L) (r:Sr) (he:AO r.err) (p c:Nat) (H:AH):oOf L 65 [.ptr 0 0,.int .i64 (p:Int),.int .i64 (c:Int)] (mbx ts r::H)=some (.tup [],mbx ts (r.fail p c)::H):=by have:=B0 hL hF (p,c) r (H:=some (.box (r.mc ts))::H) (id:=0) rfl he;simpa [Sr.mc] using this
theorem XL (hL:(L.map (·.f)).Nodup) (hF:L9 ts∈L) (r:Sr) (he:AO r.err) (hr:r.at_<1000000000) (k:Nat) (s:List UInt8) (hs:s≠[]) (H:AH):oOf L 63 [.ptr 0 0,.int .i64 (k:Int),.str s] (mbx ts r::H)=some (.tup [],mbx ts (Bp ts r k s)::H):=by have:=B0 hL hF (k,s) r (H:=some (.box (r.mc ts))::H) (id:=0) rfl ⟨he,hr,hs⟩;simpa [Sr.mc] using this
theorem oo (sT:ts.length<1000000) (hL:(L.map (·.f)).Nodup) (hF:XH ts sT∈L) (r:Sr) (he:AO r.err) (s:List UInt8) (hs:s≠[]) (H:AH):oOf L 113 [.ptr 0 0,.str s] (mbx ts r::H)=some (.bool (isW ts r 3 s),mbx ts (CO ts r 3 s)::H):=by have:=B0 hL hF s r (H:=some (.box (r.mc ts))::H) (id:=0) rfl ⟨he,hs⟩;simpa [Sr.mc] using this
theorem oq (sT:ts.length<1000000) (hL:(L.map (·.f)).Nodup) (hF:XI ts sT∈L) (r:Sr) (he:AO r.err) (H:AH):oOf L 114 [.ptr 0 0] (mbx ts r::H)=some (.str (B8 ts r).1,mbx ts (B8 ts r).2::H):=by have:=B0 hL hF () r (H:=some (.box (r.mc ts))::H) (id:=0) rfl he;simpa [Sr.mc] using this
theorem ot (sT:ts.length<1000000) (hL:(L.map (·.f)).Nodup) (hF:XJ ts sT∈L) (r:Sr) (he:AO r.err) (H:AH):oOf L 115 [.ptr 0 0] (mbx ts r::H)=some (.int .i64 ((CI ts r).1:Int),mbx ts (CI ts r).2::H):=by have:=B0 hL hF () r (H:=some (.box (r.mc ts))::H) (id:=0) rfl he;simpa [Sr.mc] using this
theorem XM (sT:ts.length<1000000) (hL:(L.map (·.f)).Nodup) (hF:MA ts sT∈L) (r:Sr) (he:AO r.err) (hr:r.at_<1000000000) (H:AH):oOf L 64 [.ptr 0 0] (mbx ts r::H)=some (.agg (tC (B9 ts r).1.tn),mbx ts (B9 ts r).2::H):=by have:=B0 hL hF () r (H:=some (.box (r.mc ts))::H) (id:=0) rfl ⟨he,hr⟩;simpa [Sr.mc] using this
theorem ou (sT:ts.length<1000000) (hL:(L.map (·.f)).Nodup) (hF:OO ts sT∈L) (r:Sr) (he:AO r.err) (hr:r.at_<1000000000) (H:AH):oOf L 62 [.ptr 0 0] (mbx ts r::H)=some (.agg (tC (CM ts r).1.tn),mbx ts (CM ts r).2::H):=by have:=B0 hL hF () r (H:=some (.box (r.mc ts))::H) (id:=0) rfl ⟨he,hr⟩;simpa [Sr.mc] using this
end
theorem IR (ψ:Nat→Nat) (l:List Wd):ren ψ (AD l)=AD l:=F3 ψ _ (QN l)
theorem Fq (ψ:Nat→Nat) (e:Er):ren ψ (erP e)=erP e:=F3 ψ _ (RZ e)
def OP (ts:List Wd) (nm:List UInt8) (outv:AV) (e1:Option Ent) (res:List Int × Sr) (k:Nat) (t:List AV) (H:AH):Prop :=
 ∃(d:List Int) (r:Sr) (nx:Bool),(nx=true→DC ts k d r=res∧k+d.length=6∧d.length≤4∧1≤r.at_∧r.at_≤ts.length)∧(nx=false→res=(d,r))∧AO r.err∧r.at_≤ts.length ∧
  t=mkT 63 [(0,.ptr 0 0),(3,outv),(5,.ptr 2 0),(6,.bool nx)]∧H=[mbx ts r,e1,some (.box [.str nm,Ad.tk 3 d]),AW d]
structure ItO (O:Orc) (ts:List Wd):Prop where
 fail:∀(r:Sr) (p c:Nat) (H:AH),AO r.err→O 65 [.ptr 0 0,.int .i64 (p:Int),.int .i64 (c:Int)] (mbx ts r::H)=some (.tup [],mbx ts (r.fail p c)::H)
 must:∀(r:Sr) (k:Nat) (s:List UInt8) (H:AH),AO r.err→r.at_<1000000000→s≠[]→O 63 [.ptr 0 0,.int .i64 (k:Int),.str s] (mbx ts r::H)=some (.tup [],mbx ts (Bp ts r k s)::H)
 sign:∀(r:Sr) (s:List UInt8) (H:AH),AO r.err→s≠[]→O 113 [.ptr 0 0,.str s] (mbx ts r::H)=some (.bool (isW ts r 3 s),mbx ts (CO ts r 3 s)::H)
 name:∀(r:Sr) (H:AH),AO r.err→O 114 [.ptr 0 0] (mbx ts r::H)=some (.str (B8 ts r).1,mbx ts (B8 ts r).2::H)
 num:∀(r:Sr) (H:AH),AO r.err→O 115 [.ptr 0 0] (mbx ts r::H)=some (.int .i64 ((CI ts r).1:Int),mbx ts (CI ts r).2::H)
 expr:∀(r:Sr) (H:AH),AO r.err→r.at_<1000000000→O 64 [.ptr 0 0] (mbx ts r::H)=some (.agg (tC (B9 ts r).1.tn),mbx ts (B9 ts r).2::H)
 is:∀(r:Sr) (k:Nat) (s:List UInt8) (H:AH),AO r.err→s≠[]→O 88 [.ptr 0 0,.int .i64 (k:Int),.str s] (mbx ts r::H)=some (.bool (isW ts r k s),mbx ts r::H)
noncomputable def Gq (ts:List Wd) (sT:ts.length<1000000):List (AF zP AG):=[EU ts,L9 ts,XH ts sT,XI ts sT,XJ ts sT,MA ts sT,IN ts]
theorem XN (ts:List Wd) (sT:ts.length<1000000):ItO (oOf (Gq ts sT)) ts:=by
 have hL:((Gq ts sT).map (·.f)).Nodup:=show ([65,63,113,114,115,64,88]:List Nat).Nodup by decide
 exact ⟨fun r p c H he=>XK hL (by simp [Gq]) r he p c H,fun r k s H he hr hs=>XL hL (by simp [Gq]) r he hr k s hs H,fun r s H he hs=>oo sT hL (by simp [Gq]) r he s hs H,
  fun r H he=>oq sT hL (by simp [Gq]) r he H,fun r H he=>ot sT hL (by simp [Gq]) r he H,fun r H he hr=>XM sT hL (by simp [Gq]) r he hr H,fun r k s H he hs=>OJ hL (by simp [Gq]) r he k s hs H⟩
theorem XO (ts:List Wd) (sT:ts.length<1000000):Cx (oOf (Gq ts sT)) zP AG:=Bq _ Bw Ae
theorem K3:B6 zP 52 2=true:=by kernel_rfl
@[simp] theorem bsIt (s:List UInt8) (v:AV):Cr zP 52 1 [(0,.agg [.str s,v])]=some (.slice .full 2 1 [.str s,v]):=by kernel_rfl
@[simp] theorem buIt (s:List UInt8):Ay zP 131 [(0,.str s)]=some (.agg [.str s,.nilSlice]):=by kernel_rfl
def ItI (ts:List Wd) (res:List It × Sr) (k:Nat) (t:List AV) (H:AH):Prop :=
 ∃(l:List It) (r:Sr) (mo:Bool),(mo=true→Dv ts k l r=res∧ts.length<k+r.at_∧1≤r.at_∧r.at_≤ts.length)∧(mo=false→res=(l,r))∧AO r.err∧r.at_≤ts.length+1∧l.length+k≤ts.length+2 ∧
  t=mkT 63 [(0,.ptr 0 0),(3,itE.tk 1 l),(4,.bool mo)]∧H=[mbx ts r,AW l]
theorem XP {ts:List Wd} {res:List It × Sr} {l:List It} {r:Sr} {k:Nat} (sV:(if isW ts (CA ts r).2 3 A0=true then Dv ts k (l++[(CA ts r).1]) (CA ts r).2.step else (l++[(CA ts r).1],(CA ts r).2))=res)
  (uk:ts.length<k+1+r.at_) (h1:1≤r.at_) (hr:r.at_≤ts.length) (yx:l.length+(k+1)≤ts.length+2) (he:AO r.err) :
  ItI ts res k (mkT 63 [(0,.ptr 0 0),(3,itE.tk 1 (l++[(CA ts r).1])),(4,.bool (isW ts (CA ts r).2 3 A0))]) [mbx ts (CO ts (CA ts r).2 3 A0),AW (l++[(CA ts r).1])]:=by
 obtain ⟨u1,u2,u3⟩:=Rg ts r hr;generalize CA ts r=p at *;obtain ⟨x,q⟩:=p;simp only at *;cases hc:isW ts q 3 A0 with
 |false =>rw [hc] at sV;rw [HH hc];exact ⟨l++[x],q,false,(fun h=>by cases h),fun _=>sV.symm,u3 he,u2,by rw [List.length_append,List.length_cons,List.length_nil];omega,rfl,rfl⟩
 |true =>rw [hc] at sV;rw [HG hc];have hl:=(D8 hc).1;have hs:q.step.at_=q.at_+1:=rfl;exact ⟨l++[x],q.step,true,fun _=>⟨sV,by omega,by omega,by omega⟩,(fun h=>by cases h),u3 he,by omega,by rw [List.length_append,List.length_cons,List.length_nil];omega,rfl,rfl⟩
theorem ox {ts:List Wd} {res:List Int × Sr} {nm:List UInt8} {outv:AV} {e1:Option Ent} {d:List Int} {r r1 r2:Sr} {m:Nat × Sr} {k:Nat} (s6:r1=if 4≤d.length then r.fail (r.at_-1) 4 else r) (hm:CI ts r1=m) (sx:r2=if m.2.err=none∧m.1=0 then m.2.fail r1.at_ 1 else m.2)
  (sV:DC ts (k+1) d r=res) (hk:k+1+d.length=6) (h1:1≤r.at_) (hr:r.at_≤ts.length) (he:AO r.err) :
  OP ts nm outv e1 res k (mkT 63 [(0,.ptr 0 0),(3,outv),(5,.ptr 2 0),(6,.bool (isW ts r2 3 A0))]) [mbx ts (CO ts r2 3 A0),e1,some (.box [.str nm,Ad.tk 3 (d++[(m.1:Int)])]),AW (d++[(m.1:Int)])]:=by
 have hrd:DC ts (k+1) d r=if isW ts r2 3 A0 then DC ts k (d++[(m.1:Int)]) r2.step else (d++[(m.1:Int)],r2):=by rw [sx,←hm,s6];rfl
 rw [hrd] at sV
 have q1:r1.at_=r.at_∧(AO r.err→AO r1.err)∧(4≤d.length→r1.err≠none):=by
  rw [s6]
  split
  ·exact ⟨rfl,fun h=>Sr.fail_ok h _ (by decide),fun _=>by simp [Sr.fail]⟩
  ·exact ⟨rfl,fun h=>h,fun h=>absurd h ‹_›⟩
 obtain ⟨a1,a2,a3⟩:=ON ts r1
 have hme:r1.err≠none→m.2.err≠none:=by
  intro h;rw [←hm];unfold CI
  split
  ·exact h
  ·simp [Sr.fail]
 rw [hm] at a1 a2 a3
 have q2:r2.at_=m.2.at_∧(AO m.2.err→AO r2.err)∧(m.2.err≠none→r2.err≠none):=by
  rw [sx]
  split
  ·exact ⟨rfl,fun h=>Sr.fail_ok h _ (by decide),fun _=>by simp [Sr.fail]⟩
  ·exact ⟨rfl,fun h=>h,fun h=>h⟩
 have zCS:r2.at_≤ts.length:=by have:=a2 (by omega);omega
 have zBj:=q2.2.1 (a3 (q1.2.1 he));cases hc:isW ts r2 3 A0 with
 |false =>rw [hc] at sV;rw [HH hc];exact ⟨_,r2,false,(fun h=>by cases h),fun _=>sV.symm,zBj,zCS,rfl,rfl⟩
 |true =>
  rw [hc] at sV;rw [HG hc];obtain ⟨hl,hn⟩:=D8 hc;have hs:r2.step.at_=r2.at_+1:=rfl;have un:¬4≤d.length:=fun h=>q2.2.2 (hme (q1.2.2 h)) hn
  exact ⟨_,r2.step,true,fun _=>⟨sV,by rw [List.length_append,List.length_cons,List.length_nil];omega,by rw [List.length_append,List.length_cons,List.length_nil];omega,by omega,by omega⟩,(fun h=>by cases h),zBj,by omega,rfl,rfl⟩
theorem oy (ts:List Wd) (sT:ts.length<1000000) (r:Sr) (he:AO r.err) (h1:1≤r.at_) (hr:r.at_≤ts.length) {H:AH} {id:Nat} (hH:H.at id=some (.box (r.mc ts))) :
  CS zP AG 86 [.ptr id 0] H (itE.av (E6 ts r).1) (H.set id (some (.box ((E6 ts r).2.mc ts)))):=by
 refine CS.rd BL Tryz.func86 (by kernel_rfl) 0 (by simp [Tryz.f86]) (fun B hB hG => ?_) (by simp) (by simp) (DD _ _) (DD _ _) hH;have X:=XO ts sT;have hO:=XN ts sT;generalize oOf (Gq ts sT)=O at X hO;refine Tr.goD X hG ?_;unfold E6;generalize xD:Dv ts (ts.length+1) [] r=res;simp [Tryz.f86,Sr.mc]
 refine LpD.loopN X hG (ItI ts res) (ts.length+1) (t':=mkT 63 [(0,.ptr 0 0),(3,itE.tk 1 []),(4,.bool true)]) (H':=[mbx ts r,none])
  (AE.mkV 100 (fun i=>i) 2 (by simp [hB]) (by simp) (by simp) rfl (by
   intro i hi;rcases (by omega:i=0∨i=1) with rfl|rfl
   ·simp [AH.at,mbx,AJ,AN,ren,IR,Fq]
   ·simp [AH.at]) (by simp [mbx]) (by simp [ren]))
  ⟨[],r,true,fun _=>⟨xD,by omega,h1,hr⟩,(fun h=>by cases h),he,by omega,by simp,rfl,by simp⟩ ?_
 rintro k t H ⟨l,r,mo,hmt,hmf,he,s6,yx,rfl,rfl⟩;cases mo with
 |false =>obtain rfl:=hmf rfl;have tA:=itE.tk_cut (show ¬1<1 by omega) l;simp [Bj,tA]
 |true =>
  obtain ⟨sV,uk,h1,hr⟩:=hmt rfl;obtain ⟨k,rfl⟩:∃j,k=j+1:=⟨k-1,by omega⟩
  have xF:=fun H=>hO.name r H he
  obtain ⟨a1,a2,a3⟩:=OM ts r;have zCT:Dv ts (k+1) l r=if isW ts (CA ts r).2 3 A0 then Dv ts k (l++[(CA ts r).1]) (CA ts r).2.step else (l++[(CA ts r).1],(CA ts r).2):=rfl
  have hiw:CA ts r=if isW ts (B8 ts r).2 3 Ah then (⟨(B8 ts r).1,(DC ts 6 [] (B8 ts r).2.step).1⟩,Bp ts (DC ts 6 [] (B8 ts r).2.step).2 3 Ao) else (⟨(B8 ts r).1,[]⟩,(B8 ts r).2):=rfl
  have hiu:=Rg ts r hr;rw [zCT] at sV;generalize B8 ts r=m at *;obtain ⟨nm,r1⟩:=m;simp only at xF a1 a2 a3 hiw;have wq:=a3 he;have tW:=fun H=>hO.sign r1 Ah H wq (by decide)
  simp [mbx] at xF;cases tD:isW ts r1 3 Ah with
  |false =>
   rw [HH tD,tD] at tW;simp [mbx,Ah] at tW;have zAp:CA ts r=(⟨nm,[]⟩,r1):=by rw [hiw,tD];rfl
   have tj:=XP sV uk h1 hr yx he;rw [zAp] at tj;simp only at tj;have uG:=fun H=>hO.sign r1 A0 H wq (by decide)
   simp only [A0] at uG tj;simp only [mbx] at uG;generalize CO ts r1 3 [44]=r2 at *;generalize isW ts r1 3 [44]=b2 at *;cases l with
   |nil =>
    have sb:=fun H ow=>GT (P:=zP) (t:=52) (sz:=2) (m:=1) (H:=H) (fid:=3) (ow:=ow) (ys:=[.str nm,.nilSlice]) K3 (by decide) (by decide) (by simp)
    simp [mbx,xF,tW,sb,uG]
    refine Nxt.mk k (by omega) (AE.mkV 100 (fun i=>if i=1 then 3 else i) 2 (by simp [hB]) (by intro i j hi hj h;split at h<;>split at h<;>omega) (by simp [hB]) rfl (by
     intro i hi;rcases (by omega:i=0∨i=1) with rfl|rfl
     ·simp [AH.at,mbx,AJ,AN,ren,IR,Fq]
     ·simp [AH.at,AW,AJ]) (by simp [mbx,AW]) (by simp [ren,AN,Enc.tk,Gk,Enc.row,RA,strip,Cc])) tj
   |cons x l =>
    have sb:=fun H ow (h:AH.at H 1=some (.tok (x::l).length))=>Eu (P:=zP) (t:=52) (sz:=2) (n:=(x::l).length) (m:=1) (H:=H) (fid:=3) (ow:=ow) (xs:=itE.row (x::l)) (ys:=[.str nm,.nilSlice]) K3 h (by decide) (by omega) (by simp)
    have wh:itE.row (x::l)++[.str nm,.nilSlice]=itE.row (x::l++[⟨nm,[]⟩]):=by rw [itE.row_append];rfl
    rw [wh] at sb;have sy:itE.tk 1 (x::l) = .slice (.tok 1) 2 (x::l).length (itE.row (x::l)):=rfl
    have ui:itE.tk 1 (x::l++[⟨nm,[]⟩]) = .slice (.tok 1) 2 ((x::l).length+1) (itE.row (x::l++[⟨nm,[]⟩])):=by rw [itE.tk_ne 1 (by simp),List.length_append];rfl
    have tc:AW (x::l)=some (.tok (x::l).length):=rfl;have vZ:AW (x::l++[(⟨nm,[]⟩:It)])=some (.tok ((x::l).length+1)):=by rw [C0 (by simp),List.length_append];rfl
    have si:=itE.row_lowm 2 (x::l++[⟨nm,[]⟩]);rw [ui,vZ] at tj;rw [sy,tc];generalize itE.row (x::l++[⟨nm,[]⟩])=cs2 at *;generalize itE.row (x::l)=cs at *;generalize (x::l).length=n at *;simp [mbx,xF,tW,sb,uG];exact Nxt.mk k (by omega) (AE.mkK 2 (by simp [hB]) (by simp [si]) (by simp [mbx]) (by simp [mbx])) tj
  |true =>
   rw [HG tD,tD] at tW;simp [mbx,Ah] at tW;have tz:=(D8 tD).1;have uD:r1.step.at_=r1.at_+1:=rfl;have hs1e:r1.step.err=r1.err:=rfl;generalize uK:DC ts 6 [] r1.step=dres at *;have zAp:CA ts r=(⟨nm,dres.1⟩,Bp ts dres.2 3 Ao):=by rw [hiw,tD];rfl
   have tj:=XP sV uk h1 hr yx he;rw [zAp] at tj;simp only at tj;have so:mbx ts r1.step=some (.box [AD ts,.int .i64 ((r1.at_:Int)+1),erP r1.err,.int .i64 (erC r1.err)]):=by simp [mbx,Sr.step]
   simp [mbx,xF,tW]
   refine LpD.loopN X hG (OP ts nm (itE.tk 1 l) (AW l) dres) 6 (t':=mkT 63 [(0,.ptr 0 0),(3,itE.tk 1 l),(5,.ptr 2 0),(6,.bool true)]) (H':=[mbx ts r1.step,AW l,some (.box [.str nm,Ad.tk 3 []]),none])
    (AE.mkV 100 (fun i=>i) 4 (by simp [hB]) (by simp) (by simp) rfl (by
     intro i hi;rcases (by omega:i=0∨i=1∨i=2∨i=3) with rfl|rfl|rfl|rfl
     ·simp [so,AJ,AN,ren,IR,Fq,Sr.step]
     ·simp [LW]
     ·simp [AJ,AN,ren]
     ·simp) (by
      have:=GU 4 l;simp [so] at this ⊢
      exact this) (by simp [ren,itE.tk_ren,itE.tk_strip,itE.tk_low,strip]))
    ⟨[],r1.step,true,fun _=>⟨uK,rfl,by decide,by omega,by omega⟩,(fun h=>by cases h),wq,by omega,rfl,rfl⟩ ?_
   rintro k2 t H ⟨d,q,nx,hnt,hnf,uQ,hql,rfl,rfl⟩;cases nx with
   |false =>
    obtain rfl:=hnf rfl;simp only at tj;have vY:=fun H=>hO.must q 3 Ao H uQ (by omega) (by decide)
    obtain ⟨v1,v2,_⟩:=FU ts q 3 Ao;have uG:=fun H=>hO.sign (Bp ts q 3 Ao) A0 H (v2 uQ) (by decide)
    generalize Bp ts q 3 Ao=q1 at *;simp only [A0] at uG tj;simp only [Ao] at vY;simp only [mbx] at uG vY;simp at vY;generalize CO ts q1 3 [44]=r2 at *;generalize isW ts q1 3 [44]=b2 at *
    have sA:∀(n:Nat) (a b:List AV),Cc n (a++b)=Cc n a++Cc n b:=by
     intro n a b
     induction a with
     |nil=>rfl
     |cons x a ih=>simp [Cc,ih]
    have rA:∀(ψ:Nat→Nat) (a b:List AV),AN ψ (a++b)=AN ψ a++AN ψ b:=by
     intro ψ a b
     induction a with
     |nil=>rfl
     |cons x a ih=>simp [AN,ih]
    cases l with
    |nil =>
     have sb:=fun H ow=>GT (P:=zP) (t:=52) (sz:=2) (m:=1) (H:=H) (fid:=4) (ow:=ow) (ys:=[.str nm,Ad.tk 3 d]) K3 (by decide) (by decide) (by simp)
     simp [mbx,Bj,vY,sb,uG]
     refine Nxt.mk k (by omega) (AE.trans (AE.mkV (l':=[(0,.ptr 0 0),(3,.slice (.tok 1) 2 1 [.str nm,Ad.tk 2 d]),(4,.bool b2)]) (H':=[mbx ts r2,some (.tok 1),AW d]) 100 (fun i=>if i=1 then 4 else if i=2 then 3 else i) 3 (by simp [hB]) (by
      intro i j hi hj h
      rcases (by omega:i=0∨i=1∨i=2) with rfl|rfl|rfl<;>rcases (by omega:j=0∨j=1∨j=2) with rfl|rfl|rfl<;>simp at h ⊢) (by simp [hB]) rfl (by
      intro i hi;rcases (by omega:i=0∨i=1∨i=2) with rfl|rfl|rfl
      ·simp [AH.at,mbx,AJ,AN,ren,IR,Fq]
      ·simp [AH.at,AJ]
      ·simp [AH.at,LW]) (by
      have:=GU 3 d;simp [mbx] at this ⊢
      exact this) (by simp [ren,AN,strip,Cc,Ad.tk_ren,Ad.tk_strip,Ad.tk_low]))
      (AE.mkV 2 (fun i=>i) 2 (by simp [hB]) (by simp) (by simp) rfl (by
      intro i hi;rcases (by omega:i=0∨i=1) with rfl|rfl
      ·simp [AH.at,mbx,AJ,AN,ren,IR,Fq]
      ·simp [AH.at,AW,AJ]) (by simp [mbx,AW]) (by simp [ren,AN,Enc.tk_ne,Gk,Enc.row,RA,strip,Cc,Ad.tk_cut,Ad.av_ren]))) tj
    |cons x l =>
     have sb:=fun H ow (h:AH.at H 1=some (.tok (x::l).length))=>Eu (P:=zP) (t:=52) (sz:=2) (n:=(x::l).length) (m:=1) (H:=H) (fid:=4) (ow:=ow) (xs:=itE.row (x::l)) (ys:=[.str nm,Ad.tk 3 d]) K3 h (by decide) (by omega) (by simp)
     have wh:itE.row (x::l++[⟨nm,d⟩])=itE.row (x::l)++[.str nm,Ad.av d]:=by rw [itE.row_append];rfl
     have sy:itE.tk 1 (x::l) = .slice (.tok 1) 2 (x::l).length (itE.row (x::l)):=rfl
     have ui:itE.tk 1 (x::l++[⟨nm,d⟩]) = .slice (.tok 1) 2 ((x::l).length+1) (itE.row (x::l)++[.str nm,Ad.av d]):=by rw [itE.tk_ne 1 (by simp),List.length_append,wh];rfl
     have tc:AW (x::l)=some (.tok (x::l).length):=rfl;have vZ:AW (x::l++[(⟨nm,d⟩:It)])=some (.tok ((x::l).length+1)):=by rw [C0 (by simp),List.length_append];rfl
     have si:=itE.row_lowm 2 (x::l);have zAf:=itE.row_strip 2 (x::l);have zCU:AN (fun i=>i) (itE.row (x::l))=itE.row (x::l):=BB _ _ (itE.row_low _);rw [ui,vZ] at tj;rw [sy,tc];generalize itE.row (x::l)=cs at *;generalize (x::l).length=n at *;simp [mbx,Bj,vY,sb,uG]
     exact Nxt.mk k (by omega) (AE.mkV 2 (fun i=>i) 2 (by simp [hB]) (by simp) (by simp) rfl (by
      intro i hi;rcases (by omega:i=0∨i=1) with rfl|rfl
      ·simp [AH.at,mbx,AJ,AN,ren,IR,Fq]
      ·simp [AH.at,AJ]) (by simp [mbx]) (by simp [ren,rA,AN,strip,sA,Cc,si,zAf,zCU,Ad.tk_cut,Ad.av_ren])) tj
   |true =>
    obtain ⟨hrd,uT,un,hq1,vD⟩:=hnt rfl;obtain ⟨k2,rfl⟩:∃j,k2=j+1:=⟨k2-1,by omega⟩
    obtain ⟨q1,uH⟩:∃q1,q1=if 4≤d.length then q.fail (q.at_-1) 4 else q:=⟨_,rfl⟩
    obtain ⟨m,hm⟩:∃m,CI ts q1=m:=⟨_,rfl⟩
    obtain ⟨q2,y9⟩:∃q2,q2=if m.2.err=none∧m.1=0 then m.2.fail q1.at_ 1 else m.2:=⟨_,rfl⟩
    have ub:=ox (nm:=nm) (outv:=itE.tk 1 l) (e1:=AW l) uH hm y9 hrd (by omega) hq1 vD uQ;have sl:=fun H=>hO.fail q (q.at_-1) 4 H uQ
    have wq:AO q1.err:=by
     rw [uH]
     split
     ·exact Sr.fail_ok uQ _ (by decide)
     ·exact uQ
    have hq1a:q1.at_=q.at_:=by rw [uH];split<;>rfl
    have vS:=fun H=>hO.num q1 H wq
    have s8:AO m.2.err:=by rw [←hm];exact (ON ts q1).2.2 wq
    rw [hm] at vS;have uh:=fun H=>hO.fail m.2 q1.at_ 1 H s8
    have he3:AO q2.err:=by
     rw [y9]
     split
     ·exact Sr.fail_ok s8 _ (by decide)
     ·exact s8
    have uG:=fun H=>hO.sign q2 A0 H he3 (by decide)
    obtain ⟨p,hp⟩:∃p,p=q.at_-1:=⟨_,rfl⟩
    have w1:IntKind.i64.wrap ((q.at_:Int)-1)=(p:Int):=by rw [AZ (by omega) (by omega)];omega
    rw [←hp] at sl uH;obtain ⟨n,qm⟩:=m;simp only at vS uh s8 y9 ub
    have xd:(erC qm.err=0∧n=0∧q2=qm.fail q1.at_ 1)∨(erC qm.err=0∧n≠0∧q2=qm)∨(erC qm.err≠0∧q2=qm):=by
     rw [y9]
     by_cases h1:qm.err=none
     ·have h1':=(E7 s8).2 h1
      by_cases h2:n=0
      ·rw [if_pos ⟨h1,h2⟩];exact .inl ⟨h1',h2,rfl⟩
      ·rw [if_neg fun h=>h2 h.2];exact .inr (.inl ⟨h1',h2,rfl⟩)
     ·rw [if_neg fun h=>h1 h.1];exact .inr (.inr ⟨fun h=>h1 ((E7 s8).1 h),rfl⟩)
    clear y9;simp only [A0] at uG ub;simp only [mbx] at sl vS uh uG;simp at sl vS uh;have wO:(d.length:Int)≤4:=by omega
    have va:∀(t:List AV) (H:AH) (b2:Bool) (q3:Sr),AE B t H (mkT 63 [(0,.ptr 0 0),(3,itE.tk 1 l),(5,.ptr 2 0),(6,.bool b2)]) [mbx ts q3,AW l,some (.box [.str nm,Ad.tk 3 (d++[(n:Int)])]),AW (d++[(n:Int)])] →
      OP ts nm (itE.tk 1 l) (AW l) dres k2 (mkT 63 [(0,.ptr 0 0),(3,itE.tk 1 l),(5,.ptr 2 0),(6,.bool b2)]) [mbx ts q3,AW l,some (.box [.str nm,Ad.tk 3 (d++[(n:Int)])]),AW (d++[(n:Int)])]→Nxt B (OP ts nm (itE.tk 1 l) (AW l) dres) (k2+1) t H:=fun t H b2 q3 h1 h2=>Nxt.mk k2 (by omega) h1 h2
    rcases xd with ⟨uS,tw,xd⟩|⟨uS,tw,xd⟩|⟨uS,xd⟩
    ·rw [←xd] at uh
     have wC:(erC qm.err==0)=true:=by rw [uS];rfl
     rw [uS] at uh;subst tw;have tw:True:=trivial;have wD:True:=trivial;generalize CO ts q2 3 [44]=q3 at *;generalize isW ts q2 3 [44]=b2 at *;cases d with
     |nil =>
      rw [if_neg (by simp)] at uH;subst uH;have sb:=fun H ow fid v=>GT (P:=zP) (t:=129) (sz:=1) (m:=1) (H:=H) (fid:=fid) (ow:=ow) (ys:=[.int .i64 v]) I1 (by decide) (by decide) (by simp)
      simp [mbx,vS,uS,tw,wC,wD,uh,sb,uG];refine va _ _ b2 q3 ?_ ub
      exact (AE.mkV 100 (fun i=>if i=3 then 4 else i) 4 (by simp [hB]) (by
       intro i j hi hj h
       rcases (by omega:i=0∨i=1∨i=2∨i=3) with rfl|rfl|rfl|rfl<;>rcases (by omega:j=0∨j=1∨j=2∨j=3) with rfl|rfl|rfl|rfl<;>simp at h ⊢) (by simp [hB]) rfl (by
       intro i hi;rcases (by omega:i=0∨i=1∨i=2∨i=3) with rfl|rfl|rfl|rfl
       ·simp [AH.at,mbx,AJ,AN,ren,IR,Fq]
       ·simp [AH.at,LW]
       ·simp [AH.at,AJ,AN,ren,Ad.tk_ren,Enc.tk,Enc.row,Lx,Ny]
       ·simp [AH.at,AJ,AW]) (by
       have h1:=GU 4 l;have h2:=fun v:Int=>GU 4 [v]
       simp [mbx,Ad.tk_low] at h1 h2 ⊢
       exact ⟨h1,h2 0⟩) (by simp [ren,itE.tk_ren,itE.tk_strip,itE.tk_low,strip]))
     |cons x d =>
      have sb:=fun H ow fid v (h:AH.at H 3=some (.tok (x::d).length))=>Eu (P:=zP) (t:=129) (sz:=1) (n:=(x::d).length) (m:=1) (H:=H) (fid:=fid) (ow:=ow) (xs:=Ad.row (x::d)) (ys:=[.int .i64 v]) I1 h (by decide) (by omega) (by simp)
      have sy:Ad.tk 3 (x::d) = .slice (.tok 3) 1 (x::d).length (Ad.row (x::d)):=rfl
      have ui:∀v:Int,Ad.tk 3 (x::d++[v]) = .slice (.tok 3) 1 ((x::d).length+1) (Ad.row (x::d)++[.int .i64 v]):=fun v=>by rw [Ad.tk_ne 3 (by simp),List.length_append,Ad.row_append];rfl
      have tc:AW (x::d)=some (.tok (x::d).length):=rfl;have vZ:∀v:Int,AW (x::d++[v])=some (.tok ((x::d).length+1)):=fun v=>by rw [C0 (by simp),List.length_append];rfl
      have si:=Ad.row_lowm 4 (x::d);have sZ:Ad.row (x::d)=Ad.row (x::d):=rfl;rw [ui,vZ] at ub;simp only [ui,vZ] at va;rw [sy,tc];have wE:AR 4 [AW l]=true:=GU 4 l;simp at wE;generalize Ad.row (x::d)=cs at *
      by_cases h4:4≤(x::d).length
      ·rw [if_pos h4] at uH
       rw [←uH] at sl;have h4':(4:Int)≤((x::d).length:Int):=by omega
       generalize (x::d).length=nd at *;simp [w1,sl,h4,h4',mbx,vS,uS,tw,wC,wD,uh,sb,uG];refine va _ _ b2 q3 ?_ ub;exact AE.mkK 4 (by simp [hB]) (by simp [itE.tk_low]) (by simp [mbx]) (by simp [mbx,si,wE])
      ·rw [if_neg h4] at uH
       subst uH;have h4':¬(4:Int)≤((x::d).length:Int):=by omega
       generalize (x::d).length=nd at *;simp [h4,h4',mbx,vS,uS,tw,wC,wD,uh,sb,uG];refine va _ _ b2 q3 ?_ ub;exact AE.mkK 4 (by simp [hB]) (by simp [itE.tk_low]) (by simp [mbx]) (by simp [mbx,si,wE])
    ·subst xd
     have wC:(erC q2.err==0)=true:=by rw [uS];rfl
     rw [uS] at uG;have wD:((n:Int)==0)=false:=by rw [beq_eq_false_iff_ne];omega
     generalize CO ts q2 3 [44]=q3 at *;generalize isW ts q2 3 [44]=b2 at *;cases d with
     |nil =>
      rw [if_neg (by simp)] at uH;subst uH;have sb:=fun H ow fid v=>GT (P:=zP) (t:=129) (sz:=1) (m:=1) (H:=H) (fid:=fid) (ow:=ow) (ys:=[.int .i64 v]) I1 (by decide) (by decide) (by simp)
      simp [mbx,vS,uS,tw,wC,wD,uh,sb,uG];refine va _ _ b2 q3 ?_ ub
      exact (AE.mkV 100 (fun i=>if i=3 then 4 else i) 4 (by simp [hB]) (by
       intro i j hi hj h
       rcases (by omega:i=0∨i=1∨i=2∨i=3) with rfl|rfl|rfl|rfl<;>rcases (by omega:j=0∨j=1∨j=2∨j=3) with rfl|rfl|rfl|rfl<;>simp at h ⊢) (by simp [hB]) rfl (by
       intro i hi;rcases (by omega:i=0∨i=1∨i=2∨i=3) with rfl|rfl|rfl|rfl
       ·simp [AH.at,mbx,AJ,AN,ren,IR,Fq]
       ·simp [AH.at,LW]
       ·simp [AH.at,AJ,AN,ren,Ad.tk_ren,Enc.tk,Enc.row,Lx,Ny]
       ·simp [AH.at,AJ,AW]) (by
       have h1:=GU 4 l;have h2:=fun v:Int=>GU 4 [v]
       simp [mbx,Ad.tk_low] at h1 h2 ⊢
       exact ⟨h1,h2 n⟩) (by simp [ren,itE.tk_ren,itE.tk_strip,itE.tk_low,strip]))
     |cons x d =>
      have sb:=fun H ow fid v (h:AH.at H 3=some (.tok (x::d).length))=>Eu (P:=zP) (t:=129) (sz:=1) (n:=(x::d).length) (m:=1) (H:=H) (fid:=fid) (ow:=ow) (xs:=Ad.row (x::d)) (ys:=[.int .i64 v]) I1 h (by decide) (by omega) (by simp)
      have sy:Ad.tk 3 (x::d) = .slice (.tok 3) 1 (x::d).length (Ad.row (x::d)):=rfl
      have ui:∀v:Int,Ad.tk 3 (x::d++[v]) = .slice (.tok 3) 1 ((x::d).length+1) (Ad.row (x::d)++[.int .i64 v]):=fun v=>by rw [Ad.tk_ne 3 (by simp),List.length_append,Ad.row_append];rfl
      have tc:AW (x::d)=some (.tok (x::d).length):=rfl;have vZ:∀v:Int,AW (x::d++[v])=some (.tok ((x::d).length+1)):=fun v=>by rw [C0 (by simp),List.length_append];rfl
      have si:=Ad.row_lowm 4 (x::d);have sZ:Ad.row (x::d)=Ad.row (x::d):=rfl;rw [ui,vZ] at ub;simp only [ui,vZ] at va;rw [sy,tc];have wE:AR 4 [AW l]=true:=GU 4 l;simp at wE;generalize Ad.row (x::d)=cs at *
      by_cases h4:4≤(x::d).length
      ·rw [if_pos h4] at uH
       rw [←uH] at sl;have h4':(4:Int)≤((x::d).length:Int):=by omega
       generalize (x::d).length=nd at *;simp [w1,sl,h4,h4',mbx,vS,uS,tw,wC,wD,uh,sb,uG];refine va _ _ b2 q3 ?_ ub;exact AE.mkK 4 (by simp [hB]) (by simp [itE.tk_low]) (by simp [mbx]) (by simp [mbx,si,wE])
      ·rw [if_neg h4] at uH
       subst uH;have h4':¬(4:Int)≤((x::d).length:Int):=by omega
       generalize (x::d).length=nd at *;simp [h4,h4',mbx,vS,uS,tw,wC,wD,uh,sb,uG];refine va _ _ b2 q3 ?_ ub;exact AE.mkK 4 (by simp [hB]) (by simp [itE.tk_low]) (by simp [mbx]) (by simp [mbx,si,wE])
    ·subst xd
     have wC:(erC q2.err==0)=false:=by rw [beq_eq_false_iff_ne];exact uS
     have tw:True:=trivial;have wD:True:=trivial;generalize CO ts q2 3 [44]=q3 at *;generalize isW ts q2 3 [44]=b2 at *;cases d with
     |nil =>
      rw [if_neg (by simp)] at uH;subst uH;have sb:=fun H ow fid v=>GT (P:=zP) (t:=129) (sz:=1) (m:=1) (H:=H) (fid:=fid) (ow:=ow) (ys:=[.int .i64 v]) I1 (by decide) (by decide) (by simp)
      simp [mbx,vS,uS,tw,wC,wD,uh,sb,uG];refine va _ _ b2 q3 ?_ ub
      exact (AE.mkV 100 (fun i=>if i=3 then 4 else i) 4 (by simp [hB]) (by
       intro i j hi hj h
       rcases (by omega:i=0∨i=1∨i=2∨i=3) with rfl|rfl|rfl|rfl<;>rcases (by omega:j=0∨j=1∨j=2∨j=3) with rfl|rfl|rfl|rfl<;>simp at h ⊢) (by simp [hB]) rfl (by
       intro i hi;rcases (by omega:i=0∨i=1∨i=2∨i=3) with rfl|rfl|rfl|rfl
       ·simp [AH.at,mbx,AJ,AN,ren,IR,Fq]
       ·simp [AH.at,LW]
       ·simp [AH.at,AJ,AN,ren,Ad.tk_ren,Enc.tk,Enc.row,Lx,Ny]
       ·simp [AH.at,AJ,AW]) (by
       have h1:=GU 4 l;have h2:=fun v:Int=>GU 4 [v]
       simp [mbx,Ad.tk_low] at h1 h2 ⊢
       exact ⟨h1,h2 n⟩) (by simp [ren,itE.tk_ren,itE.tk_strip,itE.tk_low,strip]))
     |cons x d =>
      have sb:=fun H ow fid v (h:AH.at H 3=some (.tok (x::d).length))=>Eu (P:=zP) (t:=129) (sz:=1) (n:=(x::d).length) (m:=1) (H:=H) (fid:=fid) (ow:=ow) (xs:=Ad.row (x::d)) (ys:=[.int .i64 v]) I1 h (by decide) (by omega) (by simp)
      have sy:Ad.tk 3 (x::d) = .slice (.tok 3) 1 (x::d).length (Ad.row (x::d)):=rfl
      have ui:∀v:Int,Ad.tk 3 (x::d++[v]) = .slice (.tok 3) 1 ((x::d).length+1) (Ad.row (x::d)++[.int .i64 v]):=fun v=>by rw [Ad.tk_ne 3 (by simp),List.length_append,Ad.row_append];rfl
      have tc:AW (x::d)=some (.tok (x::d).length):=rfl;have vZ:∀v:Int,AW (x::d++[v])=some (.tok ((x::d).length+1)):=fun v=>by rw [C0 (by simp),List.length_append];rfl
      have si:=Ad.row_lowm 4 (x::d);have sZ:Ad.row (x::d)=Ad.row (x::d):=rfl;rw [ui,vZ] at ub;simp only [ui,vZ] at va;rw [sy,tc];have wE:AR 4 [AW l]=true:=GU 4 l;simp at wE;generalize Ad.row (x::d)=cs at *
      by_cases h4:4≤(x::d).length
      ·rw [if_pos h4] at uH
       rw [←uH] at sl;have h4':(4:Int)≤((x::d).length:Int):=by omega
       generalize (x::d).length=nd at *;simp [w1,sl,h4,h4',mbx,vS,uS,tw,wC,wD,uh,sb,uG];refine va _ _ b2 q3 ?_ ub;exact AE.mkK 4 (by simp [hB]) (by simp [itE.tk_low]) (by simp [mbx]) (by simp [mbx,si,wE])
      ·rw [if_neg h4] at uH
       subst uH;have h4':¬(4:Int)≤((x::d).length:Int):=by omega
       generalize (x::d).length=nd at *;simp [h4,h4',mbx,vS,uS,tw,wC,wD,uh,sb,uG];refine va _ _ b2 q3 ?_ ub;exact AE.mkK 4 (by simp [hB]) (by simp [itE.tk_low]) (by simp [mbx]) (by simp [mbx,si,wE])
@[simp] theorem buS0:Ay zP 59 []=some (.agg (Sx.c ⟨0,[],t0,t0,[],t0,t0,[],t0,t0,0⟩)):=by kernel_rfl
@[simp] theorem buSk (k:Int):Ay zP 59 [(0,.int .i64 k)]=some (.agg (Sx.c ⟨k,[],t0,t0,[],t0,t0,[],t0,t0,0⟩)):=by kernel_rfl
@[simp] theorem buSi (k:Int) (l:List It):Ay zP 59 [(0,.int .i64 k),(1,itE.av l)]=some (.agg (Sx.c ⟨k,l,t0,t0,[],t0,t0,[],t0,t0,0⟩)):=by
 unfold Sx.c Enc.av
 split
 ·kernel_rfl
 ·kernel_rfl
theorem oz (k:Int) (t:Tn):Ay zP 59 [(0,.int .i64 k),(2,.agg (tC t))]=some (.agg (Sx.c ⟨k,[],t,t0,[],t0,t0,[],t0,t0,0⟩)):=by cases t<;>kernel_rfl
theorem o4 (k:Int) (t:Tn):Ay zP 59 [(0,.int .i64 k),(3,.agg (tC t))]=some (.agg (Sx.c ⟨k,[],t0,t,[],t0,t0,[],t0,t0,0⟩)):=by cases t<;>kernel_rfl
theorem o5 (k:Int) (op:List UInt8) (a b:Tn):Ay zP 59 [(0,.int .i64 k),(4,.agg (.str op::(tC a++tC b)))]=some (.agg (Sx.c ⟨k,[],t0,t0,op,a,b,[],t0,t0,0⟩)):=by cases a<;>cases b<;>kernel_rfl
@[simp] theorem buSt (k:Int) (t:Tn):Ay zP 59 [(0,.int .i64 k),(2,.agg [.int .i64 t.k,.int .i64 t.n,.str t.s,t.ar])]=some (.agg (Sx.c ⟨k,[],t,t0,[],t0,t0,[],t0,t0,0⟩)):=by rw [←CY];exact oz k t
@[simp] theorem buSe (k:Int) (t:Tn):Ay zP 59 [(0,.int .i64 k),(3,.agg [.int .i64 t.k,.int .i64 t.n,.str t.s,t.ar])]=some (.agg (Sx.c ⟨k,[],t0,t,[],t0,t0,[],t0,t0,0⟩)):=by rw [←CY];exact o4 k t
@[simp] theorem buSc (k:Int) (op:List UInt8) (a b:Tn):Ay zP 59 [(0,.int .i64 k),(4,.agg [.str op,.int .i64 a.k,.int .i64 a.n,.str a.s,a.ar,.int .i64 b.k,.int .i64 b.n,.str b.s,b.ar])]=some (.agg (Sx.c ⟨k,[],t0,t0,op,a,b,[],t0,t0,0⟩)):=by
 have:=o5 k op a b
 rwa [CY,CY] at this
@[simp] theorem buSd (k s:Int) (nm:List UInt8):Ay zP 59 [(0,.int .i64 k),(5,.str nm),(8,.int .i64 s)]=some (.agg (Sx.c ⟨k,[],t0,t0,[],t0,t0,nm,t0,t0,s⟩)):=by kernel_rfl
theorem OQ (r:Sr) (n:Nat) (x:Option (Nat × Nat)):r.at_≤(Ci r n x).at_∧(Ci r n x).at_≤r.at_+n∧(AO r.err→BN x→AO (Ci r n x).err)∧(r.err≠none→(Ci r n x)=r):=by
 unfold Ci;cases he:r.err with
 |some y=>exact ⟨Nat.le_refl _,Nat.le_add_right _ _,fun h _=>by rw [he];exact h,fun _=>rfl⟩
 |none =>
  cases x with
  |none=>exact ⟨Nat.le_add_right _ _,Nat.le_refl _,fun _ _=>Bx,fun h=>absurd rfl h⟩
  |some y =>obtain ⟨p,c⟩:=y;exact ⟨Nat.le_refl _,Nat.le_add_right _ _,fun _ h=>HF (by simp) fun hc=>h p (by rw [hc]),fun h=>absurd rfl h⟩
theorem K4 (ts:List Wd) (r:Sr):r.at_≤(B9 ts r).2.at_∧(B9 ts r).2.at_≤r.at_+ts.length∧(AO r.err→AO (B9 ts r).2.err):=by
 unfold B9;cases he:r.err with
 |some y=>exact ⟨Nat.le_refl _,Nat.le_add_right _ _,fun h=>by rw [he];exact h⟩
 |none =>obtain ⟨h1,h2,h3,_⟩:=OQ r (Bb (ts.drop r.at_)).2.1 (Bb (ts.drop r.at_)).2.2;have h4:=(Ky (ts.drop r.at_)).1;rw [List.length_drop] at h4;exact ⟨h1,by simp only;omega,fun h=>h3 (by rw [he];exact h) (Q7 _)⟩
theorem XQ (ts:List Wd) (r:Sr):r.at_≤(Fp ts r).2.at_∧(Fp ts r).2.at_≤r.at_+ts.length∧(AO r.err→AO (Fp ts r).2.err):=by
 unfold Fp;cases he:r.err with
 |some y=>exact ⟨Nat.le_refl _,Nat.le_add_right _ _,fun h=>by rw [he];exact h⟩
 |none =>obtain ⟨h1,h2,h3,_⟩:=OQ r (CK (ts.drop r.at_)).2.1 (CK (ts.drop r.at_)).2.2;have h4:=(N1 (ts.drop r.at_)).1;rw [List.length_drop] at h4;exact ⟨h1,by simp only;omega,fun h=>h3 (by rw [he];exact h) (Q8 _)⟩
theorem XR (ts:List Wd) (r:Sr) (k:Nat) (s:List UInt8):r.at_≤(CO ts r k s).at_∧(CO ts r k s).at_≤r.at_+1∧(AO r.err→AO (CO ts r k s).err):=by
 unfold CO
 split
 ·exact ⟨Nat.le_succ _,Nat.le_refl _,fun h=>h⟩
 ·exact ⟨Nat.le_refl _,Nat.le_succ _,fun h=>h⟩
theorem o6 (ts:List Wd) (r:Sr):(B8 ts r).2.at_≤r.at_+1:=by
 unfold B8
 split
 ·exact Nat.le_refl _
 ·exact Nat.le_succ _
theorem o7 (ts:List Wd) (sT:ts.length<1000000) (r:Sr) (he:AO r.err) (hr:r.at_≤ts.length) {H:AH} {id:Nat} (hH:H.at id=some (.box (r.mc ts))) :
  CS zP AG 87 [.ptr id 0] H (.agg (FT ts r).1.x.c) (H.set id (some (.box ((FT ts r).2.mc ts)))):=by
 refine CS.rd BL Tryz.func87 (by kernel_rfl) 0 (by simp [Tryz.f87]) (fun B hB hG => ?_) (by simp) (by simp [Sx.c_low]) (DD _ _) (DD _ _) hH;have X:=XO ts sT;have hO:=XN ts sT;generalize oOf (Gq ts sT)=O at X hO;have f1:=fun H=>hO.name r H he
 obtain ⟨_,_,u1⟩:=OM ts r;have v1:=o6 ts r;unfold FT;generalize B8 ts r=m at *;obtain ⟨nm,r1⟩:=m;simp only at f1 u1 v1 ⊢;have e1:=u1 he;have f2:=fun H=>hO.must r1 3 isT H e1 (by omega) (by decide)
 obtain ⟨v2,u2,_⟩:=FU ts r1 3 isT;generalize Bp ts r1 3 isT=r2 at *;have e2:=u2 e1;have f3:=fun H=>hO.expr r2 H e2 (by omega)
 obtain ⟨_,v3,u3⟩:=K4 ts r2;generalize B9 ts r2=a at *;obtain ⟨lo,r3⟩:=a;simp only at f3 v3 u3 ⊢;have e3:=u3 e2;have f4:=fun H=>hO.must r3 3 A0 H e3 (by omega) (by decide)
 obtain ⟨v4,u4,_⟩:=FU ts r3 3 A0;generalize Bp ts r3 3 A0=r4 at *;have e4:=u4 e3;have f5:=fun H=>hO.expr r4 H e4 (by omega)
 obtain ⟨_,v5,u5⟩:=K4 ts r4;generalize B9 ts r4=b at *;obtain ⟨hi,r5⟩:=b;simp only at f5 v5 u5 ⊢;have e5:=u5 e4;have f6:=fun H=>hO.sign r5 A0 H e5 (by decide)
 refine Tr.goD X hG ?_;simp only [isT,mbx] at f1 f2 f3;simp only [A0,mbx] at f4 f5;simp at f2 f4;simp only [CY] at f3 f5;cases hc:isW ts r5 3 A0 with
 |false =>rw [HH hc,hc] at f6;simp [A0] at f6;simp [J1,hc];simp [Tryz.f87,Sr.mc,f1,f2,f3,f4,f5,f6,Sx.c,Sm.x,B2]
 |true =>
  rw [HG hc,hc] at f6;have f7:=fun H=>hO.sign r5.step BY H e5 (by decide)
  obtain ⟨_,v7,u7⟩:=XR ts r5.step 3 BY;simp [J1,hc];generalize isW ts r5.step 3 BY=neg at *;generalize CO ts r5.step 3 BY=r6 at *;have e6:=u7 e5;have f8:=fun H=>hO.num r6 H e6
  generalize CI ts r6=p at *;obtain ⟨n,r7⟩:=p;generalize r5.step=r5s at *;simp only at f8 ⊢;simp [A0] at f6;simp [BY] at f7
  try simp at f8
  cases neg with
  |true=>simp [Tryz.f87,Sr.mc,f1,f2,f3,f4,f5,f6,f7,f8,Sx.c,Sm.x,B2,NL]
  |false=>simp [Tryz.f87,Sr.mc,f1,f2,f3,f4,f5,f6,f7,f8,Sx.c,Sm.x,B2]
theorem XS (ts:List Wd):∀(n:Nat) (l:List It) (r:Sr),r.at_≤ts.length→(Dv ts n l r).2.at_≤ts.length+1∧(AO r.err→AO (Dv ts n l r).2.err)
 |0,l,r,h=>⟨by simp only [Dv];omega,fun h=>h⟩
 |n+1,l,r,h=>by
  obtain ⟨_,u2,u3⟩:=Rg ts r h;simp only [Dv]
  split
  ·rename_i hc
   have hl:=(D8 hc).1;obtain ⟨v1,v2⟩:=XS ts n (l++[(CA ts r).1]) (CA ts r).2.step hl;exact ⟨v1,fun h=>v2 (u3 h)⟩
  ·exact ⟨u2,u3⟩
noncomputable def XT (ts:List Wd) (sT:ts.length<1000000):AF zP AG:=AF.meth 86 (Sr.mc ts) (GJ ts) (fun (_:Unit) r=>AO r.err∧1≤r.at_∧r.at_≤ts.length) (fun _ _=>[]) (fun _ r=>itE.av (E6 ts r).1) (fun _ r=>(E6 ts r).2)
 (fun _ r h H id hH=>oy ts sT r h.1 h.2.1 h.2.2 hH) (fun id x y r _ _ h=>⟨rfl,rfl⟩)
noncomputable def XU (ts:List Wd) (sT:ts.length<1000000):AF zP AG:=AF.meth 87 (Sr.mc ts) (GJ ts) (fun (_:Unit) r=>AO r.err∧r.at_≤ts.length) (fun _ _=>[]) (fun _ r => .agg (FT ts r).1.x.c) (fun _ r=>(FT ts r).2)
 (fun _ r h H id hH=>o7 ts sT r h.1 h.2 hH) (fun id x y r _ _ h=>⟨rfl,rfl⟩)
noncomputable def Lky (ts:List Wd) (sT:ts.length<1000000):List (AF zP AG):=[EU ts,L9 ts,IN ts,MA ts sT,OO ts sT,XT ts sT,XU ts sT,I8 ts sT,IQ ts,Rb]
structure KyO (O:Orc) (ts:List Wd):Prop where
 fail:∀(r:Sr) (p c:Nat) (H:AH),AO r.err→O 65 [.ptr 0 0,.int .i64 (p:Int),.int .i64 (c:Int)] (mbx ts r::H)=some (.tup [],mbx ts (r.fail p c)::H)
 must:∀(r:Sr) (k:Nat) (s:List UInt8) (H:AH),AO r.err→r.at_<1000000000→s≠[]→O 63 [.ptr 0 0,.int .i64 (k:Int),.str s] (mbx ts r::H)=some (.tup [],mbx ts (Bp ts r k s)::H)
 is:∀(r:Sr) (k:Nat) (s:List UInt8) (H:AH),AO r.err→s≠[]→O 88 [.ptr 0 0,.int .i64 (k:Int),.str s] (mbx ts r::H)=some (.bool (isW ts r k s),mbx ts r::H)
 expr:∀(r:Sr) (H:AH),AO r.err→r.at_<1000000000→O 64 [.ptr 0 0] (mbx ts r::H)=some (.agg (tC (B9 ts r).1.tn),mbx ts (B9 ts r).2::H)
 to:∀(r:Sr) (H:AH),AO r.err→r.at_<1000000000→O 62 [.ptr 0 0] (mbx ts r::H)=some (.agg (tC (CM ts r).1.tn),mbx ts (CM ts r).2::H)
 items:∀(r:Sr) (H:AH),AO r.err→1≤r.at_→r.at_≤ts.length→O 86 [.ptr 0 0] (mbx ts r::H)=some (itE.av (E6 ts r).1,mbx ts (E6 ts r).2::H)
 loop:∀(r:Sr) (H:AH),AO r.err→r.at_≤ts.length→O 87 [.ptr 0 0] (mbx ts r::H)=some (.agg (FT ts r).1.x.c,mbx ts (FT ts r).2::H)
 rest:∀(r:Sr) (H:AH),O 90 [.ptr 0 0] (mbx ts r::H)=some (AD (ts.drop r.at_),mbx ts r::H)
 took:∀(r:Sr) (n:Nat) (x:Option (Nat × Nat)) (H:AH),K2 r n x→O 91 [.ptr 0 0,.int .i64 (n:Int),erA (xE x)] (mbx ts r::H)=some (.tup [],mbx ts (Ci r n x)::H)
 cond:∀(us:List Wd) (H:AH),us.length<1000000→O 89 [AD us] H=some (.tup [FQ (CK us).1,.int .i64 (CK us).2.1,erA (xE (CK us).2.2)],H)
theorem o8 (ts:List Wd) (sT:ts.length<1000000):KyO (oOf (Lky ts sT)) ts:=by
 have hL:((Lky ts sT).map (·.f)).Nodup:=show ([65,63,88,64,62,86,87,90,91,89]:List Nat).Nodup by decide
 refine ⟨fun r p c H he=>XK hL (by simp [Lky]) r he p c H,fun r k s H he hr hs=>XL hL (by simp [Lky]) r he hr k s hs H,fun r k s H he hs=>OJ hL (by simp [Lky]) r he k s hs H,fun r H he hr=>XM sT hL (by simp [Lky]) r he hr H,
  fun r H he hr=>ou sT hL (by simp [Lky]) r he hr H,fun r H he h1 h2 => ?_,fun r H he h2 => ?_,fun r H=>Rc sT hL (by simp [Lky]) r H,fun r n x H h => ?_,fun us H h => ?_⟩
 ·have:=B0 hL (show XT ts sT∈Lky ts sT by simp [Lky]) () r (H:=some (.box (r.mc ts))::H) (id:=0) rfl ⟨he,h1,h2⟩
  simpa [Sr.mc] using this
 ·have:=B0 hL (show XU ts sT∈Lky ts sT by simp [Lky]) () r (H:=some (.box (r.mc ts))::H) (id:=0) rfl ⟨he,h2⟩
  simpa [Sr.mc] using this
 ·have:=Re hL (show IQ ts∈Lky ts sT by simp [Lky]) r n x h H
  rwa [zAE] at this
 ·have:=ob hL (show Rb∈Lky ts sT by simp [Lky]) us h H
  simp only [Kx,zAE] at this;exact this
theorem o9 (ts:List Wd) (sT:ts.length<1000000):Cx (oOf (Lky ts sT)) zP AG:=Bq _ Bw Ae
theorem pA {ts:List Wd} (sT:ts.length<1000000) {r:Sr} (he:AO r.err) (hr:r.at_<1000000000):K2 r (CK (ts.drop r.at_)).2.1 (CK (ts.drop r.at_)).2.2:=by obtain ⟨h1,h2⟩:=N1 (ts.drop r.at_);rw [List.length_drop] at h1;refine ⟨he,hr,fun _=>by omega,Q8 _,fun p c h => ?_⟩;have:=h2 p c h;rw [List.length_drop] at this;omega
@[simp] theorem sP (k:Int):Ay zP 59 [(0,.int .i64 k),(4,.agg [.str [],.int .i64 0,.int .i64 0,.str [],.nilSlice,.int .i64 0,.int .i64 0,.str [],.nilSlice])]=some (.agg (Sx.c ⟨k,[],t0,t0,[],t0,t0,[],t0,t0,0⟩)):=by kernel_rfl
theorem pC (ts:List Wd) (sT:ts.length<1000000) (h1:1≤ts.length) (s:List UInt8) {H:AH} {id:Nat} (hH:H.at id=some (.box ((⟨0,none⟩:Sr).mc ts))) :
  CS zP AG 61 [.ptr id 0,.str s] H (.agg (Cb ts s ⟨1,none⟩).1.x.c) (H.set id (some (.box ((Cb ts s ⟨1,none⟩).2.mc ts)))):=by
 refine CS.rd BL Tryz.func61 (by kernel_rfl) 0 (by simp [Tryz.f61]) (fun B hB hG => ?_) (by simp) (by simp [Sx.c_low]) (DD _ _) (DD _ _) hH;have X:=o9 ts sT;have hO:=o8 ts sT;generalize oOf (Lky ts sT)=O at X hO;refine Tr.goD X hG ?_;have w1:IntKind.i64.wrap (1:Int)=1:=by decide
 have w2:IntKind.i64.wrap (0:Int)=0:=by decide
 have hb:mbx ts ⟨1,none⟩=some (.box [AD ts,.int .i64 1,.nilSlice,.int .i64 0]):=rfl
 by_cases uD:s=Io
 ·have hk:Cb ts s ⟨1,none⟩=({kind:=1,items:=(E6 ts ⟨1,none⟩).1},(E6 ts ⟨1,none⟩).2):=by unfold Cb;rw [if_pos uD]
  rw [hk];have f1:=fun H=>hO.items ⟨1,none⟩ H Bx (Nat.le_refl _) h1
  rw [hb] at f1;generalize E6 ts ⟨1,none⟩=p at *;subst uD;simp [Tryz.f61,Sr.mc,A2,A3,w1,w2,Io,f1,Sx.c,Sm.x,B2]
 by_cases uc:s=doT
 ·have hk:Cb ts s ⟨1,none⟩=FT ts ⟨1,none⟩:=by unfold Cb;rw [if_neg uD];rw [if_pos uc]
  rw [hk];have f1:=fun H=>hO.loop ⟨1,none⟩ H Bx h1
  rw [hb] at f1;generalize FT ts ⟨1,none⟩=p at *;subst uc;simp [Tryz.f61,Sr.mc,A2,A3,w1,w2,doT,f1,Sx.c]
 by_cases vi:s=Hg
 ·have hk:Cb ts s ⟨1,none⟩=(if isW ts ⟨1,none⟩ 4 doT then ({kind:=4},(⟨1,none⟩:Sr).step) else ({kind:=7},Bp ts ⟨1,none⟩ 4 ifT)):=by unfold Cb;rw [if_neg uD];rw [if_neg uc];rw [if_pos vi]
  rw [hk];have f1:=fun H=>hO.is ⟨1,none⟩ 4 doT H Bx (by decide)
  have f2:=fun H=>hO.must ⟨1,none⟩ 4 ifT H Bx (by decide) (by decide)
  have w3:IntKind.i64.wrap (2:Int)=2:=by decide
  subst vi;cases hd:isW ts ⟨1,none⟩ 4 doT with
  |true =>rw [hd,hb] at f1;simp [doT] at f1;simp [Tryz.f61,Sr.mc,A2,A3,w1,w2,w3,Hg,f1,Sx.c,Sm.x,B2,Sr.step]
  |false =>rw [hd,hb] at f1;rw [hb] at f2;simp [doT] at f1;generalize Bp ts ⟨1,none⟩ 4 ifT=r2 at *;simp [ifT] at f2;simp [Tryz.f61,Sr.mc,A2,A3,w1,w2,Hg,f1,f2,Sx.c,Sm.x,B2]
 by_cases xI:s=ifT
 ·have hk:Cb ts s ⟨1,none⟩=OF ts ⟨1,none⟩:=by unfold Cb;rw [if_neg uD];rw [if_neg uc];rw [if_neg vi];rw [if_pos xI]
  rw [hk];have f1:=fun H=>hO.must ⟨1,none⟩ 3 Ah H Bx (by decide) (by decide)
  rw [hb] at f1;obtain ⟨v1,u1,_⟩:=FU ts ⟨1,none⟩ 3 Ah;unfold OF;generalize Bp ts ⟨1,none⟩ 3 Ah=r1 at *;have e1:=u1 Bx;obtain ⟨_,v2,u2⟩:=XQ ts r1;have f2:=fun H=>hO.rest r1 H
  have f3:=fun H=>hO.cond (ts.drop r1.at_) H (by rw [List.length_drop];omega)
  have f4:=fun H=>hO.took r1 _ _ H (pA sT e1 (by simp only at v1;omega))
  have xe:Fp ts r1=match r1.err with
   |some _=>(([],.none,.none),r1)
   |none=>((CK (ts.drop r1.at_)).1,Ci r1 (CK (ts.drop r1.at_)).2.1 (CK (ts.drop r1.at_)).2.2):=rfl
  subst xI;simp [Ah] at f1;cases s6:r1.err with
  |some y =>
   rw [s6] at xe;simp only at xe;rw [xe];simp only
   have q0:¬erC r1.err=0:=fun h=>by have:=(E7 e1).1 h;rw [s6] at this;cases this
   have q1:(erC r1.err==0)=false:=by rw [beq_eq_false_iff_ne];exact q0
   rw [←s6] at *;have f5:=fun H=>hO.must r1 3 Ao H e1 (by simp only at v1;omega) (by decide)
   obtain ⟨v5,u5,_⟩:=FU ts r1 3 Ao;generalize Bp ts r1 3 Ao=r3 at *;have f6:=fun H=>hO.must r3 4 Ga H (u5 e1) (by simp only at v1;omega) (by decide)
   generalize Bp ts r3 4 Ga=r4 at *;simp [Ao] at f5;simp [Ga] at f6;simp [Tryz.f61,Sr.mc,A2,A3,w1,w2,ifT,q0,q1,f1,f5,f6,Sx.c,Sm.x,B2]
  |none =>
   rw [s6] at xe;simp only at xe;rw [xe];have q0:erC r1.err=0:=by rw [s6];rfl
   generalize CK (ts.drop r1.at_)=x at *;obtain ⟨c,n,q⟩:=x;obtain ⟨op,ca,cb⟩:=c;rw [xe] at v2 u2;simp only at f3 f4 v2 u2 ⊢;generalize Ci r1 n q=r2 at *;have e2:=u2 e1;have f5:=fun H=>hO.must r2 3 Ao H e2 (by simp only at v1;omega) (by decide)
   obtain ⟨v5,u5,_⟩:=FU ts r2 3 Ao;generalize Bp ts r2 3 Ao=r3 at *;have f6:=fun H=>hO.must r3 4 Ga H (u5 e2) (by simp only at v1;omega) (by decide)
   generalize Bp ts r3 4 Ga=r4 at *;simp [Ao] at f5;simp [Ga] at f6;simp only [mbx,q0] at f1 f2 f4;simp only [FQ,CY,List.cons_append,List.nil_append] at f3;simp at f2 f4;simp [Tryz.f61,Sr.mc,A2,A3,w1,w2,ifT,q0,f1,f2,f3,f4,f5,f6,Sx.c,Sm.x,B2]
 by_cases xf:s=Ip
 ·have hk:Cb ts s ⟨1,none⟩=({kind:=6},⟨1,none⟩):=by unfold Cb;rw [if_neg uD];rw [if_neg uc];rw [if_neg vi];rw [if_neg xI];rw [if_pos xf]
  rw [hk];subst xf;simp [Tryz.f61,Sr.mc,A2,A3,w1,w2,Ip,Sx.c,Sm.x,B2]
 by_cases yD:s=Iq
 ·have hk:Cb ts s ⟨1,none⟩=({kind:=8,to:=(CM ts ⟨1,none⟩).1},(CM ts ⟨1,none⟩).2):=by unfold Cb;rw [if_neg uD];rw [if_neg uc];rw [if_neg vi];rw [if_neg xI];rw [if_neg xf];rw [if_pos yD]
  rw [hk];have f1:=fun H=>hO.to ⟨1,none⟩ H Bx (by decide)
  rw [hb] at f1;generalize CM ts ⟨1,none⟩=p at *;simp only [CY] at f1;subst yD;simp [Tryz.f61,Sr.mc,A2,A3,w1,w2,Iq,f1,Sx.c,Sm.x,B2]
 by_cases zA:s=Ir
 ·have hk:Cb ts s ⟨1,none⟩=({kind:=9,e:=(B9 ts ⟨1,none⟩).1},(B9 ts ⟨1,none⟩).2):=by unfold Cb;rw [if_neg uD];rw [if_neg uc];rw [if_neg vi];rw [if_neg xI];rw [if_neg xf];rw [if_neg yD];rw [if_pos zA]
  rw [hk];have f1:=fun H=>hO.expr ⟨1,none⟩ H Bx (by decide)
  rw [hb] at f1;generalize B9 ts ⟨1,none⟩=p at *;simp only [CY] at f1;subst zA;simp [Tryz.f61,Sr.mc,A2,A3,w1,w2,Ir,f1,Sx.c,Sm.x,B2]
 have f1:=fun H=>hO.fail ⟨1,none⟩ 0 2 H Bx
 rw [hb] at f1;have hk:Cb ts s ⟨1,none⟩=({},(⟨1,none⟩:Sr).fail 0 2):=by unfold Cb;rw [if_neg uD,if_neg uc,if_neg vi,if_neg xI,if_neg xf,if_neg yD,if_neg zA];rfl
 rw [hk];generalize (⟨1,none⟩:Sr).fail 0 2=r2 at *;simp at f1;simp only [Io,doT,Hg,ifT,Ip,Iq,Ir] at uD uc vi xI xf yD zA;simp [Tryz.f61,Sr.mc,A2,A3,w1,w2,uD,uc,vi,xI,xf,yD,zA,f1,Sx.c,Sm.x,B2]
noncomputable def XV:AF zP AG:=AF.pure 58 (fun s:List UInt8=>s.length<B7) (fun s=>[.str s]) El (fun s h H=>CS.toF (CS.toX (CS.toN (nk s h H)))) (fun x y _ _ h=>by
 simp only [List.cons.injEq,AV.str.injEq,and_true] at h
 rw [h])
noncomputable def XW:AF zP AG:=AF.pure 59 (fun s:List UInt8=>s.length<B7) (fun s=>[.str s]) (fun s=>DA (lex (s.length+1) s 0 false)) (fun s h H=>CS.toF (CS.toX (CS.toN (mN s h H)))) (fun x y _ _ h=>by
 simp only [List.cons.injEq,AV.str.injEq,and_true] at h
 rw [h])
noncomputable def XX (ts:List Wd) (sT:ts.length<1000000):AF zP AG:=AF.meth 61 (Sr.mc ts) (GJ ts) (fun (_:List UInt8) r=>r=⟨0,none⟩∧1≤ts.length) (fun _ s=>[.str s]) (fun s _ => .agg (Cb ts s ⟨1,none⟩).1.x.c) (fun s _=>(Cb ts s ⟨1,none⟩).2)
 (fun s r h H id hH=>pC ts sT h.2 s (by rw [←h.1];exact hH)) (fun id x y r _ _ h=>by
  simp only [List.cons.injEq,AV.str.injEq,and_true] at h;rw [h]
  exact ⟨rfl,rfl⟩)
noncomputable def Lps (ts:List Wd) (sT:ts.length<1000000):List (AF zP AG):=[XV,XW,IP,XX ts sT,OO ts sT,L9 ts,MA ts sT,EU ts]
structure PsO (O:Orc) (ts:List Wd):Prop where
 parts:∀(s:List UInt8) (H:AH),s.length<B7→O 58 [.str s] H=some (El s,H)
 toks:∀(s:List UInt8) (H:AH),s.length<B7→O 59 [.str s] H=some (DA (lex (s.length+1) s 0 false),H)
 within:∀(w:List UInt8) (p:Nat) (e:Er) (H:AH),AO e→(∀l c,e=some (l,c)→l.length<1000)→O 60 [.str w,.int .i64 (p:Int),erA e] H=some (erA (inE w p e),H)
 key:∀(s:List UInt8) (e0 e1 e2:Option Ent) (H:AH),1≤ts.length→O 61 [.ptr 3 0,.str s] (e0::e1::e2::mbx ts ⟨0,none⟩::H)=some (.agg (Cb ts s ⟨1,none⟩).1.x.c,e0::e1::e2::mbx ts (Cb ts s ⟨1,none⟩).2::H)
 to:∀(r:Sr) (e0 e1 e2:Option Ent) (H:AH),AO r.err→r.at_<1000000000→O 62 [.ptr 3 0] (e0::e1::e2::mbx ts r::H)=some (.agg (tC (CM ts r).1.tn),e0::e1::e2::mbx ts (CM ts r).2::H)
 must:∀(r:Sr) (k:Nat) (s:List UInt8) (e0 e1 e2:Option Ent) (H:AH),AO r.err→r.at_<1000000000→s≠[]→O 63 [.ptr 3 0,.int .i64 (k:Int),.str s] (e0::e1::e2::mbx ts r::H)=some (.tup [],e0::e1::e2::mbx ts (Bp ts r k s)::H)
 expr:∀(r:Sr) (e0 e1 e2:Option Ent) (H:AH),AO r.err→r.at_<1000000000→O 64 [.ptr 3 0] (e0::e1::e2::mbx ts r::H)=some (.agg (tC (B9 ts r).1.tn),e0::e1::e2::mbx ts (B9 ts r).2::H)
 fail:∀(r:Sr) (p c:Nat) (e0 e1 e2:Option Ent) (H:AH),AO r.err→O 65 [.ptr 3 0,.int .i64 (p:Int),.int .i64 (c:Int)] (e0::e1::e2::mbx ts r::H)=some (.tup [],e0::e1::e2::mbx ts (r.fail p c)::H)
theorem XY (ts:List Wd) (sT:ts.length<1000000):PsO (oOf (Lps ts sT)) ts:=by
 have hL:((Lps ts sT).map (·.f)).Nodup:=show ([58,59,60,61,62,63,64,65]:List Nat).Nodup by decide
 refine ⟨fun s H h=>CV hL (show XV∈Lps ts sT by simp [Lps]) s h H,fun s H h=>CV hL (show XW∈Lps ts sT by simp [Lps]) s h H,fun w p e H he hl=>CV hL (show IP∈Lps ts sT by simp [Lps]) (w,p,e) ⟨he,hl⟩ H,
  fun s e0 e1 e2 H h => ?_,fun r e0 e1 e2 H he hr => ?_,fun r k s e0 e1 e2 H he hr hs => ?_,fun r e0 e1 e2 H he hr => ?_,fun r p c e0 e1 e2 H he => ?_⟩
 ·exact B0 hL (show XX ts sT∈Lps ts sT by simp [Lps]) s ⟨0,none⟩ (H:=e0::e1::e2::some (.box ((⟨0,none⟩:Sr).mc ts))::H) (id:=3) rfl ⟨rfl,h⟩
 ·exact B0 hL (show OO ts sT∈Lps ts sT by simp [Lps]) () r (H:=e0::e1::e2::some (.box (r.mc ts))::H) (id:=3) rfl ⟨he,hr⟩
 ·exact B0 hL (show L9 ts∈Lps ts sT by simp [Lps]) (k,s) r (H:=e0::e1::e2::some (.box (r.mc ts))::H) (id:=3) rfl ⟨he,hr,hs⟩
 ·exact B0 hL (show MA ts sT∈Lps ts sT by simp [Lps]) () r (H:=e0::e1::e2::some (.box (r.mc ts))::H) (id:=3) rfl ⟨he,hr⟩
 ·exact B0 hL (show EU ts∈Lps ts sT by simp [Lps]) (p,c) r (H:=e0::e1::e2::some (.box (r.mc ts))::H) (id:=3) rfl he
theorem XZ (ts:List Wd) (sT:ts.length<1000000):Cx (oOf (Lps ts sT)) zP AG:=Bq _ Bw Ae
@[simp] theorem buMk (ts:List Wd):Ay zP 168 [(0,AD ts)]=some (.agg [AD ts,.int .i64 0,.nilSlice,.int .i64 0]):=by
 unfold AD
 split<;>kernel_rfl
theorem Rh (ts:List Wd) (r:Sr) (hr:r.at_≤ts.length):(CM ts r).2.at_≤r.at_+ts.length+1000000∧(AO r.err→AO (CM ts r).2.err):=by
 unfold CM
 split
 ·split
  ·rename_i hw hk
   have h2:2≤(ts.drop r.at_).length:=by
    rw [List.length_drop];simp only [isK] at hk
    split at hk
    ·rename_i hx;have:=(List.getElem?_eq_some_iff.1 hx).1;omega
    ·cases hk
   obtain ⟨h1,h3⟩:=XF (ts:=ts.drop r.at_) (r:=⟨2,0,none⟩) ⟨h2,fun p c h=>by cases h⟩;have uT:=Rf (ts.drop r.at_) ⟨2,0,none⟩ C1;simp only;refine ⟨?_,fun h=>(OQ _ _ _).2.2.1 h uT⟩;unfold Ci
   split
   ·omega
   ·split
    ·simp only;omega
    ·rename_i hn
     have this:(Bv (ts.drop r.at_) (Bn (ts.drop r.at_)) ⟨2,0,none⟩).2.at_≤(ts.drop r.at_).length:=h1 hn;rw [List.length_drop] at this;simp only;omega
  ·exact ⟨by simp only [Sr.step];omega,fun h=>h⟩
 ·exact ⟨by simp only [Sr.fail];omega,fun h=>Sr.fail_ok h _ (by decide)⟩
theorem pD (ts:List Wd) (r:Sr) (h:AO r.err):AO (FT ts r).2.err:=by
 unfold FT J1;have h1:=(OM ts r).2.2 h;have h2:=(FU ts (B8 ts r).2 3 isT).2.1 h1;have h3:=(K4 ts _).2.2 h2;have h4:=(FU ts (B9 ts (Bp ts (B8 ts r).2 3 isT)).2 3 A0).2.1 h3;have h5:=(K4 ts _).2.2 h4;simp only
 split
 ·exact (ON ts _).2.2 ((XR ts _ 3 BY).2.2 h5)
 ·exact h5
theorem pE (ts:List Wd) (s:List UInt8) (h1:1≤ts.length):AO (Cb ts s ⟨1,none⟩).2.err:=by
 unfold Cb
 split
 ·exact (XS ts _ _ _ h1).2 Bx
 ·split
  ·exact pD ts _ Bx
  ·split
   ·split
    ·exact Bx
    ·exact (FU ts _ _ _).2.1 Bx
   ·split
    ·exact (FU ts _ _ _).2.1 ((FU ts _ _ _).2.1 ((XQ ts _).2.2 ((FU ts _ _ _).2.1 Bx)))
    ·split
     ·exact Bx
     ·split
      ·exact (Rh ts ⟨1,none⟩ h1).2 Bx
      ·split
       ·exact (K4 ts _).2.2 Bx
       ·exact Sr.fail_ok Bx _ (by decide)
def Fs (x:Sm × Er):AV := .tup [.agg x.1.x.c,erA x.2]
theorem pF (s:List UInt8) (hs:s.length<1000000) (H:AH):CS zP AG 41 [.str s] H (Fs (Dl (B4 s))) H:=by
 have hb:(B4 s).length<1000000:=by have h1:=OB s;unfold B4;rw [List.length_take];omega
 have tV:s.length<B7:=by rw [ER];omega
 have yz:(B4 s).length<B7:=by rw [ER];omega
 unfold Dl;generalize xH:lex ((B4 s).length+1) (B4 s) 0 false=lx;cases lx with
 |error x =>
  obtain ⟨p,e⟩:=x;have X:=XZ [] (by decide);have hO:=XY [] (by decide);generalize oOf (Lps [] _)=O at X hO;have tq:=WJ _ _ _ _ _ _ xH;have f1:=fun H=>hO.parts s H tV
  have f2:=fun H=>hO.toks (B4 s) H yz
  have f3:=fun H=>hO.within Bo 0 (some ([(Kb,p)],e)) H (HF (by simp) tq) (by simp)
  rw [xH] at f2;simp [DA,Ff] at f2;simp [erP,erC,inE,CB,B3,Bo,Kb] at f3;refine CS.tr0 BL Tryz.func41 (by kernel_rfl) 0 (by simp [Tryz.f41]) (fun B hB hG => ?_) (by simp [Fs,Sx.c_low]) (by simp) H;refine Tr.goD X hG ?_;have hc:¬(e:Int)=0:=by omega
  simp [Tryz.f41,El,f1,f2,f3,hc,tq,DU,Sx.c,Fs,Sm.x,B2,erP,erC,CB,B3,Bo,Kb]
 |ok ts =>
  have sT:=Qz hb xH;have X:=XZ ts sT;have hO:=XY ts sT;generalize oOf (Lps ts sT)=O at X hO;have f1:=fun H=>hO.parts s H tV
  have f2:=fun H=>hO.toks (B4 s) H yz
  rw [xH] at f2;simp only [DA,Lm] at f2;refine CS.tr0 BL Tryz.func41 (by kernel_rfl) 0 (by simp [Tryz.f41]) (fun B hB hG => ?_) (by simp [Fs,Sx.c_low]) (by simp) H;refine Tr.goD X hG ?_
  by_cases sU:ts=[]
  ·have vf:AD ts = .nilSlice:=if_pos sU
   have hp0:I7 ts=({},none):=by rw [sU];rfl
   simp only;rw [hp0];rw [vf] at f2;simp [Tryz.f41,El,f1,f2,Sx.c,Fs,Sm.x,B2,A2,A3]
  have sc:0<ts.length:=List.length_pos_iff.2 sU;obtain ⟨w,hw⟩:∃w,ts[0]? = some w:=⟨_,List.getElem?_eq_getElem sc⟩
  obtain ⟨c0,c1,_⟩:=Eh hw;simp at c0 c1;have ss:¬ts.length=0:=by omega
  have xg:((ts.length:Int)==0)=false:=by rw [beq_eq_false_iff_ne];omega
  have x7:I7 ts=match (if (Dk ts w).2.err=none∧(Dk ts w).2.at_<ts.length then (Dk ts w).2.fail (Dk ts w).2.at_ 2 else (Dk ts w).2).err with
    |some y=>({},some y)
    |none=>((Dk ts w).1,none):=by
   cases ts with
   |nil=>exact absurd rfl sU
   |cons v us =>simp only [List.getElem?_cons_zero,Option.some.injEq] at hw;subst hw;rfl
  have uX:mbx ts ⟨0,none⟩=some (.box [AD ts,.int .i64 0,.nilSlice,.int .i64 0]):=rfl;simp only;rw [x7];have fl:=fun r p e0 e1 e2 H he=>hO.fail r p 2 e0 e1 e2 H he
  simp only [mbx] at fl
  have key:∀x:Sm × Sr,AO x.2.err→∃y:Sm × Er,y=(match (if x.2.err=none∧x.2.at_<ts.length then x.2.fail x.2.at_ 2 else x.2).err with
    |some y=>(({}:Sm),some y)
    |none=>(x.1,none))∧((x.2.err=none∧x.2.at_<ts.length∧y=({},some ([(Bo,x.2.at_)],2))∧x.2.fail x.2.at_ 2=⟨x.2.at_,some ([(Bo,x.2.at_)],2)⟩)∨(x.2.err=none∧¬x.2.at_<ts.length∧y=(x.1,none))∨(erC x.2.err≠0∧y=({},x.2.err))):=by
   rintro ⟨x,⟨a,e⟩⟩ he;cases e with
   |none =>
    by_cases hl:a<ts.length
    ·exact ⟨_,rfl,.inl ⟨rfl,hl,by simp [hl,Sr.fail],rfl⟩⟩
    ·exact ⟨_,rfl,.inr (.inl ⟨rfl,hl,by simp [hl]⟩)⟩
   |some z=>exact ⟨_,rfl,.inr (.inr ⟨(fun h=>by have:=(E7 he).1 h;cases this),by simp⟩)⟩
  have uW:AO (Dk ts w).2.err:=by
   unfold Dk
   split
   ·exact pE ts _ sc
   ·split
    ·exact (K4 ts _).2.2 ((FU ts _ _ _).2.1 ((Rh ts ⟨0,none⟩ (Nat.zero_le _)).2 Bx))
    ·exact HF (by simp) (by decide)
  obtain ⟨y,hy,vz⟩:=key _ uW;rw [←hy];clear hy key x7
  by_cases vI:w.kind=4
  ·have hx:Dk ts w=Cb ts w.text ⟨1,none⟩:=if_pos vI
   have f3:=fun e0 e1 e2 H=>hO.key w.text e0 e1 e2 H sc
   rw [hx] at uW vz;rw [uX] at f3;generalize Cb ts w.text ⟨1,none⟩=x at *;obtain ⟨m,r⟩:=x;simp only at uW vz f3;obtain ⟨M,hM⟩:∃M,M=m.x:=⟨_,rfl⟩
   simp only [mbx,←hM] at f3;rcases vz with ⟨tq,hl,hy,hf⟩|⟨tq,hl,hy⟩|⟨tq,hy⟩
   ·have hl':(r.at_:Int)<ts.length:=by omega
    have f9:=fun e0 e1 e2 H=>fl r r.at_ e0 e1 e2 H uW
    have hE:erC (some ([(Bo,r.at_)],2))=2:=rfl;rw [hf] at f9;simp [tq,A2,A3,hE] at f9 f3;simp [Tryz.f41,El,f1,f2,f3,f9,ss,xg,sc,sU,c0,c1,vI,tq,hl,hl',hE,A2,A3,Sx.c];refine LpD.turns X hG [5,6] zL0 ?_;simp [hy,Fs,Sx.c,Sm.x,B2,hE]
   ·have hl':¬(r.at_:Int)<ts.length:=by omega
    simp [tq,A2,A3] at f3;simp [Tryz.f41,El,f1,f2,f3,ss,xg,sc,sU,c0,c1,vI,tq,hl,hl',A2,A3,Sx.c,hy,Fs,hM,Sm.x]
   ·have zAq:(erC r.err==0)=false:=by rw [beq_eq_false_iff_ne];exact tq
    try simp at f3
    simp [Tryz.f41,El,f1,f2,f3,ss,xg,sc,sU,c0,c1,vI,tq,zAq,A2,A3,Sx.c];refine LpD.turns X hG [5,6] zL0 ?_;simp [hy,Fs,Sx.c,Sm.x,B2]
  by_cases uF:w.kind=1
  ·have hx:Dk ts w=OG ts ⟨0,none⟩:=by unfold Dk;rw [if_neg vI,if_pos uF]
   have vV:OG ts ⟨0,none⟩=({kind:=2,to:=(CM ts ⟨0,none⟩).1,e:=(B9 ts (Bp ts (CM ts ⟨0,none⟩).2 3 isT)).1},(B9 ts (Bp ts (CM ts ⟨0,none⟩).2 3 isT)).2):=rfl;rw [hx,vV] at uW vz;have f3:=fun e0 e1 e2 H=>hO.to ⟨0,none⟩ e0 e1 e2 H Bx (by decide)
   obtain ⟨v3,u3⟩:=Rh ts ⟨0,none⟩ (Nat.zero_le _);rw [uX] at f3;generalize CM ts ⟨0,none⟩=pt at *;obtain ⟨to,r1⟩:=pt;simp only at uW vz f3 v3 u3;have e1:=u3 Bx;have f4:=fun e0 e1' e2 H=>hO.must r1 3 isT e0 e1' e2 H e1 (by omega) (by decide)
   obtain ⟨v4,u4,_⟩:=FU ts r1 3 isT;generalize Bp ts r1 3 isT=r2 at *;have f5:=fun e0 e1' e2 H=>hO.expr r2 e0 e1' e2 H (u4 e1) (by omega)
   generalize B9 ts r2=pe at *;obtain ⟨ex,r⟩:=pe;simp only at uW vz f5;simp only [CY,mbx] at f3 f5;simp only [isT,mbx] at f4;have zB:¬(w.kind:Int)=4:=by omega
   rcases vz with ⟨tq,hl,hy,hf⟩|⟨tq,hl,hy⟩|⟨tq,hy⟩
   ·have hl':(r.at_:Int)<ts.length:=by omega
    have f9:=fun e0 e1 e2 H=>fl r r.at_ e0 e1 e2 H uW
    have hE:erC (some ([(Bo,r.at_)],2))=2:=rfl;rw [hf] at f9;simp [tq,A2,A3,hE] at f9 f3 f4 f5;simp [Tryz.f41,El,f1,f2,f3,f4,f5,f9,ss,xg,sc,sU,c0,c1,vI,uF,zB,tq,hl,hl',hE,A2,A3,Sx.c];refine LpD.turns X hG [5,6] zL0 ?_;simp [hy,Fs,Sx.c,Sm.x,B2,hE]
   ·have hl':¬(r.at_:Int)<ts.length:=by omega
    simp [tq,A2,A3] at f3 f4 f5;simp [Tryz.f41,El,f1,f2,f3,f4,f5,ss,xg,sc,sU,c0,c1,vI,uF,zB,tq,hl,hl',A2,A3,Sx.c,hy,Fs,Sm.x,B2]
   ·have zAq:(erC r.err==0)=false:=by rw [beq_eq_false_iff_ne];exact tq
    try simp at f3 f4 f5
    simp [Tryz.f41,El,f1,f2,f3,f4,f5,ss,xg,sc,sU,c0,c1,vI,uF,zB,tq,zAq,A2,A3,Sx.c];refine LpD.turns X hG [5,6] zL0 ?_;simp [hy,Fs,Sx.c,Sm.x,B2]
  ·have hx:Dk ts w=({},⟨0,some ([(Bo,0)],2)⟩):=by unfold Dk;rw [if_neg vI,if_neg uF]
   rw [hx] at uW vz;have f3:=fun e0 e1 e2 H=>fl ⟨0,none⟩ 0 e0 e1 e2 H Bx
   have yj:(⟨0,none⟩:Sr).fail 0 2=⟨0,some ([(Bo,0)],2)⟩:=rfl;rw [yj] at f3;have hE:erC (some ([(Bo,0)],2))=2:=rfl;simp [A2,A3,hE] at f3
   have hy:y=({},some ([(Bo,0)],2)):=by
    rcases vz with ⟨h,_⟩|⟨h,_⟩|⟨_,h⟩
    ·cases h
    ·cases h
    ·exact h
   have zB:¬(w.kind:Int)=4:=by omega
   have zCV:¬(w.kind:Int)=1:=by omega
   simp [Tryz.f41,El,f1,f2,f3,ss,xg,sc,sU,c0,vI,uF,zB,zCV,hE,A2,A3,Sx.c];refine LpD.turns X hG [5,6] zL0 ?_;simp [hy,Fs,Sx.c,Sm.x,B2,hE]
@[simp] theorem immFN:AG.imm 61=false:=by decide
@[simp] theorem immFB:AG.imm 123=false:=by decide
def wrE:Enc Er where
 sz:=2
 c:=fun e=>[erP e,.int .i64 (erC e)]
 pos:=by decide
 len:=fun _=>rfl
 low:=fun e=>by simp
 one:=fun e=>by simp
 inj:=fun x y h=>by simp only [List.cons.injEq,AV.int.injEq,true_and,and_true] at h;exact OH h.1 h.2
def DS:List UInt8:=[108,105,110,101]
structure Bst where
 at_:Nat
 bad:Er
 plain:Bool
def Bst.fail (s:Bst) (p c:Nat):Bst:=⟨s.at_,some (s.bad.getD ([(DS,p)],c)),s.plain⟩
abbrev Zs:=List (Sx × Er)
def Eo (z:Sx × Er):Bool:=decide (z.1.kind=0)&&z.2.isNone
def DE (Z:Zs) (i:Nat):Nat:=i+((Z.drop i).takeWhile Eo).length
def D9 (Z:Zs) (s:Bst):Bst:=⟨DE Z s.at_,match s.bad,Z[DE Z s.at_]? with
 |none,some (_,some x)=>inE DS (DE Z s.at_) (some x)
 |e,_=>e,s.plain⟩
theorem Xa {Z:Zs} {i:Nat} {z:Sx × Er} (h:Z[i]? = some z) (he:Eo z=true):DE Z (i+1)=DE Z i:=by obtain ⟨hi,hz⟩:=List.getElem?_eq_some_iff.1 h;unfold DE;rw [List.drop_eq_getElem_cons hi,hz,List.takeWhile_cons,if_pos he,List.length_cons];omega
theorem Ri {Z:Zs} {i:Nat} (h:∀z,Z[i]? = some z→Eo z=false):DE Z i=i:=by
 unfold DE;cases hd:Z.drop i with
 |nil=>simp
 |cons z r =>
  have hz:Z[i]? = some z:=by have:=List.getElem?_drop (xs:=Z) (i:=i) (j:=0);rw [hd] at this;simpa using this.symm
  rw [List.takeWhile_cons,if_neg (by rw [h z hz];decide)];simp
theorem Rj (Z:Zs) (i:Nat):i≤DE Z i:=Nat.le_add_right _ _
theorem Xb (Z:Zs) (i:Nat) (h:i≤Z.length):DE Z i≤Z.length:=by unfold DE;have:=(List.takeWhile_sublist (l:=Z.drop i) Eo).length_le;rw [List.length_drop] at this;omega
theorem MB {Z:Zs} {s:Bst} {i:Nat} (hf:i=DE Z s.at_) {x:List (List UInt8 × Nat) × Nat} (h:s.bad=some x):D9 Z s=⟨i,some x,s.plain⟩:=by unfold D9;rw [←hf,h]
theorem Rk {Z:Zs} {s:Bst} {i:Nat} (hf:i=DE Z s.at_) (h:s.bad=none) (hz:Z[i]? = none):D9 Z s=⟨i,none,s.plain⟩:=by unfold D9;rw [←hf,h,hz]
theorem Rl {Z:Zs} {s:Bst} {i:Nat} (hf:i=DE Z s.at_) (h:s.bad=none) {z:Sx × Er} (hz:Z[i]? = some z) (h2:z.2=none):D9 Z s=⟨i,none,s.plain⟩:=by obtain ⟨a,b⟩:=z;simp only at h2;unfold D9;rw [←hf,h,hz,h2]
theorem OR {Z:Zs} {s:Bst} {i:Nat} (hf:i=DE Z s.at_) (h:s.bad=none) {z:Sx × Er} (hz:Z[i]? = some z) {y:List (List UInt8 × Nat) × Nat} (h2:z.2=some y):D9 Z s=⟨i,inE DS i (some y),s.plain⟩:=by obtain ⟨a,b⟩:=z;simp only at h2;unfold D9;rw [←hf,h,hz,h2]
def Zs.L (Z:Zs):List Sx:=Z.map (·.1)
def Zs.W (Z:Zs):List Er:=Z.map (·.2)
def bdC (ls:List (List UInt8)) (Z:Zs) (s:Bst):List AV:=[Ab.av ls,sxE.av Z.L,wrE.av Z.W,.int .i64 (s.at_:Int),erP s.bad,.int .i64 (erC s.bad),.bool s.plain]
@[simp] theorem pG (ls:List (List UInt8)) (Z:Zs) (s:Bst):bdC ls Z s=[Ab.av ls,sxE.av Z.L,wrE.av Z.W,.int .i64 (s.at_:Int),erP s.bad,.int .i64 (erC s.bad),.bool s.plain]:=AP rfl
theorem I9 (ls:List (List UInt8)) (Z:Zs) (s:Bst):lowL 0 (bdC ls Z s)=true:=by simp
theorem OS (ls:List (List UInt8)) (Z:Zs) (s r:Bst) (h:bdC ls Z s=bdC ls Z r):s=r:=by
 obtain ⟨a,b,c⟩:=s;obtain ⟨a',b',c'⟩:=r;simp only [pG,List.cons.injEq,AV.int.injEq,AV.bool.injEq,true_and,and_true] at h;have e1:a=a':=by omega
 rw [e1,OH h.2.1 h.2.2.1,h.2.2.2]
structure ZOk (Z:Zs):Prop where
 len:Z.length<1000000
 err:∀z∈Z,AO z.2∧∀l c,z.2=some (l,c)→l.length<1000
@[simp high] theorem sQ (l:List Sx):alen zP 120 (sxE.av l)=some (.int .i64 l.length):=sxE.alen Tryz.underlying120 l
@[simp high] theorem sR {l:List Sx} {i:Nat} (h:i<l.length):Au zP 120 (sxE.av l) (.int .i64 (i:Int))=some (.vptr (sxE.row l) (i*29)):=sxE.aidx Tryz.underlying120 (by kernel_rfl) h
@[simp high] theorem sS {l:List Er} {i:Nat} (h:i<l.length):Au zP 121 (wrE.av l) (.int .i64 (i:Int))=some (.vptr (wrE.row l) (i*2)):=wrE.aidx Tryz.underlying121 (by kernel_rfl) h
theorem pH (ls:List (List UInt8)) (Z:Zs) (s:Bst) (he:AO s.bad) (p c:Nat) {H:AH} {id:Nat} (hH:H.at id=some (.box (bdC ls Z s))) :
  CS zP AG 67 [.ptr id 0,.int .i64 (p:Int),.int .i64 (c:Int)] H (.tup []) (H.set id (some (.box (bdC ls Z (s.fail p c))))):=by
 obtain ⟨a,e,pl⟩:=s;refine CS.rd BL Tryz.func67 (by kernel_rfl) 0 (by simp [Tryz.f67]) (fun B hB hG => ?_) (by simp) rfl (I9 ls _ _) (I9 ls _ _) hH;refine Tr.goD Ra hG ?_;cases e with
 |none=>simp [Tryz.f67,Bst.fail,erC,erP,Ln,DS,CB,B3]
 |some y =>
  have h0:¬erC (some y)=0:=fun h=>by have:=(E7 he).1 h;cases this
  simp [Tryz.f67,Bst.fail,h0]
theorem Zs.L_at {Z:Zs} {i:Nat} {z:Sx × Er} (h:Z[i]? = some z):Z.L[i]? = some z.1:=by simp [Zs.L,h]
theorem Zs.W_at {Z:Zs} {i:Nat} {z:Sx × Er} (h:Z[i]? = some z):Z.W[i]? = some z.2:=by simp [Zs.W,h]
@[simp] theorem Zs.L_len (Z:Zs):Z.L.length=Z.length:=AP (by simp [Zs.L])
@[simp] theorem Zs.W_len (Z:Zs):Z.W.length=Z.length:=AP (by simp [Zs.W])
def SkI (ls:List (List UInt8)) (Z:Zs) (s:Bst) (k:Nat) (t:List AV) (H:AH):Prop :=∃i,i+k=Z.length∧DE Z i=DE Z s.at_∧t=mkT 97 [(0,.ptr 0 0)]∧H=[some (.box (bdC ls Z ⟨i,s.bad,s.plain⟩))]
theorem pI (ls:List (List UInt8)) (Z:Zs) (hZ:ZOk Z) (s:Bst) (he:AO s.bad) (ha:s.at_≤Z.length) {H:AH} {id:Nat} (hH:H.at id=some (.box (bdC ls Z s))) :
  CS zP AG 66 [.ptr id 0] H (.tup []) (H.set id (some (.box (bdC ls Z (D9 Z s))))):=by
 refine CS.rd BL Tryz.func66 (by kernel_rfl) 0 (by simp [Tryz.f66]) (fun B hB hG => ?_) (by simp) rfl (I9 ls _ _) (I9 ls _ _) hH;have hL:([IP].map (·.f)).Nodup:=show ([60]:List Nat).Nodup by decide
 have X:=Bq [IP] Bw Ae;have h1:=XC hL (by simp) DS;generalize oOf [IP]=O at X h1;refine Tr.goD X hG ?_;simp [Tryz.f66]
 refine LpD.loopN X hG (SkI ls Z s) (Z.length-s.at_) (t':=mkT 97 [(0,.ptr 0 0)]) (H':=[some (.box (bdC ls Z s))])
  (AE.mkK 1 (by simp [hB]) (by simp) (by simp) (by simp)) ⟨s.at_,by omega,rfl,rfl,rfl⟩ ?_
 rintro k t H ⟨i,sa,zX,rfl,rfl⟩;have sZ:=hZ.len;have fin:∀i,DE Z i=DE Z s.at_→(∀z,Z[i]? = some z→Eo z=false)→i=DE Z s.at_:=fun i h1 h2=>by rw [←h1,Ri h2]
 by_cases hi:i<Z.length
 ·obtain ⟨z,hz⟩:∃z,Z[i]? = some z:=⟨_,List.getElem?_eq_getElem hi⟩
  have hi':(i:Int)<Z.length:=by omega
  obtain ⟨hez,hel⟩:=hZ.err z (List.mem_of_getElem? hz);have g0:=sxE.row_cell (Zs.L_at hz) 0 (by decide);have g1:=wrE.row_cell (Zs.W_at hz) 1 (by decide);obtain ⟨g2,g3⟩:=wrE.row_at _ _ (Zs.W_at hz);have e0:(sxE.c z.1)[0]? = some (.int .i64 z.1.kind):=rfl;have e1:(wrE.c z.2)[1]? = some (.int .i64 (erC z.2)):=rfl;have e2:wrE.c z.2=[erP z.2,.int .i64 (erC z.2)]:=rfl;have e3:sxE.sz=29:=rfl;have e4:wrE.sz=2:=rfl;rw [e0,e3] at g0;rw [e1,e4] at g1;rw [e2,e4] at g2;rw [e4] at g3;simp only [Nat.add_zero] at g0;cases tw:z.2 with
  |none =>
   have hc:erC z.2=0:=by rw [tw];rfl
   rw [hc] at g1
   by_cases hk:z.1.kind=0
   ·have hem:Eo z=true:=by simp [Eo,hk,tw]
    rw [hk] at g0;have w1:IntKind.i64.wrap ((i:Int)+1)=(i:Int)+1:=AZ (by omega) (by omega);simp;refine LpD.turns X hG [] [] ?_;simp [hi,hi',g0,g1,w1];have hI:SkI ls Z s (k-1) (mkT 97 [(0,.ptr 0 0)]) [some (.box (bdC ls Z ⟨i+1,s.bad,s.plain⟩))]:=⟨i+1,by omega,by rw [Xa hz hem];exact zX,rfl,rfl⟩
    exact Nxt.mk (k-1) (by omega) (AE.mkK 1 (by simp [hB]) (by simp) (by simp) (by simp)) hI
   ·have uk:(z.1.kind==0)=false:=by rw [beq_eq_false_iff_ne];exact hk
    have hf:=fin i zX (fun z' h=>by rw [hz] at h;injection h with h;subst h;simp [Eo,hk]);simp;refine LpD.turns X hG [] [] ?_;simp [hi,hi',g0,hk,uk];refine LpD.turns X hG [] [] ?_;cases uR:s.bad with
    |none=>simp [hi,hi',g0,g1,A3,A2,Rl hf uR hz tw]
    |some x =>
     have h0:(erC (some x)==0)=false:=by rw [←uR,Hu he,uR];rfl
     simp [h0,MB hf uR]
  |some y =>
   have tL:(erC z.2==0)=false:=by rw [Hu hez,tw];rfl
   have wI:¬erC z.2=0:=by rwa [beq_eq_false_iff_ne] at tL
   have hf:=fin i zX (fun z' h=>by rw [hz] at h;injection h with h;subst h;simp [Eo,tw]);rw [tw] at hez hel tL wI g1 g2;have h2:=h1 (i:Int) (by omega) (some y) hez hel;simp only [Int.toNat_natCast,DS] at h2;simp;refine LpD.turns X hG [] [] ?_
   by_cases hk:z.1.kind=0
   ·simp [hi,hi',g0,g1,hk,tL,wI]
    refine LpD.turns X hG [] [] ?_;cases uR:s.bad with
    |none =>simp [hi,hi',g0,g1,tL,wI,A3,A2,OR hf uR hz tw];refine LpD.turns X hG [15,18] [(0,15)] ?_;simp [hi,hi',g0,g1,g2,g3,h2,DS]
    |some x =>
     have h0:(erC (some x)==0)=false:=by rw [←uR,Hu he,uR];rfl
     simp [h0,MB hf uR]
   ·have uk:(z.1.kind==0)=false:=by rw [beq_eq_false_iff_ne];exact hk
    simp [hi,hi',g0,g1,hk,uk,tL,wI];refine LpD.turns X hG [] [] ?_;cases uR:s.bad with
    |none =>simp [hi,hi',g0,g1,tL,wI,A3,A2,OR hf uR hz tw];refine LpD.turns X hG [15,18] [(0,15)] ?_;simp [hi,hi',g0,g1,g2,g3,h2,DS]
    |some x =>
     have h0:(erC (some x)==0)=false:=by rw [←uR,Hu he,uR];rfl
     simp [h0,MB hf uR]
 ·have hi':¬(i:Int)<Z.length:=by omega
  have hz:Z[i]? = none:=List.getElem?_eq_none (by omega);have hf:=fin i zX (fun z h=>by rw [hz] at h;cases h);simp;refine LpD.turns X hG [] [] ?_;simp [hi,hi'];refine LpD.turns X hG [] [] ?_;cases uR:s.bad with
  |none=>simp [hi,hi',A3,A2,Rk hf uR hz]
  |some x =>
   have h0:(erC (some x)==0)=false:=by rw [←uR,Hu he,uR];rfl
   simp [h0,MB hf uR]
def Nd.leaf (l:Nat) (x:Sx):Nd := .mk l l x [] [] (-1)
def Cq (Z:Zs) (nest:Nat→Sx→Bst→Nd × Bst) (top:Bool) (of:Int) (beg:Nat):Nat→Bst→List Nd→List Nd × Bst
 |0,s,out=>(out,s.fail 0 1)
 |f+1,s0,out =>
  let s:=D9 Z s0
  if s.bad.isSome then (out,s) else
  match Z[s.at_]? with
  |none=>(out,if of=0 then s else s.fail beg 11)
  |some z =>
   if z.1.kind=4 then (out,if of=3 then s else s.fail s.at_ 12)
   else if z.1.kind=7 then (out,if of=5∨of=6 then s else s.fail s.at_ 12)
   else if z.1.kind=6 then (out,if of=5 then s else s.fail s.at_ 12)
   else if z.1.kind=1 then (if s.plain=true∨of≠0 then (out,s.fail s.at_ 2) else Cq Z nest top of beg f ⟨s.at_+1,s.bad,s.plain⟩ (out++[.leaf s.at_ z.1]))
   else if z.1.kind=3∨z.1.kind=5 then
    (if top then (out,(⟨s.at_,s.bad,true⟩:Bst).fail s.at_ 4) else
     if (nest s.at_ z.1 ⟨s.at_,s.bad,true⟩).2.bad.isSome then (out,(nest s.at_ z.1 ⟨s.at_,s.bad,true⟩).2)
     else Cq Z nest top of beg f (nest s.at_ z.1 ⟨s.at_,s.bad,true⟩).2 (out++[(nest s.at_ z.1 ⟨s.at_,s.bad,true⟩).1]))
   else Cq Z nest top of beg f ⟨s.at_+1,s.bad,true⟩ (out++[.leaf s.at_ z.1])
def Dw (Z:Zs) (blk:Int→Nat→Bst→List Nd × Bst) (l:Nat) (x:Sx) (s:Bst):Nd × Bst :=
 let b:=blk x.kind l ⟨s.at_+1,s.bad,s.plain⟩
 if b.2.bad.isSome then (.mk l l x b.1 [] (-1),b.2) else
 match Z[b.2.at_]? with
 |none=>(.mk l b.2.at_ x b.1 [] (-1),b.2)
 |some z =>
  if z.1.kind=6 then
   let c:=blk 6 l ⟨b.2.at_+1,b.2.bad,b.2.plain⟩
   if c.2.bad.isSome then (.mk l l x b.1 c.1 b.2.at_,c.2)
   else (.mk l c.2.at_ x b.1 c.1 b.2.at_,⟨c.2.at_+1,c.2.bad,c.2.plain⟩)
  else (.mk l b.2.at_ x b.1 [] (-1),⟨b.2.at_+1,b.2.bad,b.2.plain⟩)
def Dn (Z:Zs):Nat→Int→Nat→Bst→List Nd × Bst
 |0,of,beg,s=>Cq Z (fun l x s=>(.leaf l x,s)) true of beg (Z.length+1) s []
 |d+1,of,beg,s=>Cq Z (Dw Z (Dn Z d)) false of beg (Z.length+1) s []
theorem pJ {w:List UInt8} {p:Nat} {e:Er} (h:AO e):AO (inE w p e):=by
 cases e with
 |none=>exact Bx
 |some y =>obtain ⟨l,c⟩:=y;exact HF (by simp) (h l c rfl).2
theorem pK {Z:Zs} (hZ:ZOk Z) {s:Bst} (h:AO s.bad):AO (D9 Z s).bad:=by
 cases hb:s.bad with
 |some x=>rw [MB rfl hb,←hb];exact h
 |none =>
  cases hz:Z[DE Z s.at_]? with
  |none=>rw [Rk rfl hb hz];exact Bx
  |some z =>
   cases h2:z.2 with
   |none=>rw [Rl rfl hb hz h2];exact Bx
   |some y =>rw [OR rfl hb hz h2];have h3:=(hZ.err z (List.mem_of_getElem? hz)).1;rw [h2] at h3;exact pJ h3
theorem Bst.fail_ok {s:Bst} (h:AO s.bad) (p:Nat) {c:Nat} (hc:c≠0):AO (s.fail p c).bad:=WR h (by simp) hc
theorem Bst.fail_bad (s:Bst) (p c:Nat):(s.fail p c).bad≠none:=by simp [Bst.fail]
structure Goes (Z:Zs) (s r:Bst):Prop where
 up:s.at_≤r.at_
 len:s.at_≤Z.length→r.at_≤Z.length
 ok:AO s.bad→AO r.bad
theorem Goes.refl (Z:Zs) (s:Bst):Goes Z s s:=⟨Nat.le_refl _,fun h=>h,fun h=>h⟩
theorem Goes.trans {Z:Zs} {s r q:Bst} (h:Goes Z s r) (k:Goes Z r q):Goes Z s q:=⟨Nat.le_trans h.up k.up,fun x=>k.len (h.len x),fun x=>k.ok (h.ok x)⟩
theorem Goes.fail (Z:Zs) (s:Bst) (p:Nat) {c:Nat} (hc:c≠0):Goes Z s (s.fail p c):=⟨Nat.le_refl _,fun h=>h,fun h=>Bst.fail_ok h p hc⟩
theorem Goes.skip {Z:Zs} (hZ:ZOk Z) (s:Bst):Goes Z s (D9 Z s):=⟨Rj Z _,fun h=>Xb Z _ h,fun h=>pK hZ h⟩
theorem Goes.step {Z:Zs} {s:Bst} (h:s.at_<Z.length) (p:Bool):Goes Z s ⟨s.at_+1,s.bad,p⟩:=⟨Nat.le_succ _,fun _=>h,fun h=>h⟩
theorem Goes.mark (Z:Zs) (s:Bst) (p:Bool):Goes Z s ⟨s.at_,s.bad,p⟩:=⟨Nat.le_refl _,fun h=>h,fun h=>h⟩
theorem MC {Z:Zs} {i:Nat} {z:Sx × Er} (h:Z[i]? = some z):i<Z.length:=(List.getElem?_eq_some_iff.1 h).1
theorem Goes.ite {Z:Zs} {s a b:Bst} {c:Prop} [Decidable c] (h:Goes Z s a) (k:Goes Z s b):Goes Z s (if c then a else b):=by split<;>assumption
theorem MD {Z:Zs} (hZ:ZOk Z) {nest:Nat→Sx→Bst→Nd × Bst} (hn:∀l x s,s.at_<Z.length→Goes Z s (nest l x s).2) (top:Bool) (of:Int) (beg:Nat):∀(f:Nat) (s:Bst) (out:List Nd),Goes Z s (Cq Z nest top of beg f s out).2
 |0,s,out=>Goes.fail Z s 0 (by decide)
 |f+1,s0,out=>by
  unfold Cq;have hs:=Goes.skip hZ s0;generalize D9 Z s0=s at *;simp only
  split
  ·exact hs
  ·split
   ·exact hs.trans (Goes.ite (Goes.refl Z s) (Goes.fail Z s _ (by decide)))
   ·rename_i z hz
    have hl:=MC hz
    split
    ·exact hs.trans (Goes.ite (Goes.refl Z s) (Goes.fail Z s _ (by decide)))
    ·split
     ·exact hs.trans (Goes.ite (Goes.refl Z s) (Goes.fail Z s _ (by decide)))
     ·split
      ·exact hs.trans (Goes.ite (Goes.refl Z s) (Goes.fail Z s _ (by decide)))
      ·split
       ·split
        ·exact hs.trans (Goes.fail Z s _ (by decide))
        ·exact (hs.trans (Goes.step hl _)).trans (MD hZ hn top of beg f _ _)
       ·split
        ·split
         ·exact hs.trans ((Goes.mark Z s true).trans (Goes.fail Z _ _ (by decide)))
         ·have h2:=hn s.at_ z.1 ⟨s.at_,s.bad,true⟩ hl
          split
          ·exact hs.trans ((Goes.mark Z s true).trans h2)
          ·exact (hs.trans ((Goes.mark Z s true).trans h2)).trans (MD hZ hn top of beg f _ _)
        ·exact (hs.trans (Goes.step hl _)).trans (MD hZ hn top of beg f _ _)
theorem ME {Z:Zs} {nest:Nat→Sx→Bst→Nd × Bst} {top:Bool} {of:Int} (h0:of≠0) {beg:Nat}:∀(f:Nat) (s:Bst) (out:List Nd),(Cq Z nest top of beg f s out).2.bad=none→(Cq Z nest top of beg f s out).2.at_<Z.length
 |0,s,out=>fun h=>absurd h (Bst.fail_bad _ _ _)
 |f+1,s0,out=>by
  unfold Cq;generalize D9 Z s0=s at *;simp only
  split
  ·rename_i h
   intro h2;rw [h2] at h;cases h
  ·split
   ·try rw [if_neg h0]
    exact fun h=>absurd h (Bst.fail_bad _ _ _)
   ·rename_i z hz
    have hl:=MC hz
    have sl:∀(c:Prop) [Decidable c] (p e:Nat),(if c then s else s.fail p e).bad=none→(if c then s else s.fail p e).at_<Z.length:=by
     intro c _ p e
     split
     ·exact fun _=>hl
     ·exact fun h=>absurd h (Bst.fail_bad _ _ _)
    split
    ·exact sl _ _ _
    ·split
     ·exact sl _ _ _
     ·split
      ·exact sl _ _ _
      ·split
       ·split
        ·exact fun h=>absurd h (Bst.fail_bad _ _ _)
        ·exact ME h0 f _ _
       ·split
        ·split
         ·exact fun h=>absurd h (Bst.fail_bad _ _ _)
         ·split
          ·rename_i h
           intro h2;simp only at h2;rw [h2] at h;cases h
          ·exact ME h0 f _ _
        ·exact ME h0 f _ _
structure Rn (Z:Zs) (blk:Int→Nat→Bst→List Nd × Bst):Prop where
 goes:∀of beg s,Goes Z s (blk of beg s).2
 ends:∀of beg s,of≠0→(blk of beg s).2.bad=none→(blk of beg s).2.at_<Z.length
theorem Ro {Z:Zs} {blk:Int→Nat→Bst→List Nd × Bst} (hb:Rn Z blk) (l:Nat) (x:Sx) (s:Bst) (h:s.at_<Z.length):Goes Z s (Dw Z blk l x s).2∧s.at_<(Dw Z blk l x s).2.at_:=by
 unfold Dw;have h1:=Goes.step h s.plain;have h2:=hb.goes x.kind l ⟨s.at_+1,s.bad,s.plain⟩;generalize blk x.kind l ⟨s.at_+1,s.bad,s.plain⟩=b at *;have hbu:=h2.up;simp only at hbu ⊢
 split
 ·exact ⟨h1.trans h2,by simp only;omega⟩
 ·split
  ·exact ⟨h1.trans h2,by simp only;omega⟩
  ·rename_i z hz
   have hl:=MC hz
   split
   ·have h3:=Goes.step hl b.2.plain
    have h4:=hb.goes 6 l ⟨b.2.at_+1,b.2.bad,b.2.plain⟩;have h5:=hb.ends 6 l ⟨b.2.at_+1,b.2.bad,b.2.plain⟩ (by decide);generalize blk 6 l ⟨b.2.at_+1,b.2.bad,b.2.plain⟩=c at *;have zD:=h4.up;simp only at zD
    split
    ·exact ⟨((h1.trans h2).trans h3).trans h4,by simp only;omega⟩
    ·rename_i hc
     have h6:=h5 (by simpa using hc);exact ⟨(((h1.trans h2).trans h3).trans h4).trans (Goes.step h6 _),by simp only;omega⟩
   ·exact ⟨(h1.trans h2).trans (Goes.step hl _),by simp only;omega⟩
theorem JA {Z:Zs} (hZ:ZOk Z):∀d,Rn Z (Dn Z d)
 |0=>⟨fun of beg s=>MD hZ (fun l x s _=>Goes.refl Z s) _ _ _ _ _ _,fun of beg s h=>ME h _ _ _⟩
 |d+1=>⟨fun of beg s=>MD hZ (fun l x s h=>(Ro (JA hZ d) l x s h).1) _ _ _ _ _ _,fun of beg s h=>ME h _ _ _⟩
noncomputable def JB (ls:List (List UInt8)) (Z:Zs) (hZ:ZOk Z):AF zP AG:=AF.meth 66 (bdC ls Z) (OS ls Z) (fun (_:Unit) s=>AO s.bad∧s.at_≤Z.length) (fun _ _=>[]) (fun _ _ => .tup []) (fun _ s=>D9 Z s)
 (fun _ s h H id hH=>pI ls Z hZ s h.1 h.2 hH) (fun id x y s _ _ h=>⟨rfl,rfl⟩)
noncomputable def JC (ls:List (List UInt8)) (Z:Zs):AF zP AG:=AF.meth 67 (bdC ls Z) (OS ls Z) (fun (_:Nat × Nat) s=>AO s.bad) (fun _ x=>[.int .i64 (x.1:Int),.int .i64 (x.2:Int)]) (fun _ _ => .tup []) (fun x s=>s.fail x.1 x.2)
 (fun x s h H id hH=>pH ls Z s h x.1 x.2 hH) (fun id x y s _ _ h=>by
  obtain ⟨a,b⟩:=x;obtain ⟨c,d⟩:=y;simp only [List.cons.injEq,AV.int.injEq,true_and,and_true] at h;have e1:a=c:=by omega
  have e2:b=d:=by omega
  rw [e1,e2]
  exact ⟨rfl,rfl⟩)
def OT (ls:List (List UInt8)) (Z:Zs) (d:Nat):Prop:=∀(of:Int) (beg:Nat) (s:Bst),AO s.bad→s.at_≤Z.length→∀(H:AH) (id:Nat),H.at id=some (.box (bdC ls Z s)) →
 CS zP AG 42 [.ptr id 0,.int .i64 of,.int .i64 (beg:Int),.int .i64 (8-(d:Int))] H (ndE.av (Dn Z d of beg s).1) (H.set id (some (.box (bdC ls Z (Dn Z d of beg s).2))))
noncomputable def JD {ls:List (List UInt8)} {Z:Zs} {d:Nat} (hC:OT ls Z d):AF zP AG:=AF.meth 42 (bdC ls Z) (OS ls Z) (fun (_:Int × Nat) s=>AO s.bad∧s.at_≤Z.length) (fun _ x=>[.int .i64 x.1,.int .i64 (x.2:Int),.int .i64 (8-(d:Int))]) (fun x s=>ndE.av (Dn Z d x.1 x.2 s).1) (fun x s=>(Dn Z d x.1 x.2 s).2)
 (fun x s h H id hH=>hC x.1 x.2 s h.1 h.2 H id hH) (fun id x y s _ _ h=>by
  obtain ⟨a,b⟩:=x;obtain ⟨c,d⟩:=y;simp only [List.cons.injEq,AV.int.injEq,true_and,and_true] at h;have e2:b=d:=by omega
  rw [h.1,e2]
  exact ⟨rfl,rfl⟩)
def bbx (ls:List (List UInt8)) (Z:Zs) (s:Bst):Option Ent:=some (.box [Ab.av ls,sxE.av Z.L,wrE.av Z.W,.int .i64 (s.at_:Int),erP s.bad,.int .i64 (erC s.bad),.bool s.plain])
theorem Hv (l:Nat) (x:Sx):ndC (Nd.leaf l x) = .int .i64 (l:Int) :: .int .i64 (l:Int)::(x.c++[.nilSlice,.nilSlice,.int .i64 (-1)]):=rfl
theorem OU (l e:Int) (x:Sx) (b c:List Nd) (m:Int):ndC (.mk l e x b c m) = .int .i64 l :: .int .i64 e::(x.c++[ndE.av b,ndE.av c,.int .i64 m]):=Ch _
theorem pL {ls:List (List UInt8)} {Z:Zs} (hZ:ZOk Z) {d:Nat} (hd:d<8) (hC:OT ls Z d) (l:Nat) (hl:l<1000000) (x:Sx) (hx:x.kind≠0) (s:Bst) (he:AO s.bad) (ha:s.at_<Z.length) {H:AH} {id:Nat} (hH:H.at id=some (.box (bdC ls Z s))) :
  CS zP AG 68 [.ptr id 0,.agg (ndC (.leaf l x)),.int .i64 (7-(d:Int))] H (.agg (ndC (Dw Z (Dn Z d) l x s).1)) (H.set id (some (.box (bdC ls Z (Dw Z (Dn Z d) l x s).2)))):=by
 refine CS.rd BL Tryz.func68 (by kernel_rfl) 0 (by simp [Tryz.f68]) (fun B hB hG => ?_) (by simp [By]) (by simp [By]) (I9 ls _ _) (I9 ls _ _) hH;have hL:([JD hC].map (·.f)).Nodup:=show ([42]:List Nat).Nodup by decide
 have X:=Bq [JD hC] Bw Ae;have h1:=fun (of:Int) (beg:Nat) (s:Bst) (H:AH) (he:AO s.bad) (ha:s.at_≤Z.length)=>B0 hL (show JD hC∈_ by simp) (of,beg) s (H:=some (.box (bdC ls Z s))::H) (id:=0) rfl ⟨he,ha⟩
 generalize oOf [JD hC]=O at X h1;have sZ:=hZ.len;have vT:=JA hZ d;refine Tr.goD X hG ?_;have w1:IntKind.i64.wrap ((s.at_:Int)+1)=(s.at_:Int)+1:=AZ (by omega) (by omega);have w2:IntKind.i64.wrap (7-(d:Int)+1)=8-(d:Int):=by rw [AZ (by omega) (by omega)];omega
 unfold Dw;have g1:=fun H=>h1 x.kind l ⟨s.at_+1,s.bad,s.plain⟩ H he ha
 have b1:=vT.goes x.kind l ⟨s.at_+1,s.bad,s.plain⟩;have b2:=vT.ends x.kind l ⟨s.at_+1,s.bad,s.plain⟩ hx;generalize Dn Z d x.kind l ⟨s.at_+1,s.bad,s.plain⟩=b at *;obtain ⟨nb,r⟩:=b;have o1:=b1.ok he;simp only at b2 o1 g1 ⊢;simp at g1;cases hb:r.bad with
 |some y =>
  have tL:¬erC (some y)=0:=fun h=>by rw [hb] at o1;have:=(E7 o1).1 h;cases this
  rw [hb] at g1;simp [Tryz.f68,Hv,Sx.c,w1,w2,g1,hb,tL,OU]
 |none =>
  have hr:=b2 hb;obtain ⟨z,hz⟩:∃z,Z[r.at_]? = some z:=⟨_,List.getElem?_eq_getElem hr⟩
  have g0:=sxE.row_cell (Zs.L_at hz) 0 (by decide);have e0:(sxE.c z.1)[0]? = some (.int .i64 z.1.kind):=rfl;have e3:sxE.sz=29:=rfl;rw [e0,e3] at g0;simp only [Nat.add_zero] at g0;rw [hb] at g1;have w3:IntKind.i64.wrap ((r.at_:Int)+1)=(r.at_:Int)+1:=AZ (by omega) (by omega)
  by_cases hk:z.1.kind=6
  ·simp only [A2,A3] at g1
   have g2:=fun H=>h1 6 l ⟨r.at_+1,none,r.plain⟩ H Bx hr
   have c1:=vT.goes 6 l ⟨r.at_+1,none,r.plain⟩;have c2:=vT.ends 6 l ⟨r.at_+1,none,r.plain⟩ (by decide);rw [hk] at g0;simp only [hb,hz,hk];generalize Dn Z d 6 l ⟨r.at_+1,none,r.plain⟩=c at *;obtain ⟨nc,q⟩:=c;have o2:=c1.ok Bx;simp only at c2 o2 g2 ⊢;simp [A2,A3] at g2;cases hq:q.bad with
   |some y =>
    have tL:¬erC (some y)=0:=fun h=>by rw [hq] at o2;have:=(E7 o2).1 h;cases this
    rw [hq] at g2;simp [Tryz.f68,Hv,Sx.c,w1,w2,g1,hb,A3,A2];refine LpD.turns X hG [] [] ?_;simp [hr,g0,w3,g2,tL,OU,Sx.c,hq,A3,A2,w2]
   |none =>have vD:=c2 hq;have w4:IntKind.i64.wrap ((q.at_:Int)+1)=(q.at_:Int)+1:=AZ (by omega) (by omega);rw [hq] at g2;simp only [A2,A3] at g2;simp [Tryz.f68,Hv,Sx.c,w1,w2,g1,hb,A3,A2];refine LpD.turns X hG [] [] ?_;simp [hr,g0,w3,w4,g2,OU,Sx.c,hq,A3,A2,w2]
  ·simp only [A2,A3] at g1
   have uk:(z.1.kind==6)=false:=by rw [beq_eq_false_iff_ne];exact hk
   simp only [hb,hz,if_neg hk,Option.isSome_none,Bool.false_eq_true,if_false];simp [Tryz.f68,Hv,Sx.c,w1,w2,g1,hb,A3,A2];refine LpD.turns X hG [] [] ?_;simp [hr,g0,w3,hk,uk,hz,hb,OU,Sx.c,A3,A2]
set_option maxHeartbeats 8000000
@[simp] theorem bsNd (a0 a1 a2 a3 a4 a5 a6 a7 a8 a9 a10 a11 a12 a13 a14 a15 a16 a17 a18 a19 a20 a21 a22 a23 a24 a25 a26 a27 a28 a29 a30 a31 a32 a33:AV):Cr zP 30 1 [(0,.agg [a0,a1,a2,a3,a4,a5,a6,a7,a8,a9,a10,a11,a12,a13,a14,a15,a16,a17,a18,a19,a20,a21,a22,a23,a24,a25,a26,a27,a28,a29,a30,a31,a32,a33])]=some (.slice .full 34 1 [a0,a1,a2,a3,a4,a5,a6,a7,a8,a9,a10,a11,a12,a13,a14,a15,a16,a17,a18,a19,a20,a21,a22,a23,a24,a25,a26,a27,a28,a29,a30,a31,a32,a33]):=by kernel_rfl
@[simp] theorem buNd (l e m:Int) (c0 c1 c2 c3 c4 c5 c6 c7 c8 c9 c10 c11 c12 c13 c14 c15 c16 c17 c18 c19 c20 c21 c22 c23 c24 c25 c26 c27 c28:AV):Ay zP 61 [(0,.int .i64 l),(1,.int .i64 e),(2,.agg [c0,c1,c2,c3,c4,c5,c6,c7,c8,c9,c10,c11,c12,c13,c14,c15,c16,c17,c18,c19,c20,c21,c22,c23,c24,c25,c26,c27,c28]),(5,.int .i64 m)]=some (.agg [.int .i64 l,.int .i64 e,c0,c1,c2,c3,c4,c5,c6,c7,c8,c9,c10,c11,c12,c13,c14,c15,c16,c17,c18,c19,c20,c21,c22,c23,c24,c25,c26,c27,c28,.nilSlice,.nilSlice,.int .i64 m]):=by kernel_rfl
theorem OV:B6 zP 30 34=true:=by kernel_rfl
theorem Xc (ls:List (List UInt8)) (Z:Zs) (s:Bst):some (.box (bdC ls Z s))=bbx ls Z s:=rfl
theorem pM (ls:List (List UInt8)) (Z:Zs) (s:Bst) (ψ:Nat→Nat):(bbx ls Z s).map (AJ ψ)=bbx ls Z s:=by simp [bbx,AJ,AN,Fq,Enc.av_ren,ren]
structure BlO (O:Orc) (ls:List (List UInt8)) (Z:Zs) (nest:Nat→Sx→Bst→Nd × Bst) (top:Bool) (dv:Int):Prop where
 skip:∀(s:Bst) (H:AH),AO s.bad→s.at_≤Z.length→O 66 [.ptr 0 0] (bbx ls Z s::H)=some (.tup [],bbx ls Z (D9 Z s)::H)
 fail:∀(s:Bst) (p c:Nat) (H:AH),AO s.bad→O 67 [.ptr 0 0,.int .i64 (p:Int),.int .i64 (c:Int)] (bbx ls Z s::H)=some (.tup [],bbx ls Z (s.fail p c)::H)
 nest:top=false→∀(l:Nat) (x:Sx) (s:Bst) (H:AH),l<1000000→x.kind≠0→AO s.bad→s.at_<Z.length→O 68 [.ptr 0 0,.agg (ndC (.leaf l x)),.int .i64 dv] (bbx ls Z s::H)=some (.agg (ndC (nest l x s).1),bbx ls Z (nest l x s).2::H)
 top:top=true↔8≤dv
def BkI (ls:List (List UInt8)) (Z:Zs) (nest:Nat→Sx→Bst→Nd × Bst) (top:Bool) (of:Int) (beg:Nat) (dv:Int) (res:List Nd × Bst) (k:Nat) (t:List AV) (H:AH):Prop :=
 ∃(s:Bst) (out:List Nd),Cq Z nest top of beg k s out=res∧Z.length<k+s.at_∧s.at_≤Z.length∧AO s.bad∧out.length+k≤Z.length+1 ∧
  t=mkT 160 [(0,.ptr 0 0),(1,.int .i64 of),(2,.int .i64 (beg:Int)),(3,.int .i64 dv),(9,ndE.tk 1 out)]∧H=[bbx ls Z s,AW out]
theorem pN (out:List Nd) (n:Nd):ndE.row out++ndC n=ndE.row (out++[n]):=by rw [ndE.row_append,ndE.row_one1];rfl
theorem OW {H:AH} {fid:Nat} {ow:Own} (out:List Nd) (n:Nd) (h0:out≠[]) (hk:H.at 1=some (.tok out.length)) (hb:out.length+1≤137438953472) :
  Dp zP H fid 30 30 (ndE.tk 1 out) (.slice ow 34 1 (ndC n))=some (ndE.tk 1 (out++[n]),[(1,.tok (out.length+1))]):=by
 rw [ndE.tk_ne 1 h0,ndE.tk_ne 1 (by simp),List.length_append,←pN];exact Eu OV hk (by decide) hb (IK n)
theorem OX {H:AH} {fid:Nat} {ow:Own} (n:Nd) :
  Dp zP H fid 30 30 .nilSlice (.slice ow 34 1 (ndC n))=some (ndE.tk fid [n],[(fid,.tok 1)]):=by
 rw [ndE.tk_ne fid (by simp),ndE.row_one1];exact GT OV (by decide) (by decide) (IK n)
theorem Xd {O:Orc} (X:Cx O zP AG) (ls:List (List UInt8)) {Z:Zs} (hZ:ZOk Z) {nest:Nat→Sx→Bst→Nd × Bst} {top:Bool} (hn:∀l x s,s.at_<Z.length→Goes Z s (nest l x s).2∧(top=false→s.at_<(nest l x s).2.at_)) (of:Int) (beg:Nat) {dv:Int}
  (hO:BlO O ls Z nest top dv) (s:Bst) (he:AO s.bad) (ha:s.at_≤Z.length) {H:AH} {id:Nat} (hH:H.at id=some (.box (bdC ls Z s))) :
  CS zP AG 42 [.ptr id 0,.int .i64 of,.int .i64 (beg:Int),.int .i64 dv] H (ndE.av (Cq Z nest top of beg (Z.length+1) s []).1) (H.set id (some (.box (bdC ls Z (Cq Z nest top of beg (Z.length+1) s []).2)))):=by
 refine CS.rd BL Tryz.func42 (by kernel_rfl) 0 (by simp [Tryz.f42]) (fun B hB hG => ?_) (by simp) (by simp) (I9 ls _ _) (I9 ls _ _) hH;rw [Xc,Xc];generalize xD:Cq Z nest top of beg (Z.length+1) s []=res;have sZ:=hZ.len;refine Tr.goD X hG ?_;simp [Tryz.f42]
 refine LpD.loopN X hG (BkI ls Z nest top of beg dv res) (Z.length+1) (t':=mkT 160 [(0,.ptr 0 0),(1,.int .i64 of),(2,.int .i64 (beg:Int)),(3,.int .i64 dv),(9,ndE.tk 1 [])]) (H':=[bbx ls Z s,none])
  (AE.mkV 100 (fun i=>i) 2 (by simp [hB]) (by simp) (by simp) rfl (by
   intro i hi;rcases (by omega:i=0∨i=1) with rfl|rfl
   ·simp [AH.at,pM]
   ·simp [AH.at]) (by simp [bbx]) (by simp [ren]))
  ⟨s,[],xD,by omega,ha,he,by simp,rfl,by simp⟩ ?_
 clear xD he ha;have tT:B.H.length=1:=by rw [hB];rfl
 clear hB hH;rintro k t H ⟨s,out,sV,uk,ha,he,yx,rfl,rfl⟩;obtain ⟨k,rfl⟩:∃j,k=j+1:=⟨k-1,by omega⟩
 have f1:=fun H=>hO.skip s H he ha
 have s1:=Goes.skip hZ s;rw [Cq] at sV;generalize D9 Z s=s' at *;obtain ⟨a,e,pl⟩:=s';have a1:=s1.up;have a2:=s1.len ha;have a3:=s1.ok he;simp only at a1 a2 a3 sV;have tA:=ndE.tk_cut (show ¬1<1 by omega) out;have hf:=fun p c H=>hO.fail ⟨a,e,pl⟩ p c H a3
 have xV:=fun p c H=>hO.fail ⟨a,e,true⟩ p c H a3
 simp only [Bst.fail] at hf xV;cases e with
 |some y =>
  simp only [Option.isSome_some,if_true] at sV;have tL:¬erC (some y)=0:=fun h=>by have:=(E7 a3).1 h;cases this
  simp only [bbx] at f1;simp [bbx,f1,tL,tA,←sV]
 |none =>
  simp only [Option.isSome_none,Bool.false_eq_true,if_false,Option.getD_none,Bst.fail] at sV hf xV;have hE:∀p c,c≠0→¬erC (some ([(DS,p)],c))=0:=fun p c hc=>by simp [erC,hc]
  simp only [bbx,A2,A3] at f1 hf xV
  by_cases hl:a<Z.length
  ·have hl':(a:Int)<Z.length:=by omega
   have se:¬(Z.length:Int)≤a:=by omega
   have sq:¬Z.length≤a:=by omega
   obtain ⟨z,hz⟩:∃z,Z[a]? = some z:=⟨_,List.getElem?_eq_getElem hl⟩
   simp only [hz] at sV;obtain ⟨g2,g3⟩:=sxE.row_at _ _ (Zs.L_at hz);obtain ⟨x,ze⟩:=z;clear hz;simp only at sV g2;have e2:sxE.c x=x.c:=rfl;have e3:sxE.sz=29:=rfl;rw [e3,e2,Sx.c] at g2;rw [e3] at g3;have w1:IntKind.i64.wrap ((a:Int)+1)=(a:Int)+1:=AZ (by omega) (by omega);have hn':=hn a x ⟨a,none,true⟩ hl
   have s5:∀(n:Nd) (s2:Bst),s.at_<s2.at_→s2.at_≤Z.length→AO s2.bad→Cq Z nest top of beg k s2 (out++[n])=res→BkI ls Z nest top of beg dv res k (mkT 160 [(0,.ptr 0 0),(1,.int .i64 of),(2,.int .i64 (beg:Int)),(3,.int .i64 dv),(9,ndE.tk 1 (out++[n]))]) [bbx ls Z s2,AW (out++[n])] :=fun n s2 h1 h2 h3 h4=>⟨s2,out++[n],h4,by omega,h2,h3,by rw [List.length_append,List.length_singleton];omega,rfl,rfl⟩
   simp [bbx,f1];refine LpD.turns X hG [] [] ?_;simp [hl,hl',se,sq];refine LpD.turns X hG [10,11] zL5 ?_;simp [hl,g2,g3];refine LpD.turns X hG [10,11] zL5 ?_
   by_cases k4:x.kind=4
   ·simp [k4] at sV
    by_cases o0:of=3
    ·simp [o0] at sV
     simp [k4,o0,tA,←sV,A3,A2]
    ·skip
     have c1:=fun H=>hf a 12 H
     simp at c1;simp [o0] at sV;simp [k4,o0,tA,←sV,c1]
   ·skip
    by_cases k7:x.kind=7
    ·simp [k4,k7] at sV
     by_cases o0:of=5
     ·simp [o0] at sV
      simp [k4,k7,o0,tA,←sV,A3,A2]
     ·skip
      by_cases o1:of=6
      ·simp [o0,o1] at sV
       simp [k4,k7,o0,o1,tA,←sV,A3,A2]
      ·skip
       have c1:=fun H=>hf a 12 H
       simp at c1;simp [o0,o1] at sV;simp [k4,k7,o0,o1,tA,←sV,c1]
    ·skip
     by_cases k6:x.kind=6
     ·simp [k4,k7,k6] at sV
      by_cases o0:of=5
      ·simp [o0] at sV
       simp [k4,k7,k6,o0,tA,←sV,A3,A2]
      ·skip
       have c1:=fun H=>hf a 12 H
       simp at c1;simp [o0] at sV;simp [k4,k7,k6,o0,tA,←sV,c1]
     ·skip
      by_cases k1:x.kind=1
      ·simp [k4,k7,k6,k1] at sV
       by_cases q1:pl=true
       ·simp [q1] at sV
        have c1:=fun H=>hf a 2 H
        simp [q1] at c1;simp only [q1] at f1;simp [k4,k7,k6,k1,q1,tA,←sV,c1]
       ·have q2:pl=false:=by simpa using q1
        subst q2
        by_cases q3:of=0
        ·simp [q3] at sV
         rw [←q3] at sV;have hI:=s5 (.leaf a x) ⟨a+1,none,false⟩ (by simp only;omega) hl Bx sV;simp only [q3] at hI
         by_cases h0:out=[]
         ·subst h0
          have ap:=fun H ow fid=>OX (H:=H) (fid:=fid) (ow:=ow) (Nd.leaf a x)
          simp only [Hv,Sx.c,List.cons_append,List.nil_append,k1] at ap;simp [k4,k7,k6,k1,q3,w1,ap]
          refine Nxt.mk k (by omega) (AE.mkV 100 (fun i=>if i=1 then 4 else i) 2 (by simp [tT]) (by intro i j hi hj h;split at h<;>split at h<;>omega) (by simp [tT]) rfl (by
           intro i hi;rcases (by omega:i=0∨i=1) with rfl|rfl
           ·simp [AH.at,bbx,AJ,AN,ren,Enc.av_ren,Fq,A2,A3]
           ·simp [AH.at,AW,AJ]) (by simp [bbx,AW]) (by simp [ren,ndE.tk_ren,ndE.tk_strip,ndE.tk_low])) hI
         ·have ap:=fun H ow fid (h:AH.at H 1=some (.tok out.length))=>OW (H:=H) (fid:=fid) (ow:=ow) out (Nd.leaf a x) h0 h (by omega)
          simp only [Hv,Sx.c,List.cons_append,List.nil_append,k1] at ap;have tc:AW out=some (.tok out.length):=C0 h0;rw [tc];simp [k4,k7,k6,k1,q3,w1,ap];exact Nxt.mk k (by omega) (AE.mkK 2 (by simp [tT]) (by simp [ndE.tk_low]) (by simp [bbx,AW,A2,A3]) (by simp [bbx,AW])) hI
        ·simp [q3] at sV
         have c1:=fun H=>hf a 2 H
         simp at c1;simp [k4,k7,k6,k1,q3,tA,←sV,c1]
      ·skip
       by_cases k3:x.kind=3
       ·simp [k4,k7,k6,k1,k3] at sV
        cases top with
        |true =>
         have hd:=hO.top.1 rfl;simp at sV;have c1:=fun H=>xV a 4 H
         simp at c1;simp [k4,k7,k6,k1,k3,hd,tA,←sV,c1]
        |false =>
         have hd:¬8≤dv:=fun h=>by have:=hO.top.2 h;cases this
         have c1:=fun H=>hO.nest rfl a x ⟨a,none,true⟩ H (by omega) (by rw [k3];decide) Bx hl
         have hg:=hn'.1.len (by simp only;omega);have vm:=hn'.2 rfl;have wm:=hn'.1.ok Bx;simp only at sV vm;generalize nest a x ⟨a,none,true⟩=m at *;obtain ⟨nd,s2⟩:=m;simp only at sV hg vm wm c1;simp only [Hv,Sx.c,k3] at c1;simp only [Ch,Sx.c,bbx,A2,A3] at c1;simp at c1;cases sh:s2.bad with
         |some y =>
          have tL:¬erC (some y)=0:=fun h=>by rw [sh] at wm;have:=(E7 wm).1 h;cases this
          simp [sh] at sV;rw [sh] at c1;simp [k4,k7,k6,k1,k3,hd,tA,←sV,c1,tL,sh]
         |none =>
          simp [sh] at sV;rw [sh] at c1;simp only [A2,A3] at c1;have hI:=s5 nd s2 (by omega) hg wm sV
          by_cases h0:out=[]
          ·subst h0
           have ap:=fun H ow fid=>OX (H:=H) (fid:=fid) (ow:=ow) nd
           simp only [Ch,Sx.c,List.cons_append,List.nil_append] at ap;simp [k4,k7,k6,k1,k3,hd,c1,sh,ap]
           refine Nxt.mk k (by omega) (AE.mkV 100 (fun i=>if i=1 then 4 else i) 2 (by simp [tT]) (by intro i j hi hj h;split at h<;>split at h<;>omega) (by simp [tT]) rfl (by
            intro i hi;rcases (by omega:i=0∨i=1) with rfl|rfl
            ·simp [AH.at,bbx,AJ,AN,ren,Enc.av_ren,Fq,A2,A3,sh]
            ·simp [AH.at,AW,AJ]) (by simp [bbx,AW]) (by simp [ren,ndE.tk_ren,ndE.tk_strip,ndE.tk_low])) hI
          ·have ap:=fun H ow fid (h:AH.at H 1=some (.tok out.length))=>OW (H:=H) (fid:=fid) (ow:=ow) out nd h0 h (by omega)
           simp only [Ch,Sx.c,List.cons_append,List.nil_append] at ap;have tc:AW out=some (.tok out.length):=C0 h0;rw [tc];simp [k4,k7,k6,k1,k3,hd,c1,sh,ap];exact Nxt.mk k (by omega) (AE.mkK 2 (by simp [tT]) (by simp [ndE.tk_low]) (by simp [bbx,AW,A2,A3,sh]) (by simp [bbx,AW])) hI
       ·skip
        by_cases k5:x.kind=5
        ·simp [k4,k7,k6,k1,k3,k5] at sV
         cases top with
         |true =>
          have hd:=hO.top.1 rfl;simp at sV;have c1:=fun H=>xV a 4 H
          simp at c1;simp [k4,k7,k6,k1,k3,k5,hd,tA,←sV,c1]
         |false =>
          have hd:¬8≤dv:=fun h=>by have:=hO.top.2 h;cases this
          have c1:=fun H=>hO.nest rfl a x ⟨a,none,true⟩ H (by omega) (by rw [k5];decide) Bx hl
          have hg:=hn'.1.len (by simp only;omega);have vm:=hn'.2 rfl;have wm:=hn'.1.ok Bx;simp only at sV vm;generalize nest a x ⟨a,none,true⟩=m at *;obtain ⟨nd,s2⟩:=m;simp only at sV hg vm wm c1;simp only [Hv,Sx.c,k5] at c1;simp only [Ch,Sx.c,bbx,A2,A3] at c1;simp at c1;cases sh:s2.bad with
          |some y =>
           have tL:¬erC (some y)=0:=fun h=>by rw [sh] at wm;have:=(E7 wm).1 h;cases this
           simp [sh] at sV;rw [sh] at c1;simp [k4,k7,k6,k1,k3,k5,hd,tA,←sV,c1,tL,sh]
          |none =>
           simp [sh] at sV;rw [sh] at c1;simp only [A2,A3] at c1;have hI:=s5 nd s2 (by omega) hg wm sV
           by_cases h0:out=[]
           ·subst h0
            have ap:=fun H ow fid=>OX (H:=H) (fid:=fid) (ow:=ow) nd
            simp only [Ch,Sx.c,List.cons_append,List.nil_append] at ap;simp [k4,k7,k6,k1,k3,k5,hd,c1,sh,ap]
            refine Nxt.mk k (by omega) (AE.mkV 100 (fun i=>if i=1 then 4 else i) 2 (by simp [tT]) (by intro i j hi hj h;split at h<;>split at h<;>omega) (by simp [tT]) rfl (by
             intro i hi;rcases (by omega:i=0∨i=1) with rfl|rfl
             ·simp [AH.at,bbx,AJ,AN,ren,Enc.av_ren,Fq,A2,A3,sh]
             ·simp [AH.at,AW,AJ]) (by simp [bbx,AW]) (by simp [ren,ndE.tk_ren,ndE.tk_strip,ndE.tk_low])) hI
           ·have ap:=fun H ow fid (h:AH.at H 1=some (.tok out.length))=>OW (H:=H) (fid:=fid) (ow:=ow) out nd h0 h (by omega)
            simp only [Ch,Sx.c,List.cons_append,List.nil_append] at ap;have tc:AW out=some (.tok out.length):=C0 h0;rw [tc];simp [k4,k7,k6,k1,k3,k5,hd,c1,sh,ap];exact Nxt.mk k (by omega) (AE.mkK 2 (by simp [tT]) (by simp [ndE.tk_low]) (by simp [bbx,AW,A2,A3,sh]) (by simp [bbx,AW])) hI
        ·skip
         simp [k4,k7,k6,k1,k3,k5] at sV;have hI:=s5 (.leaf a x) ⟨a+1,none,true⟩ (by simp only;omega) hl Bx sV
         by_cases h0:out=[]
         ·subst h0
          have ap:=fun H ow fid=>OX (H:=H) (fid:=fid) (ow:=ow) (Nd.leaf a x)
          simp only [Hv,Sx.c,List.cons_append,List.nil_append] at ap;simp [k4,k7,k6,k1,k3,k5,k1,w1,ap]
          refine Nxt.mk k (by omega) (AE.mkV 100 (fun i=>if i=1 then 4 else i) 2 (by simp [tT]) (by intro i j hi hj h;split at h<;>split at h<;>omega) (by simp [tT]) rfl (by
           intro i hi;rcases (by omega:i=0∨i=1) with rfl|rfl
           ·simp [AH.at,bbx,AJ,AN,ren,Enc.av_ren,Fq,A2,A3]
           ·simp [AH.at,AW,AJ]) (by simp [bbx,AW]) (by simp [ren,ndE.tk_ren,ndE.tk_strip,ndE.tk_low])) hI
         ·have ap:=fun H ow fid (h:AH.at H 1=some (.tok out.length))=>OW (H:=H) (fid:=fid) (ow:=ow) out (Nd.leaf a x) h0 h (by omega)
          simp only [Hv,Sx.c,List.cons_append,List.nil_append] at ap;have tc:AW out=some (.tok out.length):=C0 h0;rw [tc];simp [k4,k7,k6,k1,k3,k5,k1,w1,ap];exact Nxt.mk k (by omega) (AE.mkK 2 (by simp [tT]) (by simp [ndE.tk_low]) (by simp [bbx,AW,A2,A3]) (by simp [bbx,AW])) hI
  ·have hl':¬(a:Int)<Z.length:=by omega
   have se:(Z.length:Int)≤a:=by omega
   have sq:Z.length≤a:=by omega
   have hz:Z[a]? = none:=List.getElem?_eq_none (by omega);simp only [hz] at sV
   by_cases h0:of=0
   ·simp only [h0,if_true] at sV
    simp [bbx,f1];refine LpD.turns X hG [] [] ?_;simp [hl,hl',se,sq,h0,tA,←sV,A3,A2]
   ·simp only [h0,if_false] at sV
    have c1:=fun H=>hf beg 11 H
    simp at c1;simp [bbx,f1];refine LpD.turns X hG [] [] ?_;simp [hl,hl',se,sq,h0,tA,←sV,c1]
noncomputable def OY {ls:List (List UInt8)} {Z:Zs} (hZ:ZOk Z) {d:Nat} (hd:d<8) (hC:OT ls Z d):AF zP AG:=AF.meth 68 (bdC ls Z) (OS ls Z) (fun (x:Nat × Sx) s=>x.1<1000000∧x.2.kind≠0∧AO s.bad∧s.at_<Z.length)
 (fun _ x=>[.agg (ndC (.leaf x.1 x.2)),.int .i64 (7-(d:Int))]) (fun x s => .agg (ndC (Dw Z (Dn Z d) x.1 x.2 s).1)) (fun x s=>(Dw Z (Dn Z d) x.1 x.2 s).2)
 (fun x s h H id hH=>pL hZ hd hC x.1 h.1 x.2 h.2.1 s h.2.2.1 h.2.2.2 hH) (fun id x y s _ _ h=>by
  obtain ⟨a,b⟩:=x;obtain ⟨c,e⟩:=y;simp only [List.cons.injEq,AV.agg.injEq,true_and,and_true] at h;have h1:=Ju _ _ h;simp only [Nd.leaf,Nd.mk.injEq,and_true] at h1;have e1:a=c:=by omega
  rw [e1,h1.2.2]
  exact ⟨rfl,rfl⟩)
theorem Xe (ls:List (List UInt8)) {Z:Zs} (hZ:ZOk Z):∀d,d≤8→OT ls Z d
 |0,_=>fun of beg s he ha H id hH=>by
  have hL:([JB ls Z hZ,JC ls Z].map (·.f)).Nodup:=show ([66,67]:List Nat).Nodup by decide
  have X:=Bq [JB ls Z hZ,JC ls Z] Bw Ae
  have hO:BlO (oOf [JB ls Z hZ,JC ls Z]) ls Z (fun l x s=>(.leaf l x,s)) true 8:={
   skip:=fun s H h1 h2=>B0 hL (show JB ls Z hZ∈_ by simp) () s (H:=bbx ls Z s::H) (id:=0) rfl ⟨h1,h2⟩
   fail:=fun s p c H h1=>B0 hL (show JC ls Z∈_ by simp) (p,c) s (H:=bbx ls Z s::H) (id:=0) rfl h1
   nest:=fun h=>by cases h
   top:=by simp}
  exact Xd X ls hZ (fun l x s h=>⟨Goes.refl Z s,fun h=>by cases h⟩) of beg hO s he ha hH
 |d+1,hd=>fun of beg s he ha H id hH=>by
  have hC:=Xe ls hZ d (by omega);have hd':d<8:=by omega
  have hL:([JB ls Z hZ,JC ls Z,OY hZ hd' hC].map (·.f)).Nodup:=show ([66,67,68]:List Nat).Nodup by decide
  have X:=Bq [JB ls Z hZ,JC ls Z,OY hZ hd' hC] Bw Ae;have hdv:(8-((d+1:Nat):Int))=7-(d:Int):=by omega
  rw [hdv]
  have hO:BlO (oOf [JB ls Z hZ,JC ls Z,OY hZ hd' hC]) ls Z (Dw Z (Dn Z d)) false (7-(d:Int)):={
   skip:=fun s H h1 h2=>B0 hL (show JB ls Z hZ∈_ by simp) () s (H:=bbx ls Z s::H) (id:=0) rfl ⟨h1,h2⟩
   fail:=fun s p c H h1=>B0 hL (show JC ls Z∈_ by simp) (p,c) s (H:=bbx ls Z s::H) (id:=0) rfl h1
   nest:=fun _ l x s H h1 h2 h3 h4=>B0 hL (show OY hZ hd' hC∈_ by simp) (l,x) s (H:=bbx ls Z s::H) (id:=0) rfl ⟨h1,h2,h3,h4⟩
   top:=by
    constructor
    ·intro h;cases h
    ·intro h;omega}
  exact Xd X ls hZ (fun l x s h=>⟨(Ro (JA hZ d) l x s h).1,fun _=>(Ro (JA hZ d) l x s h).2⟩) of beg hO s he ha hH
def erG (e:Er):Prop:=AO e∧∀l c,e=some (l,c)→l.length≤2
theorem MK:erG none:=⟨Bx,fun _ _ h=>by cases h⟩
theorem IW {r:Sr} (h:erG r.err) (p:Nat) {c:Nat} (hc:c≠0):erG (r.fail p c).err:=by
 refine ⟨Sr.fail_ok h.1 p hc,fun l c' he => ?_⟩;unfold Sr.fail at he;cases hr:r.err with
 |none =>rw [hr] at he;simp only [Option.getD_none,Option.some.injEq,Prod.mk.injEq] at he;rw [←he.1];exact Nat.le_succ 1
 |some y =>rw [hr] at he;simp only [Option.getD_some] at he;exact h.2 l c' (by rw [hr];exact he)
theorem YE {r:Sr} (h:erG r.err):erG r.step.err:=h
theorem On {r:Sr} (h:erG r.err) (n:Nat) {x:Option (Nat × Nat)} (hx:BN x):erG (Ci r n x).err:=by
 refine ⟨(OQ r n x).2.2.1 h.1 hx,fun l c he => ?_⟩;unfold Ci at he;cases hr:r.err with
 |some y =>rw [hr] at he;exact h.2 l c he
 |none =>
  rw [hr] at he;cases x with
  |none=>cases he
  |some y =>obtain ⟨p,c'⟩:=y;simp only [Option.some.injEq,Prod.mk.injEq] at he;rw [←he.1];exact Nat.le_refl 2
theorem IX {ts:List Wd} {r:Sr} (h:erG r.err) (k:Nat) (s:List UInt8):erG (Bp ts r k s).err:=by
 unfold Bp
 split
 ·exact h
 ·exact IW h _ (by decide)
theorem SG {ts:List Wd} {r:Sr} (h:erG r.err):erG (B8 ts r).2.err:=by
 unfold B8
 split
 ·exact h
 ·exact IW h _ (by decide)
theorem SH {ts:List Wd} {r:Sr} (h:erG r.err):erG (CI ts r).2.err:=by
 unfold CI
 split
 ·exact h
 ·exact IW h _ (by decide)
theorem YF {ts:List Wd} {r:Sr} (h:erG r.err) (k:Nat) (s:List UInt8):erG (CO ts r k s).err:=by
 unfold CO
 split
 ·exact h
 ·exact h
theorem ML {ts:List Wd} {r:Sr} (h:erG r.err):erG (B9 ts r).2.err:=by
 unfold B9
 split
 ·exact h
 ·exact On h _ (Q7 _)
theorem YG {ts:List Wd} {r:Sr} (h:erG r.err):erG (Fp ts r).2.err:=by
 unfold Fp
 split
 ·exact h
 ·exact On h _ (Q8 _)
theorem SI {ts:List Wd} {r:Sr} (h:erG r.err):erG (CM ts r).2.err:=by
 unfold CM
 split
 ·split
  ·exact On h _ (Rf _ _ C1)
  ·exact h
 ·exact IW h _ (by decide)
theorem SJ {ts:List Wd}:∀(n:Nat) (d:List Int) {r:Sr},erG r.err→erG (DC ts n d r).2.err
 |0,d,r,h=>h
 |n+1,d,r,h=>by
  rw [DC]
  have h1:erG (if 4≤d.length then r.fail (r.at_-1) 4 else r).err:=by
   split
   ·exact IW h _ (by decide)
   ·exact h
  generalize (if 4≤d.length then r.fail (r.at_-1) 4 else r)=r1 at *;have h2:=SH (ts:=ts) h1;generalize CI ts r1=m at *
  have h3:erG (if m.2.err=none∧m.1=0 then m.2.fail r1.at_ 1 else m.2).err:=by
   split
   ·exact IW h2 _ (by decide)
   ·exact h2
  generalize (if m.2.err=none∧m.1=0 then m.2.fail r1.at_ 1 else m.2)=r2 at *
  split
  ·exact SJ n _ (r:=r2.step) h3
  ·exact h3
theorem YH {ts:List Wd} {r:Sr} (h:erG r.err):erG (CA ts r).2.err:=by
 unfold CA;have h1:=SG (ts:=ts) h;simp only
 split
 ·exact IX (SJ _ _ (r:=(B8 ts r).2.step) h1) _ _
 ·exact h1
theorem SK {ts:List Wd}:∀(n:Nat) (l:List It) {r:Sr},erG r.err→erG (Dv ts n l r).2.err
 |0,l,r,h=>h
 |n+1,l,r,h=>by
  rw [Dv];have h1:=YH (ts:=ts) h
  split
  ·exact SK n _ (r:=(CA ts r).2.step) h1
  ·exact h1
theorem YI {ts:List Wd} {r:Sr} (h:erG r.err):erG (FT ts r).2.err:=by
 unfold FT J1;have h1:=ML (ts:=ts) (IX (ts:=ts) (ML (ts:=ts) (IX (ts:=ts) (SG (ts:=ts) h) 3 isT)) 3 A0);simp only
 split
 ·exact SH (YF (YE h1) _ _)
 ·exact h1
theorem YJ {ts:List Wd} (s:List UInt8) {r:Sr} (h:erG r.err):erG (Cb ts s r).2.err:=by
 unfold Cb
 split
 ·exact SK _ _ h
 ·split
  ·exact YI h
  ·split
   ·split
    ·exact h
    ·exact IX h _ _
   ·split
    ·exact IX (IX (YG (IX h _ _)) _ _) _ _
    ·split
     ·exact h
     ·split
      ·exact SI h
      ·split
       ·exact ML h
       ·exact IW h _ (by decide)
theorem YK (ts:List Wd) (w:Wd):erG (Dk ts w).2.err:=by
 unfold Dk
 split
 ·exact YJ _ MK
 ·split
  ·exact ML (IX (SI MK) _ _)
  ·exact ⟨HF (by simp) (by decide),fun l c h=>by injection h with h;injection h with h1 h2;rw [←h1];exact Nat.le_succ 1⟩
theorem YL (ts:List Wd):erG (I7 ts).2:=by
 cases ts with
 |nil=>exact MK
 |cons w ts =>
  unfold I7;have h1:=YK (w::ts) w;simp only;generalize Dk (w::ts) w=x at *
  have h2:erG (if x.2.err=none∧x.2.at_<(w::ts).length then x.2.fail x.2.at_ 2 else x.2).err:=by
   split
   ·exact IW h1 _ (by decide)
   ·exact h1
  generalize (if x.2.err=none∧x.2.at_<(w::ts).length then x.2.fail x.2.at_ 2 else x.2)=r at *
  split
  ·rename_i h;rw [h] at h2;exact h2
  ·exact MK
theorem SL (b:List UInt8):erG (Dl b).2:=by
 unfold Dl
 split
 ·rename_i p e h
  exact ⟨HF (by simp) (WJ _ _ _ _ _ _ h),fun l c h=>by injection h with h;injection h with h1 h2;rw [←h1];exact Nat.le_refl 2⟩
 ·exact YL _
def CE (ls:List (List UInt8)):Zs:=ls.map fun s=>((Dl (B4 s)).1.x,(Dl (B4 s)).2)
theorem Oo (ls:List (List UInt8)):(CE ls).length=ls.length:=by simp [CE]
theorem MM {ls:List (List UInt8)} (h:ls.length<1000000):ZOk (CE ls):=by refine ⟨by rw [Oo];exact h,fun z hz => ?_⟩;obtain ⟨s,_,rfl⟩:=List.mem_map.1 hz;have hg:=SL (B4 s);exact ⟨hg.1,fun l c h=>by have:=hg.2 l c h;omega⟩
def EJ (ls:List (List UInt8)):List Nd × Er :=
 let b:=Dn (CE ls) 8 0 0 ⟨0,none,false⟩
 match b.2.bad with
 |some y=>([],some y)
 |none=>(b.1,none)
noncomputable def MN:AF zP AG:=AF.pure 41 (fun s:List UInt8=>s.length<1000000) (fun s=>[.str s]) (fun s=>Fs (Dl (B4 s))) (fun s h H=>pF s h H) (fun x y _ _ h=>by
 simp only [List.cons.injEq,AV.str.injEq,and_true] at h
 rw [h])
def J6 (x:List Nd × Er):AV := .tup [ndE.av x.1,erA x.2]
@[simp high] theorem pT (l:List (List UInt8)):alen zP 25 (Ab.av l)=some (.int .i64 l.length):=Ab.alen Tryz.underlying25 l
@[simp high] theorem YM {l:List (List UInt8)} {i:Nat} (h:i<l.length):Au zP 25 (Ab.av l) (.int .i64 (i:Int))=some (.vptr (Ab.row l) (i*1)):=Ab.aidx Tryz.underlying25 (by kernel_rfl) h
@[simp high] theorem pU {l:List (List UInt8)} (h:0<l.length):Au zP 25 (Ab.av l) (.int .i64 0)=some (.vptr (Ab.row l) 0):=YM (i:=0) h
@[simp] theorem buBd (ls:List (List UInt8)):Ay zP 123 [(0,Ab.av ls)]=some (.agg [Ab.av ls,.nilSlice,.nilSlice,.int .i64 0,.nilSlice,.int .i64 0,.bool false]):=by
 unfold Enc.av
 split<;>kernel_rfl
@[simp] theorem bsSx (c0 c1 c2 c3 c4 c5 c6 c7 c8 c9 c10 c11 c12 c13 c14 c15 c16 c17 c18 c19 c20 c21 c22 c23 c24 c25 c26 c27 c28:AV):Cr zP 120 1 [(0,.agg [c0,c1,c2,c3,c4,c5,c6,c7,c8,c9,c10,c11,c12,c13,c14,c15,c16,c17,c18,c19,c20,c21,c22,c23,c24,c25,c26,c27,c28])]=some (.slice .full 29 1 [c0,c1,c2,c3,c4,c5,c6,c7,c8,c9,c10,c11,c12,c13,c14,c15,c16,c17,c18,c19,c20,c21,c22,c23,c24,c25,c26,c27,c28]):=by kernel_rfl
@[simp] theorem bsWr (a b:AV):Cr zP 121 1 [(0,.agg [a,b])]=some (.slice .full 2 1 [a,b]):=by kernel_rfl
theorem SM:B6 zP 120 29=true:=by kernel_rfl
theorem SN:B6 zP 121 2=true:=by kernel_rfl
theorem AE.boxStrip {B:Bs} {t:List AV} {H:AH} (id n:Nat) {cs:List AV} (h:H.at id=some (.box cs)):AE B t H t (H.set id (some (.box (Cc n cs)))):=by
 intro a w hs;obtain ⟨g,R,p,hT,hd⟩:=hs;refine ⟨g,⟨R.imm,?_,?_,R.inj,R.blk⟩,⟨p.le,?_,p.new,p.old,p.size,p.os,p.tape,p.output⟩,hT,hd⟩
 ·intro i hi
  rw [AH.at_set] at hi
  split at hi
  ·cases hi
  ·exact R.free i hi
 ·intro i e he sU
  rw [AH.at_set] at he
  split at he
  ·rename_i hh
   obtain ⟨rfl,_⟩:=hh;simp only [Option.some.injEq] at he;subst he;obtain ⟨ge,h1,h2⟩:=R.ent id _ h (by simp);refine ⟨ge,h1,?_⟩;cases ge with
   |box b =>obtain ⟨vs,el,h3,h4,h5⟩:=h2;exact ⟨vs,el,h3,AB.strip n _ _ h4,h5⟩
   |tok=>exact h2
  ·exact R.ent i e he sU
 ·intro i hi
  obtain ⟨h1,h2⟩:=p.hid i hi;refine ⟨h1,?_⟩;rw [AH.at_set,if_neg]
  ·exact h2
  ·rintro ⟨rfl,_⟩
   rw [h] at h2;cases h2
theorem JJ {α:Type} (E:Enc α) {P:Program} {H:AH} {fid k:Nat} {t:TypeId} {ow:Own} (h:B6 P t E.sz=true) (l:List α) (x:α) (h0:l≠[]) (hk:H.at k=some (.tok l.length)) (hb:l.length+1≤137438953472) :
  Dp P H fid t t (E.tk k l) (.slice ow E.sz 1 (E.c x))=some (E.tk k (l++[x]),[(k,.tok (l.length+1))]):=by
 rw [E.tk_ne k h0,E.tk_ne k (by simp),List.length_append];exact E.app1_tok h l x rfl hk hb
theorem JK {α:Type} (E:Enc α) {P:Program} {H:AH} {fid:Nat} {t:TypeId} {ow:Own} (h:B6 P t E.sz=true) (x:α) :
  Dp P H fid t t .nilSlice (.slice ow E.sz 1 (E.c x))=some (E.tk fid [x],[(fid,.tok 1)]):=by
 rw [E.tk_ne fid (by simp),E.row_one1];exact E.app1_nil h x
theorem Hx {α:Type} (E:Enc α) (k:Nat) {l:List α} (h:l≠[]):Bh (E.tk k l)=[k]:=by rw [E.tk_ne k h];simp only [Bh,If _ (E.row_low l)]
def trT (ls:List (List UInt8)) (i:Nat):List AV:=mkT 60 [(0,Ab.av ls),(3,.ptr 0 0),(4,.ptr 1 0),(5,.int .i64 (i:Int))]
def trH (ls:List (List UInt8)) (i:Nat):AH:=[some (.box [.nilSlice,.int .i64 0]),some (.box [Ab.av ls,sxE.tk 2 (CE (ls.take i)).L,wrE.tk 3 (CE (ls.take i)).W,.int .i64 0,.nilSlice,.int .i64 0,.bool false]),AW (CE (ls.take i)).L,AW (CE (ls.take i)).W]
def trF (ls:List (List UInt8)):AH:=[some (.box [.nilSlice,.int .i64 0]),bbx ls (CE ls) ⟨0,none,false⟩]
theorem SO {B:Bs} (hB:B.H=[]) (ls:List (List UInt8)):AE B (trT ls ls.length) (trH ls ls.length) (trT ls ls.length) (trF ls):=by have h1:=AE.boxStrip (B:=B) (t:=trT ls ls.length) (H:=trH ls ls.length) 1 2 rfl;refine h1.trans (AE.mkK 2 (by simp [hB]) (by simp) ?_ (by simp [trF,bbx]));simp [trH,trF,bbx,Cc,Enc.tk_cut,Enc.av_strip,A2,A3,strip]
def TrI (ls:List (List UInt8)) (k:Nat) (t:List AV) (H:AH):Prop:=∃i,i+k=ls.length∧t=trT ls i∧H=if k=0 then trF ls else trH ls i
theorem YN (ls:List (List UInt8)) (ug:ls.length<1000000) (hl:∀s∈ls,s.length<1000000) (H:AH):CS zP AG 24 [Ab.av ls] H (J6 (EJ ls)) H:=by
 have hZ:=MM ug;have hC:=Xe ls hZ 8 (by decide);have hL:([MN,JD hC].map (·.f)).Nodup:=show ([41,42]:List Nat).Nodup by decide
 have X:=Bq [MN,JD hC] Bw Ae;have f1:=fun (s:List UInt8) (H:AH) (h:s.length<1000000)=>CV hL (show MN∈_ by simp) s h H
 have f2:=fun e0 (s:Bst) (H:AH) (h1:AO s.bad) (h2:s.at_≤(CE ls).length)=>B0 hL (show JD hC∈_ by simp) (0,0) s (H:=e0::bbx ls (CE ls) s::H) (id:=1) rfl ⟨h1,h2⟩
 generalize oOf [MN,JD hC]=O at X f1 f2;refine CS.tr0 BL Tryz.func24 (by kernel_rfl) 0 (by simp [Tryz.f24]) (fun B hB hG => ?_) (by simp [J6]) (by simp) H;refine Tr.goD X hG ?_;simp [Tryz.f24];have hnil:CE (ls.take 0)=[]:=rfl;refine LpD.loopN X hG (TrI ls) ls.length (t':=trT ls 0) (H':=if ls.length=0 then trF ls else trH ls 0) ?_ ⟨0,by omega,rfl,rfl⟩ ?_
 ·have h1:AE B (trT ls 0) (trH ls 0) (trT ls 0) (if ls.length=0 then trF ls else trH ls 0):=by
   split
   ·rename_i h0
    have:=SO hB ls;rw [h0] at this;exact this
   ·exact AE.refl
  refine AE.trans (AE.mkV 100 (fun i=>i) 4 (by simp [hB]) (by simp) (by simp) rfl (by
   intro i hi;rcases (by omega:i=0∨i=1∨i=2∨i=3) with rfl|rfl|rfl|rfl
   ·simp [AH.at,trH,AJ,AN,ren]
   ·simp [AH.at,trH,AJ,AN,ren,Enc.av_ren,CE,Zs.L,Zs.W]
   ·simp [AH.at,trH,CE,Zs.L]
   ·simp [AH.at,trH,CE,Zs.W]) (by simp [trH,CE,Zs.L,Zs.W]) (by simp [ren,Enc.av_ren])) h1
 rintro k t H ⟨i,sa,rfl,rfl⟩;cases k with
 |zero =>
  obtain rfl:i=ls.length:=by omega
  have g1:=fun e0 H=>f2 e0 ⟨0,none,false⟩ H Bx (Nat.zero_le _)
  have b1:=((JA hZ 8).goes 0 0 ⟨0,none,false⟩).ok Bx;unfold EJ;generalize Dn (CE ls) 8 0 0 ⟨0,none,false⟩=b at *;obtain ⟨nb,r⟩:=b;simp only at b1 g1 ⊢;simp [bbx,A2,A3] at g1;have yQ:(if (0:Nat)=0 then trF ls else trH ls ls.length)=trF ls:=if_pos rfl
  try rw [yQ]
  cases hb:r.bad with
  |none =>rw [hb] at g1;simp only [A2,A3] at g1;simp [trT,trF,bbx,A2,A3,g1,J6]
  |some y =>
   rw [hb] at g1 b1;have tL:¬erC (some y)=0:=fun h=>by have:=(E7 b1).1 h;cases this
   simp [trT,trF,bbx,A2,A3,g1,tL];refine LpD.turns X hG [5] [] ?_;simp [J6]
 |succ k =>
  have hi:i<ls.length:=by omega
  rw [if_neg (by omega)];obtain ⟨s,hs⟩:∃s,ls[i]? = some s:=⟨_,List.getElem?_eq_getElem hi⟩
  have xm:=hl s (List.mem_of_getElem? hs);have g0:(Ab.row ls)[i*1+0]? = some (.str s):=Ab.row_cell hs 0 (by decide);simp only [Nat.mul_one,Nat.add_zero] at g0;have g1:=fun H=>f1 s H xm
  have sy:ls.take (i+1)=ls.take i++[s]:=by rw [List.take_add_one,hs];rfl
  have hz:CE (ls.take (i+1))=CE (ls.take i)++[((Dl (B4 s)).1.x,(Dl (B4 s)).2)]:=by rw [sy,CE,List.map_append];rfl
  have sZ:(CE (ls.take i)).length=i:=by rw [Oo,List.length_take];omega
  have hI:TrI ls k (trT ls (i+1)) (if k=0 then trF ls else trH ls (i+1)):=⟨i+1,by omega,rfl,rfl⟩
  have tA:AE B (trT ls (i+1)) (trH ls (i+1)) (trT ls (i+1)) (if k=0 then trF ls else trH ls (i+1)):=by
   split
   ·have:=SO hB ls
    rw [show i+1=ls.length by omega];exact this
   ·exact AE.refl
  have xn:∀{t H},AE B t H (trT ls (i+1)) (trH ls (i+1))→AE B t H (trT ls (i+1)) (if k=0 then trF ls else trH ls (i+1)):=fun h=>h.trans tA
  generalize (if k=0 then trF ls else trH ls (i+1))=Hn at *
  have hH:trH ls (i+1)=[some (.box [.nilSlice,.int .i64 0]),some (.box [Ab.av ls,sxE.tk 2 ((CE (ls.take i)).L++[(Dl (B4 s)).1.x]),wrE.tk 3 ((CE (ls.take i)).W++[(Dl (B4 s)).2]),.int .i64 0,.nilSlice,.int .i64 0,.bool false]),AW ((CE (ls.take i)).L++[(Dl (B4 s)).1.x]),AW ((CE (ls.take i)).W++[(Dl (B4 s)).2])]:=by unfold trH;rw [hz];simp [Zs.L,Zs.W]
  rw [hH] at xn;clear hH tA hz sy;simp only [Fs] at g1;generalize (Dl (B4 s)).1.x=x at *;generalize (Dl (B4 s)).2=e at *;simp only [Sx.c,L8] at g1;have w1:IntKind.i64.wrap ((i:Int)+1)=(i:Int)+1:=AZ (by omega) (by omega);have hi':(i:Int)<ls.length:=by omega
  unfold trH;have xL:(CE (ls.take i)).L.length=i:=by rw [Zs.L_len,sZ]
  have xM:(CE (ls.take i)).W.length=i:=by rw [Zs.W_len,sZ]
  generalize (CE (ls.take i)).L=L at *;generalize (CE (ls.take i)).W=W at *
  by_cases h0:i=0
  ·subst h0
   obtain rfl:=List.eq_nil_of_length_eq_zero xL;obtain rfl:=List.eq_nil_of_length_eq_zero xM;simp only [List.nil_append] at xn;have a1:=fun H ow fid=>JK sxE (P:=zP) (H:=H) (ow:=ow) (fid:=fid) SM x
   have a2:=fun H ow fid=>JK wrE (P:=zP) (H:=H) (ow:=ow) (fid:=fid) SN e
   have e1:sxE.c x=x.c:=rfl;have e2:wrE.c e=[erP e,.int .i64 (erC e)]:=rfl;have e3:sxE.sz=29:=rfl;have e4:wrE.sz=2:=rfl;rw [e1,Sx.c,e3] at a1;rw [e2,e4] at a2;have i1:=fun k=>Hx sxE k (l:=[x]) (by simp)
   have i2:=fun k=>Hx wrE k (l:=[e]) (by simp)
   have t1:AW [x]=some (.tok 1):=rfl;have t2:AW [e]=some (.tok 1):=rfl;rw [t1,t2] at xn;simp [trT,hi,hi',g0,g1];refine LpD.turns X hG [7,10] [(0,7)] ?_;simp [a1,i1];refine LpD.turns X hG [7,10] [(0,7)] ?_;simp [a2,w1,i1,i2]
   refine Nxt.mk k (by omega) (xn (AE.mkV 100 (fun i=>if i=2 then 6 else if i=3 then 7 else i) 4 (by simp [hB]) (by
    intro i j hi hj h
    rcases (by omega:i=0∨i=1∨i=2∨i=3) with rfl|rfl|rfl|rfl<;>rcases (by omega:j=0∨j=1∨j=2∨j=3) with rfl|rfl|rfl|rfl<;>simp at h ⊢) (by simp [hB]) rfl (by
    intro i hi;rcases (by omega:i=0∨i=1∨i=2∨i=3) with rfl|rfl|rfl|rfl
    ·simp [AH.at,AJ,AN,ren]
    ·simp [AH.at,AJ,AN,ren,Enc.av_ren,Enc.tk_ren]
    ·simp [AH.at,AJ]
    ·simp [AH.at,AJ]) (by simp [Enc.tk_low]) (by
    have w0:IntKind.i64.wrap 1=1:=by decide
    simp [ren,Enc.av_ren,w0]))) hI
  ·have yR:L≠[]:=fun h=>by rw [h] at xL;exact h0 xL.symm
   have zn:W≠[]:=fun h=>by rw [h] at xM;exact h0 xM.symm
   have a1:=fun H ow fid (h:AH.at H 2=some (.tok i))=>JJ sxE (P:=zP) (H:=H) (ow:=ow) (fid:=fid) (k:=2) SM L x yR (by rw [xL];exact h) (by omega)
   have a2:=fun H ow fid (h:AH.at H 3=some (.tok i))=>JJ wrE (P:=zP) (H:=H) (ow:=ow) (fid:=fid) (k:=3) SN W e zn (by rw [xM];exact h) (by omega)
   have t1:AW L=some (.tok i):=by rw [C0 yR,xL]
   have t2:AW W=some (.tok i):=by rw [C0 zn,xM]
   have t3:AW (L++[x])=some (.tok (i+1)):=by rw [C0 (by simp),List.length_append,xL];rfl
   have t4:AW (W++[e])=some (.tok (i+1)):=by rw [C0 (by simp),List.length_append,xM];rfl
   have e1:sxE.c x=x.c:=rfl;have e2:wrE.c e=[erP e,.int .i64 (erC e)]:=rfl;have e3:sxE.sz=29:=rfl;have e4:wrE.sz=2:=rfl;rw [e1,Sx.c,xL,e3] at a1;rw [e2,xM,e4] at a2;rw [t3,t4] at xn;rw [t1,t2];have i1:=Hx sxE 2 yR;have i2:=Hx wrE 3 zn;have i3:=Hx sxE 2 (l:=L++[x]) (by simp);have i4:=Hx wrE 3 (l:=W++[e]) (by simp);simp [trT,hi,hi',g0,g1,i1,i2];refine LpD.turns X hG [7,10] [(0,7)] ?_;simp [a1,i1,i2,i3];refine LpD.turns X hG [7,10] [(0,7)] ?_;simp [a2,w1,i2,i3,i4];refine Nxt.mk k (by omega) (xn (AE.mkK 4 (by simp [hB]) (by simp) (by simp) (by simp [Enc.tk_low]))) hI
def HQ (ls:List (List UInt8)) (i:Nat):List AV:=mkT 59 [(0,Ab.av ls),(2,.nilSlice),(3,.nilIface),(4,.ptr 0 0),(11,Ab.av ls),(12,.int .i64 (ls.length:Int)),(13,.int .i64 (i:Int))]
def SP (ls:List (List UInt8)) (k:Nat) (t:List AV) (H:AH):Prop:=∃i s,i+k=ls.length∧t=HQ ls i∧H=bdH s∧s.ok i∧s.fs.length≤8∧s.lin∧ofL (ls.drop i) i s=ofW ls
def Gt (x:List Nd × Er):AV := .tup [ndE.av x.1,erI x.2]
theorem SQ {B:Bs} (hB:B.H=[]) (ls:List (List UInt8)) {t:List AV} {H:AH} {k i:Nat} {s:Bd} (hk:(i+1)+k=ls.length) (hs:s.ok (i+1)) (hd:s.fs.length≤8) (hl:s.lin) (he:ofL (ls.drop (i+1)) (i+1) s=ofW ls)
  (h:AE B t H (HQ ls (i+1)) (bdH s)):Nxt B (SP ls) (k+1) t H:=Nxt.mk k (by omega) h ⟨i+1,s,hk,rfl,rfl,hs,hd,hl,he⟩
@[simp] theorem buBd0:Ay zP 94 []=some (.agg [.nilSlice,.nilPtr,.int .i64 0,.bool false]):=by kernel_rfl
theorem YO (s:Bd):AH.at (bdH s) 0=some (.box (Bd.c s)):=rfl
theorem SR (ls:List (List UInt8)) (ug:ls.length<1000000) (hl:∀s∈ls,s.length<1000000) (H:AH):CS zP Ac 17 [Ab.av ls] H (Gt (ofW ls)) H:=by
 have hL:([(CQ OE),(CQ OD)].map (·.f)).Nodup:=show ([30,32]:List Nat).Nodup by decide
 have X:=(Bq [(CQ OE),(CQ OD)] Jv Ae).toW (S:=[30]);have f1:=fun (s:List UInt8) (H:AH) (h:s.length<1000000)=>Ce hL (CQ OE) (by simp) (x:=s) (H:=H) h
 have f2:=fun (p:Int) (l:List (List UInt8 × Int)) (c:Int) (H:AH)=>Ce hL (CQ OD) (by simp) (x:=(p,l,c)) (H:=H) trivial
 generalize oOf [(CQ OE),(CQ OD)]=O at X f1 f2;have f1:∀(s:List UInt8) (H:AH) (h:s.length<1000000),O 30 [.str s] H=some (HM (Is (B4 s)),H):=f1;have f2:∀(p:Int) (l:List (List UInt8 × Int)) (c:Int) (H:AH),O 32 [.int .i64 p,AY l c] H=some (AY ((Cw,p)::l) c,H):=f2;refine CS.tr0 Dg Tryz.func17 (by kernel_rfl) 0 (by simp [Tryz.f17]) (fun B hB hG => ?_) (by simp [Gt]) (by simp) H;refine Tr.goW X hG ?_;simp [Tryz.f17];refine LpD.loopW [30] hG (SP ls) ls.length (t':=HQ ls 0) (H':=bdH bd0) ?_ ⟨0,bd0,by omega,rfl,rfl,⟨Nat.zero_le _,fun _ hf=>absurd hf List.not_mem_nil⟩,by decide,fun _ hf=>absurd hf List.not_mem_nil,rfl⟩ ?_
 ·refine AE.mkV 1000 (fun i=>i) 2 (by simp [hB]) (fun i j _ _ h=>h) (fun i _=>rfl) rfl ?_ ?_ ?_
  ·intro i hi
   rcases (by omega:i=0∨i=1) with rfl|rfl
   ·simp [bdH,bd0,Bd.c,J0,AJ,AN,ren]
   ·simp [bdH,bd0]
  ·simp [bdH,bd0,Bd.c,J0,frH]
  ·simp [HQ,ren,Enc.av_ren]
 rintro k t H ⟨i,s,sa,rfl,rfl,hs,hd,zo,he⟩;cases k with
 |zero =>
  refine ⟨O,X,?_⟩;obtain rfl:i=ls.length:=by omega
  rw [List.drop_length,ofL] at he;rw [←he];have c0:=YO s;have yQ:AR (bdH s).length (bdH s)=true:=Em _ _ (by rw [BT];exact Nat.le_refl _);obtain ⟨l,fs,o⟩:=s;cases fs with
  |nil =>simp only [Bd.c,J0,List.length_nil] at c0;have tA:=ndE.tk_cut (k:=1) (n:=0) (by decide) l;simp [HQ,bdH,Bd.c,J0,Gt,tA]
  |cons f r =>
   have cF:=GE l f r o [];rw [List.append_nil] at cF;simp only [Fr.c,Fr.pre,Sx.c,List.cons_append,List.nil_append] at cF;simp only [Bd.c,Jz,List.length_cons] at c0;have f2:=fun H=>f2 f.line [] 11 H
   generalize bdH ⟨l,f::r,o⟩=H at *;simp only [AY] at f2;have sl:((f.line.toNat:Nat):Int)=f.line:=Int.toNat_of_nonneg (zo f List.mem_cons_self);have hz:erI (some ([(Cw,f.line.toNat)],11))=AY [(Cw,f.line)] 11:=by simp [RK,CB,sl]
   simp [-AH.at,HQ,c0,cF,f2,Gt,hz,AY]
 |succ k =>
  have hi:i<ls.length:=by omega
  obtain ⟨b,hb⟩:∃b,ls[i]? = some b:=⟨_,List.getElem?_eq_getElem hi⟩
  have vd:=hl b (List.mem_of_getElem? hb);have g0:(Ab.row ls)[i*1+0]? = some (.str b):=Ab.row_cell hb 0 (by decide);simp only [Nat.mul_one,Nat.add_zero] at g0
  have uK:ls.drop i=b::ls.drop (i+1):=by rw [List.drop_eq_getElem_cons hi];rw [List.getElem?_eq_getElem hi] at hb;injection hb with hb;rw [hb]
  rw [uK,ofL] at he;have g1:=fun H=>f1 b H vd
  have sc:0<(bdH s).length:=by rw [BT];omega
  have yQ:AR (bdH s).length (bdH s)=true:=Em _ _ (by rw [BT];exact Nat.le_refl _);have hi':(i:Int)<ls.length:=by omega
  have w1:IntKind.i64.wrap ((i:Int)+1)=((i+1:Nat):Int):=by rw [AZ (by omega) (by omega)];rfl
  have vf:IntKind.i64.wrap ((i:Int)+1)=(i:Int)+1:=AZ (by omega) (by omega);generalize hp:Is (B4 b)=p at *;obtain ⟨m,er⟩:=p;simp only [HM] at g1;cases er with
  |some y =>
   refine ⟨O,X,?_⟩;simp only at he;rw [←he]
   have g2:∀H,O 32 [.int .i64 (i:Int),erI (some y)] H=some (erI (some ((Cw,i)::y.1,y.2)),H):=fun H=>by obtain ⟨l,c⟩:=y;exact f2 i (CB l) c H
   generalize m.x=x at *;generalize bdH s=H at *;simp only [Sx.c] at g1;simp [-AH.at,HQ,hi,hi',g0,g1,g2,DR,Dj,Gt]
  |none =>
   simp only at he;have hk:m.x.kind=(m.kind:Int):=rfl
   by_cases h0:m.kind=0
   ·rw [if_pos h0] at he
    refine ⟨O,X,?_⟩;rw [h0] at hk;generalize m.x=x at *;have s5:=fun {t H}=>SQ (t:=t) (H:=H) hB ls (k:=k) (by omega) (Bd.ok_mono (Nat.le_succ i) hs) hd zo he
    generalize uR:bdH s=H at *;simp only [Sx.c] at g1;simp [-AH.at,HQ,hi,hi',g0,g1,DR,Dj,hk,vf];refine s5 (AE.mkK H.length (by simp [hB]) ?_ (List.take_left' rfl) yQ);simp [sc]
   ·rw [if_neg h0] at he
    have uk:¬m.x.kind=0:=by rw [hk];omega
    obtain ⟨Y,vC,sY,si⟩:=oF s m.x (i:Int) hs (by omega) hd;have s9:low 0 (Bt (s.add m.x i).2)=true:=by unfold Bt;split<;>rfl
    have so:=CS.behind1 (some (.box m.x.c)) vC sY (by simp [Sx.c_low,Ak (Nat.zero_le _) _ (Sx.c_low m.x),low,sc]) s9 yQ si;have su:=W7 (bdH s).length (some (.box m.x.c)) (bdH (s.add m.x i).1++Y) sY;have hs':=Bd.add_ok hs m.x i;have hd':=Bd.add_len hd m.x i;have hl':=Bd.add_lin zo m.x (Int.natCast_nonneg i);generalize I6 (bdH s).length (some (.box m.x.c)) (bdH (s.add m.x i).1++Y)=H3 at so su;have X':=FL so X;have hO:=Ev 31 [.ptr 0 0,.agg m.x.c,.int .i64 (i:Int)] (bdH s++[some (.box m.x.c)]) (Bt (s.add m.x i).2) H3 O;have g1:∀H,orP 31 [.ptr 0 0,.agg m.x.c,.int .i64 (i:Int)] (bdH s++[some (.box m.x.c)]) (Bt (s.add m.x i).2) H3 O 30 [.str b] H=some (.tup [.agg m.x.c,.nilIface],H):=fun H=>by rw [G2 (by decide)];exact g1 H
    have g2:∀l c H,orP 31 [.ptr 0 0,.agg m.x.c,.int .i64 (i:Int)] (bdH s++[some (.box m.x.c)]) (Bt (s.add m.x i).2) H3 O 32 [.int .i64 (i:Int),AY l c] H=some (AY ((Cw,(i:Int))::l) c,H):=fun l c H=>by rw [G2 (by decide)];exact f2 i l c H
    refine ⟨_,X',?_⟩;generalize orP 31 [.ptr 0 0,.agg m.x.c,.int .i64 (i:Int)] (bdH s++[some (.box m.x.c)]) (Bt (s.add m.x i).2) H3 O=O' at hO g1 g2;clear X' so vC f1 f2 hp;generalize hq:s.add m.x i=q at *;obtain ⟨s',c⟩:=q;simp only at he hO hs' hd' hl' su si sY;have zp:0<(bdH s').length:=by rw [BT];omega
    by_cases hc:c=0
    ·rw [if_pos hc] at he
     subst hc;have s5:=fun {t H}=>SQ (t:=t) (H:=H) hB ls (k:=k) (by omega) hs' hd' hl' he
     have hHs:AR (bdH s').length (bdH s')=true:=Em _ _ (by rw [BT];exact Nat.le_refl _);have vg:Bt 0 = .nilIface:=rfl;rw [vg] at hO;have zBx:psB (bdH s).length 0=0:=if_pos sc;generalize bdH s=H at *;simp only [Sx.c] at g1 hO;simp [-AH.at,HQ,hi,hi',g0,g1,hO,DR,Dj,uk,vf];refine s5 (AE.mkV 1000 (psB H.length) (bdH s').length (by simp [hB]) (fun a b _ _ h=>W6 _ a b h) (fun a ha=>by rw [hB] at ha;simp at ha) rfl ?_ hHs ?_)
     ·intro a ha
      rw [su a,GD ha]
     ·simp [zp,zBx,ren,Enc.av_ren,strip]
    ·rw [if_neg hc] at he
     rw [←he];rw [W8 hc] at hO;have g2:=fun H=>g2 [] c H
     have hz:erI (some ([(Cw,i)],c))=AY [(Cw,(i:Int))] (c:Int):=rfl;have sU:∀H:AH,aeq zP 27 (AY [] (c:Int)) .nilIface=some false:=fun _=>by simp [AY]
     generalize bdH s=H at *;simp only [Sx.c] at g1 hO;simp only [AY] at g2 hO hz;simp [-AH.at,HQ,hi,hi',g0,g1,hO,DR,Dj,uk,vf,Gt,hz,g2]
end Go.Proofs.YtffcldkblcmmiaaGreatDoor
