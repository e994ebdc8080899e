/- The reference's reader of statements: must, sign, name, numb .. Facts on the types of this program, and which functions are  -/
import Derived.Test.YtmjfldclpijghaaGreatDoorZt8
set_option linter.unusedSimpArgs false
set_option linter.unusedVariables false
namespace Go.Proofs.YtmjfldclpijghaaGreatDoor
open Go.RowKit Go.Proofs.Fw
set_option maxRecDepth 100000
set_option maxHeartbeats 4000000
noncomputable def D3 (ts:List Wd):AF zP AJ:=AF.meth 55 (Sr.mc ts) (Fz ts) (fun (_:Nat × Nat) r=>AP r.err) (fun _ x=>[.int .i64 (x.1:Int),.int .i64 (x.2:Int)]) (fun _ _ => .tup []) (fun x r=>r.fail x.1 x.2)
 (fun x r he H id hH=>jq ts r he x.1 x.2 hH) (fun id x y r _ _ h=>by
  obtain ⟨a,b⟩:=x;obtain ⟨c,d⟩:=y;simp only [List.cons.injEq,AV.int.injEq,true_and,and_true] at h;have e1:a=c:=by omega
  have e2:b=d:=by omega
  rw [e1,e2]
  exact ⟨rfl,rfl⟩)
noncomputable def H5 (ts:List Wd):AF zP AJ:=AF.meth 83 (Sr.mc ts) (Fz ts) (fun (x:Nat × List UInt8) r=>AP r.err∧x.2≠[]) (fun _ x=>[.int .i64 (x.1:Int),.str x.2]) (fun x r => .bool (isW ts r x.1 x.2)) (fun _ r=>r)
 (fun x r h H id hH=>js ts r h.1 x.1 x.2 h.2 hH) (fun id x y r _ _ h=>by
  obtain ⟨a,b⟩:=x;obtain ⟨c,d⟩:=y;simp only [List.cons.injEq,AV.int.injEq,AV.str.injEq,true_and,and_true] at h;have e1:a=c:=by omega
  rw [e1,h.2]
  exact ⟨rfl,rfl⟩)
section
variable {L:List (AF zP AJ)} {ts:List Wd}
theorem NP (hL:(L.map (·.f)).Nodup) (hF:D3 ts∈L) (r:Sr) (he:AP r.err) (p c:Int) (hp:0≤p) (hc:0≤c) (H:AH):oOf L 55 [.ptr 0 0,.int .i64 p,.int .i64 c] (some (.box [AE ts,.int .i64 (r.at_:Int),erP r.err,.int .i64 (erC r.err)])::H) =
  some (.tup [],some (.box [AE ts,.int .i64 (r.at_:Int),erP (some (r.err.getD ([(Bl,p.toNat)],c.toNat))),.int .i64 (erC (some (r.err.getD ([(Bl,p.toNat)],c.toNat))))])::H):=by
 have:=Bk hL hF (p.toNat,c.toNat) r (H:=some (.box (r.mc ts))::H) (id:=0) rfl he;simpa [Sr.mc,Sr.fail,Int.toNat_of_nonneg hp,Int.toNat_of_nonneg hc] using this
theorem NQ (hL:(L.map (·.f)).Nodup) (hF:H5 ts∈L) (r:Sr) (he:AP r.err) (k:Nat) (s:List UInt8) (hs:s≠[]) (H:AH):oOf L 83 [.ptr 0 0,.int .i64 (k:Int),.str s] (some (.box [AE ts,.int .i64 (r.at_:Int),erP r.err,.int .i64 (erC r.err)])::H) =
  some (.bool (isW ts r k s),some (.box [AE ts,.int .i64 (r.at_:Int),erP r.err,.int .i64 (erC r.err)])::H):=by
 have:=Bk hL hF (k,s) r (H:=some (.box (r.mc ts))::H) (id:=0) rfl ⟨he,hs⟩;simpa [Sr.mc] using this
end
theorem jt (ts:List Wd) (r:Sr) (he:AP r.err) (hr:r.at_<1000000000) (k:Nat) (s:List UInt8) (hs:s≠[]) {H:AH} {id:Nat} (hH:H.at id=some (.box (r.mc ts))) :
  CS zP AJ 53 [.ptr id 0,.int .i64 (k:Int),.str s] H (.tup []) (H.set id (some (.box ((Bt ts r k s).mc ts)))):=by
 refine CS.rd Bh Tryz.func53 (by kernel_rfl) 0 (by simp [Tryz.f53]) (fun B hB hG => ?_) (by simp) rfl (Cw _ _) (Cw _ _) hH;have hL:([D3 ts,H5 ts].map (·.f)).Nodup:=show ([55,83]:List Nat).Nodup by decide
 have X:=Bn [D3 ts,H5 ts] B4 Ad;have h1:=NP hL (ts:=ts) (by simp) r he r.at_ 2 (by omega) (by omega);have h2:=NQ hL (ts:=ts) (by simp) r he k s hs;generalize oOf [D3 ts,H5 ts]=O at X h1 h2;refine Tr.goD X hG ?_;have w1:IntKind.i64.wrap ((r.at_:Int)+1)=(r.at_:Int)+1:=Ab (by omega) (by omega);simp at h1;cases hw:isW ts r k s with
 |true =>rw [hw] at h2;simp [Tryz.f53,Sr.mc,h1,h2,w1,Bt,hw,Sr.step]
 |false =>rw [hw] at h2;simp [Tryz.f53,Sr.mc,h1,h2,w1,Bt,hw,Sr.step,Sr.fail]
theorem ju (ts:List Wd) (oK:ts.length<1000000) (r:Sr) (he:AP r.err) (s:List UInt8) (hs:s≠[]) {H:AH} {id:Nat} (hH:H.at id=some (.box (r.mc ts))) :
  CS zP AJ 99 [.ptr id 0,.str s] H (.bool (isW ts r 3 s)) (H.set id (some (.box ((CG ts r 3 s).mc ts)))):=by
 refine CS.rd Bh Tryz.func99 (by kernel_rfl) 0 (by simp [Tryz.f99]) (fun B hB hG => ?_) (by simp) rfl (Cw _ _) (Cw _ _) hH;have hL:([H5 ts].map (·.f)).Nodup:=show ([83]:List Nat).Nodup by decide
 have X:=Bn [H5 ts] B4 Ad;have h2:=NQ hL (ts:=ts) (by simp) r he 3 s hs;generalize oOf [H5 ts]=O at X h2;refine Tr.goD X hG ?_;simp at h2;cases hw:isW ts r 3 s with
 |true =>have hl:=(Dl hw).1;have w1:IntKind.i64.wrap ((r.at_:Int)+1)=(r.at_:Int)+1:=Ab (by omega) (by omega);rw [hw] at h2;simp [Tryz.f99,Sr.mc,h2,w1,CG,hw,Sr.step]
 |false =>rw [hw] at h2;simp [Tryz.f99,Sr.mc,h2,CG,hw]
theorem jv (ts:List Wd) (oK:ts.length<1000000) (r:Sr) (he:AP r.err) {H:AH} {id:Nat} (hH:H.at id=some (.box (r.mc ts))) :
  CS zP AJ 100 [.ptr id 0] H (.str (CJ ts r).1) (H.set id (some (.box ((CJ ts r).2.mc ts)))):=by
 refine CS.rd Bh Tryz.func100 (by kernel_rfl) 0 (by simp [Tryz.f100]) (fun B hB hG => ?_) (by simp) rfl (Cw _ _) (Cw _ _) hH;have hL:([D3 ts].map (·.f)).Nodup:=show ([55]:List Nat).Nodup by decide
 have X:=Bn [D3 ts] B4 Ad;have h1:=NP hL (ts:=ts) (by simp) r he r.at_ 2 (by omega) (by omega);generalize oOf [D3 ts]=O at X h1;refine Tr.goD X hG ?_;obtain ⟨a,e⟩:=r;simp at h1;simp [Tryz.f100,Sr.mc];refine LpD.turns X hG [] [] ?_;cases e with
 |some y =>
  have h0:(erC (some y)==0)=false:=by rw [HY he];rfl
  have h0':¬erC (some y)=0:=by rwa [beq_eq_false_iff_ne] at h0
  have wF:(erC (some y) != 0)=true:=by rw [bne,h0];rfl
  simp at h1;simp [wF,h0',h1,CJ,isW,Sr.fail]
 |none =>
  by_cases hl:a<ts.length
  ·have hl':(a:Int)<ts.length:=by omega
   obtain ⟨w,hw⟩:∃w,ts[a]? = some w:=⟨_,List.getElem?_eq_getElem hl⟩
   obtain ⟨c0,c1,c3⟩:=EM hw;have hn:=Px (ts:=ts) (r:=⟨a,none⟩) rfl hw 1;have w1:IntKind.i64.wrap ((a:Int)+1)=(a:Int)+1:=Ab (by omega) (by omega);have w2:IntKind.i64.wrap (a:Int)=(a:Int):=Ab (by omega) (by omega);have qI:¬ts.length≤a:=by omega
   have rU:ts[a]=w:=by rw [List.getElem?_eq_getElem hl] at hw;injection hw
   simp [erC] at h1
   by_cases hk:w.kind=1
   ·rw [hk] at hn
    simp [erC,hl,hl',qI,hk,c0,w1,Sr.step];refine LpD.turns X hG [] [] ?_;simp [hl,hl',qI,c1,w2,CJ,hn,hw,rU,Sr.step,erC]
   ·have hk':((w.kind:Int)==1)=false:=by rw [beq_eq_false_iff_ne];omega
    have pm:(w.kind==1)=false:=by rw [beq_eq_false_iff_ne];exact hk
    have pn:¬(w.kind:Int)=1:=by omega
    rw [pm] at hn;simp [erC,hl,hl',qI,hk,hk',pn,c0,h1,CJ,hn,Sr.fail]
  ·have hl':¬((a:Int)<ts.length):=by omega
   have hw:ts[a]? = none:=List.getElem?_eq_none (by omega);have hn:isW ts ⟨a,none⟩ 1 []=false:=by simp [isW,isK,hw]
   have hg:(ts.length:Int)≤a:=by omega
   have hg':ts.length≤a:=by omega
   simp [erC] at h1;simp [erC,hl',hg,hg',h1,CJ,hn,Sr.fail]
theorem jw (ts:List Wd) (oK:ts.length<1000000) (r:Sr) (he:AP r.err) {H:AH} {id:Nat} (hH:H.at id=some (.box (r.mc ts))) :
  CS zP AJ 101 [.ptr id 0] H (.int .i64 ((Ci ts r).1:Int)) (H.set id (some (.box ((Ci ts r).2.mc ts)))):=by
 refine CS.rd Bh Tryz.func101 (by kernel_rfl) 0 (by simp [Tryz.f101]) (fun B hB hG => ?_) (by simp) rfl (Cw _ _) (Cw _ _) hH;have hL:([D3 ts].map (·.f)).Nodup:=show ([55]:List Nat).Nodup by decide
 have X:=Bn [D3 ts] B4 Ad;have h1:=NP hL (ts:=ts) (by simp) r he r.at_ 2 (by omega) (by omega);generalize oOf [D3 ts]=O at X h1;refine Tr.goD X hG ?_;obtain ⟨a,e⟩:=r;simp at h1;simp [Tryz.f101,Sr.mc];refine LpD.turns X hG [] [] ?_;cases e with
 |some y =>
  have h0:(erC (some y)==0)=false:=by rw [HY he];rfl
  have h0':¬erC (some y)=0:=by rwa [beq_eq_false_iff_ne] at h0
  have wF:(erC (some y) != 0)=true:=by rw [bne,h0];rfl
  simp at h1;simp [wF,h0',h1,Ci,isW,Sr.fail]
 |none =>
  by_cases hl:a<ts.length
  ·have hl':(a:Int)<ts.length:=by omega
   obtain ⟨w,hw⟩:∃w,ts[a]? = some w:=⟨_,List.getElem?_eq_getElem hl⟩
   obtain ⟨c0,c1,c3⟩:=EM hw;have hn:=Px (ts:=ts) (r:=⟨a,none⟩) rfl hw 2;have w1:IntKind.i64.wrap ((a:Int)+1)=(a:Int)+1:=Ab (by omega) (by omega);have w2:IntKind.i64.wrap (a:Int)=(a:Int):=Ab (by omega) (by omega);have qI:¬ts.length≤a:=by omega
   have rU:ts[a]=w:=by rw [List.getElem?_eq_getElem hl] at hw;injection hw
   simp [erC] at h1
   by_cases hk:w.kind=2
   ·rw [hk] at hn
    simp [erC,hl,hl',qI,hk,c0,w1,Sr.step];refine LpD.turns X hG [] [] ?_;simp [hl,hl',qI,c3,w2,Ci,hn,hw,rU,Sr.step,erC]
   ·have hk':((w.kind:Int)==2)=false:=by rw [beq_eq_false_iff_ne];omega
    have pm:(w.kind==2)=false:=by rw [beq_eq_false_iff_ne];exact hk
    have pn:¬(w.kind:Int)=2:=by omega
    rw [pm] at hn;simp [erC,hl,hl',qI,hk,hk',pn,c0,h1,Ci,hn,Sr.fail]
  ·have hl':¬((a:Int)<ts.length):=by omega
   have hw:ts[a]? = none:=List.getElem?_eq_none (by omega);have hn:isW ts ⟨a,none⟩ 2 []=false:=by simp [isW,isK,hw]
   have hg:(ts.length:Int)≤a:=by omega
   have hg':ts.length≤a:=by omega
   simp [erC] at h1;simp [erC,hl',hg,hg',h1,Ci,hn,Sr.fail]
theorem U4 (n:Nat) (l:List Wd):CU n (A3 l)=A3 l:=Ep n _ (Hq l)
theorem jx (ts:List Wd) (a:Nat):(A3 ts).drop (a*4)=A3 (ts.drop a):=by
 induction a generalizing ts with
 |zero=>simp
 |succ a ih =>
  cases ts with
  |nil=>simp [A3]
  |cons w ts =>have hc:A3 (w::ts)=BA w++A3 ts:=rfl;have hx:(BA w).length=4:=rfl;rw [hc,List.drop_append,List.drop_of_length_le (by omega),hx,List.nil_append,show (a+1)*4-4=a*4 by omega,ih,List.drop_succ_cons]
theorem jy (ts:List Wd) (oK:ts.length<1000000) (r:Sr) {H:AH} {id:Nat} (hH:H.at id=some (.box (r.mc ts))) :
  CS zP AJ 85 [.ptr id 0] H (AE (ts.drop r.at_)) (H.set id (some (.box (r.mc ts)))):=by
 refine CS.rd Bh Tryz.func85 (by kernel_rfl) 0 (by simp [Tryz.f85]) (fun B hB hG => ?_) (by simp) (by simp) (Cw _ _) (Cw _ _) hH;refine Tr.goD GI hG ?_;obtain ⟨a,e⟩:=r;simp [Tryz.f85,Sr.mc];refine LpD.turns GI hG [] [] ?_
 by_cases hl:a<ts.length
 ·have qI:¬ts.length≤a:=by omega
  have wG:¬(ts.length:Int)≤a:=by omega
  have oL:ts≠[]:=by rintro rfl;simp at hl
  have hd:ts.drop a≠[]:=by intro h;have:=congrArg List.length h;simp at this;omega
  have hdc:=jx ts a;have oe:(A3 (ts.drop a)).take ((ts.length-a)*4)=A3 (ts.drop a):=List.take_of_length_le (by rw [KC,List.length_drop];omega);have e1:(a:Int)≤ts.length:=by omega
  have e2:a≤ts.length:=by omega
  simp [qI,wG];refine LpD.turns GI hG [] [] ?_
  by_cases h0:a=0
  ·subst h0
   have e3:(A3 ts).take (ts.length*4)=A3 ts:=List.take_of_length_le (by rw [KC];omega);simp [AE,oL,e3,U4]
  ·simp [AE,oL,hd,hdc,oe,e1,e2,h0,U4]
 ·have qI:ts.length≤a:=by omega
  have wG:(ts.length:Int)≤a:=by omega
  have hd:ts.drop a=[]:=List.drop_of_length_le qI;have sZ:AE ([]:List Wd) = .nilSlice:=rfl;simp [qI,wG,hd,sZ]
def erA (e:Er):AV := .agg [erP e,.int .i64 (erC e)]
@[simp] theorem Ld (e:Er):erA e = .agg [erP e,.int .i64 (erC e)]:=AS rfl
def inE (w:List UInt8) (p:Nat) (e:Er):Er:=e.map fun x=>((w,p)::x.1,x.2)
theorem jz:Bg zP 26 2=true:=by kernel_rfl
theorem U5:∀l,(CI l).all AV.one=true
 |[]=>rfl
 |(w,p)::l=>by simp [CI,U5 l]
theorem j5 (w:List UInt8) (p:Nat) (l:List (List UInt8 × Nat)):Cn ((w,p)::l)=(w,(p:Int))::Cn l:=rfl
theorem j7 (n:Nat) (l):CU n (CI l)=CI l:=Ep n _ (Lc l)
@[simp] theorem buPt (w:List UInt8) (p:Int):Aq zP 108 [(0,.str w),(1,.int .i64 p)]=some (.agg [.str w,.int .i64 p]):=by kernel_rfl
@[simp] theorem bsPt (w:List UInt8) (p:Int):CK zP 26 1 [(0,.agg [.str w,.int .i64 p])]=some (.slice .full 2 1 [.str w,.int .i64 p]):=by kernel_rfl
@[simp] theorem buWr2 (ow:Own) (sz n:Nat) (cs:List AV) (c:Int):Aq zP 28 [(0,.slice ow sz n cs),(1,.int .i64 c)]=some (.agg [.slice ow sz n cs,.int .i64 c]):=by kernel_rfl
theorem j8 (w:List UInt8) (p:Nat) (e:Er) (he:AP e) (hl:∀l c,e=some (l,c)→l.length<1000) (H:AH) :
  CS zP AJ 50 [.str w,.int .i64 (p:Int),erA e] H (erA (inE w p e)) H:=by
 refine CS.tr0 Bh Tryz.func50 (by kernel_rfl) 0 (by simp [Tryz.f50]) (fun B hB hG => ?_) (by simp) (by simp) H;refine Tr.goD GI hG ?_;cases e with
 |none=>simp [Tryz.f50,erC,erP,inE]
 |some y =>
  obtain ⟨l,c⟩:=y;have hc:¬(c:Int)=0:=by have:=(he l c rfl).2;omega
  have hc':((c:Int)==0)=false:=by rw [beq_eq_false_iff_ne];exact hc
  have ox:=hl l c rfl;have o5:l≠[]:=(he l c rfl).1;have pN:0<l.length:=List.length_pos_iff.2 o5;have oP:=fun H ow fid=>MH (P:=zP) (t:=26) (sz:=2) (n:=1) (m:=l.length) (H:=H) (fid:=fid) (ow:=ow) (xs:=[.str w,.int .i64 (p:Int)]) (ys:=CI (Cn l)) jz pN (by omega) (U5 _)
  have h2:¬l.length+1=1:=by omega
  have h3:1+l.length=l.length+1:=by omega
  simp [Tryz.f50,erC,erP,hc,hc'];refine LpD.turns GI hG [6,10] [(6,7),(6,8)] ?_;simp [oP,inE,erC,erP,h2,h3,o5,j5,CI,Lc,j7]
theorem H6 (x:Option (Nat × Nat)):DJ x=erA (xE x):=by
 cases x with
 |none=>rfl
 |some y=>rfl
noncomputable def H7:AF zP AJ:=AF.pure 50 (fun x:List UInt8 × Nat × Er=>AP x.2.2∧∀l c,x.2.2=some (l,c)→l.length<1000) (fun x=>[.str x.1,.int .i64 (x.2.1:Int),erA x.2.2]) (fun x=>erA (inE x.1 x.2.1 x.2.2))
 (fun x h H=>j8 x.1 x.2.1 x.2.2 h.1 h.2 H) (fun x y _ _ h=>by
  obtain ⟨a,b,c⟩:=x;obtain ⟨a',b',c'⟩:=y;simp only [Ld,List.cons.injEq,AV.int.injEq,AV.str.injEq,AV.agg.injEq,true_and,and_true] at h;have e1:b=b':=by omega
  have e2:=NO h.2.2.1 h.2.2.2;simp only
  rw [h.1,e1,e2])
theorem U6 {L:List (AF zP AJ)} (hL:(L.map (·.f)).Nodup) (hF:H7∈L) (w:List UInt8) (p:Int) (hp:0≤p) (e:Er) (he:AP e) (hl:∀l c,e=some (l,c)→l.length<1000) (H:AH) :
  oOf L 50 [.str w,.int .i64 p,.agg [erP e,.int .i64 (erC e)]] H=some (.agg [erP (inE w p.toNat e),.int .i64 (erC (inE w p.toNat e))],H):=by
 have:=C0 hL hF (w,p.toNat,e) ⟨he,hl⟩ H;simpa [Int.toNat_of_nonneg hp] using this
theorem j9 (ts:List Wd) (r:Sr) (he:AP r.err) (hr:r.at_<1000000000) (n:Nat) (x:Option (Nat × Nat)) (hn:x=none→n<1000000000) (hx:BO x) (hxp:∀p c,x=some (p,c)→p<1000000000) {H:AH} {id:Nat} (hH:H.at id=some (.box (r.mc ts))) :
  CS zP AJ 86 [.ptr id 0,.int .i64 (n:Int),DJ x] H (.tup []) (H.set id (some (.box ((Cv r n x).mc ts)))):=by
 refine CS.rd Bh Tryz.func86 (by kernel_rfl) 0 (by simp [Tryz.f86]) (fun B hB hG => ?_) (by simp [H6]) rfl (Cw _ _) (Cw _ _) hH;have hL:([H7].map (·.f)).Nodup:=show ([50]:List Nat).Nodup by decide
 have X:=Bn [H7] B4 Ad;have h1:=U6 hL (by simp) Bl;generalize oOf [H7]=O at X h1;refine Tr.goD X hG ?_;obtain ⟨a,e⟩:=r;cases e with
 |some y =>
  have h0:(erC (some y)==0)=false:=by rw [HY he];rfl
  have h0':¬erC (some y)=0:=by rwa [beq_eq_false_iff_ne] at h0
  simp [Tryz.f86,Sr.mc,H6,h0',Cv]
 |none =>
  cases x with
  |none =>have hn:=hn rfl;have w1:IntKind.i64.wrap ((a:Int)+(n:Int))=(a:Int)+(n:Int):=Ab (by simp only at hr;omega) (by simp only at hr;omega);simp [Tryz.f86,Sr.mc,H6,erC,erP,xE,Cv,w1]
  |some y =>
   obtain ⟨p,c⟩:=y;have hp:=hxp p c rfl
   have hc:¬(c:Int)=0:=fun h0=>by
    have:c=0:=by omega
    subst this;exact hx p rfl
   have hcn:¬c=0:=by omega
   have w1:IntKind.i64.wrap ((a:Int)+(p:Int))=(a:Int)+(p:Int):=Ab (by simp only at hr;omega) (by simp only at hr;omega);have h2:=h1 ((a+p:Nat):Int) (by omega) (xE (some (p,c))) (iC hx) (by simp [xE]);simp only [Int.toNat_natCast] at h2;simp [xE,erP,erC,inE,Cn,CI,Bl] at h2;simp [Tryz.f86,Sr.mc,H6,erC,erP,xE,Cv,hc,hcn,Cn,CI];refine LpD.turns X hG [12,15] [(0,12)] ?_;simp [h2,w1,Cn,CI,Bl]
noncomputable def Iq (ts:List Wd) (oK:ts.length<1000000):AF zP AJ:=AF.meth 85 (Sr.mc ts) (Fz ts) (fun (_:Unit) _=>True) (fun _ _=>[]) (fun _ r=>AE (ts.drop r.at_)) (fun _ r=>r)
 (fun _ r _ H id hH=>jy ts oK r hH) (fun id x y r _ _ h=>⟨rfl,rfl⟩)
def Kg (r:Sr) (n:Nat) (x:Option (Nat × Nat)):Prop:=AP r.err∧r.at_<1000000000∧(x=none→n<1000000000)∧BO x∧∀p c,x=some (p,c)→p<1000000000
theorem kA {x y:Option (Nat × Nat)} (h:DJ x=DJ y):x=y:=by simp only [DJ,AV.agg.injEq,List.cons.injEq,AV.int.injEq,true_and,and_true] at h;exact Tv h.1 h.2
noncomputable def H8 (ts:List Wd):AF zP AJ:=AF.meth 86 (Sr.mc ts) (Fz ts) (fun (x:Nat × Option (Nat × Nat)) r=>Kg r x.1 x.2) (fun _ x=>[.int .i64 (x.1:Int),DJ x.2]) (fun _ _ => .tup []) (fun x r=>Cv r x.1 x.2)
 (fun x r h H id hH=>j9 ts r h.1 h.2.1 x.1 x.2 h.2.2.1 h.2.2.2.1 h.2.2.2.2 hH) (fun id x y r _ _ h=>by
  obtain ⟨a,b⟩:=x;obtain ⟨c,d⟩:=y;simp only [List.cons.injEq,AV.int.injEq,true_and,and_true] at h;have e1:a=c:=by omega
  rw [e1,kA h.2]
  exact ⟨rfl,rfl⟩)
noncomputable def NR:AF zP AJ:=AF.pure 88 (fun ts:List Wd=>ts.length<1000000) (fun ts=>[AE ts]) (fun ts=>KY (B0 ts)) (fun ts h H=>gy ts h H) (fun x y _ _ h=>by
 simp only [List.cons.injEq,and_true] at h
 rw [Pq h])
noncomputable def QS:AF zP AJ:=AF.pure 84 (fun ts:List Wd=>ts.length<1000000) (fun ts=>[AE ts]) (fun ts=>Ka (CR ts)) (fun ts h H=>zDO ts h H) (fun x y _ _ h=>by
 simp only [List.cons.injEq,and_true] at h
 rw [Pq h])
section
variable {L:List (AF zP AJ)} {ts:List Wd}
theorem QT (oK:ts.length<1000000) (hL:(L.map (·.f)).Nodup) (hF:Iq ts oK∈L) (r:Sr) (H:AH):oOf L 85 [.ptr 0 0] (some (.box [AE ts,.int .i64 (r.at_:Int),erP r.err,.int .i64 (erC r.err)])::H) =
  some (AE (ts.drop r.at_),some (.box [AE ts,.int .i64 (r.at_:Int),erP r.err,.int .i64 (erC r.err)])::H):=by
 have:=Bk hL hF () r (H:=some (.box (r.mc ts))::H) (id:=0) rfl trivial;simpa [Sr.mc] using this
theorem QU (hL:(L.map (·.f)).Nodup) (hF:H8 ts∈L) (r:Sr) (n:Nat) (x:Option (Nat × Nat)) (h:Kg r n x) (H:AH):oOf L 86 [.ptr 0 0,.int .i64 (n:Int),DJ x] (some (.box [AE ts,.int .i64 (r.at_:Int),erP r.err,.int .i64 (erC r.err)])::H) =
  some (.tup [],some (.box [AE ts,.int .i64 ((Cv r n x).at_:Int),erP (Cv r n x).err,.int .i64 (erC (Cv r n x).err)])::H):=by
 have:=Bk hL hF (n,x) r (H:=some (.box (r.mc ts))::H) (id:=0) rfl h;simpa [Sr.mc] using this
theorem kB (hL:(L.map (·.f)).Nodup) (hF:NR∈L) (us:List Wd) (h:us.length<1000000) (H:AH):oOf L 88 [AE us] H=some (KY (B0 us),H):=C0 hL hF us h H
theorem kC (hL:(L.map (·.f)).Nodup) (hF:QS∈L) (us:List Wd) (h:us.length<1000000) (H:AH):oOf L 84 [AE us] H=some (Ka (CR us),H):=C0 hL hF us h H
end
theorem Az:erP none = .nilSlice:=rfl
theorem A0:erC none=0:=rfl
theorem kD {ts:List Wd} (oK:ts.length<1000000) {r:Sr} (he:AP r.err) (hr:r.at_<1000000000):Kg r (B0 (ts.drop r.at_)).2.1 (B0 (ts.drop r.at_)).2.2:=by obtain ⟨h1,h2⟩:=Kb (ts.drop r.at_);rw [List.length_drop] at h1;refine ⟨he,hr,fun _=>by omega,Ps _,fun p c h => ?_⟩;have:=h2 p c h;rw [List.length_drop] at this;omega
theorem kE (ts:List Wd) (oK:ts.length<1000000) (r:Sr) (he:AP r.err) (hr:r.at_<1000000000) {H:AH} {id:Nat} (hH:H.at id=some (.box (r.mc ts))) :
  CS zP AJ 54 [.ptr id 0] H (.agg (tC (CD ts r).1.tn)) (H.set id (some (.box ((CD ts r).2.mc ts)))):=by
 refine CS.rd Bh Tryz.func54 (by kernel_rfl) 0 (by simp [Tryz.f54]) (fun B hB hG => ?_) (by simp) (by simp) (Cw _ _) (Cw _ _) hH;have hL:([Iq ts oK,NR,H8 ts].map (·.f)).Nodup:=show ([85,88,86]:List Nat).Nodup by decide
 have X:=Bn [Iq ts oK,NR,H8 ts] B4 Ad;have h1:=QT oK hL (by simp) r;have h2:=kB hL (by simp) (ts.drop r.at_) (by rw [List.length_drop];omega);have h3:=fun H=>QU hL (ts:=ts) (by simp) r _ _ (kD oK he hr) H
 generalize oOf [Iq ts oK,NR,H8 ts]=O at X h1 h2 h3;refine Tr.goD X hG ?_;simp only [KY,H6,Ld] at h2 h3;cases om:r.err with
 |some y =>
  have h0':¬erC (some y)=0:=by rw [om] at he;intro h;have:=(FT he).1 h;cases this
  simp [Tryz.f54,Sr.mc,om,h0',CD,Ex.tn,Tn.k,Tn.n,Tn.s,Tn.ar,tC]
 |none =>
  have hx:CD ts r=((B0 (ts.drop r.at_)).1,Cv r (B0 (ts.drop r.at_)).2.1 (B0 (ts.drop r.at_)).2.2):=by simp [CD,om]
  rw [hx];generalize B0 (ts.drop r.at_)=x at *;obtain ⟨e,n,q⟩:=x;simp only [om,A0,Az] at h1 h2 h3 ⊢;generalize Cv r n q=r2 at *;simp only [CB] at h2;simp [Tryz.f54,Sr.mc,om,A0,Az,h1,h2,h3]
abbrev DN (ts:List Wd) (r:St):List Ex × St:=C9 ts (Bv ts) r
theorem kG (ts:List Wd):Bq ts (Ax ts (ts.length+1))=Bv ts:=rfl
theorem kH (ts:List Wd) (oK:ts.length<1000000) (a:Nat) (x:Option (Nat × Nat)) (hx:BO x) {H:AH} {id:Nat} (hH:H.at id=some (.box (rrC ts a x))) :
  CS zP AJ 87 [.ptr id 0,.int .i64 0] H (.slice .unk 4 (DN ts ⟨a,0,x⟩).1.length (tsC (Ex.tns (DN ts ⟨a,0,x⟩).1))) (H.set id (some (.box (rrC ts (DN ts ⟨a,0,x⟩).2.at_ (DN ts ⟨a,0,x⟩).2.err)))):=by
 have h1:=UB oK (Pj oK);have h2:=Hv (f0:=87) (spec:=JV ts (ts.length+1)) (rest:=[.int .i64 0]) hx hH;have hc:(0:Int)≤0∧(0:Int)≤20∧ts.length-a<ts.length+1:=⟨by omega,by omega,by omega⟩
 simp only [JV,if_pos hc,Option.map_some,kG] at h2;have h3:=(h1 _ _ _ _ _ h2).1
 exact CS.toF (CS.weak h3 fun g cv h=>by
  simp only [AA] at h ⊢;obtain ⟨b,o,cap,vs,rfl,q1,q2,q3,q4,q5⟩:=h;refine ⟨b,o,cap,vs,rfl,Pp g _ vs q1,q2,?_,q4,q5⟩
  rw [LQ,LS])
noncomputable def NS (ts:List Wd) (oK:ts.length<1000000):AF zP AJ:=AF.meth 87 (S:=Nat × Option (Nat × Nat)) (fun r=>rrC ts (r.1:Nat) r.2) (fun r s h=>by
  obtain ⟨e1,e2⟩:=Tw h
  exact Prod.ext e1 e2) (fun (_:Unit) r=>BO r.2) (fun _ _=>[.int .i64 0]) (fun _ r => .slice .unk 4 (DN ts ⟨r.1,0,r.2⟩).1.length (tsC (Ex.tns (DN ts ⟨r.1,0,r.2⟩).1))) (fun _ r=>((DN ts ⟨r.1,0,r.2⟩).2.at_,(DN ts ⟨r.1,0,r.2⟩).2.err))
 (fun _ r h H id hH=>kH ts oK r.1 r.2 h hH) (fun id x y r _ _ h=>⟨rfl,rfl⟩)
theorem kI {L:List (AF zP AJ)} {ts:List Wd} (oK:ts.length<1000000) (hL:(L.map (·.f)).Nodup) (hF:NS ts oK∈L) (e0 e1:Option Ent) (H:AH):oOf L 87 [.ptr 2 0,.int .i64 0] (e0::e1::some (.box [AE ts,.int .i64 2,.nilSlice,.int .i64 0])::H) =
  some (.slice .unk 4 (DN ts ⟨2,0,none⟩).1.length (tsC (Ex.tns (DN ts ⟨2,0,none⟩).1)),e0::e1::some (.box [AE ts,.int .i64 ((DN ts ⟨2,0,none⟩).2.at_:Nat),erP (xE (DN ts ⟨2,0,none⟩).2.err),.int .i64 (erC (xE (DN ts ⟨2,0,none⟩).2.err))])::H):=by
 have:=Bk hL hF () (2,none) (H:=e0::e1::some (.box (rrC ts ((2:Nat):Int) none))::H) (id:=2) rfl Cm;have hw:=H6 (DN ts ⟨2,0,none⟩).2.err;simp only [DJ,Ld,AV.agg.injEq,List.cons.injEq,AV.int.injEq,true_and,and_true] at hw;simpa [LP,B8,hw.1,hw.2] using this
def bSw (ts:List Wd) (r:St):Prop:=(r.err=none→r.at_≤ts.length)∧∀p c,r.err=some (p,c)→p≤ts.length
def bW (ts:List Wd) (of:Rd):Prop:=∀r,bS ts r→bSw ts (of r).2
theorem kJ (ts:List Wd):okR (B6 ts) (Bv ts):=KF (KF (FG ts _) (by decide) 7 8) (by decide) 5 6
theorem U7 (ts:List Wd):bW ts (Bv ts):=fun r h=>by have hk:=(kJ ts).1 r;have hb:=M9 ts r h;obtain ⟨h1,h2⟩:=hk.1;refine ⟨fun he => ?_,fun p c he=>hb.2 p c (by rw [h1,he])⟩;rw [←h2 (by rw [h1,he])];exact hb.1
theorem U8 {ts:List Wd} {sum:Rd} (ho:bW ts sum):∀(n:Nat) (a:List Ex) (r:St),bSw ts r→bSw ts (Dv ts sum n a r).2
 |0,a,r,h=>h
 |n+1,a,r,h=>by
  have sK:∀s,Aa ts r s=true→r.err=none∧r.at_<ts.length:=fun s hn=>by refine ⟨?_,Ew hn⟩;simp only [Aa,Bool.and_eq_true,Option.isNone_iff_eq_none] at hn;exact hn.1
  simp only [Dv]
  split
  ·rename_i hn
   obtain ⟨he,hl⟩:=sK _ hn
   split
   ·have:=bS.fail (ts:=ts) (r:=r) ⟨h.1 he,h.2⟩ (h.1 he) 4
    exact ⟨fun _=>this.1,this.2⟩
   ·exact U8 ho n _ _ (ho _ ⟨hl,h.2⟩)
  ·unfold CF
   split
   ·rename_i hn
    obtain ⟨he,hl⟩:=sK _ hn;exact ⟨fun _=>hl,h.2⟩
   ·cases he:r.err with
    |none =>have:=bS.fail (ts:=ts) (r:=r) ⟨h.1 he,h.2⟩ (h.1 he) 2;exact ⟨fun _=>this.1,this.2⟩
    |some x =>rw [MT he];exact h
theorem U9 {ts:List Wd} {r:St} (h:bS ts r):bSw ts (DN ts r).2:=U8 (U7 ts) 5 _ _ (U7 ts r h)
theorem QV (ts:List Wd) (r:St) (h:BO r.err):BO (DN ts r).2.err:=Ph (JX ts) 5 _ _ (JX ts r h)
theorem kK {ts:List Wd} (oK:ts.length<1000000) {r:Sr} (he:AP r.err) (hr:r.at_<1000000000) (h2:2≤(ts.drop r.at_).length):Kg r (DN (ts.drop r.at_) ⟨2,0,none⟩).2.at_ (DN (ts.drop r.at_) ⟨2,0,none⟩).2.err:=by
 obtain ⟨h1,h3⟩:=U9 (ts:=ts.drop r.at_) (r:=⟨2,0,none⟩) ⟨h2,fun p c h=>by cases h⟩;rw [List.length_drop] at h1;refine ⟨he,hr,fun h => ?_,QV _ _ Cm,fun p c h => ?_⟩
 ·have:=h1 h;omega
 ·have:=h3 p c h
  rw [List.length_drop] at this;omega
@[simp high] theorem n7 {l:List Wd} (h:0<l.length):Ao zP 157 (AE l) (.int .i64 0)=some (.vptr (A3 l) 0):=by simpa using Tu (l:=l) (i:=0) h
@[simp high] theorem n9 {l:List Wd} (h:1<l.length):Ao zP 157 (AE l) (.int .i64 1)=some (.vptr (A3 l) 4):=by simpa using Tu (l:=l) (i:=1) h
@[simp] theorem buRR2 (ts:List Wd) (n:Int):Aq zP 214 [(0,AE ts),(1,.int .i64 n)]=some (.agg [AE ts,.int .i64 n,.nilSlice,.int .i64 0]):=by
 unfold AE
 split<;>kernel_rfl
theorem kL (ts:List Wd) (oK:ts.length<1000000) (r:Sr) (he:AP r.err) (hr:r.at_<1000000000) {H:AH} {id:Nat} (hH:H.at id=some (.box (r.mc ts))) :
  CS zP AJ 52 [.ptr id 0] H (.agg (tC (CV ts r).1.tn)) (H.set id (some (.box ((CV ts r).2.mc ts)))):=by
 refine CS.rd Bh Tryz.func52 (by kernel_rfl) 0 (by simp [Tryz.f52]) (fun B hB hG => ?_) (by simp) (by simp) (Cw _ _) (Cw _ _) hH;have qc:(ts.drop r.at_).length<1000000:=by rw [List.length_drop];omega
 have hL:([D3 ts,Iq ts oK,NS (ts.drop r.at_) qc,H8 ts].map (·.f)).Nodup:=show ([55,85,87,86]:List Nat).Nodup by decide
 have X:=Bn [D3 ts,Iq ts oK,NS (ts.drop r.at_) qc,H8 ts] B4 Ad;have h0:=NP hL (ts:=ts) (by simp) r he r.at_ 2 (by omega) (by omega);have h1:=QT oK hL (by simp) r;have h2:=fun e0 e1 H=>kI (ts:=ts.drop r.at_) qc hL (by simp) e0 e1 H
 have h3:=fun tL H=>QU hL (ts:=ts) (by simp) r _ _ (kK oK he hr tL) H
 generalize oOf [D3 ts,Iq ts oK,NS (ts.drop r.at_) qc,H8 ts]=O at X h0 h1 h2 h3;refine Tr.goD X hG ?_;simp only [H6,Ld] at h3;obtain ⟨a,e⟩:=r;simp at h0;simp [Tryz.f52,Sr.mc];refine LpD.turns X hG [] [] ?_;cases e with
 |some y =>
  have hq:(erC (some y)==0)=false:=by rw [HY he];rfl
  have hq':¬erC (some y)=0:=by rwa [beq_eq_false_iff_ne] at hq
  have hqn:(erC (some y) != 0)=true:=by rw [bne,hq];rfl
  simp at h0;simp [hqn,hq',h0,CV,isW,Sr.fail,Ex.tn,Tn.k,Tn.n,Tn.s,Tn.ar,tC]
 |none =>
  by_cases hl:a<ts.length
  ·have hl':(a:Int)<ts.length:=by omega
   obtain ⟨w,hw⟩:∃w,ts[a]? = some w:=⟨_,List.getElem?_eq_getElem hl⟩
   obtain ⟨c0,c1,c3⟩:=EM hw;have hn:=Px (ts:=ts) (r:=⟨a,none⟩) rfl hw 1;have qI:¬ts.length≤a:=by omega
   have rU:ts[a]=w:=by rw [List.getElem?_eq_getElem hl] at hw;injection hw
   simp [erC] at h0
   by_cases hk:w.kind=1
   ·rw [hk] at hn
    have rp:(ts.drop a)[0]? = some w:=by rw [List.getElem?_drop];exact hw
    have oi:(ts.drop a)[1]? = ts[a+1]? := by rw [List.getElem?_drop]
    have hdn:(ts.drop a).length=ts.length-a:=List.length_drop
    have xf:CV ts ⟨a,none⟩=if isK ts (a+1) 3 Av then (.elem w.text (DN (ts.drop a) ⟨2,0,none⟩).1,Cv ⟨a,none⟩ (DN (ts.drop a) ⟨2,0,none⟩).2.at_ (DN (ts.drop a) ⟨2,0,none⟩).2.err) else (.var w.text,⟨a+1,none⟩):=by simp [CV,hn,hw,rU,Sr.step]
    simp only [Az,A0] at h1 h2 h3;generalize ts.drop a=l at *;have oU:0<l.length:=by omega
    have tM:¬l=[]:=List.length_pos_iff.1 oU;obtain ⟨k0,k1,_⟩:=EM rp;simp at k0 k1;simp [A0,Az,hl,hl',qI,hk,c0,h1];have w1:IntKind.i64.wrap ((a:Int)+1)=(a:Int)+1:=Ab (by omega) (by omega);have wH:isK ts (a+1) 3 Av=false→CV ts ⟨a,none⟩=(.var w.text,⟨a+1,none⟩):=fun h=>by rw [xf,h];rfl
    by_cases tL:l.length<2
    ·have hK:isK ts (a+1) 3 Av=false:=by
      have:ts[a+1]? = none:=List.getElem?_eq_none (by omega);simp only [isK,this]
     have uW:(l.length:Int)<2:=by omega
     have h2x:¬(2:Int)≤l.length:=by omega
     have h2y:¬2≤l.length:=by omega
     rw [wH hK];simp [tL,uW,h2x,h2y,oU,tM,k1,w1,Ex.tn,Tn.k,Tn.n,Tn.s,Tn.ar,tC,Az,A0]
    ·have uW:¬(l.length:Int)<2:=by omega
     have wI:2≤l.length:=by omega
     have wJ:(2:Int)≤l.length:=by omega
     obtain ⟨v,hv⟩:∃v,l[1]? = some v:=⟨_,List.getElem?_eq_getElem (by omega)⟩
     have i1:1<l.length:=by omega
     obtain ⟨q0,q1,_⟩:=EM hv;simp at q0 q1;rw [oi] at hv;have hK:=UT hv (s:=Av) (by decide) 3
     by_cases rr:v.kind=3
     ·by_cases uz:v.text=Av
      ·have uX:isK ts (a+1) 3 Av=true:=by rw [hK];simp [rr,uz]
       rw [xf,uX];simp only [if_true];have wK:v.text=[40]:=uz;have h3:=h3 (by omega);generalize DN l ⟨2,0,none⟩=p at *;obtain ⟨xs,⟨b,dd,q⟩⟩:=p;simp only at h2 h3 ⊢;generalize Cv ⟨a,none⟩ b q=r2 at *;have tlow:=KU (Ex.tns xs);simp [tL,uW,wI,wJ,oU,tM,i1,k1,q0,q1,rr,wK,h2];refine LpD.turns X hG [9] [] ?_;have hws:AE l = .slice .unk 4 l.length (A3 l):=if_neg tM;simp [h3,hws,oU,tM,k1,Ex.tn,Tn.k,Tn.n,Tn.s,Tn.ar,tC,Az,A0,LS,tlow,Ep]
      ·have uX:isK ts (a+1) 3 Av=false:=by
        rw [hK];simp only [Bool.and_eq_false_iff,beq_eq_false_iff_ne];exact .inr uz
       have wK:¬v.text=[40]:=uz;rw [wH uX];simp [tL,uW,wI,wJ,oU,tM,i1,k1,q0,q1,rr,wK,w1,Ex.tn,Tn.k,Tn.n,Tn.s,Tn.ar,tC,Az,A0]
     ·have uX:isK ts (a+1) 3 Av=false:=by
       rw [hK];simp only [Bool.and_eq_false_iff,beq_eq_false_iff_ne];exact .inl rr
      have yL:¬(v.kind:Int)=3:=by omega
      rw [wH uX];simp [tL,uW,wI,wJ,oU,tM,i1,k1,q0,q1,rr,yL,w1,Ex.tn,Tn.k,Tn.n,Tn.s,Tn.ar,tC,Az,A0]
   ·have hk':((w.kind:Int)==1)=false:=by rw [beq_eq_false_iff_ne];omega
    have pm:(w.kind==1)=false:=by rw [beq_eq_false_iff_ne];exact hk
    have pn:¬(w.kind:Int)=1:=by omega
    rw [pm] at hn;simp [erC,hl,hl',qI,hk,hk',pn,c0,h0,CV,hn,Sr.fail,Ex.tn,Tn.k,Tn.n,Tn.s,Tn.ar,tC]
  ·have hl':¬((a:Int)<ts.length):=by omega
   have hw:ts[a]? = none:=List.getElem?_eq_none (by omega);have hn:isW ts ⟨a,none⟩ 1 []=false:=by simp [isW,isK,hw]
   have hg:(ts.length:Int)≤a:=by omega
   have hg':ts.length≤a:=by omega
   simp [erC] at h0;simp [erC,hl',hg,hg',h0,CV,hn,Sr.fail,Ex.tn,Tn.k,Tn.n,Tn.s,Tn.ar,tC]
theorem NT (ts:List Wd) (r:Sr):r.at_≤(CJ ts r).2.at_∧(r.at_≤ts.length→(CJ ts r).2.at_≤ts.length)∧(AP r.err→AP (CJ ts r).2.err):=by
 unfold CJ
 split
 ·rename_i h
  have:=(Dl h).1;exact ⟨Nat.le_succ _,fun _=>this,fun h=>h⟩
 ·exact ⟨Nat.le_refl _,fun h=>h,fun h=>Sr.fail_ok h _ (by decide)⟩
theorem NU (ts:List Wd) (r:Sr):r.at_≤(Ci ts r).2.at_∧(r.at_≤ts.length→(Ci ts r).2.at_≤ts.length)∧(AP r.err→AP (Ci ts r).2.err):=by
 unfold Ci
 split
 ·rename_i h
  have:=(Dl h).1;exact ⟨Nat.le_succ _,fun _=>this,fun h=>h⟩
 ·exact ⟨Nat.le_refl _,fun h=>h,fun h=>Sr.fail_ok h _ (by decide)⟩
theorem VA (ts:List Wd):∀(n:Nat) (d:List Int) (r:Sr),r.at_≤(ES ts n d r).2.at_∧(r.at_≤ts.length→(ES ts n d r).2.at_≤ts.length)∧(AP r.err→AP (ES ts n d r).2.err)
 |0,d,r=>⟨Nat.le_refl _,fun h=>h,fun h=>h⟩
 |n+1,d,r=>by
  simp only [ES];obtain ⟨r1,oj⟩:∃r1,r1=if 4≤d.length then r.fail (r.at_-1) 4 else r:=⟨_,rfl⟩
  rw [←oj]
  have h1:r1.at_=r.at_∧(AP r.err→AP r1.err):=by
   rw [oj]
   split
   ·exact ⟨rfl,fun h=>Sr.fail_ok h _ (by decide)⟩
   ·exact ⟨rfl,fun h=>h⟩
  obtain ⟨a1,a2,a3⟩:=NU ts r1;generalize Ci ts r1=m at *;obtain ⟨r2,om⟩:∃r2,r2=if m.2.err=none∧m.1=0 then m.2.fail r1.at_ 1 else m.2:=⟨_,rfl⟩
  rw [←om]
  have h2:r2.at_=m.2.at_∧(AP m.2.err→AP r2.err):=by
   rw [om]
   split
   ·exact ⟨rfl,fun h=>Sr.fail_ok h _ (by decide)⟩
   ·exact ⟨rfl,fun h=>h⟩
  split
  ·rename_i hc
   have hl:=(Dl hc).1;obtain ⟨b1,b2,b3⟩:=VA ts n (d++[(m.1:Int)]) r2.step;simp only [Sr.step] at b1 b2 b3;refine ⟨by simp only [Sr.step];omega,fun h=>b2 (by omega),fun h=>b3 (h2.2 (a3 (h1.2 h)))⟩
  ·exact ⟨by simp only;omega,fun h=>by have:=a2 (by omega);simp only;omega,fun h=>h2.2 (a3 (h1.2 h))⟩
theorem E3 (ts:List Wd) (r:Sr) (k:Nat) (s:List UInt8):(Bt ts r k s).at_=r.at_+1∧(AP r.err→AP (Bt ts r k s).err)∧((Bt ts r k s).err=none→r.at_<ts.length):=by
 unfold Bt
 split
 ·rename_i h
  exact ⟨rfl,fun h=>h,fun _=>(Dl h).1⟩
 ·exact ⟨rfl,fun h=>Sr.fail_ok h _ (by decide),fun h=>by simp [Sr.step,Sr.fail] at h⟩
theorem QW (ts:List Wd) (r:Sr) (hr:r.at_≤ts.length):r.at_≤(CT ts r).2.at_∧(CT ts r).2.at_≤ts.length+1∧(AP r.err→AP (CT ts r).2.err):=by
 simp only [CT];obtain ⟨a1,a2,a3⟩:=NT ts r;generalize CJ ts r=m at *
 split
 ·rename_i h
  have hl:=(Dl h).1;obtain ⟨b1,b2,b3⟩:=VA ts 6 [] m.2.step;obtain ⟨c1,c2,_⟩:=E3 ts (ES ts 6 [] m.2.step).2 3 Aw;have oS:m.2.step.at_=m.2.at_+1:=rfl;have:=b2 (by omega);exact ⟨by simp only;omega,by simp only;omega,fun h=>c2 (b3 (a3 h))⟩
 ·exact ⟨a1,by have:=a2 hr;simp only;omega,a3⟩
noncomputable def Le (ts:List Wd):AF zP AJ:=AF.meth 53 (Sr.mc ts) (Fz ts) (fun (x:Nat × List UInt8) r=>AP r.err∧r.at_<1000000000∧x.2≠[]) (fun _ x=>[.int .i64 (x.1:Int),.str x.2]) (fun _ _ => .tup []) (fun x r=>Bt ts r x.1 x.2)
 (fun x r h H id hH=>jt ts r h.1 h.2.1 x.1 x.2 h.2.2 hH) (fun id x y r _ _ h=>by
  obtain ⟨a,b⟩:=x;obtain ⟨c,d⟩:=y;simp only [List.cons.injEq,AV.int.injEq,AV.str.injEq,true_and,and_true] at h;have e1:a=c:=by omega
  rw [e1,h.2]
  exact ⟨rfl,rfl⟩)
noncomputable def VB (ts:List Wd) (oK:ts.length<1000000):AF zP AJ:=AF.meth 99 (Sr.mc ts) (Fz ts) (fun (s:List UInt8) r=>AP r.err∧s≠[]) (fun _ s=>[.str s]) (fun s r => .bool (isW ts r 3 s)) (fun s r=>CG ts r 3 s)
 (fun s r h H id hH=>ju ts oK r h.1 s h.2 hH) (fun id x y r _ _ h=>by
  simp only [List.cons.injEq,AV.str.injEq,and_true] at h;rw [h]
  exact ⟨rfl,rfl⟩)
noncomputable def VC (ts:List Wd) (oK:ts.length<1000000):AF zP AJ:=AF.meth 100 (Sr.mc ts) (Fz ts) (fun (_:Unit) r=>AP r.err) (fun _ _=>[]) (fun _ r => .str (CJ ts r).1) (fun _ r=>(CJ ts r).2)
 (fun _ r h H id hH=>jv ts oK r h hH) (fun id x y r _ _ h=>⟨rfl,rfl⟩)
noncomputable def VD (ts:List Wd) (oK:ts.length<1000000):AF zP AJ:=AF.meth 101 (Sr.mc ts) (Fz ts) (fun (_:Unit) r=>AP r.err) (fun _ _=>[]) (fun _ r => .int .i64 ((Ci ts r).1:Int)) (fun _ r=>(Ci ts r).2)
 (fun _ r h H id hH=>jw ts oK r h hH) (fun id x y r _ _ h=>⟨rfl,rfl⟩)
noncomputable def Lf (ts:List Wd) (oK:ts.length<1000000):AF zP AJ:=AF.meth 54 (Sr.mc ts) (Fz ts) (fun (_:Unit) r=>AP r.err∧r.at_<1000000000) (fun _ _=>[]) (fun _ r => .agg (tC (CD ts r).1.tn)) (fun _ r=>(CD ts r).2)
 (fun _ r h H id hH=>kE ts oK r h.1 h.2 hH) (fun id x y r _ _ h=>⟨rfl,rfl⟩)
noncomputable def NV (ts:List Wd) (oK:ts.length<1000000):AF zP AJ:=AF.meth 52 (Sr.mc ts) (Fz ts) (fun (_:Unit) r=>AP r.err∧r.at_<1000000000) (fun _ _=>[]) (fun _ r => .agg (tC (CV ts r).1.tn)) (fun _ r=>(CV ts r).2)
 (fun _ r h H id hH=>kL ts oK r h.1 h.2 hH) (fun id x y r _ _ h=>⟨rfl,rfl⟩)
abbrev mbx (ts:List Wd) (r:Sr):Option Ent:=some (.box [AE ts,.int .i64 (r.at_:Int),erP r.err,.int .i64 (erC r.err)])
section
variable {L:List (AF zP AJ)} {ts:List Wd}
theorem VE (hL:(L.map (·.f)).Nodup) (hF:D3 ts∈L) (r:Sr) (he:AP r.err) (p c:Nat) (H:AH):oOf L 55 [.ptr 0 0,.int .i64 (p:Int),.int .i64 (c:Int)] (mbx ts r::H)=some (.tup [],mbx ts (r.fail p c)::H):=by have:=Bk hL hF (p,c) r (H:=some (.box (r.mc ts))::H) (id:=0) rfl he;simpa [Sr.mc] using this
theorem VF (hL:(L.map (·.f)).Nodup) (hF:Le ts∈L) (r:Sr) (he:AP r.err) (hr:r.at_<1000000000) (k:Nat) (s:List UInt8) (hs:s≠[]) (H:AH):oOf L 53 [.ptr 0 0,.int .i64 (k:Int),.str s] (mbx ts r::H)=some (.tup [],mbx ts (Bt ts r k s)::H):=by have:=Bk hL hF (k,s) r (H:=some (.box (r.mc ts))::H) (id:=0) rfl ⟨he,hr,hs⟩;simpa [Sr.mc] using this
theorem kM (oK:ts.length<1000000) (hL:(L.map (·.f)).Nodup) (hF:VB ts oK∈L) (r:Sr) (he:AP r.err) (s:List UInt8) (hs:s≠[]) (H:AH):oOf L 99 [.ptr 0 0,.str s] (mbx ts r::H)=some (.bool (isW ts r 3 s),mbx ts (CG ts r 3 s)::H):=by have:=Bk hL hF s r (H:=some (.box (r.mc ts))::H) (id:=0) rfl ⟨he,hs⟩;simpa [Sr.mc] using this
theorem kN (oK:ts.length<1000000) (hL:(L.map (·.f)).Nodup) (hF:VC ts oK∈L) (r:Sr) (he:AP r.err) (H:AH):oOf L 100 [.ptr 0 0] (mbx ts r::H)=some (.str (CJ ts r).1,mbx ts (CJ ts r).2::H):=by have:=Bk hL hF () r (H:=some (.box (r.mc ts))::H) (id:=0) rfl he;simpa [Sr.mc] using this
theorem kO (oK:ts.length<1000000) (hL:(L.map (·.f)).Nodup) (hF:VD ts oK∈L) (r:Sr) (he:AP r.err) (H:AH):oOf L 101 [.ptr 0 0] (mbx ts r::H)=some (.int .i64 ((Ci ts r).1:Int),mbx ts (Ci ts r).2::H):=by have:=Bk hL hF () r (H:=some (.box (r.mc ts))::H) (id:=0) rfl he;simpa [Sr.mc] using this
theorem VG (oK:ts.length<1000000) (hL:(L.map (·.f)).Nodup) (hF:Lf ts oK∈L) (r:Sr) (he:AP r.err) (hr:r.at_<1000000000) (H:AH):oOf L 54 [.ptr 0 0] (mbx ts r::H)=some (.agg (tC (CD ts r).1.tn),mbx ts (CD ts r).2::H):=by have:=Bk hL hF () r (H:=some (.box (r.mc ts))::H) (id:=0) rfl ⟨he,hr⟩;simpa [Sr.mc] using this
theorem kP (oK:ts.length<1000000) (hL:(L.map (·.f)).Nodup) (hF:NV ts oK∈L) (r:Sr) (he:AP r.err) (hr:r.at_<1000000000) (H:AH):oOf L 52 [.ptr 0 0] (mbx ts r::H)=some (.agg (tC (CV ts r).1.tn),mbx ts (CV ts r).2::H):=by have:=Bk hL hF () r (H:=some (.box (r.mc ts))::H) (id:=0) rfl ⟨he,hr⟩;simpa [Sr.mc] using this
end
theorem H9 (ψ:Nat→Nat) (l:List Wd):ren ψ (AE l)=AE l:=DE ψ _ (PH l)
theorem FU (ψ:Nat→Nat) (e:Er):ren ψ (erP e)=erP e:=DE ψ _ (QR e)
def NW (ts:List Wd) (nm:List UInt8) (outv:AV) (e1:Option Ent) (res:List Int × Sr) (k:Nat) (t:List AV) (H:AH):Prop :=
 ∃(d:List Int) (r:Sr) (nx:Bool),(nx=true→ES ts k d r=res∧k+d.length=6∧d.length≤4∧1≤r.at_∧r.at_≤ts.length)∧(nx=false→res=(d,r))∧AP r.err∧r.at_≤ts.length ∧
  t=mkT 63 [(0,.ptr 0 0),(3,outv),(5,.ptr 2 0),(6,.bool nx)]∧H=[mbx ts r,e1,some (.box [.str nm,AN.tk 3 d]),AO d]
structure ItO (O:Orc) (ts:List Wd):Prop where
 fail:∀(r:Sr) (p c:Nat) (H:AH),AP r.err→O 55 [.ptr 0 0,.int .i64 (p:Int),.int .i64 (c:Int)] (mbx ts r::H)=some (.tup [],mbx ts (r.fail p c)::H)
 must:∀(r:Sr) (k:Nat) (s:List UInt8) (H:AH),AP r.err→r.at_<1000000000→s≠[]→O 53 [.ptr 0 0,.int .i64 (k:Int),.str s] (mbx ts r::H)=some (.tup [],mbx ts (Bt ts r k s)::H)
 sign:∀(r:Sr) (s:List UInt8) (H:AH),AP r.err→s≠[]→O 99 [.ptr 0 0,.str s] (mbx ts r::H)=some (.bool (isW ts r 3 s),mbx ts (CG ts r 3 s)::H)
 name:∀(r:Sr) (H:AH),AP r.err→O 100 [.ptr 0 0] (mbx ts r::H)=some (.str (CJ ts r).1,mbx ts (CJ ts r).2::H)
 num:∀(r:Sr) (H:AH),AP r.err→O 101 [.ptr 0 0] (mbx ts r::H)=some (.int .i64 ((Ci ts r).1:Int),mbx ts (Ci ts r).2::H)
 expr:∀(r:Sr) (H:AH),AP r.err→r.at_<1000000000→O 54 [.ptr 0 0] (mbx ts r::H)=some (.agg (tC (CD ts r).1.tn),mbx ts (CD ts r).2::H)
 is:∀(r:Sr) (k:Nat) (s:List UInt8) (H:AH),AP r.err→s≠[]→O 83 [.ptr 0 0,.int .i64 (k:Int),.str s] (mbx ts r::H)=some (.bool (isW ts r k s),mbx ts r::H)
noncomputable def GR (ts:List Wd) (oK:ts.length<1000000):List (AF zP AJ):=[D3 ts,Le ts,VB ts oK,VC ts oK,VD ts oK,Lf ts oK,H5 ts]
theorem VH (ts:List Wd) (oK:ts.length<1000000):ItO (oOf (GR ts oK)) ts:=by
 have hL:((GR ts oK).map (·.f)).Nodup:=show ([55,53,99,100,101,54,83]:List Nat).Nodup by decide
 exact ⟨fun r p c H he=>VE hL (by simp [GR]) r he p c H,fun r k s H he hr hs=>VF hL (by simp [GR]) r he hr k s hs H,fun r s H he hs=>kM oK hL (by simp [GR]) r he s hs H,
  fun r H he=>kN oK hL (by simp [GR]) r he H,fun r H he=>kO oK hL (by simp [GR]) r he H,fun r H he hr=>VG oK hL (by simp [GR]) r he hr H,fun r k s H he hs=>NQ hL (by simp [GR]) r he k s hs H⟩
theorem VI (ts:List Wd) (oK:ts.length<1000000):Cx (oOf (GR ts oK)) zP AJ:=Bn _ B4 Ad
theorem NX:Bg zP 75 2=true:=by kernel_rfl
@[simp] theorem bsIt (s:List UInt8) (v:AV):CK zP 75 1 [(0,.agg [.str s,v])]=some (.slice .full 2 1 [.str s,v]):=by kernel_rfl
@[simp] theorem buIt (s:List UInt8):Aq zP 133 [(0,.str s)]=some (.agg [.str s,.nilSlice]):=by kernel_rfl
def ItI (ts:List Wd) (res:List It × Sr) (k:Nat) (t:List AV) (H:AH):Prop :=
 ∃(l:List It) (r:Sr) (mo:Bool),(mo=true→Fy ts k l r=res∧ts.length<k+r.at_∧1≤r.at_∧r.at_≤ts.length)∧(mo=false→res=(l,r))∧AP r.err∧r.at_≤ts.length+1∧l.length+k≤ts.length+2 ∧
  t=mkT 63 [(0,.ptr 0 0),(3,itE.tk 1 l),(4,.bool mo)]∧H=[mbx ts r,AO l]
theorem VJ {ts:List Wd} {res:List It × Sr} {l:List It} {r:Sr} {k:Nat} (oM:(if isW ts (CT ts r).2 3 A4=true then Fy ts k (l++[(CT ts r).1]) (CT ts r).2.step else (l++[(CT ts r).1],(CT ts r).2))=res)
  (qP:ts.length<k+1+r.at_) (h1:1≤r.at_) (hr:r.at_≤ts.length) (uT:l.length+(k+1)≤ts.length+2) (he:AP r.err) :
  ItI ts res k (mkT 63 [(0,.ptr 0 0),(3,itE.tk 1 (l++[(CT ts r).1])),(4,.bool (isW ts (CT ts r).2 3 A4))]) [mbx ts (CG ts (CT ts r).2 3 A4),AO (l++[(CT ts r).1])]:=by
 obtain ⟨u1,u2,u3⟩:=QW ts r hr;generalize CT ts r=p at *;obtain ⟨x,q⟩:=p;simp only at *;cases hc:isW ts q 3 A4 with
 |false =>rw [hc] at oM;rw [Gx hc];exact ⟨l++[x],q,false,(fun h=>by cases h),fun _=>oM.symm,u3 he,u2,by rw [List.length_append,List.length_cons,List.length_nil];omega,rfl,rfl⟩
 |true =>rw [hc] at oM;rw [Gw hc];have hl:=(Dl hc).1;have hs:q.step.at_=q.at_+1:=rfl;exact ⟨l++[x],q.step,true,fun _=>⟨oM,by omega,by omega,by omega⟩,(fun h=>by cases h),u3 he,by omega,by rw [List.length_append,List.length_cons,List.length_nil];omega,rfl,rfl⟩
theorem kQ {ts:List Wd} {res:List Int × Sr} {nm:List UInt8} {outv:AV} {e1:Option Ent} {d:List Int} {r r1 r2:Sr} {m:Nat × Sr} {k:Nat} (oj:r1=if 4≤d.length then r.fail (r.at_-1) 4 else r) (hm:Ci ts r1=m) (om:r2=if m.2.err=none∧m.1=0 then m.2.fail r1.at_ 1 else m.2)
  (oM:ES ts (k+1) d r=res) (hk:k+1+d.length=6) (h1:1≤r.at_) (hr:r.at_≤ts.length) (he:AP r.err) :
  NW ts nm outv e1 res k (mkT 63 [(0,.ptr 0 0),(3,outv),(5,.ptr 2 0),(6,.bool (isW ts r2 3 A4))]) [mbx ts (CG ts r2 3 A4),e1,some (.box [.str nm,AN.tk 3 (d++[(m.1:Int)])]),AO (d++[(m.1:Int)])]:=by
 have wL:ES ts (k+1) d r=if isW ts r2 3 A4 then ES ts k (d++[(m.1:Int)]) r2.step else (d++[(m.1:Int)],r2):=by rw [om,←hm,oj];rfl
 rw [wL] at oM
 have q1:r1.at_=r.at_∧(AP r.err→AP r1.err)∧(4≤d.length→r1.err≠none):=by
  rw [oj]
  split
  ·exact ⟨rfl,fun h=>Sr.fail_ok h _ (by decide),fun _=>by simp [Sr.fail]⟩
  ·exact ⟨rfl,fun h=>h,fun h=>absurd h ‹_›⟩
 obtain ⟨a1,a2,a3⟩:=NU ts r1
 have hme:r1.err≠none→m.2.err≠none:=by
  intro h;rw [←hm];unfold Ci
  split
  ·exact h
  ·simp [Sr.fail]
 rw [hm] at a1 a2 a3
 have q2:r2.at_=m.2.at_∧(AP m.2.err→AP r2.err)∧(m.2.err≠none→r2.err≠none):=by
  rw [om]
  split
  ·exact ⟨rfl,fun h=>Sr.fail_ok h _ (by decide),fun _=>by simp [Sr.fail]⟩
  ·exact ⟨rfl,fun h=>h,fun h=>h⟩
 have yM:r2.at_≤ts.length:=by have:=a2 (by omega);omega
 have xg:=q2.2.1 (a3 (q1.2.1 he));cases hc:isW ts r2 3 A4 with
 |false =>rw [hc] at oM;rw [Gx hc];exact ⟨_,r2,false,(fun h=>by cases h),fun _=>oM.symm,xg,yM,rfl,rfl⟩
 |true =>
  rw [hc] at oM;rw [Gw hc];obtain ⟨hl,hn⟩:=Dl hc;have hs:r2.step.at_=r2.at_+1:=rfl;have sE:¬4≤d.length:=fun h=>q2.2.2 (hme (q1.2.2 h)) hn
  exact ⟨_,r2.step,true,fun _=>⟨oM,by rw [List.length_append,List.length_cons,List.length_nil];omega,by rw [List.length_append,List.length_cons,List.length_nil];omega,by omega,by omega⟩,(fun h=>by cases h),xg,by omega,rfl,rfl⟩
theorem kR (ts:List Wd) (oK:ts.length<1000000) (r:Sr) (he:AP r.err) (h1:1≤r.at_) (hr:r.at_≤ts.length) {H:AH} {id:Nat} (hH:H.at id=some (.box (r.mc ts))) :
  CS zP AJ 81 [.ptr id 0] H (itE.av (GQ ts r).1) (H.set id (some (.box ((GQ ts r).2.mc ts)))):=by
 refine CS.rd Bh Tryz.func81 (by kernel_rfl) 0 (by simp [Tryz.f81]) (fun B hB hG => ?_) (by simp) (by simp) (Cw _ _) (Cw _ _) hH;have X:=VI ts oK;have hO:=VH ts oK;generalize oOf (GR ts oK)=O at X hO;refine Tr.goD X hG ?_;unfold GQ;generalize sB:Fy ts (ts.length+1) [] r=res;simp [Tryz.f81,Sr.mc]
 refine LpD.loopN X hG (ItI ts res) (ts.length+1) (t':=mkT 63 [(0,.ptr 0 0),(3,itE.tk 1 []),(4,.bool true)]) (H':=[mbx ts r,none])
  (AD.mkV 100 (fun i=>i) 2 (by simp [hB]) (by simp) (by simp) rfl (by
   intro i hi;rcases (by omega:i=0∨i=1) with rfl|rfl
   ·simp [AH.at,mbx,AI,AL,ren,H9,FU]
   ·simp [AH.at]) (by simp [mbx]) (by simp [ren]))
  ⟨[],r,true,fun _=>⟨sB,by omega,h1,hr⟩,(fun h=>by cases h),he,by omega,by simp,rfl,by simp⟩ ?_
 rintro k t H ⟨l,r,mo,hmt,hmf,he,oj,uT,rfl,rfl⟩;cases mo with
 |false =>obtain rfl:=hmf rfl;have oy:=itE.tk_cut (show ¬1<1 by omega) l;simp [Bo,oy]
 |true =>
  obtain ⟨oM,qP,h1,hr⟩:=hmt rfl;obtain ⟨k,rfl⟩:∃j,k=j+1:=⟨k-1,by omega⟩
  have sC:=fun H=>hO.name r H he
  obtain ⟨a1,a2,a3⟩:=NT ts r;have yN:Fy ts (k+1) l r=if isW ts (CT ts r).2 3 A4 then Fy ts k (l++[(CT ts r).1]) (CT ts r).2.step else (l++[(CT ts r).1],(CT ts r).2):=rfl
  have wM:CT ts r=if isW ts (CJ ts r).2 3 Av then (⟨(CJ ts r).1,(ES ts 6 [] (CJ ts r).2.step).1⟩,Bt ts (ES ts 6 [] (CJ ts r).2.step).2 3 Aw) else (⟨(CJ ts r).1,[]⟩,(CJ ts r).2):=rfl
  have hiu:=QW ts r hr;rw [yN] at oM;generalize CJ ts r=m at *;obtain ⟨nm,r1⟩:=m;simp only at sC a1 a2 a3 wM;have ri:=a3 he;have pF:=fun H=>hO.sign r1 Av H ri (by decide)
  simp [mbx] at sC;cases oz:isW ts r1 3 Av with
  |false =>
   rw [Gx oz,oz] at pF;simp [mbx,Av] at pF;have wN:CT ts r=(⟨nm,[]⟩,r1):=by rw [wM,oz];rfl
   have pv:=VJ oM qP h1 hr uT he;rw [wN] at pv;simp only at pv;have pW:=fun H=>hO.sign r1 A4 H ri (by decide)
   simp only [A4] at pW pv;simp only [mbx] at pW;generalize CG ts r1 3 [44]=r2 at *;generalize isW ts r1 3 [44]=b2 at *;cases l with
   |nil =>
    have oP:=fun H ow=>F9 (P:=zP) (t:=75) (sz:=2) (m:=1) (H:=H) (fid:=3) (ow:=ow) (ys:=[.str nm,.nilSlice]) NX (by decide) (by decide) (by simp)
    simp [mbx,sC,pF,oP,pW]
    refine Nxt.mk k (by omega) (AD.mkV 100 (fun i=>if i=1 then 3 else i) 2 (by simp [hB]) (by intro i j hi hj h;split at h<;>split at h<;>omega) (by simp [hB]) rfl (by
     intro i hi;rcases (by omega:i=0∨i=1) with rfl|rfl
     ·simp [AH.at,mbx,AI,AL,ren,H9,FU]
     ·simp [AH.at,AO,AI]) (by simp [mbx,AO]) (by simp [ren,AL,Enc.tk,GJ,Enc.row,Pw,strip,CU])) pv
   |cons x l =>
    have oP:=fun H ow (h:AH.at H 1=some (.tok (x::l).length))=>EZ (P:=zP) (t:=75) (sz:=2) (n:=(x::l).length) (m:=1) (H:=H) (fid:=3) (ow:=ow) (xs:=itE.row (x::l)) (ys:=[.str nm,.nilSlice]) NX h (by decide) (by omega) (by simp)
    have rW:itE.row (x::l)++[.str nm,.nilSlice]=itE.row (x::l++[⟨nm,[]⟩]):=by rw [itE.row_append];rfl
    rw [rW] at oP;have oe:itE.tk 1 (x::l) = .slice (.tok 1) 2 (x::l).length (itE.row (x::l)):=rfl
    have p5:itE.tk 1 (x::l++[⟨nm,[]⟩]) = .slice (.tok 1) 2 ((x::l).length+1) (itE.row (x::l++[⟨nm,[]⟩])):=by rw [itE.tk_ne 1 (by simp),List.length_append];rfl
    have pa:AO (x::l)=some (.tok (x::l).length):=rfl;have qg:AO (x::l++[(⟨nm,[]⟩:It)])=some (.tok ((x::l).length+1)):=by rw [C3 (by simp),List.length_append];rfl
    have oV:=itE.row_lowm 2 (x::l++[⟨nm,[]⟩]);rw [p5,qg] at pv;rw [oe,pa];generalize itE.row (x::l++[⟨nm,[]⟩])=cs2 at *;generalize itE.row (x::l)=cs at *;generalize (x::l).length=n at *;simp [mbx,sC,pF,oP,pW];exact Nxt.mk k (by omega) (AD.mkK 2 (by simp [hB]) (by simp [oV]) (by simp [mbx]) (by simp [mbx])) pv
  |true =>
   rw [Gw oz,oz] at pF;simp [mbx,Av] at pF;have pN:=(Dl oz).1;have pb:r1.step.at_=r1.at_+1:=rfl;have hs1e:r1.step.err=r1.err:=rfl;generalize pC:ES ts 6 [] r1.step=dres at *;have wN:CT ts r=(⟨nm,dres.1⟩,Bt ts dres.2 3 Aw):=by rw [wM,oz];rfl
   have pv:=VJ oM qP h1 hr uT he;rw [wN] at pv;simp only at pv;have oZ:mbx ts r1.step=some (.box [AE ts,.int .i64 ((r1.at_:Int)+1),erP r1.err,.int .i64 (erC r1.err)]):=by simp [mbx,Sr.step]
   simp [mbx,sC,pF]
   refine LpD.loopN X hG (NW ts nm (itE.tk 1 l) (AO l) dres) 6 (t':=mkT 63 [(0,.ptr 0 0),(3,itE.tk 1 l),(5,.ptr 2 0),(6,.bool true)]) (H':=[mbx ts r1.step,AO l,some (.box [.str nm,AN.tk 3 []]),none])
    (AD.mkV 100 (fun i=>i) 4 (by simp [hB]) (by simp) (by simp) rfl (by
     intro i hi;rcases (by omega:i=0∨i=1∨i=2∨i=3) with rfl|rfl|rfl|rfl
     ·simp [oZ,AI,AL,ren,H9,FU,Sr.step]
     ·simp [Ff]
     ·simp [AI,AL,ren]
     ·simp) (by
      have:=Gf 4 l;simp [oZ] at this ⊢
      exact this) (by simp [ren,itE.tk_ren,itE.tk_strip,itE.tk_low,strip]))
    ⟨[],r1.step,true,fun _=>⟨pC,rfl,by decide,by omega,by omega⟩,(fun h=>by cases h),ri,by omega,rfl,rfl⟩ ?_
   rintro k2 t H ⟨d,q,nx,hnt,hnf,pu,hql,rfl,rfl⟩;cases nx with
   |false =>
    obtain rfl:=hnf rfl;simp only at pv;have qf:=fun H=>hO.must q 3 Aw H pu (by omega) (by decide)
    obtain ⟨v1,v2,_⟩:=E3 ts q 3 Aw;have pW:=fun H=>hO.sign (Bt ts q 3 Aw) A4 H (v2 pu) (by decide)
    generalize Bt ts q 3 Aw=q1 at *;simp only [A4] at pW pv;simp only [Aw] at qf;simp only [mbx] at pW qf;simp at qf;generalize CG ts q1 3 [44]=r2 at *;generalize isW ts q1 3 [44]=b2 at *
    have sA:∀(n:Nat) (a b:List AV),CU n (a++b)=CU n a++CU n b:=by
     intro n a b
     induction a with
     |nil=>rfl
     |cons x a ih=>simp [CU,ih]
    have rA:∀(ψ:Nat→Nat) (a b:List AV),AL ψ (a++b)=AL ψ a++AL ψ b:=by
     intro ψ a b
     induction a with
     |nil=>rfl
     |cons x a ih=>simp [AL,ih]
    cases l with
    |nil =>
     have oP:=fun H ow=>F9 (P:=zP) (t:=75) (sz:=2) (m:=1) (H:=H) (fid:=4) (ow:=ow) (ys:=[.str nm,AN.tk 3 d]) NX (by decide) (by decide) (by simp)
     simp [mbx,Bo,qf,oP,pW]
     refine Nxt.mk k (by omega) (AD.trans (AD.mkV (l':=[(0,.ptr 0 0),(3,.slice (.tok 1) 2 1 [.str nm,AN.tk 2 d]),(4,.bool b2)]) (H':=[mbx ts r2,some (.tok 1),AO d]) 100 (fun i=>if i=1 then 4 else if i=2 then 3 else i) 3 (by simp [hB]) (by
      intro i j hi hj h
      rcases (by omega:i=0∨i=1∨i=2) with rfl|rfl|rfl<;>rcases (by omega:j=0∨j=1∨j=2) with rfl|rfl|rfl<;>simp at h ⊢) (by simp [hB]) rfl (by
      intro i hi;rcases (by omega:i=0∨i=1∨i=2) with rfl|rfl|rfl
      ·simp [AH.at,mbx,AI,AL,ren,H9,FU]
      ·simp [AH.at,AI]
      ·simp [AH.at,Ff]) (by
      have:=Gf 3 d;simp [mbx] at this ⊢
      exact this) (by simp [ren,AL,strip,CU,AN.tk_ren,AN.tk_strip,AN.tk_low]))
      (AD.mkV 2 (fun i=>i) 2 (by simp [hB]) (by simp) (by simp) rfl (by
      intro i hi;rcases (by omega:i=0∨i=1) with rfl|rfl
      ·simp [AH.at,mbx,AI,AL,ren,H9,FU]
      ·simp [AH.at,AO,AI]) (by simp [mbx,AO]) (by simp [ren,AL,Enc.tk_ne,GJ,Enc.row,Pw,strip,CU,AN.tk_cut,AN.av_ren]))) pv
    |cons x l =>
     have oP:=fun H ow (h:AH.at H 1=some (.tok (x::l).length))=>EZ (P:=zP) (t:=75) (sz:=2) (n:=(x::l).length) (m:=1) (H:=H) (fid:=4) (ow:=ow) (xs:=itE.row (x::l)) (ys:=[.str nm,AN.tk 3 d]) NX h (by decide) (by omega) (by simp)
     have rW:itE.row (x::l++[⟨nm,d⟩])=itE.row (x::l)++[.str nm,AN.av d]:=by rw [itE.row_append];rfl
     have oe:itE.tk 1 (x::l) = .slice (.tok 1) 2 (x::l).length (itE.row (x::l)):=rfl
     have p5:itE.tk 1 (x::l++[⟨nm,d⟩]) = .slice (.tok 1) 2 ((x::l).length+1) (itE.row (x::l)++[.str nm,AN.av d]):=by rw [itE.tk_ne 1 (by simp),List.length_append,rW];rfl
     have pa:AO (x::l)=some (.tok (x::l).length):=rfl;have qg:AO (x::l++[(⟨nm,d⟩:It)])=some (.tok ((x::l).length+1)):=by rw [C3 (by simp),List.length_append];rfl
     have oV:=itE.row_lowm 2 (x::l);have wE:=itE.row_strip 2 (x::l);have yO:AL (fun i=>i) (itE.row (x::l))=itE.row (x::l):=BZ _ _ (itE.row_low _);rw [p5,qg] at pv;rw [oe,pa];generalize itE.row (x::l)=cs at *;generalize (x::l).length=n at *;simp [mbx,Bo,qf,oP,pW]
     exact Nxt.mk k (by omega) (AD.mkV 2 (fun i=>i) 2 (by simp [hB]) (by simp) (by simp) rfl (by
      intro i hi;rcases (by omega:i=0∨i=1) with rfl|rfl
      ·simp [AH.at,mbx,AI,AL,ren,H9,FU]
      ·simp [AH.at,AI]) (by simp [mbx]) (by simp [ren,rA,AL,strip,sA,CU,oV,wE,yO,AN.tk_cut,AN.av_ren])) pv
   |true =>
    obtain ⟨wL,pm,sE,wc,rG⟩:=hnt rfl;obtain ⟨k2,rfl⟩:∃j,k2=j+1:=⟨k2-1,by omega⟩
    obtain ⟨q1,pX⟩:∃q1,q1=if 4≤d.length then q.fail (q.at_-1) 4 else q:=⟨_,rfl⟩
    obtain ⟨m,hm⟩:∃m,Ci ts q1=m:=⟨_,rfl⟩
    obtain ⟨q2,uY⟩:∃q2,q2=if m.2.err=none∧m.1=0 then m.2.fail q1.at_ 1 else m.2:=⟨_,rfl⟩
    have pw:=kQ (nm:=nm) (outv:=itE.tk 1 l) (e1:=AO l) pX hm uY wL (by omega) wc rG pu;have oc:=fun H=>hO.fail q (q.at_-1) 4 H pu
    have ri:AP q1.err:=by
     rw [pX]
     split
     ·exact Sr.fail_ok pu _ (by decide)
     ·exact pu
    have hq1a:q1.at_=q.at_:=by rw [pX];split<;>rfl
    have qX:=fun H=>hO.num q1 H ri
    have ot:AP m.2.err:=by rw [←hm];exact (NU ts q1).2.2 ri
    rw [hm] at qX;have p4:=fun H=>hO.fail m.2 q1.at_ 1 H ot
    have he3:AP q2.err:=by
     rw [uY]
     split
     ·exact Sr.fail_ok ot _ (by decide)
     ·exact ot
    have pW:=fun H=>hO.sign q2 A4 H he3 (by decide)
    obtain ⟨p,hp⟩:∃p,p=q.at_-1:=⟨_,rfl⟩
    have w1:IntKind.i64.wrap ((q.at_:Int)-1)=(p:Int):=by rw [Ab (by omega) (by omega)];omega
    rw [←hp] at oc pX;obtain ⟨n,qm⟩:=m;simp only at qX p4 ot uY pw
    have sa:(erC qm.err=0∧n=0∧q2=qm.fail q1.at_ 1)∨(erC qm.err=0∧n≠0∧q2=qm)∨(erC qm.err≠0∧q2=qm):=by
     rw [uY]
     by_cases h1:qm.err=none
     ·have h1':=(FT ot).2 h1
      by_cases h2:n=0
      ·rw [if_pos ⟨h1,h2⟩];exact .inl ⟨h1',h2,rfl⟩
      ·rw [if_neg fun h=>h2 h.2];exact .inr (.inl ⟨h1',h2,rfl⟩)
     ·rw [if_neg fun h=>h1 h.1];exact .inr (.inr ⟨fun h=>h1 ((FT ot).1 h),rfl⟩)
    clear uY;simp only [A4] at pW pw;simp only [mbx] at oc qX p4 pW;simp at oc qX p4;have qc:(d.length:Int)≤4:=by omega
    have qh:∀(t:List AV) (H:AH) (b2:Bool) (q3:Sr),AD B t H (mkT 63 [(0,.ptr 0 0),(3,itE.tk 1 l),(5,.ptr 2 0),(6,.bool b2)]) [mbx ts q3,AO l,some (.box [.str nm,AN.tk 3 (d++[(n:Int)])]),AO (d++[(n:Int)])] →
      NW ts nm (itE.tk 1 l) (AO l) dres k2 (mkT 63 [(0,.ptr 0 0),(3,itE.tk 1 l),(5,.ptr 2 0),(6,.bool b2)]) [mbx ts q3,AO l,some (.box [.str nm,AN.tk 3 (d++[(n:Int)])]),AO (d++[(n:Int)])]→Nxt B (NW ts nm (itE.tk 1 l) (AO l) dres) (k2+1) t H:=fun t H b2 q3 h1 h2=>Nxt.mk k2 (by omega) h1 h2
    rcases sa with ⟨pd,pJ,sa⟩|⟨pd,pJ,sa⟩|⟨pd,sa⟩
    ·rw [←sa] at p4
     have rB:(erC qm.err==0)=true:=by rw [pd];rfl
     rw [pd] at p4;subst pJ;have pJ:True:=trivial;have rD:True:=trivial;generalize CG ts q2 3 [44]=q3 at *;generalize isW ts q2 3 [44]=b2 at *;cases d with
     |nil =>
      rw [if_neg (by simp)] at pX;subst pX;have oP:=fun H ow fid v=>F9 (P:=zP) (t:=48) (sz:=1) (m:=1) (H:=H) (fid:=fid) (ow:=ow) (ys:=[.int .i64 v]) Ij (by decide) (by decide) (by simp)
      simp [mbx,qX,pd,pJ,rB,rD,p4,oP,pW];refine qh _ _ b2 q3 ?_ pw
      exact (AD.mkV 100 (fun i=>if i=3 then 4 else i) 4 (by simp [hB]) (by
       intro i j hi hj h
       rcases (by omega:i=0∨i=1∨i=2∨i=3) with rfl|rfl|rfl|rfl<;>rcases (by omega:j=0∨j=1∨j=2∨j=3) with rfl|rfl|rfl|rfl<;>simp at h ⊢) (by simp [hB]) rfl (by
       intro i hi;rcases (by omega:i=0∨i=1∨i=2∨i=3) with rfl|rfl|rfl|rfl
       ·simp [AH.at,mbx,AI,AL,ren,H9,FU]
       ·simp [AH.at,Ff]
       ·simp [AH.at,AI,AL,ren,AN.tk_ren,Enc.tk,Enc.row,LU,Pv]
       ·simp [AH.at,AI,AO]) (by
       have h1:=Gf 4 l;have h2:=fun v:Int=>Gf 4 [v]
       simp [mbx,AN.tk_low] at h1 h2 ⊢
       exact ⟨h1,h2 0⟩) (by simp [ren,itE.tk_ren,itE.tk_strip,itE.tk_low,strip]))
     |cons x d =>
      have oP:=fun H ow fid v (h:AH.at H 3=some (.tok (x::d).length))=>EZ (P:=zP) (t:=48) (sz:=1) (n:=(x::d).length) (m:=1) (H:=H) (fid:=fid) (ow:=ow) (xs:=AN.row (x::d)) (ys:=[.int .i64 v]) Ij h (by decide) (by omega) (by simp)
      have oe:AN.tk 3 (x::d) = .slice (.tok 3) 1 (x::d).length (AN.row (x::d)):=rfl
      have p5:∀v:Int,AN.tk 3 (x::d++[v]) = .slice (.tok 3) 1 ((x::d).length+1) (AN.row (x::d)++[.int .i64 v]):=fun v=>by rw [AN.tk_ne 3 (by simp),List.length_append,AN.row_append];rfl
      have pa:AO (x::d)=some (.tok (x::d).length):=rfl;have qg:∀v:Int,AO (x::d++[v])=some (.tok ((x::d).length+1)):=fun v=>by rw [C3 (by simp),List.length_append];rfl
      have oV:=AN.row_lowm 4 (x::d);have oT:AN.row (x::d)=AN.row (x::d):=rfl;rw [p5,qg] at pw;simp only [p5,qg] at qh;rw [oe,pa];have rE:AU 4 [AO l]=true:=Gf 4 l;simp at rE;generalize AN.row (x::d)=cs at *
      by_cases h4:4≤(x::d).length
      ·rw [if_pos h4] at pX
       rw [←pX] at oc;have h4':(4:Int)≤((x::d).length:Int):=by omega
       generalize (x::d).length=nd at *;simp [w1,oc,h4,h4',mbx,qX,pd,pJ,rB,rD,p4,oP,pW];refine qh _ _ b2 q3 ?_ pw;exact AD.mkK 4 (by simp [hB]) (by simp [itE.tk_low]) (by simp [mbx]) (by simp [mbx,oV,rE])
      ·rw [if_neg h4] at pX
       subst pX;have h4':¬(4:Int)≤((x::d).length:Int):=by omega
       generalize (x::d).length=nd at *;simp [h4,h4',mbx,qX,pd,pJ,rB,rD,p4,oP,pW];refine qh _ _ b2 q3 ?_ pw;exact AD.mkK 4 (by simp [hB]) (by simp [itE.tk_low]) (by simp [mbx]) (by simp [mbx,oV,rE])
    ·subst sa
     have rB:(erC q2.err==0)=true:=by rw [pd];rfl
     rw [pd] at pW;have rD:((n:Int)==0)=false:=by rw [beq_eq_false_iff_ne];omega
     generalize CG ts q2 3 [44]=q3 at *;generalize isW ts q2 3 [44]=b2 at *;cases d with
     |nil =>
      rw [if_neg (by simp)] at pX;subst pX;have oP:=fun H ow fid v=>F9 (P:=zP) (t:=48) (sz:=1) (m:=1) (H:=H) (fid:=fid) (ow:=ow) (ys:=[.int .i64 v]) Ij (by decide) (by decide) (by simp)
      simp [mbx,qX,pd,pJ,rB,rD,p4,oP,pW];refine qh _ _ b2 q3 ?_ pw
      exact (AD.mkV 100 (fun i=>if i=3 then 4 else i) 4 (by simp [hB]) (by
       intro i j hi hj h
       rcases (by omega:i=0∨i=1∨i=2∨i=3) with rfl|rfl|rfl|rfl<;>rcases (by omega:j=0∨j=1∨j=2∨j=3) with rfl|rfl|rfl|rfl<;>simp at h ⊢) (by simp [hB]) rfl (by
       intro i hi;rcases (by omega:i=0∨i=1∨i=2∨i=3) with rfl|rfl|rfl|rfl
       ·simp [AH.at,mbx,AI,AL,ren,H9,FU]
       ·simp [AH.at,Ff]
       ·simp [AH.at,AI,AL,ren,AN.tk_ren,Enc.tk,Enc.row,LU,Pv]
       ·simp [AH.at,AI,AO]) (by
       have h1:=Gf 4 l;have h2:=fun v:Int=>Gf 4 [v]
       simp [mbx,AN.tk_low] at h1 h2 ⊢
       exact ⟨h1,h2 n⟩) (by simp [ren,itE.tk_ren,itE.tk_strip,itE.tk_low,strip]))
     |cons x d =>
      have oP:=fun H ow fid v (h:AH.at H 3=some (.tok (x::d).length))=>EZ (P:=zP) (t:=48) (sz:=1) (n:=(x::d).length) (m:=1) (H:=H) (fid:=fid) (ow:=ow) (xs:=AN.row (x::d)) (ys:=[.int .i64 v]) Ij h (by decide) (by omega) (by simp)
      have oe:AN.tk 3 (x::d) = .slice (.tok 3) 1 (x::d).length (AN.row (x::d)):=rfl
      have p5:∀v:Int,AN.tk 3 (x::d++[v]) = .slice (.tok 3) 1 ((x::d).length+1) (AN.row (x::d)++[.int .i64 v]):=fun v=>by rw [AN.tk_ne 3 (by simp),List.length_append,AN.row_append];rfl
      have pa:AO (x::d)=some (.tok (x::d).length):=rfl;have qg:∀v:Int,AO (x::d++[v])=some (.tok ((x::d).length+1)):=fun v=>by rw [C3 (by simp),List.length_append];rfl
      have oV:=AN.row_lowm 4 (x::d);have oT:AN.row (x::d)=AN.row (x::d):=rfl;rw [p5,qg] at pw;simp only [p5,qg] at qh;rw [oe,pa];have rE:AU 4 [AO l]=true:=Gf 4 l;simp at rE;generalize AN.row (x::d)=cs at *
      by_cases h4:4≤(x::d).length
      ·rw [if_pos h4] at pX
       rw [←pX] at oc;have h4':(4:Int)≤((x::d).length:Int):=by omega
       generalize (x::d).length=nd at *;simp [w1,oc,h4,h4',mbx,qX,pd,pJ,rB,rD,p4,oP,pW];refine qh _ _ b2 q3 ?_ pw;exact AD.mkK 4 (by simp [hB]) (by simp [itE.tk_low]) (by simp [mbx]) (by simp [mbx,oV,rE])
      ·rw [if_neg h4] at pX
       subst pX;have h4':¬(4:Int)≤((x::d).length:Int):=by omega
       generalize (x::d).length=nd at *;simp [h4,h4',mbx,qX,pd,pJ,rB,rD,p4,oP,pW];refine qh _ _ b2 q3 ?_ pw;exact AD.mkK 4 (by simp [hB]) (by simp [itE.tk_low]) (by simp [mbx]) (by simp [mbx,oV,rE])
    ·subst sa
     have rB:(erC q2.err==0)=false:=by rw [beq_eq_false_iff_ne];exact pd
     have pJ:True:=trivial;have rD:True:=trivial;generalize CG ts q2 3 [44]=q3 at *;generalize isW ts q2 3 [44]=b2 at *;cases d with
     |nil =>
      rw [if_neg (by simp)] at pX;subst pX;have oP:=fun H ow fid v=>F9 (P:=zP) (t:=48) (sz:=1) (m:=1) (H:=H) (fid:=fid) (ow:=ow) (ys:=[.int .i64 v]) Ij (by decide) (by decide) (by simp)
      simp [mbx,qX,pd,pJ,rB,rD,p4,oP,pW];refine qh _ _ b2 q3 ?_ pw
      exact (AD.mkV 100 (fun i=>if i=3 then 4 else i) 4 (by simp [hB]) (by
       intro i j hi hj h
       rcases (by omega:i=0∨i=1∨i=2∨i=3) with rfl|rfl|rfl|rfl<;>rcases (by omega:j=0∨j=1∨j=2∨j=3) with rfl|rfl|rfl|rfl<;>simp at h ⊢) (by simp [hB]) rfl (by
       intro i hi;rcases (by omega:i=0∨i=1∨i=2∨i=3) with rfl|rfl|rfl|rfl
       ·simp [AH.at,mbx,AI,AL,ren,H9,FU]
       ·simp [AH.at,Ff]
       ·simp [AH.at,AI,AL,ren,AN.tk_ren,Enc.tk,Enc.row,LU,Pv]
       ·simp [AH.at,AI,AO]) (by
       have h1:=Gf 4 l;have h2:=fun v:Int=>Gf 4 [v]
       simp [mbx,AN.tk_low] at h1 h2 ⊢
       exact ⟨h1,h2 n⟩) (by simp [ren,itE.tk_ren,itE.tk_strip,itE.tk_low,strip]))
     |cons x d =>
      have oP:=fun H ow fid v (h:AH.at H 3=some (.tok (x::d).length))=>EZ (P:=zP) (t:=48) (sz:=1) (n:=(x::d).length) (m:=1) (H:=H) (fid:=fid) (ow:=ow) (xs:=AN.row (x::d)) (ys:=[.int .i64 v]) Ij h (by decide) (by omega) (by simp)
      have oe:AN.tk 3 (x::d) = .slice (.tok 3) 1 (x::d).length (AN.row (x::d)):=rfl
      have p5:∀v:Int,AN.tk 3 (x::d++[v]) = .slice (.tok 3) 1 ((x::d).length+1) (AN.row (x::d)++[.int .i64 v]):=fun v=>by rw [AN.tk_ne 3 (by simp),List.length_append,AN.row_append];rfl
      have pa:AO (x::d)=some (.tok (x::d).length):=rfl;have qg:∀v:Int,AO (x::d++[v])=some (.tok ((x::d).length+1)):=fun v=>by rw [C3 (by simp),List.length_append];rfl
      have oV:=AN.row_lowm 4 (x::d);have oT:AN.row (x::d)=AN.row (x::d):=rfl;rw [p5,qg] at pw;simp only [p5,qg] at qh;rw [oe,pa];have rE:AU 4 [AO l]=true:=Gf 4 l;simp at rE;generalize AN.row (x::d)=cs at *
      by_cases h4:4≤(x::d).length
      ·rw [if_pos h4] at pX
       rw [←pX] at oc;have h4':(4:Int)≤((x::d).length:Int):=by omega
       generalize (x::d).length=nd at *;simp [w1,oc,h4,h4',mbx,qX,pd,pJ,rB,rD,p4,oP,pW];refine qh _ _ b2 q3 ?_ pw;exact AD.mkK 4 (by simp [hB]) (by simp [itE.tk_low]) (by simp [mbx]) (by simp [mbx,oV,rE])
      ·rw [if_neg h4] at pX
       subst pX;have h4':¬(4:Int)≤((x::d).length:Int):=by omega
       generalize (x::d).length=nd at *;simp [h4,h4',mbx,qX,pd,pJ,rB,rD,p4,oP,pW];refine qh _ _ b2 q3 ?_ pw;exact AD.mkK 4 (by simp [hB]) (by simp [itE.tk_low]) (by simp [mbx]) (by simp [mbx,oV,rE])
@[simp] theorem buS0:Aq zP 82 []=some (.agg (Sx.c ⟨0,[],t0,t0,[],t0,t0,[],t0,t0,0⟩)):=by kernel_rfl
@[simp] theorem buSk (k:Int):Aq zP 82 [(0,.int .i64 k)]=some (.agg (Sx.c ⟨k,[],t0,t0,[],t0,t0,[],t0,t0,0⟩)):=by kernel_rfl
@[simp] theorem buSi (k:Int) (l:List It):Aq zP 82 [(0,.int .i64 k),(1,itE.av l)]=some (.agg (Sx.c ⟨k,l,t0,t0,[],t0,t0,[],t0,t0,0⟩)):=by
 unfold Sx.c Enc.av
 split
 ·kernel_rfl
 ·kernel_rfl
theorem kS (k:Int) (t:Tn):Aq zP 82 [(0,.int .i64 k),(2,.agg (tC t))]=some (.agg (Sx.c ⟨k,[],t,t0,[],t0,t0,[],t0,t0,0⟩)):=by cases t<;>kernel_rfl
theorem kT (k:Int) (t:Tn):Aq zP 82 [(0,.int .i64 k),(3,.agg (tC t))]=some (.agg (Sx.c ⟨k,[],t0,t,[],t0,t0,[],t0,t0,0⟩)):=by cases t<;>kernel_rfl
theorem kU (k:Int) (op:List UInt8) (a b:Tn):Aq zP 82 [(0,.int .i64 k),(4,.agg (.str op::(tC a++tC b)))]=some (.agg (Sx.c ⟨k,[],t0,t0,op,a,b,[],t0,t0,0⟩)):=by cases a<;>cases b<;>kernel_rfl
@[simp] theorem buSt (k:Int) (t:Tn):Aq zP 82 [(0,.int .i64 k),(2,.agg [.int .i64 t.k,.int .i64 t.n,.str t.s,t.ar])]=some (.agg (Sx.c ⟨k,[],t,t0,[],t0,t0,[],t0,t0,0⟩)):=by rw [←CB];exact kS k t
@[simp] theorem buSe (k:Int) (t:Tn):Aq zP 82 [(0,.int .i64 k),(3,.agg [.int .i64 t.k,.int .i64 t.n,.str t.s,t.ar])]=some (.agg (Sx.c ⟨k,[],t0,t,[],t0,t0,[],t0,t0,0⟩)):=by rw [←CB];exact kT k t
@[simp] theorem buSc (k:Int) (op:List UInt8) (a b:Tn):Aq zP 82 [(0,.int .i64 k),(4,.agg [.str op,.int .i64 a.k,.int .i64 a.n,.str a.s,a.ar,.int .i64 b.k,.int .i64 b.n,.str b.s,b.ar])]=some (.agg (Sx.c ⟨k,[],t0,t0,op,a,b,[],t0,t0,0⟩)):=by
 have:=kU k op a b
 rwa [CB,CB] at this
@[simp] theorem buSd (k s:Int) (nm:List UInt8):Aq zP 82 [(0,.int .i64 k),(5,.str nm),(8,.int .i64 s)]=some (.agg (Sx.c ⟨k,[],t0,t0,[],t0,t0,nm,t0,t0,s⟩)):=by kernel_rfl
theorem NY (r:Sr) (n:Nat) (x:Option (Nat × Nat)):r.at_≤(Cv r n x).at_∧(Cv r n x).at_≤r.at_+n∧(AP r.err→BO x→AP (Cv r n x).err)∧(r.err≠none→(Cv r n x)=r):=by
 unfold Cv;cases he:r.err with
 |some y=>exact ⟨Nat.le_refl _,Nat.le_add_right _ _,fun h _=>by rw [he];exact h,fun _=>rfl⟩
 |none =>
  cases x with
  |none=>exact ⟨Nat.le_add_right _ _,Nat.le_refl _,fun _ _=>Bx,fun h=>absurd rfl h⟩
  |some y =>obtain ⟨p,c⟩:=y;exact ⟨Nat.le_refl _,Nat.le_add_right _ _,fun _ h=>Ii (by simp) fun hc=>h p (by rw [hc]),fun h=>absurd rfl h⟩
theorem Kh (ts:List Wd) (r:Sr):r.at_≤(CD ts r).2.at_∧(CD ts r).2.at_≤r.at_+ts.length∧(AP r.err→AP (CD ts r).2.err):=by
 unfold CD;cases he:r.err with
 |some y=>exact ⟨Nat.le_refl _,Nat.le_add_right _ _,fun h=>by rw [he];exact h⟩
 |none =>obtain ⟨h1,h2,h3,_⟩:=NY r (B0 (ts.drop r.at_)).2.1 (B0 (ts.drop r.at_)).2.2;have h4:=(Kb (ts.drop r.at_)).1;rw [List.length_drop] at h4;exact ⟨h1,by simp only;omega,fun h=>h3 (by rw [he];exact h) (Ps _)⟩
theorem VK (ts:List Wd) (r:Sr):r.at_≤(Ip ts r).2.at_∧(Ip ts r).2.at_≤r.at_+ts.length∧(AP r.err→AP (Ip ts r).2.err):=by
 unfold Ip;cases he:r.err with
 |some y=>exact ⟨Nat.le_refl _,Nat.le_add_right _ _,fun h=>by rw [he];exact h⟩
 |none =>obtain ⟨h1,h2,h3,_⟩:=NY r (CR (ts.drop r.at_)).2.1 (CR (ts.drop r.at_)).2.2;have h4:=(NA (ts.drop r.at_)).1;rw [List.length_drop] at h4;exact ⟨h1,by simp only;omega,fun h=>h3 (by rw [he];exact h) (Pt _)⟩
theorem VL (ts:List Wd) (r:Sr) (k:Nat) (s:List UInt8):r.at_≤(CG ts r k s).at_∧(CG ts r k s).at_≤r.at_+1∧(AP r.err→AP (CG ts r k s).err):=by
 unfold CG
 split
 ·exact ⟨Nat.le_succ _,Nat.le_refl _,fun h=>h⟩
 ·exact ⟨Nat.le_refl _,Nat.le_succ _,fun h=>h⟩
theorem kV (ts:List Wd) (r:Sr):(CJ ts r).2.at_≤r.at_+1:=by
 unfold CJ
 split
 ·exact Nat.le_refl _
 ·exact Nat.le_succ _
theorem kW (ts:List Wd) (oK:ts.length<1000000) (r:Sr) (he:AP r.err) (hr:r.at_≤ts.length) {H:AH} {id:Nat} (hH:H.at id=some (.box (r.mc ts))) :
  CS zP AJ 82 [.ptr id 0] H (.agg (FS ts r).1.x.c) (H.set id (some (.box ((FS ts r).2.mc ts)))):=by
 refine CS.rd Bh Tryz.func82 (by kernel_rfl) 0 (by simp [Tryz.f82]) (fun B hB hG => ?_) (by simp) (by simp [Sx.c_low]) (Cw _ _) (Cw _ _) hH;have X:=VI ts oK;have hO:=VH ts oK;generalize oOf (GR ts oK)=O at X hO;have f1:=fun H=>hO.name r H he
 obtain ⟨_,_,u1⟩:=NT ts r;have v1:=kV ts r;unfold FS;generalize CJ ts r=m at *;obtain ⟨nm,r1⟩:=m;simp only at f1 u1 v1 ⊢;have e1:=u1 he;have f2:=fun H=>hO.must r1 3 isT H e1 (by omega) (by decide)
 obtain ⟨v2,u2,_⟩:=E3 ts r1 3 isT;generalize Bt ts r1 3 isT=r2 at *;have e2:=u2 e1;have f3:=fun H=>hO.expr r2 H e2 (by omega)
 obtain ⟨_,v3,u3⟩:=Kh ts r2;generalize CD ts r2=a at *;obtain ⟨lo,r3⟩:=a;simp only at f3 v3 u3 ⊢;have e3:=u3 e2;have f4:=fun H=>hO.must r3 3 A4 H e3 (by omega) (by decide)
 obtain ⟨v4,u4,_⟩:=E3 ts r3 3 A4;generalize Bt ts r3 3 A4=r4 at *;have e4:=u4 e3;have f5:=fun H=>hO.expr r4 H e4 (by omega)
 obtain ⟨_,v5,u5⟩:=Kh ts r4;generalize CD ts r4=b at *;obtain ⟨hi,r5⟩:=b;simp only at f5 v5 u5 ⊢;have e5:=u5 e4;have f6:=fun H=>hO.sign r5 A4 H e5 (by decide)
 refine Tr.goD X hG ?_;simp only [isT,mbx] at f1 f2 f3;simp only [A4,mbx] at f4 f5;simp at f2 f4;simp only [CB] at f3 f5;cases hc:isW ts r5 3 A4 with
 |false =>rw [Gx hc,hc] at f6;simp [A4] at f6;simp [La,hc];simp [Tryz.f82,Sr.mc,f1,f2,f3,f4,f5,f6,Sx.c,Sm.x,Bm]
 |true =>
  rw [Gw hc,hc] at f6;have f7:=fun H=>hO.sign r5.step Bb H e5 (by decide)
  obtain ⟨_,v7,u7⟩:=VL ts r5.step 3 Bb;simp [La,hc];generalize isW ts r5.step 3 Bb=neg at *;generalize CG ts r5.step 3 Bb=r6 at *;have e6:=u7 e5;have f8:=fun H=>hO.num r6 H e6
  generalize Ci ts r6=p at *;obtain ⟨n,r7⟩:=p;generalize r5.step=r5s at *;simp only at f8 ⊢;simp [A4] at f6;simp [Bb] at f7
  try simp at f8
  cases neg with
  |true=>simp [Tryz.f82,Sr.mc,f1,f2,f3,f4,f5,f6,f7,f8,Sx.c,Sm.x,Bm,MV]
  |false=>simp [Tryz.f82,Sr.mc,f1,f2,f3,f4,f5,f6,f7,f8,Sx.c,Sm.x,Bm]
theorem VM (ts:List Wd):∀(n:Nat) (l:List It) (r:Sr),r.at_≤ts.length→(Fy ts n l r).2.at_≤ts.length+1∧(AP r.err→AP (Fy ts n l r).2.err)
 |0,l,r,h=>⟨by simp only [Fy];omega,fun h=>h⟩
 |n+1,l,r,h=>by
  obtain ⟨_,u2,u3⟩:=QW ts r h;simp only [Fy]
  split
  ·rename_i hc
   have hl:=(Dl hc).1;obtain ⟨v1,v2⟩:=VM ts n (l++[(CT ts r).1]) (CT ts r).2.step hl;exact ⟨v1,fun h=>v2 (u3 h)⟩
  ·exact ⟨u2,u3⟩
noncomputable def VN (ts:List Wd) (oK:ts.length<1000000):AF zP AJ:=AF.meth 81 (Sr.mc ts) (Fz ts) (fun (_:Unit) r=>AP r.err∧1≤r.at_∧r.at_≤ts.length) (fun _ _=>[]) (fun _ r=>itE.av (GQ ts r).1) (fun _ r=>(GQ ts r).2)
 (fun _ r h H id hH=>kR ts oK r h.1 h.2.1 h.2.2 hH) (fun id x y r _ _ h=>⟨rfl,rfl⟩)
noncomputable def VO (ts:List Wd) (oK:ts.length<1000000):AF zP AJ:=AF.meth 82 (Sr.mc ts) (Fz ts) (fun (_:Unit) r=>AP r.err∧r.at_≤ts.length) (fun _ _=>[]) (fun _ r => .agg (FS ts r).1.x.c) (fun _ r=>(FS ts r).2)
 (fun _ r h H id hH=>kW ts oK r h.1 h.2 hH) (fun id x y r _ _ h=>⟨rfl,rfl⟩)
noncomputable def Lky (ts:List Wd) (oK:ts.length<1000000):List (AF zP AJ):=[D3 ts,Le ts,H5 ts,Lf ts oK,NV ts oK,VN ts oK,VO ts oK,Iq ts oK,H8 ts,QS]
structure KyO (O:Orc) (ts:List Wd):Prop where
 fail:∀(r:Sr) (p c:Nat) (H:AH),AP r.err→O 55 [.ptr 0 0,.int .i64 (p:Int),.int .i64 (c:Int)] (mbx ts r::H)=some (.tup [],mbx ts (r.fail p c)::H)
 must:∀(r:Sr) (k:Nat) (s:List UInt8) (H:AH),AP r.err→r.at_<1000000000→s≠[]→O 53 [.ptr 0 0,.int .i64 (k:Int),.str s] (mbx ts r::H)=some (.tup [],mbx ts (Bt ts r k s)::H)
 is:∀(r:Sr) (k:Nat) (s:List UInt8) (H:AH),AP r.err→s≠[]→O 83 [.ptr 0 0,.int .i64 (k:Int),.str s] (mbx ts r::H)=some (.bool (isW ts r k s),mbx ts r::H)
 expr:∀(r:Sr) (H:AH),AP r.err→r.at_<1000000000→O 54 [.ptr 0 0] (mbx ts r::H)=some (.agg (tC (CD ts r).1.tn),mbx ts (CD ts r).2::H)
 to:∀(r:Sr) (H:AH),AP r.err→r.at_<1000000000→O 52 [.ptr 0 0] (mbx ts r::H)=some (.agg (tC (CV ts r).1.tn),mbx ts (CV ts r).2::H)
 items:∀(r:Sr) (H:AH),AP r.err→1≤r.at_→r.at_≤ts.length→O 81 [.ptr 0 0] (mbx ts r::H)=some (itE.av (GQ ts r).1,mbx ts (GQ ts r).2::H)
 loop:∀(r:Sr) (H:AH),AP r.err→r.at_≤ts.length→O 82 [.ptr 0 0] (mbx ts r::H)=some (.agg (FS ts r).1.x.c,mbx ts (FS ts r).2::H)
 rest:∀(r:Sr) (H:AH),O 85 [.ptr 0 0] (mbx ts r::H)=some (AE (ts.drop r.at_),mbx ts r::H)
 took:∀(r:Sr) (n:Nat) (x:Option (Nat × Nat)) (H:AH),Kg r n x→O 86 [.ptr 0 0,.int .i64 (n:Int),erA (xE x)] (mbx ts r::H)=some (.tup [],mbx ts (Cv r n x)::H)
 cond:∀(us:List Wd) (H:AH),us.length<1000000→O 84 [AE us] H=some (.tup [Ey (CR us).1,.int .i64 (CR us).2.1,erA (xE (CR us).2.2)],H)
theorem kX (ts:List Wd) (oK:ts.length<1000000):KyO (oOf (Lky ts oK)) ts:=by
 have hL:((Lky ts oK).map (·.f)).Nodup:=show ([55,53,83,54,52,81,82,85,86,84]:List Nat).Nodup by decide
 refine ⟨fun r p c H he=>VE hL (by simp [Lky]) r he p c H,fun r k s H he hr hs=>VF hL (by simp [Lky]) r he hr k s hs H,fun r k s H he hs=>NQ hL (by simp [Lky]) r he k s hs H,fun r H he hr=>VG oK hL (by simp [Lky]) r he hr H,
  fun r H he hr=>kP oK hL (by simp [Lky]) r he hr H,fun r H he h1 h2 => ?_,fun r H he h2 => ?_,fun r H=>QT oK hL (by simp [Lky]) r H,fun r n x H h => ?_,fun us H h => ?_⟩
 ·have:=Bk hL (show VN ts oK∈Lky ts oK by simp [Lky]) () r (H:=some (.box (r.mc ts))::H) (id:=0) rfl ⟨he,h1,h2⟩
  simpa [Sr.mc] using this
 ·have:=Bk hL (show VO ts oK∈Lky ts oK by simp [Lky]) () r (H:=some (.box (r.mc ts))::H) (id:=0) rfl ⟨he,h2⟩
  simpa [Sr.mc] using this
 ·have:=QU hL (show H8 ts∈Lky ts oK by simp [Lky]) r n x h H
  rwa [H6] at this
 ·have:=kC hL (show QS∈Lky ts oK by simp [Lky]) us h H
  simp only [Ka,H6] at this;exact this
theorem kY (ts:List Wd) (oK:ts.length<1000000):Cx (oOf (Lky ts oK)) zP AJ:=Bn _ B4 Ad
theorem kZ {ts:List Wd} (oK:ts.length<1000000) {r:Sr} (he:AP r.err) (hr:r.at_<1000000000):Kg r (CR (ts.drop r.at_)).2.1 (CR (ts.drop r.at_)).2.2:=by obtain ⟨h1,h2⟩:=NA (ts.drop r.at_);rw [List.length_drop] at h1;refine ⟨he,hr,fun _=>by omega,Pt _,fun p c h => ?_⟩;have:=h2 p c h;rw [List.length_drop] at this;omega
@[simp] theorem oA (k:Int):Aq zP 82 [(0,.int .i64 k),(4,.agg [.str [],.int .i64 0,.int .i64 0,.str [],.nilSlice,.int .i64 0,.int .i64 0,.str [],.nilSlice])]=some (.agg (Sx.c ⟨k,[],t0,t0,[],t0,t0,[],t0,t0,0⟩)):=by kernel_rfl
theorem ka (ts:List Wd) (oK:ts.length<1000000) (h1:1≤ts.length) (s:List UInt8) {H:AH} {id:Nat} (hH:H.at id=some (.box ((⟨0,none⟩:Sr).mc ts))) :
  CS zP AJ 51 [.ptr id 0,.str s] H (.agg (Cf ts s ⟨1,none⟩).1.x.c) (H.set id (some (.box ((Cf ts s ⟨1,none⟩).2.mc ts)))):=by
 refine CS.rd Bh Tryz.func51 (by kernel_rfl) 0 (by simp [Tryz.f51]) (fun B hB hG => ?_) (by simp) (by simp [Sx.c_low]) (Cw _ _) (Cw _ _) hH;have X:=kY ts oK;have hO:=kX ts oK;generalize oOf (Lky ts oK)=O at X hO;refine Tr.goD X hG ?_;have w1:IntKind.i64.wrap (1:Int)=1:=by decide
 have w2:IntKind.i64.wrap (0:Int)=0:=by decide
 have hb:mbx ts ⟨1,none⟩=some (.box [AE ts,.int .i64 1,.nilSlice,.int .i64 0]):=rfl
 by_cases pb:s=IW
 ·have hk:Cf ts s ⟨1,none⟩=({kind:=1,items:=(GQ ts ⟨1,none⟩).1},(GQ ts ⟨1,none⟩).2):=by unfold Cf;rw [if_pos pb]
  rw [hk];have f1:=fun H=>hO.items ⟨1,none⟩ H Bx (Nat.le_refl _) h1
  rw [hb] at f1;generalize GQ ts ⟨1,none⟩=p at *;subst pb;simp [Tryz.f51,Sr.mc,Az,A0,w1,w2,IW,f1,Sx.c,Sm.x,Bm]
 by_cases px:s=doT
 ·have hk:Cf ts s ⟨1,none⟩=FS ts ⟨1,none⟩:=by unfold Cf;rw [if_neg pb];rw [if_pos px]
  rw [hk];have f1:=fun H=>hO.loop ⟨1,none⟩ H Bx h1
  rw [hb] at f1;generalize FS ts ⟨1,none⟩=p at *;subst px;simp [Tryz.f51,Sr.mc,Az,A0,w1,w2,doT,f1,Sx.c]
 by_cases re:s=HJ
 ·have hk:Cf ts s ⟨1,none⟩=(if isW ts ⟨1,none⟩ 4 doT then ({kind:=4},(⟨1,none⟩:Sr).step) else ({kind:=7},Bt ts ⟨1,none⟩ 4 ifT)):=by unfold Cf;rw [if_neg pb];rw [if_neg px];rw [if_pos re]
  rw [hk];have f1:=fun H=>hO.is ⟨1,none⟩ 4 doT H Bx (by decide)
  have f2:=fun H=>hO.must ⟨1,none⟩ 4 ifT H Bx (by decide) (by decide)
  have w3:IntKind.i64.wrap (2:Int)=2:=by decide
  subst re;cases hd:isW ts ⟨1,none⟩ 4 doT with
  |true =>rw [hd,hb] at f1;simp [doT] at f1;simp [Tryz.f51,Sr.mc,Az,A0,w1,w2,w3,HJ,f1,Sx.c,Sm.x,Bm,Sr.step]
  |false =>rw [hd,hb] at f1;rw [hb] at f2;simp [doT] at f1;generalize Bt ts ⟨1,none⟩ 4 ifT=r2 at *;simp [ifT] at f2;simp [Tryz.f51,Sr.mc,Az,A0,w1,w2,HJ,f1,f2,Sx.c,Sm.x,Bm]
 by_cases sH:s=ifT
 ·have hk:Cf ts s ⟨1,none⟩=QP ts ⟨1,none⟩:=by unfold Cf;rw [if_neg pb];rw [if_neg px];rw [if_neg re];rw [if_pos sH]
  rw [hk];have f1:=fun H=>hO.must ⟨1,none⟩ 3 Av H Bx (by decide) (by decide)
  rw [hb] at f1;obtain ⟨v1,u1,_⟩:=E3 ts ⟨1,none⟩ 3 Av;unfold QP;generalize Bt ts ⟨1,none⟩ 3 Av=r1 at *;have e1:=u1 Bx;obtain ⟨_,v2,u2⟩:=VK ts r1;have f2:=fun H=>hO.rest r1 H
  have f3:=fun H=>hO.cond (ts.drop r1.at_) H (by rw [List.length_drop];omega)
  have f4:=fun H=>hO.took r1 _ _ H (kZ oK e1 (by simp only at v1;omega))
  have sb:Ip ts r1=match r1.err with
   |some _=>(([],.none,.none),r1)
   |none=>((CR (ts.drop r1.at_)).1,Cv r1 (CR (ts.drop r1.at_)).2.1 (CR (ts.drop r1.at_)).2.2):=rfl
  subst sH;simp [Av] at f1;cases oj:r1.err with
  |some y =>
   rw [oj] at sb;simp only at sb;rw [sb];simp only
   have q0:¬erC r1.err=0:=fun h=>by have:=(FT e1).1 h;rw [oj] at this;cases this
   have q1:(erC r1.err==0)=false:=by rw [beq_eq_false_iff_ne];exact q0
   rw [←oj] at *;have f5:=fun H=>hO.must r1 3 Aw H e1 (by simp only at v1;omega) (by decide)
   obtain ⟨v5,u5,_⟩:=E3 ts r1 3 Aw;generalize Bt ts r1 3 Aw=r3 at *;have f6:=fun H=>hO.must r3 4 Gp H (u5 e1) (by simp only at v1;omega) (by decide)
   generalize Bt ts r3 4 Gp=r4 at *;simp [Aw] at f5;simp [Gp] at f6;simp [Tryz.f51,Sr.mc,Az,A0,w1,w2,ifT,q0,q1,f1,f5,f6,Sx.c,Sm.x,Bm]
  |none =>
   rw [oj] at sb;simp only at sb;rw [sb];have q0:erC r1.err=0:=by rw [oj];rfl
   generalize CR (ts.drop r1.at_)=x at *;obtain ⟨c,n,q⟩:=x;obtain ⟨op,ca,cb⟩:=c;rw [sb] at v2 u2;simp only at f3 f4 v2 u2 ⊢;generalize Cv r1 n q=r2 at *;have e2:=u2 e1;have f5:=fun H=>hO.must r2 3 Aw H e2 (by simp only at v1;omega) (by decide)
   obtain ⟨v5,u5,_⟩:=E3 ts r2 3 Aw;generalize Bt ts r2 3 Aw=r3 at *;have f6:=fun H=>hO.must r3 4 Gp H (u5 e2) (by simp only at v1;omega) (by decide)
   generalize Bt ts r3 4 Gp=r4 at *;simp [Aw] at f5;simp [Gp] at f6;simp only [mbx,q0] at f1 f2 f4;simp only [Ey,CB,List.cons_append,List.nil_append] at f3;simp at f2 f4;simp [Tryz.f51,Sr.mc,Az,A0,w1,w2,ifT,q0,f1,f2,f3,f4,f5,f6,Sx.c,Sm.x,Bm]
 by_cases sc:s=IX
 ·have hk:Cf ts s ⟨1,none⟩=({kind:=6},⟨1,none⟩):=by unfold Cf;rw [if_neg pb];rw [if_neg px];rw [if_neg re];rw [if_neg sH];rw [if_pos sc]
  rw [hk];subst sc;simp [Tryz.f51,Sr.mc,Az,A0,w1,w2,IX,Sx.c,Sm.x,Bm]
 by_cases tN:s=IY
 ·have hk:Cf ts s ⟨1,none⟩=({kind:=8,to:=(CV ts ⟨1,none⟩).1},(CV ts ⟨1,none⟩).2):=by unfold Cf;rw [if_neg pb];rw [if_neg px];rw [if_neg re];rw [if_neg sH];rw [if_neg sc];rw [if_pos tN]
  rw [hk];have f1:=fun H=>hO.to ⟨1,none⟩ H Bx (by decide)
  rw [hb] at f1;generalize CV ts ⟨1,none⟩=p at *;simp only [CB] at f1;subst tN;simp [Tryz.f51,Sr.mc,Az,A0,w1,w2,IY,f1,Sx.c,Sm.x,Bm]
 by_cases uZ:s=IZ
 ·have hk:Cf ts s ⟨1,none⟩=({kind:=9,e:=(CD ts ⟨1,none⟩).1},(CD ts ⟨1,none⟩).2):=by unfold Cf;rw [if_neg pb];rw [if_neg px];rw [if_neg re];rw [if_neg sH];rw [if_neg sc];rw [if_neg tN];rw [if_pos uZ]
  rw [hk];have f1:=fun H=>hO.expr ⟨1,none⟩ H Bx (by decide)
  rw [hb] at f1;generalize CD ts ⟨1,none⟩=p at *;simp only [CB] at f1;subst uZ;simp [Tryz.f51,Sr.mc,Az,A0,w1,w2,IZ,f1,Sx.c,Sm.x,Bm]
 have f1:=fun H=>hO.fail ⟨1,none⟩ 0 2 H Bx
 rw [hb] at f1;have hk:Cf ts s ⟨1,none⟩=({},(⟨1,none⟩:Sr).fail 0 2):=by unfold Cf;rw [if_neg pb,if_neg px,if_neg re,if_neg sH,if_neg sc,if_neg tN,if_neg uZ];rfl
 rw [hk];generalize (⟨1,none⟩:Sr).fail 0 2=r2 at *;simp at f1;simp only [IW,doT,HJ,ifT,IX,IY,IZ] at pb px re sH sc tN uZ;simp [Tryz.f51,Sr.mc,Az,A0,w1,w2,pb,px,re,sH,sc,tN,uZ,f1,Sx.c,Sm.x,Bm]
noncomputable def VP:AF zP AJ:=AF.pure 48 (fun s:List UInt8=>s.length<Br) (fun s=>[.str s]) EQ (fun s h H=>CS.toF (CS.toX (CS.toN (jO s h H)))) (fun x y _ _ h=>by
 simp only [List.cons.injEq,AV.str.injEq,and_true] at h
 rw [h])
noncomputable def VQ:AF zP AJ:=AF.pure 49 (fun s:List UInt8=>s.length<Br) (fun s=>[.str s]) (fun s=>Cu (lex (s.length+1) s 0 false)) (fun s h H=>CS.toF (CS.toX (CS.toN (iA s h H)))) (fun x y _ _ h=>by
 simp only [List.cons.injEq,AV.str.injEq,and_true] at h
 rw [h])
noncomputable def VR (ts:List Wd) (oK:ts.length<1000000):AF zP AJ:=AF.meth 51 (Sr.mc ts) (Fz ts) (fun (_:List UInt8) r=>r=⟨0,none⟩∧1≤ts.length) (fun _ s=>[.str s]) (fun s _ => .agg (Cf ts s ⟨1,none⟩).1.x.c) (fun s _=>(Cf ts s ⟨1,none⟩).2)
 (fun s r h H id hH=>ka ts oK h.2 s (by rw [←h.1];exact hH)) (fun id x y r _ _ h=>by
  simp only [List.cons.injEq,AV.str.injEq,and_true] at h;rw [h]
  exact ⟨rfl,rfl⟩)
noncomputable def Lps (ts:List Wd) (oK:ts.length<1000000):List (AF zP AJ):=[VP,VQ,H7,VR ts oK,NV ts oK,Le ts,Lf ts oK,D3 ts]
structure PsO (O:Orc) (ts:List Wd):Prop where
 parts:∀(s:List UInt8) (H:AH),s.length<Br→O 48 [.str s] H=some (EQ s,H)
 toks:∀(s:List UInt8) (H:AH),s.length<Br→O 49 [.str s] H=some (Cu (lex (s.length+1) s 0 false),H)
 within:∀(w:List UInt8) (p:Nat) (e:Er) (H:AH),AP e→(∀l c,e=some (l,c)→l.length<1000)→O 50 [.str w,.int .i64 (p:Int),erA e] H=some (erA (inE w p e),H)
 key:∀(s:List UInt8) (e0 e1 e2:Option Ent) (H:AH),1≤ts.length→O 51 [.ptr 3 0,.str s] (e0::e1::e2::mbx ts ⟨0,none⟩::H)=some (.agg (Cf ts s ⟨1,none⟩).1.x.c,e0::e1::e2::mbx ts (Cf ts s ⟨1,none⟩).2::H)
 to:∀(r:Sr) (e0 e1 e2:Option Ent) (H:AH),AP r.err→r.at_<1000000000→O 52 [.ptr 3 0] (e0::e1::e2::mbx ts r::H)=some (.agg (tC (CV ts r).1.tn),e0::e1::e2::mbx ts (CV ts r).2::H)
 must:∀(r:Sr) (k:Nat) (s:List UInt8) (e0 e1 e2:Option Ent) (H:AH),AP r.err→r.at_<1000000000→s≠[]→O 53 [.ptr 3 0,.int .i64 (k:Int),.str s] (e0::e1::e2::mbx ts r::H)=some (.tup [],e0::e1::e2::mbx ts (Bt ts r k s)::H)
 expr:∀(r:Sr) (e0 e1 e2:Option Ent) (H:AH),AP r.err→r.at_<1000000000→O 54 [.ptr 3 0] (e0::e1::e2::mbx ts r::H)=some (.agg (tC (CD ts r).1.tn),e0::e1::e2::mbx ts (CD ts r).2::H)
 fail:∀(r:Sr) (p c:Nat) (e0 e1 e2:Option Ent) (H:AH),AP r.err→O 55 [.ptr 3 0,.int .i64 (p:Int),.int .i64 (c:Int)] (e0::e1::e2::mbx ts r::H)=some (.tup [],e0::e1::e2::mbx ts (r.fail p c)::H)
theorem VS (ts:List Wd) (oK:ts.length<1000000):PsO (oOf (Lps ts oK)) ts:=by
 have hL:((Lps ts oK).map (·.f)).Nodup:=show ([48,49,50,51,52,53,54,55]:List Nat).Nodup by decide
 refine ⟨fun s H h=>C0 hL (show VP∈Lps ts oK by simp [Lps]) s h H,fun s H h=>C0 hL (show VQ∈Lps ts oK by simp [Lps]) s h H,fun w p e H he hl=>C0 hL (show H7∈Lps ts oK by simp [Lps]) (w,p,e) ⟨he,hl⟩ H,
  fun s e0 e1 e2 H h => ?_,fun r e0 e1 e2 H he hr => ?_,fun r k s e0 e1 e2 H he hr hs => ?_,fun r e0 e1 e2 H he hr => ?_,fun r p c e0 e1 e2 H he => ?_⟩
 ·exact Bk hL (show VR ts oK∈Lps ts oK by simp [Lps]) s ⟨0,none⟩ (H:=e0::e1::e2::some (.box ((⟨0,none⟩:Sr).mc ts))::H) (id:=3) rfl ⟨rfl,h⟩
 ·exact Bk hL (show NV ts oK∈Lps ts oK by simp [Lps]) () r (H:=e0::e1::e2::some (.box (r.mc ts))::H) (id:=3) rfl ⟨he,hr⟩
 ·exact Bk hL (show Le ts∈Lps ts oK by simp [Lps]) (k,s) r (H:=e0::e1::e2::some (.box (r.mc ts))::H) (id:=3) rfl ⟨he,hr,hs⟩
 ·exact Bk hL (show Lf ts oK∈Lps ts oK by simp [Lps]) () r (H:=e0::e1::e2::some (.box (r.mc ts))::H) (id:=3) rfl ⟨he,hr⟩
 ·exact Bk hL (show D3 ts∈Lps ts oK by simp [Lps]) (p,c) r (H:=e0::e1::e2::some (.box (r.mc ts))::H) (id:=3) rfl he
theorem VT (ts:List Wd) (oK:ts.length<1000000):Cx (oOf (Lps ts oK)) zP AJ:=Bn _ B4 Ad
@[simp] theorem buMk (ts:List Wd):Aq zP 163 [(0,AE ts)]=some (.agg [AE ts,.int .i64 0,.nilSlice,.int .i64 0]):=by
 unfold AE
 split<;>kernel_rfl
theorem QX (ts:List Wd) (r:Sr) (hr:r.at_≤ts.length):(CV ts r).2.at_≤r.at_+ts.length+1000000∧(AP r.err→AP (CV ts r).2.err):=by
 unfold CV
 split
 ·split
  ·rename_i hw hk
   have h2:2≤(ts.drop r.at_).length:=by
    rw [List.length_drop];simp only [isK] at hk
    split at hk
    ·rename_i hx;have:=(List.getElem?_eq_some_iff.1 hx).1;omega
    ·cases hk
   obtain ⟨h1,h3⟩:=U9 (ts:=ts.drop r.at_) (r:=⟨2,0,none⟩) ⟨h2,fun p c h=>by cases h⟩;have pm:=QV (ts.drop r.at_) ⟨2,0,none⟩ Cm;simp only;refine ⟨?_,fun h=>(NY _ _ _).2.2.1 h pm⟩;unfold Cv
   split
   ·omega
   ·split
    ·simp only;omega
    ·rename_i hn
     have this:(C9 (ts.drop r.at_) (Bv (ts.drop r.at_)) ⟨2,0,none⟩).2.at_≤(ts.drop r.at_).length:=h1 hn;rw [List.length_drop] at this;simp only;omega
  ·exact ⟨by simp only [Sr.step];omega,fun h=>h⟩
 ·exact ⟨by simp only [Sr.fail];omega,fun h=>Sr.fail_ok h _ (by decide)⟩
theorem kb (ts:List Wd) (r:Sr) (h:AP r.err):AP (FS ts r).2.err:=by
 unfold FS La;have h1:=(NT ts r).2.2 h;have h2:=(E3 ts (CJ ts r).2 3 isT).2.1 h1;have h3:=(Kh ts _).2.2 h2;have h4:=(E3 ts (CD ts (Bt ts (CJ ts r).2 3 isT)).2 3 A4).2.1 h3;have h5:=(Kh ts _).2.2 h4;simp only
 split
 ·exact (NU ts _).2.2 ((VL ts _ 3 Bb).2.2 h5)
 ·exact h5
theorem kc (ts:List Wd) (s:List UInt8) (h1:1≤ts.length):AP (Cf ts s ⟨1,none⟩).2.err:=by
 unfold Cf
 split
 ·exact (VM ts _ _ _ h1).2 Bx
 ·split
  ·exact kb ts _ Bx
  ·split
   ·split
    ·exact Bx
    ·exact (E3 ts _ _ _).2.1 Bx
   ·split
    ·exact (E3 ts _ _ _).2.1 ((E3 ts _ _ _).2.1 ((VK ts _).2.2 ((E3 ts _ _ _).2.1 Bx)))
    ·split
     ·exact Bx
     ·split
      ·exact (QX ts ⟨1,none⟩ h1).2 Bx
      ·split
       ·exact (Kh ts _).2.2 Bx
       ·exact Sr.fail_ok Bx _ (by decide)
def FV (x:Sm × Er):AV := .tup [.agg x.1.x.c,erA x.2]
theorem ke (s:List UInt8) (hs:s.length<1000000) (H:AH):CS zP AJ 28 [.str s] H (FV (E2 (CC s))) H:=by
 have hb:(CC s).length<1000000:=by have h1:=QL s;unfold CC;rw [List.length_take];omega
 have pE:s.length<Br:=by rw [Dx];omega
 have sp:(CC s).length<Br:=by rw [Dx];omega
 unfold E2;generalize sG:lex ((CC s).length+1) (CC s) 0 false=lx;cases lx with
 |error x =>
  obtain ⟨p,e⟩:=x;have X:=VT [] (by decide);have hO:=VS [] (by decide);generalize oOf (Lps [] _)=O at X hO;have pP:=UN _ _ _ _ _ _ sG;have f1:=fun H=>hO.parts s H pE
  have f2:=fun H=>hO.toks (CC s) H sp
  have f3:=fun H=>hO.within Bl 0 (some ([(KG,p)],e)) H (Ii (by simp) pP) (by simp)
  rw [sG] at f2;simp [Cu,FI] at f2;simp [erP,erC,inE,Cn,CI,Bl,KG] at f3;refine CS.tr0 Bh Tryz.func28 (by kernel_rfl) 0 (by simp [Tryz.f28]) (fun B hB hG => ?_) (by simp [FV,Sx.c_low]) (by simp) H;refine Tr.goD X hG ?_;have hc:¬(e:Int)=0:=by omega
  simp [Tryz.f28,EQ,f1,f2,f3,hc,pP,C8,Sx.c,FV,Sm.x,Bm,erP,erC,Cn,CI,Bl,KG]
 |ok ts =>
  have oK:=UR hb sG;have X:=VT ts oK;have hO:=VS ts oK;generalize oOf (Lps ts oK)=O at X hO;have f1:=fun H=>hO.parts s H pE
  have f2:=fun H=>hO.toks (CC s) H sp
  rw [sG] at f2;simp only [Cu,LI] at f2;refine CS.tr0 Bh Tryz.func28 (by kernel_rfl) 0 (by simp [Tryz.f28]) (fun B hB hG => ?_) (by simp [FV,Sx.c_low]) (by simp) H;refine Tr.goD X hG ?_
  by_cases oL:ts=[]
  ·have sZ:AE ts = .nilSlice:=if_pos oL
   have sO:Lb ts=({},none):=by rw [oL];rfl
   simp only;rw [sO];rw [sZ] at f2;simp [Tryz.f28,EQ,f1,f2,Sx.c,FV,Sm.x,Bm,Az,A0]
  have oU:0<ts.length:=List.length_pos_iff.2 oL;obtain ⟨w,hw⟩:∃w,ts[0]? = some w:=⟨_,List.getElem?_eq_getElem oU⟩
  obtain ⟨c0,c1,_⟩:=EM hw;simp at c0 c1;have o5:¬ts.length=0:=by omega
  have sd:((ts.length:Int)==0)=false:=by rw [beq_eq_false_iff_ne];omega
  have tA:Lb ts=match (if (ET ts w).2.err=none∧(ET ts w).2.at_<ts.length then (ET ts w).2.fail (ET ts w).2.at_ 2 else (ET ts w).2).err with
    |some y=>({},some y)
    |none=>((ET ts w).1,none):=by
   cases ts with
   |nil=>exact absurd rfl oL
   |cons v us =>simp only [List.getElem?_cons_zero,Option.some.injEq] at hw;subst hw;rfl
  have pr:mbx ts ⟨0,none⟩=some (.box [AE ts,.int .i64 0,.nilSlice,.int .i64 0]):=rfl;simp only;rw [tA];have fl:=fun r p e0 e1 e2 H he=>hO.fail r p 2 e0 e1 e2 H he
  simp only [mbx] at fl
  have key:∀x:Sm × Sr,AP x.2.err→∃y:Sm × Er,y=(match (if x.2.err=none∧x.2.at_<ts.length then x.2.fail x.2.at_ 2 else x.2).err with
    |some y=>(({}:Sm),some y)
    |none=>(x.1,none))∧((x.2.err=none∧x.2.at_<ts.length∧y=({},some ([(Bl,x.2.at_)],2))∧x.2.fail x.2.at_ 2=⟨x.2.at_,some ([(Bl,x.2.at_)],2)⟩)∨(x.2.err=none∧¬x.2.at_<ts.length∧y=(x.1,none))∨(erC x.2.err≠0∧y=({},x.2.err))):=by
   rintro ⟨x,⟨a,e⟩⟩ he;cases e with
   |none =>
    by_cases hl:a<ts.length
    ·exact ⟨_,rfl,.inl ⟨rfl,hl,by simp [hl,Sr.fail],rfl⟩⟩
    ·exact ⟨_,rfl,.inr (.inl ⟨rfl,hl,by simp [hl]⟩)⟩
   |some z=>exact ⟨_,rfl,.inr (.inr ⟨(fun h=>by have:=(FT he).1 h;cases this),by simp⟩)⟩
  have pq:AP (ET ts w).2.err:=by
   unfold ET
   split
   ·exact kc ts _ oU
   ·split
    ·exact (Kh ts _).2.2 ((E3 ts _ _ _).2.1 ((QX ts ⟨0,none⟩ (Nat.zero_le _)).2 Bx))
    ·exact Ii (by simp) (by decide)
  obtain ⟨y,hy,qp⟩:=key _ pq;rw [←hy];clear hy key tA
  by_cases qO:w.kind=4
  ·have hx:ET ts w=Cf ts w.text ⟨1,none⟩:=if_pos qO
   have f3:=fun e0 e1 e2 H=>hO.key w.text e0 e1 e2 H oU
   rw [hx] at pq qp;rw [pr] at f3;generalize Cf ts w.text ⟨1,none⟩=x at *;obtain ⟨m,r⟩:=x;simp only at pq qp f3;obtain ⟨M,hM⟩:∃M,M=m.x:=⟨_,rfl⟩
   simp only [mbx,←hM] at f3;rcases qp with ⟨pP,hl,hy,hf⟩|⟨pP,hl,hy⟩|⟨pP,hy⟩
   ·have hl':(r.at_:Int)<ts.length:=by omega
    have f9:=fun e0 e1 e2 H=>fl r r.at_ e0 e1 e2 H pq
    have hE:erC (some ([(Bl,r.at_)],2))=2:=rfl;rw [hf] at f9;simp [pP,Az,A0,hE] at f9 f3;simp [Tryz.f28,EQ,f1,f2,f3,f9,o5,sd,oU,oL,c0,c1,qO,pP,hl,hl',hE,Az,A0,Sx.c];refine LpD.turns X hG [5,6] zL0 ?_;simp [hy,FV,Sx.c,Sm.x,Bm,hE]
   ·have hl':¬(r.at_:Int)<ts.length:=by omega
    simp [pP,Az,A0] at f3;simp [Tryz.f28,EQ,f1,f2,f3,o5,sd,oU,oL,c0,c1,qO,pP,hl,hl',Az,A0,Sx.c,hy,FV,hM,Sm.x]
   ·have wO:(erC r.err==0)=false:=by rw [beq_eq_false_iff_ne];exact pP
    try simp at f3
    simp [Tryz.f28,EQ,f1,f2,f3,o5,sd,oU,oL,c0,c1,qO,pP,wO,Az,A0,Sx.c];refine LpD.turns X hG [5,6] zL0 ?_;simp [hy,FV,Sx.c,Sm.x,Bm]
  by_cases hk1:w.kind=1
  ·have hx:ET ts w=QQ ts ⟨0,none⟩:=by unfold ET;rw [if_neg qO,if_pos hk1]
   have qZ:QQ ts ⟨0,none⟩=({kind:=2,to:=(CV ts ⟨0,none⟩).1,e:=(CD ts (Bt ts (CV ts ⟨0,none⟩).2 3 isT)).1},(CD ts (Bt ts (CV ts ⟨0,none⟩).2 3 isT)).2):=rfl;rw [hx,qZ] at pq qp;have f3:=fun e0 e1 e2 H=>hO.to ⟨0,none⟩ e0 e1 e2 H Bx (by decide)
   obtain ⟨v3,u3⟩:=QX ts ⟨0,none⟩ (Nat.zero_le _);rw [pr] at f3;generalize CV ts ⟨0,none⟩=pt at *;obtain ⟨to,r1⟩:=pt;simp only at pq qp f3 v3 u3;have e1:=u3 Bx;have f4:=fun e0 e1' e2 H=>hO.must r1 3 isT e0 e1' e2 H e1 (by omega) (by decide)
   obtain ⟨v4,u4,_⟩:=E3 ts r1 3 isT;generalize Bt ts r1 3 isT=r2 at *;have f5:=fun e0 e1' e2 H=>hO.expr r2 e0 e1' e2 H (u4 e1) (by omega)
   generalize CD ts r2=pe at *;obtain ⟨ex,r⟩:=pe;simp only at pq qp f5;simp only [CB,mbx] at f3 f5;simp only [isT,mbx] at f4;have ua:¬(w.kind:Int)=4:=by omega
   rcases qp with ⟨pP,hl,hy,hf⟩|⟨pP,hl,hy⟩|⟨pP,hy⟩
   ·have hl':(r.at_:Int)<ts.length:=by omega
    have f9:=fun e0 e1 e2 H=>fl r r.at_ e0 e1 e2 H pq
    have hE:erC (some ([(Bl,r.at_)],2))=2:=rfl;rw [hf] at f9;simp [pP,Az,A0,hE] at f9 f3 f4 f5;simp [Tryz.f28,EQ,f1,f2,f3,f4,f5,f9,o5,sd,oU,oL,c0,c1,qO,hk1,ua,pP,hl,hl',hE,Az,A0,Sx.c];refine LpD.turns X hG [5,6] zL0 ?_;simp [hy,FV,Sx.c,Sm.x,Bm,hE]
   ·have hl':¬(r.at_:Int)<ts.length:=by omega
    simp [pP,Az,A0] at f3 f4 f5;simp [Tryz.f28,EQ,f1,f2,f3,f4,f5,o5,sd,oU,oL,c0,c1,qO,hk1,ua,pP,hl,hl',Az,A0,Sx.c,hy,FV,Sm.x,Bm]
   ·have wO:(erC r.err==0)=false:=by rw [beq_eq_false_iff_ne];exact pP
    try simp at f3 f4 f5
    simp [Tryz.f28,EQ,f1,f2,f3,f4,f5,o5,sd,oU,oL,c0,c1,qO,hk1,ua,pP,wO,Az,A0,Sx.c];refine LpD.turns X hG [5,6] zL0 ?_;simp [hy,FV,Sx.c,Sm.x,Bm]
  ·have hx:ET ts w=({},⟨0,some ([(Bl,0)],2)⟩):=by unfold ET;rw [if_neg qO,if_neg hk1]
   rw [hx] at pq qp;have f3:=fun e0 e1 e2 H=>fl ⟨0,none⟩ 0 e0 e1 e2 H Bx
   have sN:(⟨0,none⟩:Sr).fail 0 2=⟨0,some ([(Bl,0)],2)⟩:=rfl;rw [sN] at f3;have hE:erC (some ([(Bl,0)],2))=2:=rfl;simp [Az,A0,hE] at f3
   have hy:y=({},some ([(Bl,0)],2)):=by
    rcases qp with ⟨h,_⟩|⟨h,_⟩|⟨_,h⟩
    ·cases h
    ·cases h
    ·exact h
   have ua:¬(w.kind:Int)=4:=by omega
   have yP:¬(w.kind:Int)=1:=by omega
   simp [Tryz.f28,EQ,f1,f2,f3,o5,sd,oU,oL,c0,qO,hk1,ua,yP,hE,Az,A0,Sx.c];refine LpD.turns X hG [5,6] zL0 ?_;simp [hy,FV,Sx.c,Sm.x,Bm,hE]
@[simp] theorem immFN:AJ.imm 84=false:=by decide
@[simp] theorem immFB:AJ.imm 115=false:=by decide
def wrE:Enc Er where
 sz:=2
 c:=fun e=>[erP e,.int .i64 (erC e)]
 pos:=by decide
 len:=fun _=>rfl
 low:=fun e=>by simp
 one:=fun e=>by simp
 inj:=fun x y h=>by simp only [List.cons.injEq,AV.int.injEq,true_and,and_true] at h;exact NO h.1 h.2
def IA:List UInt8:=[108,105,110,101]
structure Bst where
 at_:Nat
 bad:Er
 plain:Bool
def Bst.fail (s:Bst) (p c:Nat):Bst:=⟨s.at_,some (s.bad.getD ([(IA,p)],c)),s.plain⟩
abbrev Zs:=List (Sx × Er)
def IB (z:Sx × Er):Bool:=decide (z.1.kind=0)&&z.2.isNone
def DV (Z:Zs) (i:Nat):Nat:=i+((Z.drop i).takeWhile IB).length
def EU (Z:Zs) (s:Bst):Bst:=⟨DV Z s.at_,match s.bad,Z[DV Z s.at_]? with
 |none,some (_,some x)=>inE IA (DV Z s.at_) (some x)
 |e,_=>e,s.plain⟩
theorem kf {Z:Zs} {i:Nat} {z:Sx × Er} (h:Z[i]? = some z) (he:IB z=true):DV Z (i+1)=DV Z i:=by obtain ⟨hi,hz⟩:=List.getElem?_eq_some_iff.1 h;unfold DV;rw [List.drop_eq_getElem_cons hi,hz,List.takeWhile_cons,if_pos he,List.length_cons];omega
theorem kg {Z:Zs} {i:Nat} (h:∀z,Z[i]? = some z→IB z=false):DV Z i=i:=by
 unfold DV;cases hd:Z.drop i with
 |nil=>simp
 |cons z r =>
  have hz:Z[i]? = some z:=by have:=List.getElem?_drop (xs:=Z) (i:=i) (j:=0);rw [hd] at this;simpa using this.symm
  rw [List.takeWhile_cons,if_neg (by rw [h z hz];decide)];simp
theorem kh (Z:Zs) (i:Nat):i≤DV Z i:=Nat.le_add_right _ _
theorem ki (Z:Zs) (i:Nat) (h:i≤Z.length):DV Z i≤Z.length:=by unfold DV;have:=(List.takeWhile_sublist (l:=Z.drop i) IB).length_le;rw [List.length_drop] at this;omega
theorem Lg {Z:Zs} {s:Bst} {i:Nat} (hf:i=DV Z s.at_) {x:List (List UInt8 × Nat) × Nat} (h:s.bad=some x):EU Z s=⟨i,some x,s.plain⟩:=by unfold EU;rw [←hf,h]
theorem VU {Z:Zs} {s:Bst} {i:Nat} (hf:i=DV Z s.at_) (h:s.bad=none) (hz:Z[i]? = none):EU Z s=⟨i,none,s.plain⟩:=by unfold EU;rw [←hf,h,hz]
theorem VV {Z:Zs} {s:Bst} {i:Nat} (hf:i=DV Z s.at_) (h:s.bad=none) {z:Sx × Er} (hz:Z[i]? = some z) (h2:z.2=none):EU Z s=⟨i,none,s.plain⟩:=by obtain ⟨a,b⟩:=z;simp only at h2;unfold EU;rw [←hf,h,hz,h2]
theorem QY {Z:Zs} {s:Bst} {i:Nat} (hf:i=DV Z s.at_) (h:s.bad=none) {z:Sx × Er} (hz:Z[i]? = some z) {y:List (List UInt8 × Nat) × Nat} (h2:z.2=some y):EU Z s=⟨i,inE IA i (some y),s.plain⟩:=by obtain ⟨a,b⟩:=z;simp only at h2;unfold EU;rw [←hf,h,hz,h2]
def Zs.L (Z:Zs):List Sx:=Z.map (·.1)
def Zs.W (Z:Zs):List Er:=Z.map (·.2)
def bdC (ls:List (List UInt8)) (Z:Zs) (s:Bst):List AV:=[BL.av ls,sxE.av Z.L,wrE.av Z.W,.int .i64 (s.at_:Int),erP s.bad,.int .i64 (erC s.bad),.bool s.plain]
@[simp] theorem kj (ls:List (List UInt8)) (Z:Zs) (s:Bst):bdC ls Z s=[BL.av ls,sxE.av Z.L,wrE.av Z.W,.int .i64 (s.at_:Int),erP s.bad,.int .i64 (erC s.bad),.bool s.plain]:=AS rfl
theorem Ir (ls:List (List UInt8)) (Z:Zs) (s:Bst):lowL 0 (bdC ls Z s)=true:=by simp
theorem NZ (ls:List (List UInt8)) (Z:Zs) (s r:Bst) (h:bdC ls Z s=bdC ls Z r):s=r:=by
 obtain ⟨a,b,c⟩:=s;obtain ⟨a',b',c'⟩:=r;simp only [kj,List.cons.injEq,AV.int.injEq,AV.bool.injEq,true_and,and_true] at h;have e1:a=a':=by omega
 rw [e1,NO h.2.1 h.2.2.1,h.2.2.2]
structure ZOk (Z:Zs):Prop where
 len:Z.length<1000000
 err:∀z∈Z,AP z.2∧∀l c,z.2=some (l,c)→l.length<1000
@[simp high] theorem oB (l:List Sx):alen zP 112 (sxE.av l)=some (.int .i64 l.length):=sxE.alen Tryz.underlying112 l
@[simp high] theorem oC {l:List Sx} {i:Nat} (h:i<l.length):Ao zP 112 (sxE.av l) (.int .i64 (i:Int))=some (.vptr (sxE.row l) (i*29)):=sxE.aidx Tryz.underlying112 (by kernel_rfl) h
@[simp high] theorem oD {l:List Er} {i:Nat} (h:i<l.length):Ao zP 113 (wrE.av l) (.int .i64 (i:Int))=some (.vptr (wrE.row l) (i*2)):=wrE.aidx Tryz.underlying113 (by kernel_rfl) h
theorem kk (ls:List (List UInt8)) (Z:Zs) (s:Bst) (he:AP s.bad) (p c:Nat) {H:AH} {id:Nat} (hH:H.at id=some (.box (bdC ls Z s))) :
  CS zP AJ 57 [.ptr id 0,.int .i64 (p:Int),.int .i64 (c:Int)] H (.tup []) (H.set id (some (.box (bdC ls Z (s.fail p c))))):=by
 obtain ⟨a,e,pl⟩:=s;refine CS.rd Bh Tryz.func57 (by kernel_rfl) 0 (by simp [Tryz.f57]) (fun B hB hG => ?_) (by simp) rfl (Ir ls _ _) (Ir ls _ _) hH;refine Tr.goD U3 hG ?_;cases e with
 |none=>simp [Tryz.f57,Bst.fail,erC,erP,Mz,IA,Cn,CI]
 |some y =>
  have h0:¬erC (some y)=0:=fun h=>by have:=(FT he).1 h;cases this
  simp [Tryz.f57,Bst.fail,h0]
theorem Zs.L_at {Z:Zs} {i:Nat} {z:Sx × Er} (h:Z[i]? = some z):Z.L[i]? = some z.1:=by simp [Zs.L,h]
theorem Zs.W_at {Z:Zs} {i:Nat} {z:Sx × Er} (h:Z[i]? = some z):Z.W[i]? = some z.2:=by simp [Zs.W,h]
@[simp] theorem Zs.L_len (Z:Zs):Z.L.length=Z.length:=AS (by simp [Zs.L])
@[simp] theorem Zs.W_len (Z:Zs):Z.W.length=Z.length:=AS (by simp [Zs.W])
def SkI (ls:List (List UInt8)) (Z:Zs) (s:Bst) (k:Nat) (t:List AV) (H:AH):Prop :=∃i,i+k=Z.length∧DV Z i=DV Z s.at_∧t=mkT 97 [(0,.ptr 0 0)]∧H=[some (.box (bdC ls Z ⟨i,s.bad,s.plain⟩))]
theorem kl (ls:List (List UInt8)) (Z:Zs) (hZ:ZOk Z) (s:Bst) (he:AP s.bad) (ha:s.at_≤Z.length) {H:AH} {id:Nat} (hH:H.at id=some (.box (bdC ls Z s))) :
  CS zP AJ 56 [.ptr id 0] H (.tup []) (H.set id (some (.box (bdC ls Z (EU Z s))))):=by
 refine CS.rd Bh Tryz.func56 (by kernel_rfl) 0 (by simp [Tryz.f56]) (fun B hB hG => ?_) (by simp) rfl (Ir ls _ _) (Ir ls _ _) hH;have hL:([H7].map (·.f)).Nodup:=show ([50]:List Nat).Nodup by decide
 have X:=Bn [H7] B4 Ad;have h1:=U6 hL (by simp) IA;generalize oOf [H7]=O at X h1;refine Tr.goD X hG ?_;simp [Tryz.f56]
 refine LpD.loopN X hG (SkI ls Z s) (Z.length-s.at_) (t':=mkT 97 [(0,.ptr 0 0)]) (H':=[some (.box (bdC ls Z s))])
  (AD.mkK 1 (by simp [hB]) (by simp) (by simp) (by simp)) ⟨s.at_,by omega,rfl,rfl,rfl⟩ ?_
 rintro k t H ⟨i,oQ,u0,rfl,rfl⟩;have oT:=hZ.len;have fin:∀i,DV Z i=DV Z s.at_→(∀z,Z[i]? = some z→IB z=false)→i=DV Z s.at_:=fun i h1 h2=>by rw [←h1,kg h2]
 by_cases hi:i<Z.length
 ·obtain ⟨z,hz⟩:∃z,Z[i]? = some z:=⟨_,List.getElem?_eq_getElem hi⟩
  have hi':(i:Int)<Z.length:=by omega
  obtain ⟨wP,xh⟩:=hZ.err z (List.mem_of_getElem? hz);have g0:=sxE.row_cell (Zs.L_at hz) 0 (by decide);have g1:=wrE.row_cell (Zs.W_at hz) 1 (by decide);obtain ⟨g2,g3⟩:=wrE.row_at _ _ (Zs.W_at hz);have e0:(sxE.c z.1)[0]? = some (.int .i64 z.1.kind):=rfl;have e1:(wrE.c z.2)[1]? = some (.int .i64 (erC z.2)):=rfl;have e2:wrE.c z.2=[erP z.2,.int .i64 (erC z.2)]:=rfl;have e3:sxE.sz=29:=rfl;have e4:wrE.sz=2:=rfl;rw [e0,e3] at g0;rw [e1,e4] at g1;rw [e2,e4] at g2;rw [e4] at g3;simp only [Nat.add_zero] at g0;cases pJ:z.2 with
  |none =>
   have hc:erC z.2=0:=by rw [pJ];rfl
   rw [hc] at g1
   by_cases hk:z.1.kind=0
   ·have hem:IB z=true:=by simp [IB,hk,pJ]
    rw [hk] at g0;have w1:IntKind.i64.wrap ((i:Int)+1)=(i:Int)+1:=Ab (by omega) (by omega);simp;refine LpD.turns X hG [] [] ?_;simp [hi,hi',g0,g1,w1];have hI:SkI ls Z s (k-1) (mkT 97 [(0,.ptr 0 0)]) [some (.box (bdC ls Z ⟨i+1,s.bad,s.plain⟩))]:=⟨i+1,by omega,by rw [kf hz hem];exact u0,rfl,rfl⟩
    exact Nxt.mk (k-1) (by omega) (AD.mkK 1 (by simp [hB]) (by simp) (by simp) (by simp)) hI
   ·have qP:(z.1.kind==0)=false:=by rw [beq_eq_false_iff_ne];exact hk
    have hf:=fin i u0 (fun z' h=>by rw [hz] at h;injection h with h;subst h;simp [IB,hk]);simp;refine LpD.turns X hG [] [] ?_;simp [hi,hi',g0,hk,qP];refine LpD.turns X hG [] [] ?_;cases pQ:s.bad with
    |none=>simp [hi,hi',g0,g1,A0,Az,VV hf pQ hz pJ]
    |some x =>
     have h0:(erC (some x)==0)=false:=by rw [←pQ,HY he,pQ];rfl
     simp [h0,Lg hf pQ]
  |some y =>
   have pM:(erC z.2==0)=false:=by rw [HY wP,pJ];rfl
   have ub:¬erC z.2=0:=by rwa [beq_eq_false_iff_ne] at pM
   have hf:=fin i u0 (fun z' h=>by rw [hz] at h;injection h with h;subst h;simp [IB,pJ]);rw [pJ] at wP xh pM ub g1 g2;have h2:=h1 (i:Int) (by omega) (some y) wP xh;simp only [Int.toNat_natCast,IA] at h2;simp;refine LpD.turns X hG [] [] ?_
   by_cases hk:z.1.kind=0
   ·simp [hi,hi',g0,g1,hk,pM,ub]
    refine LpD.turns X hG [] [] ?_;cases pQ:s.bad with
    |none =>simp [hi,hi',g0,g1,pM,ub,A0,Az,QY hf pQ hz pJ];refine LpD.turns X hG [15,18] [(0,15)] ?_;simp [hi,hi',g0,g1,g2,g3,h2,IA]
    |some x =>
     have h0:(erC (some x)==0)=false:=by rw [←pQ,HY he,pQ];rfl
     simp [h0,Lg hf pQ]
   ·have qP:(z.1.kind==0)=false:=by rw [beq_eq_false_iff_ne];exact hk
    simp [hi,hi',g0,g1,hk,qP,pM,ub];refine LpD.turns X hG [] [] ?_;cases pQ:s.bad with
    |none =>simp [hi,hi',g0,g1,pM,ub,A0,Az,QY hf pQ hz pJ];refine LpD.turns X hG [15,18] [(0,15)] ?_;simp [hi,hi',g0,g1,g2,g3,h2,IA]
    |some x =>
     have h0:(erC (some x)==0)=false:=by rw [←pQ,HY he,pQ];rfl
     simp [h0,Lg hf pQ]
 ·have hi':¬(i:Int)<Z.length:=by omega
  have hz:Z[i]? = none:=List.getElem?_eq_none (by omega);have hf:=fin i u0 (fun z h=>by rw [hz] at h;cases h);simp;refine LpD.turns X hG [] [] ?_;simp [hi,hi'];refine LpD.turns X hG [] [] ?_;cases pQ:s.bad with
  |none=>simp [hi,hi',A0,Az,VU hf pQ hz]
  |some x =>
   have h0:(erC (some x)==0)=false:=by rw [←pQ,HY he,pQ];rfl
   simp [h0,Lg hf pQ]
def Nd.leaf (l:Nat) (x:Sx):Nd := .mk l l x [] [] (-1)
def Ej (Z:Zs) (nest:Nat→Sx→Bst→Nd × Bst) (top:Bool) (of:Int) (beg:Nat):Nat→Bst→List Nd→List Nd × Bst
 |0,s,out=>(out,s.fail 0 1)
 |f+1,s0,out =>
  let s:=EU Z s0
  if s.bad.isSome then (out,s) else
  match Z[s.at_]? with
  |none=>(out,if of=0 then s else s.fail beg 11)
  |some z =>
   if z.1.kind=4 then (out,if of=3 then s else s.fail s.at_ 12)
   else if z.1.kind=7 then (out,if of=5∨of=6 then s else s.fail s.at_ 12)
   else if z.1.kind=6 then (out,if of=5 then s else s.fail s.at_ 12)
   else if z.1.kind=1 then (if s.plain=true∨of≠0 then (out,s.fail s.at_ 2) else Ej Z nest top of beg f ⟨s.at_+1,s.bad,s.plain⟩ (out++[.leaf s.at_ z.1]))
   else if z.1.kind=3∨z.1.kind=5 then
    (if top then (out,(⟨s.at_,s.bad,true⟩:Bst).fail s.at_ 4) else
     if (nest s.at_ z.1 ⟨s.at_,s.bad,true⟩).2.bad.isSome then (out,(nest s.at_ z.1 ⟨s.at_,s.bad,true⟩).2)
     else Ej Z nest top of beg f (nest s.at_ z.1 ⟨s.at_,s.bad,true⟩).2 (out++[(nest s.at_ z.1 ⟨s.at_,s.bad,true⟩).1]))
   else Ej Z nest top of beg f ⟨s.at_+1,s.bad,true⟩ (out++[.leaf s.at_ z.1])
def HZ (Z:Zs) (blk:Int→Nat→Bst→List Nd × Bst) (l:Nat) (x:Sx) (s:Bst):Nd × Bst :=
 let b:=blk x.kind l ⟨s.at_+1,s.bad,s.plain⟩
 if b.2.bad.isSome then (.mk l l x b.1 [] (-1),b.2) else
 match Z[b.2.at_]? with
 |none=>(.mk l b.2.at_ x b.1 [] (-1),b.2)
 |some z =>
  if z.1.kind=6 then
   let c:=blk 6 l ⟨b.2.at_+1,b.2.bad,b.2.plain⟩
   if c.2.bad.isSome then (.mk l l x b.1 c.1 b.2.at_,c.2)
   else (.mk l c.2.at_ x b.1 c.1 b.2.at_,⟨c.2.at_+1,c.2.bad,c.2.plain⟩)
  else (.mk l b.2.at_ x b.1 [] (-1),⟨b.2.at_+1,b.2.bad,b.2.plain⟩)
def E4 (Z:Zs):Nat→Int→Nat→Bst→List Nd × Bst
 |0,of,beg,s=>Ej Z (fun l x s=>(.leaf l x,s)) true of beg (Z.length+1) s []
 |d+1,of,beg,s=>Ej Z (HZ Z (E4 Z d)) false of beg (Z.length+1) s []
theorem zDS (Z:Zs) (s:Bst):(EU Z s).at_=DV Z s.at_:=rfl
theorem km {w:List UInt8} {p:Nat} {e:Er} (h:AP e):AP (inE w p e):=by
 cases e with
 |none=>exact Bx
 |some y =>obtain ⟨l,c⟩:=y;exact Ii (by simp) (h l c rfl).2
theorem kn {Z:Zs} (hZ:ZOk Z) {s:Bst} (h:AP s.bad):AP (EU Z s).bad:=by
 cases hb:s.bad with
 |some x=>rw [Lg rfl hb,←hb];exact h
 |none =>
  cases hz:Z[DV Z s.at_]? with
  |none=>rw [VU rfl hb hz];exact Bx
  |some z =>
   cases h2:z.2 with
   |none=>rw [VV rfl hb hz h2];exact Bx
   |some y =>rw [QY rfl hb hz h2];have h3:=(hZ.err z (List.mem_of_getElem? hz)).1;rw [h2] at h3;exact km h3
theorem Bst.fail_ok {s:Bst} (h:AP s.bad) (p:Nat) {c:Nat} (hc:c≠0):AP (s.fail p c).bad:=US h (by simp) hc
theorem Bst.fail_bad (s:Bst) (p c:Nat):(s.fail p c).bad≠none:=by simp [Bst.fail]
structure Goes (Z:Zs) (s r:Bst):Prop where
 up:s.at_≤r.at_
 len:s.at_≤Z.length→r.at_≤Z.length
 ok:AP s.bad→AP r.bad
theorem Goes.refl (Z:Zs) (s:Bst):Goes Z s s:=⟨Nat.le_refl _,fun h=>h,fun h=>h⟩
theorem Goes.trans {Z:Zs} {s r q:Bst} (h:Goes Z s r) (k:Goes Z r q):Goes Z s q:=⟨Nat.le_trans h.up k.up,fun x=>k.len (h.len x),fun x=>k.ok (h.ok x)⟩
theorem Goes.fail (Z:Zs) (s:Bst) (p:Nat) {c:Nat} (hc:c≠0):Goes Z s (s.fail p c):=⟨Nat.le_refl _,fun h=>h,fun h=>Bst.fail_ok h p hc⟩
theorem Goes.skip {Z:Zs} (hZ:ZOk Z) (s:Bst):Goes Z s (EU Z s):=⟨kh Z _,fun h=>ki Z _ h,fun h=>kn hZ h⟩
theorem Goes.step {Z:Zs} {s:Bst} (h:s.at_<Z.length) (p:Bool):Goes Z s ⟨s.at_+1,s.bad,p⟩:=⟨Nat.le_succ _,fun _=>h,fun h=>h⟩
theorem Goes.mark (Z:Zs) (s:Bst) (p:Bool):Goes Z s ⟨s.at_,s.bad,p⟩:=⟨Nat.le_refl _,fun h=>h,fun h=>h⟩
theorem QZ {Z:Zs} {i:Nat} {z:Sx × Er} (h:Z[i]? = some z):i<Z.length:=(List.getElem?_eq_some_iff.1 h).1
theorem Goes.ite {Z:Zs} {s a b:Bst} {c:Prop} [Decidable c] (h:Goes Z s a) (k:Goes Z s b):Goes Z s (if c then a else b):=by split<;>assumption
theorem Lh {Z:Zs} (hZ:ZOk Z) {nest:Nat→Sx→Bst→Nd × Bst} (hn:∀l x s,s.at_<Z.length→Goes Z s (nest l x s).2) (top:Bool) (of:Int) (beg:Nat):∀(f:Nat) (s:Bst) (out:List Nd),Goes Z s (Ej Z nest top of beg f s out).2
 |0,s,out=>Goes.fail Z s 0 (by decide)
 |f+1,s0,out=>by
  unfold Ej;have hs:=Goes.skip hZ s0;generalize EU Z s0=s at *;simp only
  split
  ·exact hs
  ·split
   ·exact hs.trans (Goes.ite (Goes.refl Z s) (Goes.fail Z s _ (by decide)))
   ·rename_i z hz
    have hl:=QZ hz
    split
    ·exact hs.trans (Goes.ite (Goes.refl Z s) (Goes.fail Z s _ (by decide)))
    ·split
     ·exact hs.trans (Goes.ite (Goes.refl Z s) (Goes.fail Z s _ (by decide)))
     ·split
      ·exact hs.trans (Goes.ite (Goes.refl Z s) (Goes.fail Z s _ (by decide)))
      ·split
       ·split
        ·exact hs.trans (Goes.fail Z s _ (by decide))
        ·exact (hs.trans (Goes.step hl _)).trans (Lh hZ hn top of beg f _ _)
       ·split
        ·split
         ·exact hs.trans ((Goes.mark Z s true).trans (Goes.fail Z _ _ (by decide)))
         ·have h2:=hn s.at_ z.1 ⟨s.at_,s.bad,true⟩ hl
          split
          ·exact hs.trans ((Goes.mark Z s true).trans h2)
          ·exact (hs.trans ((Goes.mark Z s true).trans h2)).trans (Lh hZ hn top of beg f _ _)
        ·exact (hs.trans (Goes.step hl _)).trans (Lh hZ hn top of beg f _ _)
theorem Li {Z:Zs} {nest:Nat→Sx→Bst→Nd × Bst} {top:Bool} {of:Int} (h0:of≠0) {beg:Nat}:∀(f:Nat) (s:Bst) (out:List Nd),(Ej Z nest top of beg f s out).2.bad=none→(Ej Z nest top of beg f s out).2.at_<Z.length
 |0,s,out=>fun h=>absurd h (Bst.fail_bad _ _ _)
 |f+1,s0,out=>by
  unfold Ej;generalize EU Z s0=s at *;simp only
  split
  ·rename_i h
   intro h2;rw [h2] at h;cases h
  ·split
   ·try rw [if_neg h0]
    exact fun h=>absurd h (Bst.fail_bad _ _ _)
   ·rename_i z hz
    have hl:=QZ hz
    have oc:∀(c:Prop) [Decidable c] (p e:Nat),(if c then s else s.fail p e).bad=none→(if c then s else s.fail p e).at_<Z.length:=by
     intro c _ p e
     split
     ·exact fun _=>hl
     ·exact fun h=>absurd h (Bst.fail_bad _ _ _)
    split
    ·exact oc _ _ _
    ·split
     ·exact oc _ _ _
     ·split
      ·exact oc _ _ _
      ·split
       ·split
        ·exact fun h=>absurd h (Bst.fail_bad _ _ _)
        ·exact Li h0 f _ _
       ·split
        ·split
         ·exact fun h=>absurd h (Bst.fail_bad _ _ _)
         ·split
          ·rename_i h
           intro h2;simp only at h2;rw [h2] at h;cases h
          ·exact Li h0 f _ _
        ·exact Li h0 f _ _
structure VW (Z:Zs) (blk:Int→Nat→Bst→List Nd × Bst):Prop where
 goes:∀of beg s,Goes Z s (blk of beg s).2
 ends:∀of beg s,of≠0→(blk of beg s).2.bad=none→(blk of beg s).2.at_<Z.length
theorem Qa {Z:Zs} {blk:Int→Nat→Bst→List Nd × Bst} (hb:VW Z blk) (l:Nat) (x:Sx) (s:Bst) (h:s.at_<Z.length):Goes Z s (HZ Z blk l x s).2∧s.at_<(HZ Z blk l x s).2.at_:=by
 unfold HZ;have h1:=Goes.step h s.plain;have h2:=hb.goes x.kind l ⟨s.at_+1,s.bad,s.plain⟩;generalize blk x.kind l ⟨s.at_+1,s.bad,s.plain⟩=b at *;have hbu:=h2.up;simp only at hbu ⊢
 split
 ·exact ⟨h1.trans h2,by simp only;omega⟩
 ·split
  ·exact ⟨h1.trans h2,by simp only;omega⟩
  ·rename_i z hz
   have hl:=QZ hz
   split
   ·have h3:=Goes.step hl b.2.plain
    have h4:=hb.goes 6 l ⟨b.2.at_+1,b.2.bad,b.2.plain⟩;have h5:=hb.ends 6 l ⟨b.2.at_+1,b.2.bad,b.2.plain⟩ (by decide);generalize blk 6 l ⟨b.2.at_+1,b.2.bad,b.2.plain⟩=c at *;have ue:=h4.up;simp only at ue
    split
    ·exact ⟨((h1.trans h2).trans h3).trans h4,by simp only;omega⟩
    ·rename_i hc
     have h6:=h5 (by simpa using hc);exact ⟨(((h1.trans h2).trans h3).trans h4).trans (Goes.step h6 _),by simp only;omega⟩
   ·exact ⟨(h1.trans h2).trans (Goes.step hl _),by simp only;omega⟩
theorem Lj {Z:Zs} (hZ:ZOk Z):∀d,VW Z (E4 Z d)
 |0=>⟨fun of beg s=>Lh hZ (fun l x s _=>Goes.refl Z s) _ _ _ _ _ _,fun of beg s h=>Li h _ _ _⟩
 |d+1=>⟨fun of beg s=>Lh hZ (fun l x s h=>(Qa (Lj hZ d) l x s h).1) _ _ _ _ _ _,fun of beg s h=>Li h _ _ _⟩
noncomputable def Is (ls:List (List UInt8)) (Z:Zs) (hZ:ZOk Z):AF zP AJ:=AF.meth 56 (bdC ls Z) (NZ ls Z) (fun (_:Unit) s=>AP s.bad∧s.at_≤Z.length) (fun _ _=>[]) (fun _ _ => .tup []) (fun _ s=>EU Z s)
 (fun _ s h H id hH=>kl ls Z hZ s h.1 h.2 hH) (fun id x y s _ _ h=>⟨rfl,rfl⟩)
noncomputable def Iu (ls:List (List UInt8)) (Z:Zs):AF zP AJ:=AF.meth 57 (bdC ls Z) (NZ ls Z) (fun (_:Nat × Nat) s=>AP s.bad) (fun _ x=>[.int .i64 (x.1:Int),.int .i64 (x.2:Int)]) (fun _ _ => .tup []) (fun x s=>s.fail x.1 x.2)
 (fun x s h H id hH=>kk ls Z s h x.1 x.2 hH) (fun id x y s _ _ h=>by
  obtain ⟨a,b⟩:=x;obtain ⟨c,d⟩:=y;simp only [List.cons.injEq,AV.int.injEq,true_and,and_true] at h;have e1:a=c:=by omega
  have e2:b=d:=by omega
  rw [e1,e2]
  exact ⟨rfl,rfl⟩)
def Na (ls:List (List UInt8)) (Z:Zs) (d:Nat):Prop:=∀(of:Int) (beg:Nat) (s:Bst),AP s.bad→s.at_≤Z.length→∀(H:AH) (id:Nat),H.at id=some (.box (bdC ls Z s)) →
 CS zP AJ 29 [.ptr id 0,.int .i64 of,.int .i64 (beg:Int),.int .i64 (8-(d:Int))] H (ndE.av (E4 Z d of beg s).1) (H.set id (some (.box (bdC ls Z (E4 Z d of beg s).2))))
noncomputable def Iv {ls:List (List UInt8)} {Z:Zs} {d:Nat} (hC:Na ls Z d):AF zP AJ:=AF.meth 29 (bdC ls Z) (NZ ls Z) (fun (_:Int × Nat) s=>AP s.bad∧s.at_≤Z.length) (fun _ x=>[.int .i64 x.1,.int .i64 (x.2:Int),.int .i64 (8-(d:Int))]) (fun x s=>ndE.av (E4 Z d x.1 x.2 s).1) (fun x s=>(E4 Z d x.1 x.2 s).2)
 (fun x s h H id hH=>hC x.1 x.2 s h.1 h.2 H id hH) (fun id x y s _ _ h=>by
  obtain ⟨a,b⟩:=x;obtain ⟨c,d⟩:=y;simp only [List.cons.injEq,AV.int.injEq,true_and,and_true] at h;have e2:b=d:=by omega
  rw [h.1,e2]
  exact ⟨rfl,rfl⟩)
def bbx (ls:List (List UInt8)) (Z:Zs) (s:Bst):Option Ent:=some (.box [BL.av ls,sxE.av Z.L,wrE.av Z.W,.int .i64 (s.at_:Int),erP s.bad,.int .i64 (erC s.bad),.bool s.plain])
theorem Ha (l:Nat) (x:Sx):ndC (Nd.leaf l x) = .int .i64 (l:Int) :: .int .i64 (l:Int)::(x.c++[.nilSlice,.nilSlice,.int .i64 (-1)]):=rfl
theorem Nb (l e:Int) (x:Sx) (b c:List Nd) (m:Int):ndC (.mk l e x b c m) = .int .i64 l :: .int .i64 e::(x.c++[ndE.av b,ndE.av c,.int .i64 m]):=GK _
theorem ko {ls:List (List UInt8)} {Z:Zs} (hZ:ZOk Z) {d:Nat} (hd:d<8) (hC:Na ls Z d) (l:Nat) (hl:l<1000000) (x:Sx) (hx:x.kind≠0) (s:Bst) (he:AP s.bad) (ha:s.at_<Z.length) {H:AH} {id:Nat} (hH:H.at id=some (.box (bdC ls Z s))) :
  CS zP AJ 58 [.ptr id 0,.agg (ndC (.leaf l x)),.int .i64 (7-(d:Int))] H (.agg (ndC (HZ Z (E4 Z d) l x s).1)) (H.set id (some (.box (bdC ls Z (HZ Z (E4 Z d) l x s).2)))):=by
 refine CS.rd Bh Tryz.func58 (by kernel_rfl) 0 (by simp [Tryz.f58]) (fun B hB hG => ?_) (by simp [Co]) (by simp [Co]) (Ir ls _ _) (Ir ls _ _) hH;have hL:([Iv hC].map (·.f)).Nodup:=show ([29]:List Nat).Nodup by decide
 have X:=Bn [Iv hC] B4 Ad;have h1:=fun (of:Int) (beg:Nat) (s:Bst) (H:AH) (he:AP s.bad) (ha:s.at_≤Z.length)=>Bk hL (show Iv hC∈_ by simp) (of,beg) s (H:=some (.box (bdC ls Z s))::H) (id:=0) rfl ⟨he,ha⟩
 generalize oOf [Iv hC]=O at X h1;have oT:=hZ.len;have qY:=Lj hZ d;refine Tr.goD X hG ?_;have w1:IntKind.i64.wrap ((s.at_:Int)+1)=(s.at_:Int)+1:=Ab (by omega) (by omega);have w2:IntKind.i64.wrap (7-(d:Int)+1)=8-(d:Int):=by rw [Ab (by omega) (by omega)];omega
 unfold HZ;have g1:=fun H=>h1 x.kind l ⟨s.at_+1,s.bad,s.plain⟩ H he ha
 have b1:=qY.goes x.kind l ⟨s.at_+1,s.bad,s.plain⟩;have b2:=qY.ends x.kind l ⟨s.at_+1,s.bad,s.plain⟩ hx;generalize E4 Z d x.kind l ⟨s.at_+1,s.bad,s.plain⟩=b at *;obtain ⟨nb,r⟩:=b;have o1:=b1.ok he;simp only at b2 o1 g1 ⊢;simp at g1;cases hb:r.bad with
 |some y =>
  have pM:¬erC (some y)=0:=fun h=>by rw [hb] at o1;have:=(FT o1).1 h;cases this
  rw [hb] at g1;simp [Tryz.f58,Ha,Sx.c,w1,w2,g1,hb,pM,Nb]
 |none =>
  have hr:=b2 hb;obtain ⟨z,hz⟩:∃z,Z[r.at_]? = some z:=⟨_,List.getElem?_eq_getElem hr⟩
  have g0:=sxE.row_cell (Zs.L_at hz) 0 (by decide);have e0:(sxE.c z.1)[0]? = some (.int .i64 z.1.kind):=rfl;have e3:sxE.sz=29:=rfl;rw [e0,e3] at g0;simp only [Nat.add_zero] at g0;rw [hb] at g1;have w3:IntKind.i64.wrap ((r.at_:Int)+1)=(r.at_:Int)+1:=Ab (by omega) (by omega)
  by_cases hk:z.1.kind=6
  ·simp only [Az,A0] at g1
   have g2:=fun H=>h1 6 l ⟨r.at_+1,none,r.plain⟩ H Bx hr
   have c1:=qY.goes 6 l ⟨r.at_+1,none,r.plain⟩;have c2:=qY.ends 6 l ⟨r.at_+1,none,r.plain⟩ (by decide);rw [hk] at g0;simp only [hb,hz,hk];generalize E4 Z d 6 l ⟨r.at_+1,none,r.plain⟩=c at *;obtain ⟨nc,q⟩:=c;have o2:=c1.ok Bx;simp only at c2 o2 g2 ⊢;simp [Az,A0] at g2;cases hq:q.bad with
   |some y =>
    have pM:¬erC (some y)=0:=fun h=>by rw [hq] at o2;have:=(FT o2).1 h;cases this
    rw [hq] at g2;simp [Tryz.f58,Ha,Sx.c,w1,w2,g1,hb,A0,Az];refine LpD.turns X hG [] [] ?_;simp [hr,g0,w3,g2,pM,Nb,Sx.c,hq,A0,Az,w2]
   |none =>have rG:=c2 hq;have w4:IntKind.i64.wrap ((q.at_:Int)+1)=(q.at_:Int)+1:=Ab (by omega) (by omega);rw [hq] at g2;simp only [Az,A0] at g2;simp [Tryz.f58,Ha,Sx.c,w1,w2,g1,hb,A0,Az];refine LpD.turns X hG [] [] ?_;simp [hr,g0,w3,w4,g2,Nb,Sx.c,hq,A0,Az,w2]
  ·simp only [Az,A0] at g1
   have qP:(z.1.kind==6)=false:=by rw [beq_eq_false_iff_ne];exact hk
   simp only [hb,hz,if_neg hk,Option.isSome_none,Bool.false_eq_true,if_false];simp [Tryz.f58,Ha,Sx.c,w1,w2,g1,hb,A0,Az];refine LpD.turns X hG [] [] ?_;simp [hr,g0,w3,hk,qP,hz,hb,Nb,Sx.c,A0,Az]
set_option maxHeartbeats 8000000
@[simp] theorem bsNd (a0 a1 a2 a3 a4 a5 a6 a7 a8 a9 a10 a11 a12 a13 a14 a15 a16 a17 a18 a19 a20 a21 a22 a23 a24 a25 a26 a27 a28 a29 a30 a31 a32 a33:AV):CK zP 24 1 [(0,.agg [a0,a1,a2,a3,a4,a5,a6,a7,a8,a9,a10,a11,a12,a13,a14,a15,a16,a17,a18,a19,a20,a21,a22,a23,a24,a25,a26,a27,a28,a29,a30,a31,a32,a33])]=some (.slice .full 34 1 [a0,a1,a2,a3,a4,a5,a6,a7,a8,a9,a10,a11,a12,a13,a14,a15,a16,a17,a18,a19,a20,a21,a22,a23,a24,a25,a26,a27,a28,a29,a30,a31,a32,a33]):=by kernel_rfl
@[simp] theorem buNd (l e m:Int) (c0 c1 c2 c3 c4 c5 c6 c7 c8 c9 c10 c11 c12 c13 c14 c15 c16 c17 c18 c19 c20 c21 c22 c23 c24 c25 c26 c27 c28:AV):Aq zP 84 [(0,.int .i64 l),(1,.int .i64 e),(2,.agg [c0,c1,c2,c3,c4,c5,c6,c7,c8,c9,c10,c11,c12,c13,c14,c15,c16,c17,c18,c19,c20,c21,c22,c23,c24,c25,c26,c27,c28]),(5,.int .i64 m)]=some (.agg [.int .i64 l,.int .i64 e,c0,c1,c2,c3,c4,c5,c6,c7,c8,c9,c10,c11,c12,c13,c14,c15,c16,c17,c18,c19,c20,c21,c22,c23,c24,c25,c26,c27,c28,.nilSlice,.nilSlice,.int .i64 m]):=by kernel_rfl
theorem VX:Bg zP 24 34=true:=by kernel_rfl
theorem VY (ls:List (List UInt8)) (Z:Zs) (s:Bst):some (.box (bdC ls Z s))=bbx ls Z s:=rfl
theorem kp (ls:List (List UInt8)) (Z:Zs) (s:Bst) (ψ:Nat→Nat):(bbx ls Z s).map (AI ψ)=bbx ls Z s:=by simp [bbx,AI,AL,FU,Enc.av_ren,ren]
structure BlO (O:Orc) (ls:List (List UInt8)) (Z:Zs) (nest:Nat→Sx→Bst→Nd × Bst) (top:Bool) (dv:Int):Prop where
 skip:∀(s:Bst) (H:AH),AP s.bad→s.at_≤Z.length→O 56 [.ptr 0 0] (bbx ls Z s::H)=some (.tup [],bbx ls Z (EU Z s)::H)
 fail:∀(s:Bst) (p c:Nat) (H:AH),AP s.bad→O 57 [.ptr 0 0,.int .i64 (p:Int),.int .i64 (c:Int)] (bbx ls Z s::H)=some (.tup [],bbx ls Z (s.fail p c)::H)
 nest:top=false→∀(l:Nat) (x:Sx) (s:Bst) (H:AH),l<1000000→x.kind≠0→AP s.bad→s.at_<Z.length→O 58 [.ptr 0 0,.agg (ndC (.leaf l x)),.int .i64 dv] (bbx ls Z s::H)=some (.agg (ndC (nest l x s).1),bbx ls Z (nest l x s).2::H)
 top:top=true↔8≤dv
def BkI (ls:List (List UInt8)) (Z:Zs) (nest:Nat→Sx→Bst→Nd × Bst) (top:Bool) (of:Int) (beg:Nat) (dv:Int) (res:List Nd × Bst) (k:Nat) (t:List AV) (H:AH):Prop :=
 ∃(s:Bst) (out:List Nd),Ej Z nest top of beg k s out=res∧Z.length<k+s.at_∧s.at_≤Z.length∧AP s.bad∧out.length+k≤Z.length+1 ∧
  t=mkT 160 [(0,.ptr 0 0),(1,.int .i64 of),(2,.int .i64 (beg:Int)),(3,.int .i64 dv),(9,ndE.tk 1 out)]∧H=[bbx ls Z s,AO out]
theorem kq (out:List Nd) (n:Nd):ndE.row out++ndC n=ndE.row (out++[n]):=by rw [ndE.row_append,ndE.row_one1];rfl
theorem Nc {H:AH} {fid:Nat} {ow:Own} (out:List Nd) (n:Nd) (h0:out≠[]) (hk:H.at 1=some (.tok out.length)) (hb:out.length+1≤137438953472) :
  DO zP H fid 24 24 (ndE.tk 1 out) (.slice ow 34 1 (ndC n))=some (ndE.tk 1 (out++[n]),[(1,.tok (out.length+1))]):=by
 rw [ndE.tk_ne 1 h0,ndE.tk_ne 1 (by simp),List.length_append,←kq];exact EZ VX hk (by decide) hb (Hy n)
theorem Nf {H:AH} {fid:Nat} {ow:Own} (n:Nd) :
  DO zP H fid 24 24 .nilSlice (.slice ow 34 1 (ndC n))=some (ndE.tk fid [n],[(fid,.tok 1)]):=by
 rw [ndE.tk_ne fid (by simp),ndE.row_one1];exact F9 VX (by decide) (by decide) (Hy n)
theorem VZ {O:Orc} (X:Cx O zP AJ) (ls:List (List UInt8)) {Z:Zs} (hZ:ZOk Z) {nest:Nat→Sx→Bst→Nd × Bst} {top:Bool} (hn:∀l x s,s.at_<Z.length→Goes Z s (nest l x s).2∧(top=false→s.at_<(nest l x s).2.at_)) (of:Int) (beg:Nat) {dv:Int}
  (hO:BlO O ls Z nest top dv) (s:Bst) (he:AP s.bad) (ha:s.at_≤Z.length) {H:AH} {id:Nat} (hH:H.at id=some (.box (bdC ls Z s))) :
  CS zP AJ 29 [.ptr id 0,.int .i64 of,.int .i64 (beg:Int),.int .i64 dv] H (ndE.av (Ej Z nest top of beg (Z.length+1) s []).1) (H.set id (some (.box (bdC ls Z (Ej Z nest top of beg (Z.length+1) s []).2)))):=by
 refine CS.rd Bh Tryz.func29 (by kernel_rfl) 0 (by simp [Tryz.f29]) (fun B hB hG => ?_) (by simp) (by simp) (Ir ls _ _) (Ir ls _ _) hH;rw [VY,VY];generalize sB:Ej Z nest top of beg (Z.length+1) s []=res;have oT:=hZ.len;refine Tr.goD X hG ?_;simp [Tryz.f29]
 refine LpD.loopN X hG (BkI ls Z nest top of beg dv res) (Z.length+1) (t':=mkT 160 [(0,.ptr 0 0),(1,.int .i64 of),(2,.int .i64 (beg:Int)),(3,.int .i64 dv),(9,ndE.tk 1 [])]) (H':=[bbx ls Z s,none])
  (AD.mkV 100 (fun i=>i) 2 (by simp [hB]) (by simp) (by simp) rfl (by
   intro i hi;rcases (by omega:i=0∨i=1) with rfl|rfl
   ·simp [AH.at,kp]
   ·simp [AH.at]) (by simp [bbx]) (by simp [ren]))
  ⟨s,[],sB,by omega,ha,he,by simp,rfl,by simp⟩ ?_
 clear sB he ha;have qi:B.H.length=1:=by rw [hB];rfl
 clear hB hH;rintro k t H ⟨s,out,oM,qP,ha,he,uT,rfl,rfl⟩;obtain ⟨k,rfl⟩:∃j,k=j+1:=⟨k-1,by omega⟩
 have f1:=fun H=>hO.skip s H he ha
 have s1:=Goes.skip hZ s;rw [Ej] at oM;generalize EU Z s=s' at *;obtain ⟨a,e,pl⟩:=s';have a1:=s1.up;have a2:=s1.len ha;have a3:=s1.ok he;simp only at a1 a2 a3 oM;have oy:=ndE.tk_cut (show ¬1<1 by omega) out;have hf:=fun p c H=>hO.fail ⟨a,e,pl⟩ p c H a3
 have sT:=fun p c H=>hO.fail ⟨a,e,true⟩ p c H a3
 simp only [Bst.fail] at hf sT;cases e with
 |some y =>
  simp only [Option.isSome_some,if_true] at oM;have pM:¬erC (some y)=0:=fun h=>by have:=(FT a3).1 h;cases this
  simp only [bbx] at f1;simp [bbx,f1,pM,oy,←oM]
 |none =>
  simp only [Option.isSome_none,Bool.false_eq_true,if_false,Option.getD_none,Bst.fail] at oM hf sT;have hE:∀p c,c≠0→¬erC (some ([(IA,p)],c))=0:=fun p c hc=>by simp [erC,hc]
  simp only [bbx,Az,A0] at f1 hf sT
  by_cases hl:a<Z.length
  ·have hl':(a:Int)<Z.length:=by omega
   have oh:¬(Z.length:Int)≤a:=by omega
   have qa:¬Z.length≤a:=by omega
   obtain ⟨z,hz⟩:∃z,Z[a]? = some z:=⟨_,List.getElem?_eq_getElem hl⟩
   simp only [hz] at oM;obtain ⟨g2,g3⟩:=sxE.row_at _ _ (Zs.L_at hz);obtain ⟨x,ze⟩:=z;clear hz;simp only at oM g2;have e2:sxE.c x=x.c:=rfl;have e3:sxE.sz=29:=rfl;rw [e3,e2,Sx.c] at g2;rw [e3] at g3;have w1:IntKind.i64.wrap ((a:Int)+1)=(a:Int)+1:=Ab (by omega) (by omega);have hn':=hn a x ⟨a,none,true⟩ hl
   have ol:∀(n:Nd) (s2:Bst),s.at_<s2.at_→s2.at_≤Z.length→AP s2.bad→Ej Z nest top of beg k s2 (out++[n])=res→BkI ls Z nest top of beg dv res k (mkT 160 [(0,.ptr 0 0),(1,.int .i64 of),(2,.int .i64 (beg:Int)),(3,.int .i64 dv),(9,ndE.tk 1 (out++[n]))]) [bbx ls Z s2,AO (out++[n])] :=fun n s2 h1 h2 h3 h4=>⟨s2,out++[n],h4,by omega,h2,h3,by rw [List.length_append,List.length_singleton];omega,rfl,rfl⟩
   simp [bbx,f1];refine LpD.turns X hG [] [] ?_;simp [hl,hl',oh,qa];refine LpD.turns X hG [10,11] zL7 ?_;simp [hl,g2,g3];refine LpD.turns X hG [10,11] zL7 ?_
   by_cases k4:x.kind=4
   ·simp [k4] at oM
    by_cases o0:of=3
    ·simp [o0] at oM
     simp [k4,o0,oy,←oM,A0,Az]
    ·skip
     have c1:=fun H=>hf a 12 H
     simp at c1;simp [o0] at oM;simp [k4,o0,oy,←oM,c1]
   ·skip
    by_cases k7:x.kind=7
    ·simp [k4,k7] at oM
     by_cases o0:of=5
     ·simp [o0] at oM
      simp [k4,k7,o0,oy,←oM,A0,Az]
     ·skip
      by_cases o1:of=6
      ·simp [o0,o1] at oM
       simp [k4,k7,o0,o1,oy,←oM,A0,Az]
      ·skip
       have c1:=fun H=>hf a 12 H
       simp at c1;simp [o0,o1] at oM;simp [k4,k7,o0,o1,oy,←oM,c1]
    ·skip
     by_cases k6:x.kind=6
     ·simp [k4,k7,k6] at oM
      by_cases o0:of=5
      ·simp [o0] at oM
       simp [k4,k7,k6,o0,oy,←oM,A0,Az]
      ·skip
       have c1:=fun H=>hf a 12 H
       simp at c1;simp [o0] at oM;simp [k4,k7,k6,o0,oy,←oM,c1]
     ·skip
      by_cases k1:x.kind=1
      ·simp [k4,k7,k6,k1] at oM
       by_cases q1:pl=true
       ·simp [q1] at oM
        have c1:=fun H=>hf a 2 H
        simp [q1] at c1;simp only [q1] at f1;simp [k4,k7,k6,k1,q1,oy,←oM,c1]
       ·have q2:pl=false:=by simpa using q1
        subst q2
        by_cases q3:of=0
        ·simp [q3] at oM
         rw [←q3] at oM;have hI:=ol (.leaf a x) ⟨a+1,none,false⟩ (by simp only;omega) hl Bx oM;simp only [q3] at hI
         by_cases h0:out=[]
         ·subst h0
          have ap:=fun H ow fid=>Nf (H:=H) (fid:=fid) (ow:=ow) (Nd.leaf a x)
          simp only [Ha,Sx.c,List.cons_append,List.nil_append,k1] at ap;simp [k4,k7,k6,k1,q3,w1,ap]
          refine Nxt.mk k (by omega) (AD.mkV 100 (fun i=>if i=1 then 4 else i) 2 (by simp [qi]) (by intro i j hi hj h;split at h<;>split at h<;>omega) (by simp [qi]) rfl (by
           intro i hi;rcases (by omega:i=0∨i=1) with rfl|rfl
           ·simp [AH.at,bbx,AI,AL,ren,Enc.av_ren,FU,Az,A0]
           ·simp [AH.at,AO,AI]) (by simp [bbx,AO]) (by simp [ren,ndE.tk_ren,ndE.tk_strip,ndE.tk_low])) hI
         ·have ap:=fun H ow fid (h:AH.at H 1=some (.tok out.length))=>Nc (H:=H) (fid:=fid) (ow:=ow) out (Nd.leaf a x) h0 h (by omega)
          simp only [Ha,Sx.c,List.cons_append,List.nil_append,k1] at ap;have pa:AO out=some (.tok out.length):=C3 h0;rw [pa];simp [k4,k7,k6,k1,q3,w1,ap];exact Nxt.mk k (by omega) (AD.mkK 2 (by simp [qi]) (by simp [ndE.tk_low]) (by simp [bbx,AO,Az,A0]) (by simp [bbx,AO])) hI
        ·simp [q3] at oM
         have c1:=fun H=>hf a 2 H
         simp at c1;simp [k4,k7,k6,k1,q3,oy,←oM,c1]
      ·skip
       by_cases k3:x.kind=3
       ·simp [k4,k7,k6,k1,k3] at oM
        cases top with
        |true =>
         have hd:=hO.top.1 rfl;simp at oM;have c1:=fun H=>sT a 4 H
         simp at c1;simp [k4,k7,k6,k1,k3,hd,oy,←oM,c1]
        |false =>
         have hd:¬8≤dv:=fun h=>by have:=hO.top.2 h;cases this
         have c1:=fun H=>hO.nest rfl a x ⟨a,none,true⟩ H (by omega) (by rw [k3];decide) Bx hl
         have hg:=hn'.1.len (by simp only;omega);have rz:=hn'.2 rfl;have rf:=hn'.1.ok Bx;simp only at oM rz;generalize nest a x ⟨a,none,true⟩=m at *;obtain ⟨nd,s2⟩:=m;simp only at oM hg rz rf c1;simp only [Ha,Sx.c,k3] at c1;simp only [GK,Sx.c,bbx,Az,A0] at c1;simp at c1;cases oW:s2.bad with
         |some y =>
          have pM:¬erC (some y)=0:=fun h=>by rw [oW] at rf;have:=(FT rf).1 h;cases this
          simp [oW] at oM;rw [oW] at c1;simp [k4,k7,k6,k1,k3,hd,oy,←oM,c1,pM,oW]
         |none =>
          simp [oW] at oM;rw [oW] at c1;simp only [Az,A0] at c1;have hI:=ol nd s2 (by omega) hg rf oM
          by_cases h0:out=[]
          ·subst h0
           have ap:=fun H ow fid=>Nf (H:=H) (fid:=fid) (ow:=ow) nd
           simp only [GK,Sx.c,List.cons_append,List.nil_append] at ap;simp [k4,k7,k6,k1,k3,hd,c1,oW,ap]
           refine Nxt.mk k (by omega) (AD.mkV 100 (fun i=>if i=1 then 4 else i) 2 (by simp [qi]) (by intro i j hi hj h;split at h<;>split at h<;>omega) (by simp [qi]) rfl (by
            intro i hi;rcases (by omega:i=0∨i=1) with rfl|rfl
            ·simp [AH.at,bbx,AI,AL,ren,Enc.av_ren,FU,Az,A0,oW]
            ·simp [AH.at,AO,AI]) (by simp [bbx,AO]) (by simp [ren,ndE.tk_ren,ndE.tk_strip,ndE.tk_low])) hI
          ·have ap:=fun H ow fid (h:AH.at H 1=some (.tok out.length))=>Nc (H:=H) (fid:=fid) (ow:=ow) out nd h0 h (by omega)
           simp only [GK,Sx.c,List.cons_append,List.nil_append] at ap;have pa:AO out=some (.tok out.length):=C3 h0;rw [pa];simp [k4,k7,k6,k1,k3,hd,c1,oW,ap];exact Nxt.mk k (by omega) (AD.mkK 2 (by simp [qi]) (by simp [ndE.tk_low]) (by simp [bbx,AO,Az,A0,oW]) (by simp [bbx,AO])) hI
       ·skip
        by_cases k5:x.kind=5
        ·simp [k4,k7,k6,k1,k3,k5] at oM
         cases top with
         |true =>
          have hd:=hO.top.1 rfl;simp at oM;have c1:=fun H=>sT a 4 H
          simp at c1;simp [k4,k7,k6,k1,k3,k5,hd,oy,←oM,c1]
         |false =>
          have hd:¬8≤dv:=fun h=>by have:=hO.top.2 h;cases this
          have c1:=fun H=>hO.nest rfl a x ⟨a,none,true⟩ H (by omega) (by rw [k5];decide) Bx hl
          have hg:=hn'.1.len (by simp only;omega);have rz:=hn'.2 rfl;have rf:=hn'.1.ok Bx;simp only at oM rz;generalize nest a x ⟨a,none,true⟩=m at *;obtain ⟨nd,s2⟩:=m;simp only at oM hg rz rf c1;simp only [Ha,Sx.c,k5] at c1;simp only [GK,Sx.c,bbx,Az,A0] at c1;simp at c1;cases oW:s2.bad with
          |some y =>
           have pM:¬erC (some y)=0:=fun h=>by rw [oW] at rf;have:=(FT rf).1 h;cases this
           simp [oW] at oM;rw [oW] at c1;simp [k4,k7,k6,k1,k3,k5,hd,oy,←oM,c1,pM,oW]
          |none =>
           simp [oW] at oM;rw [oW] at c1;simp only [Az,A0] at c1;have hI:=ol nd s2 (by omega) hg rf oM
           by_cases h0:out=[]
           ·subst h0
            have ap:=fun H ow fid=>Nf (H:=H) (fid:=fid) (ow:=ow) nd
            simp only [GK,Sx.c,List.cons_append,List.nil_append] at ap;simp [k4,k7,k6,k1,k3,k5,hd,c1,oW,ap]
            refine Nxt.mk k (by omega) (AD.mkV 100 (fun i=>if i=1 then 4 else i) 2 (by simp [qi]) (by intro i j hi hj h;split at h<;>split at h<;>omega) (by simp [qi]) rfl (by
             intro i hi;rcases (by omega:i=0∨i=1) with rfl|rfl
             ·simp [AH.at,bbx,AI,AL,ren,Enc.av_ren,FU,Az,A0,oW]
             ·simp [AH.at,AO,AI]) (by simp [bbx,AO]) (by simp [ren,ndE.tk_ren,ndE.tk_strip,ndE.tk_low])) hI
           ·have ap:=fun H ow fid (h:AH.at H 1=some (.tok out.length))=>Nc (H:=H) (fid:=fid) (ow:=ow) out nd h0 h (by omega)
            simp only [GK,Sx.c,List.cons_append,List.nil_append] at ap;have pa:AO out=some (.tok out.length):=C3 h0;rw [pa];simp [k4,k7,k6,k1,k3,k5,hd,c1,oW,ap];exact Nxt.mk k (by omega) (AD.mkK 2 (by simp [qi]) (by simp [ndE.tk_low]) (by simp [bbx,AO,Az,A0,oW]) (by simp [bbx,AO])) hI
        ·skip
         simp [k4,k7,k6,k1,k3,k5] at oM;have hI:=ol (.leaf a x) ⟨a+1,none,true⟩ (by simp only;omega) hl Bx oM
         by_cases h0:out=[]
         ·subst h0
          have ap:=fun H ow fid=>Nf (H:=H) (fid:=fid) (ow:=ow) (Nd.leaf a x)
          simp only [Ha,Sx.c,List.cons_append,List.nil_append] at ap;simp [k4,k7,k6,k1,k3,k5,k1,w1,ap]
          refine Nxt.mk k (by omega) (AD.mkV 100 (fun i=>if i=1 then 4 else i) 2 (by simp [qi]) (by intro i j hi hj h;split at h<;>split at h<;>omega) (by simp [qi]) rfl (by
           intro i hi;rcases (by omega:i=0∨i=1) with rfl|rfl
           ·simp [AH.at,bbx,AI,AL,ren,Enc.av_ren,FU,Az,A0]
           ·simp [AH.at,AO,AI]) (by simp [bbx,AO]) (by simp [ren,ndE.tk_ren,ndE.tk_strip,ndE.tk_low])) hI
         ·have ap:=fun H ow fid (h:AH.at H 1=some (.tok out.length))=>Nc (H:=H) (fid:=fid) (ow:=ow) out (Nd.leaf a x) h0 h (by omega)
          simp only [Ha,Sx.c,List.cons_append,List.nil_append] at ap;have pa:AO out=some (.tok out.length):=C3 h0;rw [pa];simp [k4,k7,k6,k1,k3,k5,k1,w1,ap];exact Nxt.mk k (by omega) (AD.mkK 2 (by simp [qi]) (by simp [ndE.tk_low]) (by simp [bbx,AO,Az,A0]) (by simp [bbx,AO])) hI
  ·have hl':¬(a:Int)<Z.length:=by omega
   have oh:(Z.length:Int)≤a:=by omega
   have qa:Z.length≤a:=by omega
   have hz:Z[a]? = none:=List.getElem?_eq_none (by omega);simp only [hz] at oM
   by_cases h0:of=0
   ·simp only [h0,if_true] at oM
    simp [bbx,f1];refine LpD.turns X hG [] [] ?_;simp [hl,hl',oh,qa,h0,oy,←oM,A0,Az]
   ·simp only [h0,if_false] at oM
    have c1:=fun H=>hf beg 11 H
    simp at c1;simp [bbx,f1];refine LpD.turns X hG [] [] ?_;simp [hl,hl',oh,qa,h0,oy,←oM,c1]
noncomputable def Ng {ls:List (List UInt8)} {Z:Zs} (hZ:ZOk Z) {d:Nat} (hd:d<8) (hC:Na ls Z d):AF zP AJ:=AF.meth 58 (bdC ls Z) (NZ ls Z) (fun (x:Nat × Sx) s=>x.1<1000000∧x.2.kind≠0∧AP s.bad∧s.at_<Z.length)
 (fun _ x=>[.agg (ndC (.leaf x.1 x.2)),.int .i64 (7-(d:Int))]) (fun x s => .agg (ndC (HZ Z (E4 Z d) x.1 x.2 s).1)) (fun x s=>(HZ Z (E4 Z d) x.1 x.2 s).2)
 (fun x s h H id hH=>ko hZ hd hC x.1 h.1 x.2 h.2.1 s h.2.2.1 h.2.2.2 hH) (fun id x y s _ _ h=>by
  obtain ⟨a,b⟩:=x;obtain ⟨c,e⟩:=y;simp only [List.cons.injEq,AV.agg.injEq,true_and,and_true] at h;have h1:=P1 _ _ h;simp only [Nd.leaf,Nd.mk.injEq,and_true] at h1;have e1:a=c:=by omega
  rw [e1,h1.2.2]
  exact ⟨rfl,rfl⟩)
theorem Va (ls:List (List UInt8)) {Z:Zs} (hZ:ZOk Z):∀d,d≤8→Na ls Z d
 |0,_=>fun of beg s he ha H id hH=>by
  have hL:([Is ls Z hZ,Iu ls Z].map (·.f)).Nodup:=show ([56,57]:List Nat).Nodup by decide
  have X:=Bn [Is ls Z hZ,Iu ls Z] B4 Ad
  have hO:BlO (oOf [Is ls Z hZ,Iu ls Z]) ls Z (fun l x s=>(.leaf l x,s)) true 8:={
   skip:=fun s H h1 h2=>Bk hL (show Is ls Z hZ∈_ by simp) () s (H:=bbx ls Z s::H) (id:=0) rfl ⟨h1,h2⟩
   fail:=fun s p c H h1=>Bk hL (show Iu ls Z∈_ by simp) (p,c) s (H:=bbx ls Z s::H) (id:=0) rfl h1
   nest:=fun h=>by cases h
   top:=by simp}
  exact VZ X ls hZ (fun l x s h=>⟨Goes.refl Z s,fun h=>by cases h⟩) of beg hO s he ha hH
 |d+1,hd=>fun of beg s he ha H id hH=>by
  have hC:=Va ls hZ d (by omega);have hd':d<8:=by omega
  have hL:([Is ls Z hZ,Iu ls Z,Ng hZ hd' hC].map (·.f)).Nodup:=show ([56,57,58]:List Nat).Nodup by decide
  have X:=Bn [Is ls Z hZ,Iu ls Z,Ng hZ hd' hC] B4 Ad;have hdv:(8-((d+1:Nat):Int))=7-(d:Int):=by omega
  rw [hdv]
  have hO:BlO (oOf [Is ls Z hZ,Iu ls Z,Ng hZ hd' hC]) ls Z (HZ Z (E4 Z d)) false (7-(d:Int)):={
   skip:=fun s H h1 h2=>Bk hL (show Is ls Z hZ∈_ by simp) () s (H:=bbx ls Z s::H) (id:=0) rfl ⟨h1,h2⟩
   fail:=fun s p c H h1=>Bk hL (show Iu ls Z∈_ by simp) (p,c) s (H:=bbx ls Z s::H) (id:=0) rfl h1
   nest:=fun _ l x s H h1 h2 h3 h4=>Bk hL (show Ng hZ hd' hC∈_ by simp) (l,x) s (H:=bbx ls Z s::H) (id:=0) rfl ⟨h1,h2,h3,h4⟩
   top:=by
    constructor
    ·intro h;cases h
    ·intro h;omega}
  exact VZ X ls hZ (fun l x s h=>⟨(Qa (Lj hZ d) l x s h).1,fun _=>(Qa (Lj hZ d) l x s h).2⟩) of beg hO s he ha hH
def erG (e:Er):Prop:=AP e∧∀l c,e=some (l,c)→l.length≤2
theorem Nh:erG none:=⟨Bx,fun _ _ h=>by cases h⟩
theorem Iw {r:Sr} (h:erG r.err) (p:Nat) {c:Nat} (hc:c≠0):erG (r.fail p c).err:=by
 refine ⟨Sr.fail_ok h.1 p hc,fun l c' he => ?_⟩;unfold Sr.fail at he;cases hr:r.err with
 |none =>rw [hr] at he;simp only [Option.getD_none,Option.some.injEq,Prod.mk.injEq] at he;rw [←he.1];exact Nat.le_succ 1
 |some y =>rw [hr] at he;simp only [Option.getD_some] at he;exact h.2 l c' (by rw [hr];exact he)
theorem kr {r:Sr} (h:erG r.err):erG r.step.err:=h
theorem Qb {r:Sr} (h:erG r.err) (n:Nat) {x:Option (Nat × Nat)} (hx:BO x):erG (Cv r n x).err:=by
 refine ⟨(NY r n x).2.2.1 h.1 hx,fun l c he => ?_⟩;unfold Cv at he;cases hr:r.err with
 |some y =>rw [hr] at he;exact h.2 l c he
 |none =>
  rw [hr] at he;cases x with
  |none=>cases he
  |some y =>obtain ⟨p,c'⟩:=y;simp only [Option.some.injEq,Prod.mk.injEq] at he;rw [←he.1];exact Nat.le_refl 2
theorem Ix {ts:List Wd} {r:Sr} (h:erG r.err) (k:Nat) (s:List UInt8):erG (Bt ts r k s).err:=by
 unfold Bt
 split
 ·exact h
 ·exact Iw h _ (by decide)
theorem Vb {ts:List Wd} {r:Sr} (h:erG r.err):erG (CJ ts r).2.err:=by
 unfold CJ
 split
 ·exact h
 ·exact Iw h _ (by decide)
theorem Vc {ts:List Wd} {r:Sr} (h:erG r.err):erG (Ci ts r).2.err:=by
 unfold Ci
 split
 ·exact h
 ·exact Iw h _ (by decide)
theorem kt {ts:List Wd} {r:Sr} (h:erG r.err) (k:Nat) (s:List UInt8):erG (CG ts r k s).err:=by
 unfold CG
 split
 ·exact h
 ·exact h
theorem Ni {ts:List Wd} {r:Sr} (h:erG r.err):erG (CD ts r).2.err:=by
 unfold CD
 split
 ·exact h
 ·exact Qb h _ (Ps _)
theorem ku {ts:List Wd} {r:Sr} (h:erG r.err):erG (Ip ts r).2.err:=by
 unfold Ip
 split
 ·exact h
 ·exact Qb h _ (Pt _)
theorem Vd {ts:List Wd} {r:Sr} (h:erG r.err):erG (CV ts r).2.err:=by
 unfold CV
 split
 ·split
  ·exact Qb h _ (QV _ _ Cm)
  ·exact h
 ·exact Iw h _ (by decide)
theorem Ve {ts:List Wd}:∀(n:Nat) (d:List Int) {r:Sr},erG r.err→erG (ES ts n d r).2.err
 |0,d,r,h=>h
 |n+1,d,r,h=>by
  rw [ES]
  have h1:erG (if 4≤d.length then r.fail (r.at_-1) 4 else r).err:=by
   split
   ·exact Iw h _ (by decide)
   ·exact h
  generalize (if 4≤d.length then r.fail (r.at_-1) 4 else r)=r1 at *;have h2:=Vc (ts:=ts) h1;generalize Ci ts r1=m at *
  have h3:erG (if m.2.err=none∧m.1=0 then m.2.fail r1.at_ 1 else m.2).err:=by
   split
   ·exact Iw h2 _ (by decide)
   ·exact h2
  generalize (if m.2.err=none∧m.1=0 then m.2.fail r1.at_ 1 else m.2)=r2 at *
  split
  ·exact Ve n _ (r:=r2.step) h3
  ·exact h3
theorem kv {ts:List Wd} {r:Sr} (h:erG r.err):erG (CT ts r).2.err:=by
 unfold CT;have h1:=Vb (ts:=ts) h;simp only
 split
 ·exact Ix (Ve _ _ (r:=(CJ ts r).2.step) h1) _ _
 ·exact h1
theorem Vf {ts:List Wd}:∀(n:Nat) (l:List It) {r:Sr},erG r.err→erG (Fy ts n l r).2.err
 |0,l,r,h=>h
 |n+1,l,r,h=>by
  rw [Fy];have h1:=kv (ts:=ts) h
  split
  ·exact Vf n _ (r:=(CT ts r).2.step) h1
  ·exact h1
theorem kw {ts:List Wd} {r:Sr} (h:erG r.err):erG (FS ts r).2.err:=by
 unfold FS La;have h1:=Ni (ts:=ts) (Ix (ts:=ts) (Ni (ts:=ts) (Ix (ts:=ts) (Vb (ts:=ts) h) 3 isT)) 3 A4);simp only
 split
 ·exact Vc (kt (kr h1) _ _)
 ·exact h1
theorem kx {ts:List Wd} (s:List UInt8) {r:Sr} (h:erG r.err):erG (Cf ts s r).2.err:=by
 unfold Cf
 split
 ·exact Vf _ _ h
 ·split
  ·exact kw h
  ·split
   ·split
    ·exact h
    ·exact Ix h _ _
   ·split
    ·exact Ix (Ix (ku (Ix h _ _)) _ _) _ _
    ·split
     ·exact h
     ·split
      ·exact Vd h
      ·split
       ·exact Ni h
       ·exact Iw h _ (by decide)
theorem ky (ts:List Wd) (w:Wd):erG (ET ts w).2.err:=by
 unfold ET
 split
 ·exact kx _ Nh
 ·split
  ·exact Ni (Ix (Vd Nh) _ _)
  ·exact ⟨Ii (by simp) (by decide),fun l c h=>by injection h with h;injection h with h1 h2;rw [←h1];exact Nat.le_succ 1⟩
theorem kz (ts:List Wd):erG (Lb ts).2:=by
 cases ts with
 |nil=>exact Nh
 |cons w ts =>
  unfold Lb;have h1:=ky (w::ts) w;simp only;generalize ET (w::ts) w=x at *
  have h2:erG (if x.2.err=none∧x.2.at_<(w::ts).length then x.2.fail x.2.at_ 2 else x.2).err:=by
   split
   ·exact Iw h1 _ (by decide)
   ·exact h1
  generalize (if x.2.err=none∧x.2.at_<(w::ts).length then x.2.fail x.2.at_ 2 else x.2)=r at *
  split
  ·rename_i h;rw [h] at h2;exact h2
  ·exact Nh
theorem lA (b:List UInt8):erG (E2 b).2:=by
 unfold E2
 split
 ·rename_i p e h
  exact ⟨Ii (by simp) (UN _ _ _ _ _ _ h),fun l c h=>by injection h with h;injection h with h1 h2;rw [←h1];exact Nat.le_refl 2⟩
 ·exact kz _
def Cg (ls:List (List UInt8)):Zs:=ls.map fun s=>((E2 (CC s)).1.x,(E2 (CC s)).2)
theorem Vg (ls:List (List UInt8)):(Cg ls).length=ls.length:=by simp [Cg]
theorem lB {ls:List (List UInt8)} (h:ls.length<1000000):ZOk (Cg ls):=by refine ⟨by rw [Vg];exact h,fun z hz => ?_⟩;obtain ⟨s,_,rfl⟩:=List.mem_map.1 hz;have hg:=lA (CC s);exact ⟨hg.1,fun l c h=>by have:=hg.2 l c h;omega⟩
def FW (ls:List (List UInt8)):List Nd × Er :=
 let b:=E4 (Cg ls) 8 0 0 ⟨0,none,false⟩
 match b.2.bad with
 |some y=>([],some y)
 |none=>(b.1,none)
noncomputable def Nj:AF zP AJ:=AF.pure 28 (fun s:List UInt8=>s.length<1000000) (fun s=>[.str s]) (fun s=>FV (E2 (CC s))) (fun s h H=>ke s h H) (fun x y _ _ h=>by
 simp only [List.cons.injEq,AV.str.injEq,and_true] at h
 rw [h])
def Iy (x:List Nd × Er):AV := .tup [ndE.av x.1,erA x.2]
@[simp high] theorem oE (l:List (List UInt8)):alen zP 25 (BL.av l)=some (.int .i64 l.length):=BL.alen Tryz.underlying25 l
@[simp high] theorem lC {l:List (List UInt8)} {i:Nat} (h:i<l.length):Ao zP 25 (BL.av l) (.int .i64 (i:Int))=some (.vptr (BL.row l) (i*1)):=BL.aidx Tryz.underlying25 (by kernel_rfl) h
@[simp high] theorem oF {l:List (List UInt8)} (h:0<l.length):Ao zP 25 (BL.av l) (.int .i64 0)=some (.vptr (BL.row l) 0):=lC (i:=0) h
@[simp] theorem buBd (ls:List (List UInt8)):Aq zP 115 [(0,BL.av ls)]=some (.agg [BL.av ls,.nilSlice,.nilSlice,.int .i64 0,.nilSlice,.int .i64 0,.bool false]):=by
 unfold Enc.av
 split<;>kernel_rfl
@[simp] theorem bsSx (c0 c1 c2 c3 c4 c5 c6 c7 c8 c9 c10 c11 c12 c13 c14 c15 c16 c17 c18 c19 c20 c21 c22 c23 c24 c25 c26 c27 c28:AV):CK zP 112 1 [(0,.agg [c0,c1,c2,c3,c4,c5,c6,c7,c8,c9,c10,c11,c12,c13,c14,c15,c16,c17,c18,c19,c20,c21,c22,c23,c24,c25,c26,c27,c28])]=some (.slice .full 29 1 [c0,c1,c2,c3,c4,c5,c6,c7,c8,c9,c10,c11,c12,c13,c14,c15,c16,c17,c18,c19,c20,c21,c22,c23,c24,c25,c26,c27,c28]):=by kernel_rfl
@[simp] theorem bsWr (a b:AV):CK zP 113 1 [(0,.agg [a,b])]=some (.slice .full 2 1 [a,b]):=by kernel_rfl
theorem Vh:Bg zP 112 29=true:=by kernel_rfl
theorem Vi:Bg zP 113 2=true:=by kernel_rfl
theorem AD.boxStrip {B:Bs} {t:List AV} {H:AH} (id n:Nat) {cs:List AV} (h:H.at id=some (.box cs)):AD B t H t (H.set id (some (.box (CU n cs)))):=by
 intro a w hs;obtain ⟨g,R,p,hT,hd⟩:=hs;refine ⟨g,⟨R.imm,?_,?_,R.inj,R.blk⟩,⟨p.le,?_,p.new,p.old,p.size,p.os,p.tape,p.output⟩,hT,hd⟩
 ·intro i hi
  rw [AH.at_set] at hi
  split at hi
  ·cases hi
  ·exact R.free i hi
 ·intro i e he oL
  rw [AH.at_set] at he
  split at he
  ·rename_i hh
   obtain ⟨rfl,_⟩:=hh;simp only [Option.some.injEq] at he;subst he;obtain ⟨ge,h1,h2⟩:=R.ent id _ h (by simp);refine ⟨ge,h1,?_⟩;cases ge with
   |box b =>obtain ⟨vs,el,h3,h4,h5⟩:=h2;exact ⟨vs,el,h3,AB.strip n _ _ h4,h5⟩
   |tok=>exact h2
  ·exact R.ent i e he oL
 ·intro i hi
  obtain ⟨h1,h2⟩:=p.hid i hi;refine ⟨h1,?_⟩;rw [AH.at_set,if_neg]
  ·exact h2
  ·rintro ⟨rfl,_⟩
   rw [h] at h2;cases h2
theorem Nk {α:Type} (E:Enc α) {P:Program} {H:AH} {fid k:Nat} {t:TypeId} {ow:Own} (h:Bg P t E.sz=true) (l:List α) (x:α) (h0:l≠[]) (hk:H.at k=some (.tok l.length)) (hb:l.length+1≤137438953472) :
  DO P H fid t t (E.tk k l) (.slice ow E.sz 1 (E.c x))=some (E.tk k (l++[x]),[(k,.tok (l.length+1))]):=by
 rw [E.tk_ne k h0,E.tk_ne k (by simp),List.length_append];exact E.app1_tok h l x rfl hk hb
theorem Nl {α:Type} (E:Enc α) {P:Program} {H:AH} {fid:Nat} {t:TypeId} {ow:Own} (h:Bg P t E.sz=true) (x:α) :
  DO P H fid t t .nilSlice (.slice ow E.sz 1 (E.c x))=some (E.tk fid [x],[(fid,.tok 1)]):=by
 rw [E.tk_ne fid (by simp),E.row_one1];exact E.app1_nil h x
theorem Iz {α:Type} (E:Enc α) (k:Nat) {l:List α} (h:l≠[]):BN (E.tk k l)=[k]:=by rw [E.tk_ne k h];simp only [BN,JF _ (E.row_low l)]
def trT (ls:List (List UInt8)) (i:Nat):List AV:=mkT 60 [(0,BL.av ls),(3,.ptr 0 0),(4,.ptr 1 0),(5,.int .i64 (i:Int))]
def trH (ls:List (List UInt8)) (i:Nat):AH:=[some (.box [.nilSlice,.int .i64 0]),some (.box [BL.av ls,sxE.tk 2 (Cg (ls.take i)).L,wrE.tk 3 (Cg (ls.take i)).W,.int .i64 0,.nilSlice,.int .i64 0,.bool false]),AO (Cg (ls.take i)).L,AO (Cg (ls.take i)).W]
def trF (ls:List (List UInt8)):AH:=[some (.box [.nilSlice,.int .i64 0]),bbx ls (Cg ls) ⟨0,none,false⟩]
theorem Vj {B:Bs} (hB:B.H=[]) (ls:List (List UInt8)):AD B (trT ls ls.length) (trH ls ls.length) (trT ls ls.length) (trF ls):=by have h1:=AD.boxStrip (B:=B) (t:=trT ls ls.length) (H:=trH ls ls.length) 1 2 rfl;refine h1.trans (AD.mkK 2 (by simp [hB]) (by simp) ?_ (by simp [trF,bbx]));simp [trH,trF,bbx,CU,Enc.tk_cut,Enc.av_strip,Az,A0,strip]
def TrI (ls:List (List UInt8)) (k:Nat) (t:List AV) (H:AH):Prop:=∃i,i+k=ls.length∧t=trT ls i∧H=if k=0 then trF ls else trH ls i
theorem lD (ls:List (List UInt8)) (xi:ls.length<1000000) (hl:∀s∈ls,s.length<1000000) (H:AH):CS zP AJ 19 [BL.av ls] H (Iy (FW ls)) H:=by
 have hZ:=lB xi;have hC:=Va ls hZ 8 (by decide);have hL:([Nj,Iv hC].map (·.f)).Nodup:=show ([28,29]:List Nat).Nodup by decide
 have X:=Bn [Nj,Iv hC] B4 Ad;have f1:=fun (s:List UInt8) (H:AH) (h:s.length<1000000)=>C0 hL (show Nj∈_ by simp) s h H
 have f2:=fun e0 (s:Bst) (H:AH) (h1:AP s.bad) (h2:s.at_≤(Cg ls).length)=>Bk hL (show Iv hC∈_ by simp) (0,0) s (H:=e0::bbx ls (Cg ls) s::H) (id:=1) rfl ⟨h1,h2⟩
 generalize oOf [Nj,Iv hC]=O at X f1 f2;refine CS.tr0 Bh Tryz.func19 (by kernel_rfl) 0 (by simp [Tryz.f19]) (fun B hB hG => ?_) (by simp [Iy]) (by simp) H;refine Tr.goD X hG ?_;simp [Tryz.f19];have zD5:Cg (ls.take 0)=[]:=rfl;refine LpD.loopN X hG (TrI ls) ls.length (t':=trT ls 0) (H':=if ls.length=0 then trF ls else trH ls 0) ?_ ⟨0,by omega,rfl,rfl⟩ ?_
 ·have h1:AD B (trT ls 0) (trH ls 0) (trT ls 0) (if ls.length=0 then trF ls else trH ls 0):=by
   split
   ·rename_i h0
    have:=Vj hB ls;rw [h0] at this;exact this
   ·exact AD.refl
  refine AD.trans (AD.mkV 100 (fun i=>i) 4 (by simp [hB]) (by simp) (by simp) rfl (by
   intro i hi;rcases (by omega:i=0∨i=1∨i=2∨i=3) with rfl|rfl|rfl|rfl
   ·simp [AH.at,trH,AI,AL,ren]
   ·simp [AH.at,trH,AI,AL,ren,Enc.av_ren,Cg,Zs.L,Zs.W]
   ·simp [AH.at,trH,Cg,Zs.L]
   ·simp [AH.at,trH,Cg,Zs.W]) (by simp [trH,Cg,Zs.L,Zs.W]) (by simp [ren,Enc.av_ren])) h1
 rintro k t H ⟨i,oQ,rfl,rfl⟩;cases k with
 |zero =>
  obtain rfl:i=ls.length:=by omega
  have g1:=fun e0 H=>f2 e0 ⟨0,none,false⟩ H Bx (Nat.zero_le _)
  have b1:=((Lj hZ 8).goes 0 0 ⟨0,none,false⟩).ok Bx;unfold FW;generalize E4 (Cg ls) 8 0 0 ⟨0,none,false⟩=b at *;obtain ⟨nb,r⟩:=b;simp only at b1 g1 ⊢;simp [bbx,Az,A0] at g1;have uc:(if (0:Nat)=0 then trF ls else trH ls ls.length)=trF ls:=if_pos rfl
  try rw [uc]
  cases hb:r.bad with
  |none =>rw [hb] at g1;simp only [Az,A0] at g1;simp [trT,trF,bbx,Az,A0,g1,Iy]
  |some y =>
   rw [hb] at g1 b1;have pM:¬erC (some y)=0:=fun h=>by have:=(FT b1).1 h;cases this
   simp [trT,trF,bbx,Az,A0,g1,pM];refine LpD.turns X hG [5] [] ?_;simp [Iy]
 |succ k =>
  have hi:i<ls.length:=by omega
  rw [if_neg (by omega)];obtain ⟨s,hs⟩:∃s,ls[i]? = some s:=⟨_,List.getElem?_eq_getElem hi⟩
  have uQ:=hl s (List.mem_of_getElem? hs);have g0:(BL.row ls)[i*1+0]? = some (.str s):=BL.row_cell hs 0 (by decide);simp only [Nat.mul_one,Nat.add_zero] at g0;have g1:=fun H=>f1 s H uQ
  have oe:ls.take (i+1)=ls.take i++[s]:=by rw [List.take_add_one,hs];rfl
  have hz:Cg (ls.take (i+1))=Cg (ls.take i)++[((E2 (CC s)).1.x,(E2 (CC s)).2)]:=by rw [oe,Cg,List.map_append];rfl
  have oT:(Cg (ls.take i)).length=i:=by rw [Vg,List.length_take];omega
  have hI:TrI ls k (trT ls (i+1)) (if k=0 then trF ls else trH ls (i+1)):=⟨i+1,by omega,rfl,rfl⟩
  have oy:AD B (trT ls (i+1)) (trH ls (i+1)) (trT ls (i+1)) (if k=0 then trF ls else trH ls (i+1)):=by
   split
   ·have:=Vj hB ls
    rw [show i+1=ls.length by omega];exact this
   ·exact AD.refl
  have tP:∀{t H},AD B t H (trT ls (i+1)) (trH ls (i+1))→AD B t H (trT ls (i+1)) (if k=0 then trF ls else trH ls (i+1)):=fun h=>h.trans oy
  generalize (if k=0 then trF ls else trH ls (i+1))=Hn at *
  have hH:trH ls (i+1)=[some (.box [.nilSlice,.int .i64 0]),some (.box [BL.av ls,sxE.tk 2 ((Cg (ls.take i)).L++[(E2 (CC s)).1.x]),wrE.tk 3 ((Cg (ls.take i)).W++[(E2 (CC s)).2]),.int .i64 0,.nilSlice,.int .i64 0,.bool false]),AO ((Cg (ls.take i)).L++[(E2 (CC s)).1.x]),AO ((Cg (ls.take i)).W++[(E2 (CC s)).2])]:=by unfold trH;rw [hz];simp [Zs.L,Zs.W]
  rw [hH] at tP;clear hH oy hz oe;simp only [FV] at g1;generalize (E2 (CC s)).1.x=x at *;generalize (E2 (CC s)).2=e at *;simp only [Sx.c,Ld] at g1;have w1:IntKind.i64.wrap ((i:Int)+1)=(i:Int)+1:=Ab (by omega) (by omega);have hi':(i:Int)<ls.length:=by omega
  unfold trH;have se:(Cg (ls.take i)).L.length=i:=by rw [Zs.L_len,oT]
  have sh:(Cg (ls.take i)).W.length=i:=by rw [Zs.W_len,oT]
  generalize (Cg (ls.take i)).L=L at *;generalize (Cg (ls.take i)).W=W at *
  by_cases h0:i=0
  ·subst h0
   obtain rfl:=List.eq_nil_of_length_eq_zero se;obtain rfl:=List.eq_nil_of_length_eq_zero sh;simp only [List.nil_append] at tP;have a1:=fun H ow fid=>Nl sxE (P:=zP) (H:=H) (ow:=ow) (fid:=fid) Vh x
   have a2:=fun H ow fid=>Nl wrE (P:=zP) (H:=H) (ow:=ow) (fid:=fid) Vi e
   have e1:sxE.c x=x.c:=rfl;have e2:wrE.c e=[erP e,.int .i64 (erC e)]:=rfl;have e3:sxE.sz=29:=rfl;have e4:wrE.sz=2:=rfl;rw [e1,Sx.c,e3] at a1;rw [e2,e4] at a2;have i1:=fun k=>Iz sxE k (l:=[x]) (by simp)
   have i2:=fun k=>Iz wrE k (l:=[e]) (by simp)
   have t1:AO [x]=some (.tok 1):=rfl;have t2:AO [e]=some (.tok 1):=rfl;rw [t1,t2] at tP;simp [trT,hi,hi',g0,g1];refine LpD.turns X hG [7,10] [(0,7)] ?_;simp [a1,i1];refine LpD.turns X hG [7,10] [(0,7)] ?_;simp [a2,w1,i1,i2]
   refine Nxt.mk k (by omega) (tP (AD.mkV 100 (fun i=>if i=2 then 6 else if i=3 then 7 else i) 4 (by simp [hB]) (by
    intro i j hi hj h
    rcases (by omega:i=0∨i=1∨i=2∨i=3) with rfl|rfl|rfl|rfl<;>rcases (by omega:j=0∨j=1∨j=2∨j=3) with rfl|rfl|rfl|rfl<;>simp at h ⊢) (by simp [hB]) rfl (by
    intro i hi;rcases (by omega:i=0∨i=1∨i=2∨i=3) with rfl|rfl|rfl|rfl
    ·simp [AH.at,AI,AL,ren]
    ·simp [AH.at,AI,AL,ren,Enc.av_ren,Enc.tk_ren]
    ·simp [AH.at,AI]
    ·simp [AH.at,AI]) (by simp [Enc.tk_low]) (by
    have w0:IntKind.i64.wrap 1=1:=by decide
    simp [ren,Enc.av_ren,w0]))) hI
  ·have t6:L≠[]:=fun h=>by rw [h] at se;exact h0 se.symm
   have wQ:W≠[]:=fun h=>by rw [h] at sh;exact h0 sh.symm
   have a1:=fun H ow fid (h:AH.at H 2=some (.tok i))=>Nk sxE (P:=zP) (H:=H) (ow:=ow) (fid:=fid) (k:=2) Vh L x t6 (by rw [se];exact h) (by omega)
   have a2:=fun H ow fid (h:AH.at H 3=some (.tok i))=>Nk wrE (P:=zP) (H:=H) (ow:=ow) (fid:=fid) (k:=3) Vi W e wQ (by rw [sh];exact h) (by omega)
   have t1:AO L=some (.tok i):=by rw [C3 t6,se]
   have t2:AO W=some (.tok i):=by rw [C3 wQ,sh]
   have t3:AO (L++[x])=some (.tok (i+1)):=by rw [C3 (by simp),List.length_append,se];rfl
   have t4:AO (W++[e])=some (.tok (i+1)):=by rw [C3 (by simp),List.length_append,sh];rfl
   have e1:sxE.c x=x.c:=rfl;have e2:wrE.c e=[erP e,.int .i64 (erC e)]:=rfl;have e3:sxE.sz=29:=rfl;have e4:wrE.sz=2:=rfl;rw [e1,Sx.c,se,e3] at a1;rw [e2,sh,e4] at a2;rw [t3,t4] at tP;rw [t1,t2];have i1:=Iz sxE 2 t6;have i2:=Iz wrE 3 wQ;have i3:=Iz sxE 2 (l:=L++[x]) (by simp);have i4:=Iz wrE 3 (l:=W++[e]) (by simp);simp [trT,hi,hi',g0,g1,i1,i2];refine LpD.turns X hG [7,10] [(0,7)] ?_;simp [a1,i1,i2,i3];refine LpD.turns X hG [7,10] [(0,7)] ?_;simp [a2,w1,i2,i3,i4];refine Nxt.mk k (by omega) (tP (AD.mkK 4 (by simp [hB]) (by simp) (by simp) (by simp [Enc.tk_low]))) hI
def Hb (ls:List (List UInt8)) (i:Nat):List AV:=mkT 59 [(0,BL.av ls),(2,.nilSlice),(3,.nilIface),(4,.ptr 0 0),(11,BL.av ls),(12,.int .i64 (ls.length:Int)),(13,.int .i64 (i:Int))]
def Vk (ls:List (List UInt8)) (k:Nat) (t:List AV) (H:AH):Prop:=∃i s,i+k=ls.length∧t=Hb ls i∧H=bdH s∧s.ok i∧s.fs.length≤8∧s.lin∧ofL (ls.drop i) i s=ofW ls
def Hc (x:List Nd × Er):AV := .tup [ndE.av x.1,erI x.2]
theorem Vl {B:Bs} (hB:B.H=[]) (ls:List (List UInt8)) {t:List AV} {H:AH} {k i:Nat} {s:Bd} (hk:(i+1)+k=ls.length) (hs:s.ok (i+1)) (hd:s.fs.length≤8) (hl:s.lin) (he:ofL (ls.drop (i+1)) (i+1) s=ofW ls)
  (h:AD B t H (Hb ls (i+1)) (bdH s)):Nxt B (Vk ls) (k+1) t H:=Nxt.mk k (by omega) h ⟨i+1,s,hk,rfl,rfl,hs,hd,hl,he⟩
@[simp] theorem buBd0:Aq zP 122 []=some (.agg [.nilSlice,.nilPtr,.int .i64 0,.bool false]):=by kernel_rfl
theorem lF (s:Bd):AH.at (bdH s) 0=some (.box (Bd.c s)):=rfl
theorem lG (ls:List (List UInt8)) (xi:ls.length<1000000) (hl:∀s∈ls,s.length<1000000) (H:AH):CS zP A7 21 [BL.av ls] H (Hc (ofW ls)) H:=by
 have hL:([(Ei NN),(Ei NM)].map (·.f)).Nodup:=show ([30,32]:List Nat).Nodup by decide
 have X:=(Bn [(Ei NN),(Ei NM)] NB Ad).toW (S:=[30]);have f1:=fun (s:List UInt8) (H:AH) (h:s.length<1000000)=>DS hL (Ei NN) (by simp) (x:=s) (H:=H) h
 have f2:=fun (p:Int) (l:List (List UInt8 × Int)) (c:Int) (H:AH)=>DS hL (Ei NM) (by simp) (x:=(p,l,c)) (H:=H) trivial
 generalize oOf [(Ei NN),(Ei NM)]=O at X f1 f2;have f1:∀(s:List UInt8) (H:AH) (h:s.length<1000000),O 30 [.str s] H=some (G2 (KH (CC s)),H):=f1;have f2:∀(p:Int) (l:List (List UInt8 × Int)) (c:Int) (H:AH),O 32 [.int .i64 p,Ac l c] H=some (Ac ((Ce,p)::l) c,H):=f2;refine CS.tr0 HS Tryz.func21 (by kernel_rfl) 0 (by simp [Tryz.f21]) (fun B hB hG => ?_) (by simp [Hc]) (by simp) H;refine Tr.goW X hG ?_;simp [Tryz.f21];refine LpD.loopW [30] hG (Vk ls) ls.length (t':=Hb ls 0) (H':=bdH bd0) ?_ ⟨0,bd0,by omega,rfl,rfl,⟨Nat.zero_le _,fun _ hf=>absurd hf List.not_mem_nil⟩,by decide,fun _ hf=>absurd hf List.not_mem_nil,rfl⟩ ?_
 ·refine AD.mkV 1000 (fun i=>i) 2 (by simp [hB]) (fun i j _ _ h=>h) (fun i _=>rfl) rfl ?_ ?_ ?_
  ·intro i hi
   rcases (by omega:i=0∨i=1) with rfl|rfl
   ·simp [bdH,bd0,Bd.c,Je,AI,AL,ren]
   ·simp [bdH,bd0]
  ·simp [bdH,bd0,Bd.c,Je,frH]
  ·simp [Hb,ren,Enc.av_ren]
 rintro k t H ⟨i,s,oQ,rfl,rfl,hs,hd,wR,he⟩;cases k with
 |zero =>
  refine ⟨O,X,?_⟩;obtain rfl:i=ls.length:=by omega
  rw [List.drop_length,ofL] at he;rw [←he];have c0:=lF s;have uc:AU (bdH s).length (bdH s)=true:=ER _ _ (by rw [BT];exact Nat.le_refl _);obtain ⟨l,fs,o⟩:=s;cases fs with
  |nil =>simp only [Bd.c,Je,List.length_nil] at c0;have oy:=ndE.tk_cut (k:=1) (n:=0) (by decide) l;simp [Hb,bdH,Bd.c,Je,Hc,oy]
  |cons f r =>
   have cF:=Hz l f r o [];rw [List.append_nil] at cF;simp only [Fr.c,Fr.pre,Sx.c,List.cons_append,List.nil_append] at cF;simp only [Bd.c,Jd,List.length_cons] at c0;have f2:=fun H=>f2 f.line [] 11 H
   generalize bdH ⟨l,f::r,o⟩=H at *;simp only [Ac] at f2;have oc:((f.line.toNat:Nat):Int)=f.line:=Int.toNat_of_nonneg (wR f List.mem_cons_self);have hz:erI (some ([(Ce,f.line.toNat)],11))=Ac [(Ce,f.line)] 11:=by simp [iV,Cn,oc]
   simp [-AH.at,Hb,c0,cF,f2,Hc,hz,Ac]
 |succ k =>
  have hi:i<ls.length:=by omega
  obtain ⟨b,hb⟩:∃b,ls[i]? = some b:=⟨_,List.getElem?_eq_getElem hi⟩
  have rn:=hl b (List.mem_of_getElem? hb);have g0:(BL.row ls)[i*1+0]? = some (.str b):=BL.row_cell hb 0 (by decide);simp only [Nat.mul_one,Nat.add_zero] at g0
  have pC:ls.drop i=b::ls.drop (i+1):=by rw [List.drop_eq_getElem_cons hi];rw [List.getElem?_eq_getElem hi] at hb;injection hb with hb;rw [hb]
  rw [pC,ofL] at he;have g1:=fun H=>f1 b H rn
  have oU:0<(bdH s).length:=by rw [BT];omega
  have uc:AU (bdH s).length (bdH s)=true:=ER _ _ (by rw [BT];exact Nat.le_refl _);have hi':(i:Int)<ls.length:=by omega
  have w1:IntKind.i64.wrap ((i:Int)+1)=((i+1:Nat):Int):=by rw [Ab (by omega) (by omega)];rfl
  have sZ:IntKind.i64.wrap ((i:Int)+1)=(i:Int)+1:=Ab (by omega) (by omega);generalize hp:KH (CC b)=p at *;obtain ⟨m,er⟩:=p;simp only [G2] at g1;cases er with
  |some y =>
   refine ⟨O,X,?_⟩;simp only at he;rw [←he]
   have g2:∀H,O 32 [.int .i64 (i:Int),erI (some y)] H=some (erI (some ((Ce,i)::y.1,y.2)),H):=fun H=>by obtain ⟨l,c⟩:=y;exact f2 i (Cn l) c H
   generalize m.x=x at *;generalize bdH s=H at *;simp only [Sx.c] at g1;simp [-AH.at,Hb,hi,hi',g0,g1,g2,D1,D2,Hc]
  |none =>
   simp only at he;have hk:m.x.kind=(m.kind:Int):=rfl
   by_cases h0:m.kind=0
   ·rw [if_pos h0] at he
    refine ⟨O,X,?_⟩;rw [h0] at hk;generalize m.x=x at *;have ol:=fun {t H}=>Vl (t:=t) (H:=H) hB ls (k:=k) (by omega) (Bd.ok_mono (Nat.le_succ i) hs) hd wR he
    generalize pQ:bdH s=H at *;simp only [Sx.c] at g1;simp [-AH.at,Hb,hi,hi',g0,g1,D1,D2,hk,sZ];refine ol (AD.mkK H.length (by simp [hB]) ?_ (List.take_left' rfl) uc);simp [oU]
   ·rw [if_neg h0] at he
    have qP:¬m.x.kind=0:=by rw [hk];omega
    obtain ⟨Y,xj,oO,oV⟩:=jj s m.x (i:Int) hs (by omega) hd;have oq:low 0 (CP (s.add m.x i).2)=true:=by unfold CP;split<;>rfl
    have oZ:=CS.behind1 (some (.box m.x.c)) xj oO (by simp [Sx.c_low,Am (Nat.zero_le _) _ (Sx.c_low m.x),low,oU]) oq uc oV;have pA:=U1 (bdH s).length (some (.box m.x.c)) (bdH (s.add m.x i).1++Y) oO;have hs':=Bd.add_ok hs m.x i;have hd':=Bd.add_len hd m.x i;have hl':=Bd.add_lin wR m.x (Int.natCast_nonneg i);generalize Io (bdH s).length (some (.box m.x.c)) (bdH (s.add m.x i).1++Y)=H3 at oZ pA;have X':=Fh oZ X;have hO:=FD 31 [.ptr 0 0,.agg m.x.c,.int .i64 (i:Int)] (bdH s++[some (.box m.x.c)]) (CP (s.add m.x i).2) H3 O;have g1:∀H,orP 31 [.ptr 0 0,.agg m.x.c,.int .i64 (i:Int)] (bdH s++[some (.box m.x.c)]) (CP (s.add m.x i).2) H3 O 30 [.str b] H=some (.tup [.agg m.x.c,.nilIface],H):=fun H=>by rw [JG (by decide)];exact g1 H
    have g2:∀l c H,orP 31 [.ptr 0 0,.agg m.x.c,.int .i64 (i:Int)] (bdH s++[some (.box m.x.c)]) (CP (s.add m.x i).2) H3 O 32 [.int .i64 (i:Int),Ac l c] H=some (Ac ((Ce,(i:Int))::l) c,H):=fun l c H=>by rw [JG (by decide)];exact f2 i l c H
    refine ⟨_,X',?_⟩;generalize orP 31 [.ptr 0 0,.agg m.x.c,.int .i64 (i:Int)] (bdH s++[some (.box m.x.c)]) (CP (s.add m.x i).2) H3 O=O' at hO g1 g2;clear X' oZ xj f1 f2 hp;generalize hq:s.add m.x i=q at *;obtain ⟨s',c⟩:=q;simp only at he hO hs' hd' hl' pA oV oO;have vi:0<(bdH s').length:=by rw [BT];omega
    by_cases hc:c=0
    ·rw [if_pos hc] at he
     subst hc;have ol:=fun {t H}=>Vl (t:=t) (H:=H) hB ls (k:=k) (by omega) hs' hd' hl' he
     have hHs:AU (bdH s').length (bdH s')=true:=ER _ _ (by rw [BT];exact Nat.le_refl _);have hcc:CP 0 = .nilIface:=rfl;rw [hcc] at hO;have yQ:psB (bdH s).length 0=0:=if_pos oU;generalize bdH s=H at *;simp only [Sx.c] at g1 hO;simp [-AH.at,Hb,hi,hi',g0,g1,hO,D1,D2,qP,sZ];refine ol (AD.mkV 1000 (psB H.length) (bdH s').length (by simp [hB]) (fun a b _ _ h=>U0 _ a b h) (fun a ha=>by rw [hB] at ha;simp at ha) rfl ?_ hHs ?_)
     ·intro a ha
      rw [pA a,Gy ha]
     ·simp [vi,yQ,ren,Enc.av_ren,strip]
    ·rw [if_neg hc] at he
     rw [←he];rw [jn hc] at hO;have g2:=fun H=>g2 [] c H
     have hz:erI (some ([(Ce,i)],c))=Ac [(Ce,(i:Int))] (c:Int):=rfl;have oL:∀H:AH,aeq zP 35 (Ac [] (c:Int)) .nilIface=some false:=fun _=>by simp [Ac]
     generalize bdH s=H at *;simp only [Sx.c] at g1 hO;simp only [Ac] at g2 hO hz;simp [-AH.at,Hb,hi,hi',g0,g1,hO,D1,D2,qP,sZ,Hc,hz,g2]
section
variable {fc:FuncId} {σ:Type}
mutual
def szN:Nd→Nat
 |.mk _ _ _ b c _=>1+szL b+szL c
def szL:List Nd→Nat
 |[]=>0
 |n::r=>szN n+szL r
end
theorem Qc (n:Nd):szN n=1+szL n.body+szL n.els:=by cases n;rw [szN];rfl
theorem Qd:∀l:List Nd,l.length≤szL l
 |[]=>Nat.zero_le _
 |n::r=>by have:=Qd r;rw [szL,Qc,List.length_cons];omega
theorem Vm:∀{l:List Nd} {i:Nat} {n:Nd},l[i]? = some n→szN n+szL (l.drop (i+1))≤szL l
 |[],i,n,h=>by simp at h
 |m::l,0,n,h=>by simp only [List.getElem?_cons_zero,Option.some.injEq] at h;subst h;rw [szL];simp
 |m::l,i+1,n,h=>by simp only [List.getElem?_cons_succ] at h;have:=Vm h;rw [szL];simp only [List.drop_succ_cons];omega
end
end Go.Proofs.YtmjfldclpijghaaGreatDoor
namespace Go.Proofs.YtmjfldclpijghaaGreatDoor.Tf
open Go.RowKit Go.Proofs.Fw
set_option maxRecDepth 100000
theorem zz31:AG zP 8=true∧AG zP 11=true∧AG zP 24=true:=by and_intros<;>kernel_rfl
attribute [simp] zz31
end Go.Proofs.YtmjfldclpijghaaGreatDoor.Tf
