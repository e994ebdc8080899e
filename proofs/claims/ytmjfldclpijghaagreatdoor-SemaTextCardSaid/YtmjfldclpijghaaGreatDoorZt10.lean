/- The document's Lines. .. The document's checker: to, size, decl. -/
import Derived.Test.YtmjfldclpijghaaGreatDoorZt9
import Derived.Shelf.Strconv.Itoa2
import Derived.Shelf.Strconv.Itoa1
import Derived.Lib.ItoaMem
import Derived.RangeFuncRecord
import Derived.LoopNIn
import Derived.OrdersIn
set_option linter.unusedSimpArgs false
set_option linter.unusedVariables false
namespace Go.Proofs.YtmjfldclpijghaaGreatDoor
open Go.RowKit Go.Proofs.Fw
set_option maxRecDepth 100000
set_option maxHeartbeats 4000000
def l9 (acc:List UInt8):List UInt8→List (List UInt8)
 |[]=>if acc=[] then [] else [acc]
 |c::r=>if c=10 then (acc++[c])::l9 [] r else l9 (acc++[c]) r
def gC (s:List UInt8):List (List UInt8):=l9 [] s
theorem zCP {s:List UInt8} {a i:Nat} (h:a≤i) (hi:i<s.length):(s.take (i+1)).drop a=(s.take i).drop a++[s[i]]:=by rw [List.take_add_one,List.getElem?_eq_getElem hi,Option.toList_some,List.drop_append_of_le_length (by rw [List.length_take];omega)]
theorem zCQ (s:List UInt8) (i:Nat):(s.take i).drop i=[]:=List.drop_of_length_le (by rw [List.length_take];omega)
theorem y4:Bg zP 25 1=true:=by kernel_rfl
def LnI (s:List UInt8) (k:Nat) (t:List AV) (H:AH):Prop:=∃(i a:Nat) (out:List (List UInt8)),i+k=s.length∧a≤i∧out.length≤i∧out++l9 ((s.take i).drop a) (s.drop i)=gC s ∧
 t=mkT 37 [(0,.str s),(3,BL.tk 0 out),(4,.int .i64 (a:Int)),(5,.int .i64 (i:Int))]∧H=[AO out]
theorem zCR (s:List UInt8) (hs:s.length<1000000) (H:AH):CS zP AJ 33 [.str s] H (BL.av (gC s)) H:=by
 refine CS.tr0 Bh Tryz.func33 (by kernel_rfl) 0 (by simp [Tryz.f33]) (fun B hB hG => ?_) (by simp) (by simp) H;refine Tr.goD GI hG ?_;simp [Tryz.f33]
 refine LpD.loopN GI hG (LnI s) s.length (t':=mkT 37 [(0,.str s),(3,BL.tk 0 []),(4,.int .i64 0),(5,.int .i64 0)]) (H':=[none])
  (AD.mkV 100 (fun i=>i) 1 (by simp [hB]) (by simp) (by simp) rfl (by
   intro i hi;obtain rfl:i=0:=by omega
   simp [AH.at]) (by simp) (by simp [ren])) ⟨0,0,[],by omega,by omega,by simp,rfl,rfl,by simp⟩ ?_
 rintro k t H ⟨i,a,out,oQ,ha,ho,rI,rfl,rfl⟩;have oy:=BL.tk_cut (show ¬0<0 by omega) out
 by_cases hi:i<s.length
 ·obtain ⟨k,rfl⟩:∃j,k=j+1:=⟨k-1,by omega⟩
  have hi':(i:Int)<s.length:=by omega
  have w1:IntKind.i64.wrap ((i:Int)+1)=(i:Int)+1:=Ab (by omega) (by omega);have q1:(a:Int)≤(i:Int)+1:=by omega
  have q2:(i:Int)+1≤s.length:=by omega
  have q3:((i:Int)+1).toNat=i+1:=by omega
  rw [List.drop_eq_getElem_cons hi,l9] at rI;have zEE:=zCP ha hi;have rh:=zCQ s (i+1)
  by_cases hc:s[i]=10
  ·have ub:s[i].toNat=10:=by rw [hc];rfl
   have hc2:(s[i].toNat:Int)=10:=by omega
   rw [if_pos hc] at rI
   have hI:LnI s k (mkT 37 [(0,.str s),(3,BL.tk 0 (out++[(s.take i).drop a++[s[i]]])),(4,.int .i64 ((i+1:Nat):Int)),(5,.int .i64 ((i+1:Nat):Int))]) [AO (out++[(s.take i).drop a++[s[i]]])] :=⟨i+1,i+1,out++[(s.take i).drop a++[s[i]]],by omega,Nat.le_refl _,by rw [List.length_append,List.length_singleton];omega,by rw [rh,List.append_assoc];exact rI,rfl,rfl⟩
   generalize hx:(s.take i).drop a++[s[i]]=x at *;have e1:BL.c x=[.str x]:=rfl;have e2:BL.sz=1:=rfl
   by_cases h0:out=[]
   ·subst h0
    have a1:=fun H ow fid=>Nl BL (P:=zP) (H:=H) (ow:=ow) (fid:=fid) y4 x
    rw [e1,e2] at a1;simp only [List.nil_append] at hI;simp [hi,hi',ub,hc2,w1,q1,q2,q3,zEE,a1]
    refine Nxt.mk k (by omega) (AD.mkV 100 (fun i=>if i=0 then 1 else i) 1 (by simp [hB]) (by intro i j hi hj h;omega) (by simp [hB]) rfl (by
     intro i hi;obtain rfl:i=0:=by omega
     simp [AH.at,AO,AI]) (by simp [AO]) (by simp [ren,BL.tk_ren,BL.tk_strip,BL.tk_low])) hI
   ·have a1:=fun H ow fid (h:AH.at H 0=some (.tok out.length))=>Nk BL (P:=zP) (H:=H) (ow:=ow) (fid:=fid) (k:=0) y4 out x h0 h (by omega)
    rw [e1,e2] at a1;have pa:AO out=some (.tok out.length):=C3 h0;rw [pa];simp [hi,hi',ub,hc2,w1,q1,q2,q3,zEE,a1];exact Nxt.mk k (by omega) (AD.mkK 1 (by simp [hB]) (by simp [BL.tk_low]) (by simp [AO]) (by simp [AO])) hI
  ·have ub:¬s[i].toNat=10:=fun h=>hc (UInt8.toNat_inj.1 (by rw [h];rfl))
   have hc2:¬(s[i].toNat:Int)=10:=by omega
   rw [if_neg hc,←zEE] at rI;have hI:LnI s k (mkT 37 [(0,.str s),(3,BL.tk 0 out),(4,.int .i64 (a:Int)),(5,.int .i64 ((i+1:Nat):Int))]) [AO out]:=⟨i+1,a,out,by omega,by omega,by omega,rI,rfl,rfl⟩
   simp [hi,hi',ub,hc2,w1];exact Nxt.mk k (by omega) (AD.mkK 1 (by simp [hB]) (by simp [BL.tk_low]) (by simp) (Gf 1 out)) hI
 ·obtain rfl:i=s.length:=by omega
  rw [List.drop_of_length_le (Nat.le_refl _),List.take_of_length_le (Nat.le_refl _),l9] at rI
  by_cases h1:a<s.length
  ·have h1':(a:Int)<s.length:=by omega
   have q1:(a:Int)≤s.length:=by omega
   have oL:¬s.drop a=[]:=fun h=>by have:=congrArg List.length h;rw [List.length_drop] at this;simp at this;omega
   rw [if_neg oL] at rI;generalize hx:s.drop a=x at *;have e1:BL.c x=[.str x]:=rfl;have e2:BL.sz=1:=rfl
   by_cases h0:out=[]
   ·subst h0
    have a1:=fun H ow fid=>Nl BL (P:=zP) (H:=H) (ow:=ow) (fid:=fid) y4 x
    rw [e1,e2] at a1;have zEF:=BL.tk_cut (show ¬1<0 by omega) [x];simp [h1,h1',q1,hx,a1,zEF,←rI]
   ·have a1:=fun H ow fid (h:AH.at H 0=some (.tok out.length))=>Nk BL (P:=zP) (H:=H) (ow:=ow) (fid:=fid) (k:=0) y4 out x h0 h (by omega)
    rw [e1,e2] at a1;have pa:AO out=some (.tok out.length):=C3 h0;have zEF:=BL.tk_cut (show ¬0<0 by omega) (out++[x]);rw [pa];simp [h1,h1',q1,hx,a1,zEF,←rI]
  ·have h1':¬(a:Int)<s.length:=by omega
   have zEP:s.drop a=[]:=List.drop_of_length_le (by omega);rw [if_pos zEP,List.append_nil] at rI;simp [h1,h1',oy,←rI]
def zAK (c:UInt8):Bool:=(decide (c.toNat<32) || decide (126<c.toNat)) && !decide (c.toNat=9) && !decide (c.toNat=10)
def gT:Nat→List (List UInt8)→Er
 |_,[]=>none
 |i,l::r=>if 200<l.length then some ([(IA,i)],4) else if l.any zAK then some ([(IA,i)],3) else gT (i+1) r
def zBb:List UInt8:=[116,101,120,116]
def dK (s:List UInt8):List (List UInt8) × Er:=if 65536<s.length then ([],some ([(zBb,0)],4)) else
 match gT 0 (gC s) with
 |some y=>([],some y)
 |none=>(gC s,none)
def md (s:List UInt8):List Nd × List (List UInt8) × Er:=match dK s with
 |(_,some y)=>([],[],some y)
 |(ls,none)=>match FW ls with
  |(_,some y)=>([],[],some y)
  |(t,none)=>(t,ls,none)
theorem zAs:∀(s acc:List UInt8),(l9 acc s).length≤s.length+1
 |[],acc=>by rw [l9];split<;>simp
 |c::r,acc=>by
  rw [l9]
  split
  ·have:=zAs r []
   simp only [List.length_cons];omega
  ·have:=zAs r (acc++[c])
   simp only [List.length_cons];omega
noncomputable def zAt:AF zP AJ:=AF.pure 20 (fun _:List UInt8 × Int × Int=>True) (fun x=>[.str x.1,.int .i64 x.2.1,.int .i64 x.2.2]) (fun x => .agg [.slice .full 2 1 [.str x.1,.int .i64 x.2.1],.int .i64 x.2.2])
 (fun x _ H=>(U3.1 _ _ _ _ _ (Mz x.1 x.2.1 x.2.2 H)).1) (fun x y _ _ h=>by
  simp only [List.cons.injEq,AV.str.injEq,AV.int.injEq,true_and,and_true] at h
  rw [h.1,h.2.1,h.2.2])
noncomputable def zAu:AF zP AJ:=AF.pure 33 (fun s:List UInt8=>s.length<1000000) (fun s=>[.str s]) (fun s=>BL.av (gC s)) (fun s h H=>zCR s h H) (fun x y _ _ h=>by
 simp only [List.cons.injEq,AV.str.injEq,and_true] at h
 rw [h])
def spT (ls:List (List UInt8)) (i:Nat):List AV:=mkT 61 [(3,.ptr 0 0),(4,BL.av ls),(5,.int .i64 (i:Int))]
def spH:AH:=[some (.box [.nilSlice,.int .i64 0])]
def SpI (ls:List (List UInt8)) (k:Nat) (t:List AV) (H:AH):Prop:=∃i,i+k=ls.length∧gT i (ls.drop i)=gT 0 ls∧t=spT ls i∧H=spH
def SqI (ls:List (List UInt8)) (l:List UInt8) (i:Nat) (k:Nat) (t:List AV) (H:AH):Prop:=∃j,j+k=l.length∧l.any zAK=(l.drop j).any zAK∧t=mkT 61 [(3,.ptr 0 0),(4,BL.av ls),(5,.int .i64 (i:Int)),(6,.int .i64 (j:Int))]∧H=spH
theorem zCS (s:List UInt8) (hs:s.length<1000000) (H:AH):CS zP AJ 22 [.str s] H (.tup [BL.av (dK s).1,erA (dK s).2]) H:=by
 have hL:([zAu,zAt].map (·.f)).Nodup:=show ([33,20]:List Nat).Nodup by decide
 have X:=Bn [zAu,zAt] B4 Ad;have f1:=fun H=>C0 hL (show zAu∈_ by simp) s hs H
 have f2:=fun w p e H=>C0 hL (show zAt∈_ by simp) (w,p,e) trivial H
 simp only at f1 f2;generalize oOf [zAu,zAt]=O at X f1 f2;refine CS.tr0 Bh Tryz.func22 (by kernel_rfl) 0 (by simp [Tryz.f22]) (fun B hB hG => ?_) (by simp) (by simp) H;refine Tr.goD X hG ?_;have ox:=zAs s [];have ox:(gC s).length≤s.length+1:=ox;unfold dK
 by_cases h1:65536<s.length
 ·have h1':(65536:Int)<s.length:=by omega
  simp [Tryz.f22,h1,h1',f2,erP,erC,Cn,CI,zBb]
 have h1':¬(65536:Int)<s.length:=by omega
 rw [if_neg h1];simp [Tryz.f22,h1,h1',f1];generalize gC s=ls at *;refine LpD.loopN X hG (SpI ls) ls.length (t':=spT ls 0) (H':=spH) (AD.mkK 1 (by simp [hB]) (by simp) (by simp [spH]) (by simp [spH])) ⟨0,by omega,rfl,rfl,rfl⟩ ?_;rintro k t H ⟨i,oQ,hch,rfl,rfl⟩
 by_cases hi:i<ls.length
 ·obtain ⟨k,rfl⟩:∃j,k=j+1:=⟨k-1,by omega⟩
  have hi':(i:Int)<ls.length:=by omega
  obtain ⟨l,hl⟩:∃l,ls[i]? = some l:=⟨_,List.getElem?_eq_getElem hi⟩
  have g0:(BL.row ls)[i*1+0]? = some (.str l):=BL.row_cell hl 0 (by decide);simp only [Nat.mul_one,Nat.add_zero] at g0
  have hd:ls.drop i=l::ls.drop (i+1):=by rw [List.drop_eq_getElem_cons hi];rw [List.getElem?_eq_getElem hi] at hl;injection hl with hl;rw [hl]
  rw [hd,gT] at hch;have wi:IntKind.i64.wrap ((i:Int)+1)=(i:Int)+1:=Ab (by omega) (by omega)
  by_cases h2:200<l.length
  ·have h2':(200:Int)<l.length:=by omega
   rw [if_pos h2] at hch;rw [←hch];simp [spT,spH,hi,hi',g0,h2,h2',f2,erP,erC,Cn,CI,IA]
  ·have h2':¬(200:Int)<l.length:=by omega
   rw [if_neg h2] at hch;simp [spT,spH,hi,hi',g0,h2,h2'];refine LpD.loopN X hG (SqI ls l i) l.length (t':=mkT 61 [(3,.ptr 0 0),(4,BL.av ls),(5,.int .i64 (i:Int)),(6,.int .i64 0)]) (H':=spH) (AD.mkK 1 (by simp [hB]) (by simp) (by simp [spH]) (by simp [spH])) ⟨0,by omega,rfl,rfl,rfl⟩ ?_;rintro k' t H ⟨j,qr,zD2,rfl,rfl⟩
   by_cases hj:j<l.length
   ·obtain ⟨k',rfl⟩:∃j,k'=j+1:=⟨k'-1,by omega⟩
    have hj':(j:Int)<l.length:=by omega
    have wj:IntKind.i64.wrap ((j:Int)+1)=(j:Int)+1:=Ab (by omega) (by omega);rw [List.drop_eq_getElem_cons hj,List.any_cons] at zD2;have oX:=(l[j]).toNat_lt;cases hb:zAK l[j] with
    |true =>
     rw [hb,Bool.true_or] at zD2;rw [zD2] at hch;simp only [if_true] at hch;rw [←hch]
     have hcc:(l[j].toNat<32∨126<l[j].toNat)∧l[j].toNat≠9∧l[j].toNat≠10:=by simp [zAK] at hb;exact ⟨hb.1.1,hb.1.2,hb.2⟩
     by_cases hq:l[j].toNat<32
     ·have hA:l[j].toNat<32:=by omega
      have hA':(l[j].toNat:Int)<32:=by omega
      have qi:¬126<l[j].toNat:=by omega
      have zDu:¬(126:Int)<l[j].toNat:=by omega
      have h9:¬l[j].toNat=9:=by omega
      have h9':¬(l[j].toNat:Int)=9:=by omega
      have h9b:((l[j].toNat:Int)==9)=false:=by rw [beq_eq_false_iff_ne];omega
      have qs:¬l[j].toNat=10:=by omega
      have zAU:¬(l[j].toNat:Int)=10:=by omega
      have zDw:((l[j].toNat:Int)==10)=false:=by rw [beq_eq_false_iff_ne];omega
      simp [spH,hi,hi',g0,hj,hj',hA,hA',qi,zDu,h9,h9',h9b,qs,zAU,zDw,f2,erP,erC,Cn,CI,IA]
     ·have hA:¬l[j].toNat<32:=by omega
      have hA':¬(l[j].toNat:Int)<32:=by omega
      have qi:126<l[j].toNat:=by omega
      have zDu:(126:Int)<l[j].toNat:=by omega
      have h9:¬l[j].toNat=9:=by omega
      have h9':¬(l[j].toNat:Int)=9:=by omega
      have h9b:((l[j].toNat:Int)==9)=false:=by rw [beq_eq_false_iff_ne];omega
      have qs:¬l[j].toNat=10:=by omega
      have zAU:¬(l[j].toNat:Int)=10:=by omega
      have zDw:((l[j].toNat:Int)==10)=false:=by rw [beq_eq_false_iff_ne];omega
      simp [spH,hi,hi',g0,hj,hj',hA,hA',qi,zDu,h9,h9',h9b,qs,zAU,zDw,f2,erP,erC,Cn,CI,IA]
    |false =>
     rw [hb,Bool.false_or] at zD2;have hI:SqI ls l i k' (mkT 61 [(3,.ptr 0 0),(4,BL.av ls),(5,.int .i64 (i:Int)),(6,.int .i64 ((j+1:Nat):Int))]) spH:=⟨j+1,by omega,zD2,rfl,rfl⟩
     have hcc:l[j].toNat=9∨l[j].toNat=10∨(¬l[j].toNat<32∧¬126<l[j].toNat):=by simp [zAK] at hb;omega
     rcases hcc with hq|hq|hq
     ·have hA:l[j].toNat<32:=by omega
      have hA':(l[j].toNat:Int)<32:=by omega
      have qi:¬126<l[j].toNat:=by omega
      have zDu:¬(126:Int)<l[j].toNat:=by omega
      have h9:l[j].toNat=9:=by omega
      have h9':(l[j].toNat:Int)=9:=by omega
      have h9b:((l[j].toNat:Int)==9)=true:=by rw [beq_iff_eq];omega
      have qs:¬l[j].toNat=10:=by omega
      have zAU:¬(l[j].toNat:Int)=10:=by omega
      have zDw:((l[j].toNat:Int)==10)=false:=by rw [beq_eq_false_iff_ne];omega
      simp [spH,hi,hi',g0,hj,hj',hA,hA',qi,zDu,h9,h9',h9b,qs,zAU,zDw,wj];exact Nxt.mk k' (by omega) (AD.mkK 1 (by simp [hB]) (by simp) (by simp [spH]) (by simp [spH])) hI
     ·have hA:l[j].toNat<32:=by omega
      have hA':(l[j].toNat:Int)<32:=by omega
      have qi:¬126<l[j].toNat:=by omega
      have zDu:¬(126:Int)<l[j].toNat:=by omega
      have h9:¬l[j].toNat=9:=by omega
      have h9':¬(l[j].toNat:Int)=9:=by omega
      have h9b:((l[j].toNat:Int)==9)=false:=by rw [beq_eq_false_iff_ne];omega
      have qs:l[j].toNat=10:=by omega
      have zAU:(l[j].toNat:Int)=10:=by omega
      have zDw:((l[j].toNat:Int)==10)=true:=by rw [beq_iff_eq];omega
      simp [spH,hi,hi',g0,hj,hj',hA,hA',qi,zDu,h9,h9',h9b,qs,zAU,zDw,wj];exact Nxt.mk k' (by omega) (AD.mkK 1 (by simp [hB]) (by simp) (by simp [spH]) (by simp [spH])) hI
     ·have hA:¬l[j].toNat<32:=by omega
      have hA':¬(l[j].toNat:Int)<32:=by omega
      have qi:¬126<l[j].toNat:=by omega
      have zDu:¬(126:Int)<l[j].toNat:=by omega
      have h9:¬l[j].toNat=9:=by omega
      have h9':¬(l[j].toNat:Int)=9:=by omega
      have h9b:((l[j].toNat:Int)==9)=false:=by rw [beq_eq_false_iff_ne];omega
      have qs:¬l[j].toNat=10:=by omega
      have zAU:¬(l[j].toNat:Int)=10:=by omega
      have zDw:((l[j].toNat:Int)==10)=false:=by rw [beq_eq_false_iff_ne];omega
      simp [spH,hi,hi',g0,hj,hj',hA,hA',qi,zDu,h9,h9',h9b,qs,zAU,zDw,wj];exact Nxt.mk k' (by omega) (AD.mkK 1 (by simp [hB]) (by simp) (by simp [spH]) (by simp [spH])) hI
   ·have hj':¬(j:Int)<l.length:=by omega
    have zEQ:l.any zAK=false:=by rw [zD2,List.drop_of_length_le (by omega)];rfl
    rw [zEQ] at hch;simp only [Bool.false_eq_true,if_false] at hch;have hI:SpI ls k (spT ls (i+1)) spH:=⟨i+1,by omega,hch,rfl,rfl⟩
    simp [spH,hi,hi',g0,hj,hj',wi];exact Nxt.mk k (by omega) (AD.mkK 1 (by simp [hB]) (by simp) (by simp [spH]) (by simp [spH])) hI
 ·have hi':¬(i:Int)<ls.length:=by omega
  rw [List.drop_of_length_le (by omega),gT] at hch;rw [←hch];simp [spT,spH,hi,hi',Az,A0]
theorem zBc:∀(ls:List (List UInt8)) (i:Nat),gT i ls=none→∀l∈ls,l.length≤200
 |[],_,_,_,hm=>by cases hm
 |x::ls,i,h,l,hm=>by
  rw [gT] at h
  split at h
  ·cases h
  ·rename_i h1
   split at h
   ·cases h
   ·rcases List.mem_cons.1 hm with rfl|hm
    ·omega
    ·exact zBc ls (i+1) h l hm
theorem zBd:∀(ls:List (List UInt8)) (i:Nat),AP (gT i ls)
 |[],_=>Bx
 |x::ls,i=>by
  rw [gT]
  split
  ·exact Ii (by simp) (by decide)
  ·split
   ·exact Ii (by simp) (by decide)
   ·exact zBd ls (i+1)
theorem zBe (s:List UInt8) (hs:s.length<900000):AP (dK s).2∧((dK s).2=none→(dK s).1.length<1000000∧∀l∈(dK s).1,l.length<1000000):=by
 unfold dK
 split
 ·exact ⟨Ii (by simp) (by decide),fun h=>by cases h⟩
 ·have h1:=zBd (gC s) 0
  have h2:=zBc (gC s) 0;have h3:(gC s).length≤s.length+1:=zAs s [];generalize gT 0 (gC s)=e at *;cases e with
  |none=>exact ⟨Bx,fun _=>⟨by simp only;omega,fun l hl=>by have:=h2 rfl l hl;omega⟩⟩
  |some y=>exact ⟨h1,fun h=>by cases h⟩
theorem zBf {ls:List (List UInt8)} (h:ls.length<1000000):AP (FW ls).2:=by
 unfold FW;have h1:=((Lj (lB h) 8).goes 0 0 ⟨0,none,false⟩).ok Bx;simp only
 split
 ·rename_i hb
  rw [hb] at h1;exact h1
 ·exact Bx
noncomputable def zAv:AF zP AJ:=AF.pure 22 (fun s:List UInt8=>s.length<1000000) (fun s=>[.str s]) (fun s => .tup [BL.av (dK s).1,erA (dK s).2]) (fun s h H=>zCS s h H) (fun x y _ _ h=>by
 simp only [List.cons.injEq,AV.str.injEq,and_true] at h
 rw [h])
noncomputable def zAw:AF zP AJ:=AF.pure 19 (fun ls:List (List UInt8)=>ls.length<1000000∧∀s∈ls,s.length<1000000) (fun ls=>[BL.av ls]) (fun ls=>Iy (FW ls)) (fun ls h H=>lD ls h.1 h.2 H) (fun x y _ _ h=>by
 simp only [List.cons.injEq,and_true] at h
 rw [BL.av_inj h])
def nz (x:List Nd × List (List UInt8) × Er):AV := .tup [ndE.av x.1,BL.av x.2.1,erA x.2.2]
theorem zCT (s:List UInt8) (hs:s.length<900000) (H:AH):CS zP AJ 9 [.str s] H (nz (md s)) H:=by
 have hL:([zAv,zAw].map (·.f)).Nodup:=show ([22,19]:List Nat).Nodup by decide
 have X:=Bn [zAv,zAw] B4 Ad;have f1:=fun H=>C0 hL (show zAv∈_ by simp) s (by omega) H
 have f2:=fun (ls:List (List UInt8)) (h:ls.length<1000000∧∀s∈ls,s.length<1000000) H=>C0 hL (show zAw∈_ by simp) ls h H
 generalize oOf [zAv,zAw]=O at X f1 f2;refine CS.tr0 Bh Tryz.func9 (by kernel_rfl) 0 (by simp [Tryz.f9]) (fun B hB hG => ?_) (by simp [nz]) (by simp) H;refine Tr.goD X hG ?_;have o6:=zBe s hs;unfold md;generalize dK s=p at *;obtain ⟨ls,e⟩:=p;simp only at o6 f1 ⊢;obtain ⟨he,hn⟩:=o6;cases e with
 |some y =>
  have pM:¬erC (some y)=0:=fun h=>by have:=(FT he).1 h;cases this
  simp at f1;simp [Tryz.f9,f1,pM];refine LpD.turns X hG [3] [] ?_;simp [nz]
 |none =>
  have hn:=hn rfl;have g2:=fun H=>f2 ls hn H
  have vt:=zBf hn.1;simp only [Iy] at g2
  try simp only
  generalize FW ls=q at *;obtain ⟨nd,e2⟩:=q;simp only at g2 vt ⊢;simp [Az,A0] at f1;cases e2 with
  |some y =>
   have pM:¬erC (some y)=0:=fun h=>by have:=(FT vt).1 h;cases this
   simp at g2;simp [Tryz.f9,f1,g2,pM];refine LpD.turns X hG [3] [] ?_;simp [nz]
  |none =>simp [Az,A0] at g2;simp [Tryz.f9,f1,g2,nz,Az,A0]
noncomputable def fAt:AF zP AJ:=AF.pure 20 (fun _:List UInt8 × Int × Int=>True) (fun x=>[.str x.1,.int .i64 x.2.1,.int .i64 x.2.2]) (fun x => .agg [.slice .full 2 1 [.str x.1,.int .i64 x.2.1],.int .i64 x.2.2])
 (fun x _ H=>(AT.toF (AT.toX (AT.toN Mv)) _ _ _ _ _ (Mz x.1 x.2.1 x.2.2 H)).1) (fun x y _ _ h=>by
  obtain ⟨a,b,c⟩:=x;obtain ⟨a',b',c'⟩:=y;simp only [List.cons.injEq,AV.str.injEq,AV.int.injEq,true_and,and_true] at h;obtain ⟨rfl,rfl,rfl⟩:=h
  rfl)
noncomputable def Lr:AF zP AJ:=AF.pure 13 (fun x:List (List UInt8 × Int) × Int × Own=>x.2.1≠0∧x.1.length<1000∧(x.2.2 = .unk∨x.2.2 = .full)) (fun x=>[Ac x.1 x.2.1,.agg [.slice x.2.2 2 x.1.length (CI x.1),.int .i64 x.2.1]]) (fun _ => .bool true)
 (fun x h H=>CS.toF (CS.toX (z8 x.1 x.2.1 h.1 h.2.1 x.2.2 h.2.2 H))) (fun x y _ _ h=>rfl)
def IH (ow:Own) (ls:List (List UInt8)):AV:=if ls=[] then .nilSlice else .slice ow 1 ls.length (BL.row ls)
theorem Qx {ow ow':Own} {l m:List (List UInt8)} (h:IH ow l=IH ow' m):l=m:=by
 apply BL.av_inj;unfold IH at h;unfold Enc.av
 by_cases h1:l=[]
 ·by_cases h2:m=[]
  ·rw [if_pos h1,if_pos h2]
  ·rw [if_pos h1,if_neg h2] at h;cases h
 ·by_cases h2:m=[]
  ·rw [if_neg h1,if_pos h2] at h;cases h
  ·rw [if_neg h1,if_neg h2] at h
   injection h with _ _ h3 h4;rw [if_neg h1,if_neg h2,h3,h4]
theorem Qy {g:Gh} {ow:Own} {ls:List (List UInt8)} {v:Value} (h:AA g (IH ow ls) v):AA g (BL.av ls) v:=by
 unfold IH at h;unfold Enc.av
 by_cases h1:ls=[]
 ·rw [if_pos h1] at h ⊢;exact h
 ·rw [if_neg h1] at h ⊢;exact M0 g v h
noncomputable def Nz:AF zP A7:=AF.pure 21 (fun x:Own × List (List UInt8)=>x.2.length<1000000∧∀s∈x.2,s.length<1000000) (fun x=>[IH x.1 x.2]) (fun x=>Hc (ofW x.2)) (fun x h H=>CS.weakA (lG x.2 h.1 h.2 H) (fun g cargs hr=>by
 simp only [AB] at hr ⊢;obtain ⟨v,vs,rfl,h1,h2⟩:=hr
 exact ⟨v,vs,rfl,Qy h1,h2⟩)) (fun x y _ _ h=>by
 simp only [List.cons.injEq,and_true] at h
 rw [Qx h])
@[simp] theorem bsS2 (a b:List UInt8):CK zP 25 2 [(0,.str a),(1,.str b)]=some (.slice .full 1 2 [.str a,.str b]):=by kernel_rfl
@[simp] theorem goTo5:AG zP 35=true:=AS (by kernel_rfl)
@[simp] theorem buT3p (k n:Int) (s:List UInt8):Aq zP 88 [(0,.int .i64 k),(1,.int .i64 n),(2,.str s)]=some (.agg [.int .i64 k,.int .i64 n,.str s,.nilSlice]):=by kernel_rfl
theorem Q0:Bg zP 86 4=true:=by kernel_rfl
def ToI5 (t:Tn) (k:Nat) (tt:List AV) (H:AH):Prop :=
 ∃i,i+k=t.kids.length∧tt=mkT 31 [(1,.vptr (tC t) 0),(2,.ptr 0 0),(3,.ptr 1 0),(4,.int .i64 ((i:Nat):Int))] ∧
  H=some (.box [.int .i64 0,.int .i64 0,.str [],.nilSlice])::some (.box [.int .i64 t.k,.int .i64 t.n,.str t.s,Gv 2 (D0 (t.kids.take i))])::(if i=0 then [] else [some (.tok i)])
theorem Q2 (t:Tn) (ht:okT t=true) (H:AH):CS zP AJ 35 [.agg (tC t)] H (.agg (tC (ofT t))) H:=by
 have X:Cx (oTn 35 (fun a=>a∈t.kids) (fun a => .agg (tC (ofT a)))) zP AJ:=⟨gk fun a vD H=>Q2 a (gh ht vD) H,B4,Ad⟩
 have pA:=fun (a:Tn) (h:a∈t.kids) H=>gj (f0:=35) (S:=fun a=>a∈t.kids) (out:=fun a => .agg (tC (ofT a))) (t:=a) h H
 generalize hO:oTn 35 (fun a=>a∈t.kids) (fun a => .agg (tC (ofT a)))=O at X pA;clear hO;have oT:=Po ht;rw [gl];refine CS.tr0 Bh Tryz.func35 (by kernel_rfl) 0 (by simp [Tryz.f35]) (fun B hB hG => ?_) (by split<;>simp [KU]) (by simp) H;refine Tr.goD X hG ?_;simp [Tryz.f35]
 refine LpD.loopN X hG (ToI5 t) t.kids.length (t':=mkT 31 [(1,.vptr (tC t) 0),(2,.ptr 0 0),(3,.ptr 1 0),(4,.int .i64 ((0:Nat):Int))])
  (H':=[some (.box [.int .i64 0,.int .i64 0,.str [],.nilSlice]),some (.box [.int .i64 t.k,.int .i64 t.n,.str t.s,.nilSlice])])
  (AD.mkK 2 (by simp [hB]) (by simp) (by simp) (by simp)) ⟨0,by omega,rfl,rfl⟩ ?_
 rintro k tt H ⟨i,oQ,rfl,rfl⟩;cases k with
 |zero =>
  obtain rfl:i=t.kids.length:=by omega
  rw [List.take_length]
  by_cases h0:t.kids=[]
  ·simp [h0,Bo,Gv,D0]
  ·have h1:¬D0 t.kids=[]:=fun h=>h0 (by have:=LR t.kids;rw [h] at this;exact List.eq_nil_of_length_eq_zero this.symm)
   simp [h0,Bo,Gv,h1,LR,KU]
 |succ k =>
  have hi:i<t.kids.length:=by omega
  have hi':(i:Int)<t.kids.length:=by omega
  obtain ⟨a,ha⟩:∃a,t.kids[i]? = some a:=⟨_,List.getElem?_eq_getElem hi⟩
  obtain ⟨ca1,ca2⟩:=M4 t.kids i ha;have hm:a∈t.kids:=List.mem_of_getElem? ha
  have oe:D0 (t.kids.take (i+1))=D0 (t.kids.take i)++[ofT a]:=by rw [List.take_add_one,ha,Option.toList_some,UI];rfl
  have sL:(D0 (t.kids.take i)).length=i:=by rw [LR,List.length_take];omega
  have w1:IntKind.i64.wrap ((i:Int)+1)=(i:Int)+1:=Ab (by omega) (by omega);have hc:=fun H=>pA a hm H
  simp only [CB] at hc ca1;simp [hi'];generalize hl:D0 (t.kids.take i)=l at *
  have qp:(l=[]∧(if i=0 then [] else [some (Ent.tok i)])=[])∨(¬l=[]∧(if i=0 then [] else [some (Ent.tok i)])=[some (Ent.tok i)]):=by
   by_cases h0:i=0
   ·exact .inl ⟨List.eq_nil_of_length_eq_zero (by omega),if_pos h0⟩
   ·exact .inr ⟨fun h=>by rw [h] at sL;simp at sL;omega,if_neg h0⟩
  generalize (if i=0 then [] else [some (Ent.tok i)])=Tk at *;refine LpD.turns X hG [7,9,11] [(0,7),(1,7)] ?_;rcases qp with ⟨o5,rfl⟩|⟨o5,rfl⟩
  ·subst o5
   have hi0:i=0:=by simpa using sL.symm
   have oP:=fun H=>F9 (P:=zP) (t:=86) (sz:=4) (m:=1) (H:=H) (fid:=2) (ow := .full) (ys:=tC (ofT a)) Q0 (by decide) (by decide) (by simp)
   simp only [CB] at oP;simp [hi,ca1,ca2,hc,Gv,oP,w1]
   refine Nxt.mk k (by omega) (AD.mkK 3 (l':=[(1,.vptr (tC t) 0),(2,.ptr 0 0),(3,.ptr 1 0),(4,.int .i64 ((i+1:Nat):Int))])
    (H':=[some (.box [.int .i64 0,.int .i64 0,.str [],.nilSlice]),some (.box [.int .i64 t.k,.int .i64 t.n,.str t.s,Gv 2 [ofT a]]),some (.tok (i+1))]) (by simp [hB]) (by simp) (by simp [Gv,tsC,hi0]) (by simp [Gv,tsC])) ⟨i+1,by omega,rfl,by rw [oe];rfl⟩
  ·have oP:=fun H (h:AH.at H 2=some (.tok i))=>EZ (P:=zP) (t:=86) (sz:=4) (m:=1) (H:=H) (fid:=3) (ow := .full) (xs:=tsC l) (ys:=tC (ofT a)) Q0 h (by decide) (by omega) (by simp)
   simp only [CB] at oP;simp [hi,ca1,ca2,hc,Gv,o5,sL,oP,w1]
   refine Nxt.mk k (by omega) (AD.mkK 3 (l':=[(1,.vptr (tC t) 0),(2,.ptr 0 0),(3,.ptr 1 0),(4,.int .i64 ((i+1:Nat):Int))])
    (H':=[some (.box [.int .i64 0,.int .i64 0,.str [],.nilSlice]),some (.box [.int .i64 t.k,.int .i64 t.n,.str t.s,Gv 2 (l++[ofT a])]),some (.tok (i+1))]) (by simp [hB]) (by simp) (by simp [Gv,tsC,Pm,sL]) (by simp [Gv,tsC,Pm,Am (Nat.zero_le 3) _ (KU l)])) ⟨i+1,by omega,rfl,by rw [oe];rfl⟩
termination_by SizeOf.sizeOf t
decreasing_by exact gi vD
@[simp] theorem lL:AJ.imm 82=false:=by decide
@[simp] theorem buCd6 (s:List UInt8) (a0 a1 a2 a3 b0 b1 b2 b3:AV):Aq zP 90 [(0,.str s),(1,.agg [a0,a1,a2,a3]),(2,.agg [b0,b1,b2,b3])]=some (.agg [.str s,a0,a1,a2,a3,b0,b1,b2,b3]):=by kernel_rfl
@[simp] theorem buSt6 (k st:Int) (s nm:List UInt8) (a0 a1 a2 a3 b0 b1 b2 b3 c0 c1 c2 c3 d0 d1 d2 d3 e0 e1 e2 e3 f0 f1 f2 f3:AV):Aq zP 92 [(0,.int .i64 k),(2,.agg [a0,a1,a2,a3]),(3,.agg [b0,b1,b2,b3]),(4,.agg [.str s,c0,c1,c2,c3,d0,d1,d2,d3]),(5,.str nm),(6,.agg [e0,e1,e2,e3]),(7,.agg [f0,f1,f2,f3]),(8,.int .i64 st)]
  = some (.agg [.int .i64 k,.nilSlice,a0,a1,a2,a3,b0,b1,b2,b3,.str s,c0,c1,c2,c3,d0,d1,d2,d3,.str nm,e0,e1,e2,e3,f0,f1,f2,f3,.int .i64 st]):=by kernel_rfl
@[simp high] theorem lM (l:List It):alen zP 75 (itE.av l)=some (.int .i64 l.length):=itE.alen Tryz.underlying75 l
@[simp high] theorem lN {l:List It} {i:Nat} (h:i<l.length):Ao zP 75 (itE.av l) (.int .i64 (i:Int))=some (.vptr (itE.row l) (i*2)):=itE.aidx Tryz.underlying75 (by kernel_rfl) h
theorem Jj (φ:Nat→Nat) (t:Tn):ren φ t.ar=t.ar:=DE φ _ (by
 have:=Pn t;simp only [CB,lowL,low,Bool.true_and,Bool.and_true] at this
 exact this)
@[simp] theorem WQ (s:List UInt8) (ow:Own) (sz n:Nat) (cs:List AV):Aq zP 134 [(0,.str s),(1,.slice ow sz n cs)]=some (.agg [.str s,.slice ow sz n cs]):=by kernel_rfl
@[simp] theorem WR (s:List UInt8):Aq zP 134 [(0,.str s),(1,.nilSlice)]=some (.agg [.str s,.nilSlice]):=by kernel_rfl
@[simp] theorem lO (s:List UInt8) (l:List Int):Aq zP 134 [(0,.str s),(1,AN.av l)]=some (.agg [.str s,AN.av l]):=by
 by_cases h:l=[]
 ·subst h;exact WR s
 ·rw [AN.av_ne h];exact WQ s _ _ _ _
def Kj (x:Sx):Sx:=⟨x.kind,x.items,ofT x.to,ofT x.e,x.op,ofT x.ca,ofT x.cb,x.name,ofT x.lo,ofT x.hi,x.step⟩
structure SxT (x:Sx):Prop where
 to:okT x.to=true
 e:okT x.e=true
 ca:okT x.ca=true
 cb:okT x.cb=true
 lo:okT x.lo=true
 hi:okT x.hi=true
 items:x.items.length<4294967296
 dims:∀y∈x.items,y.dims.length<4294967296
noncomputable def Kk:AF zP AJ:=AF.pure 35 (fun t:Tn=>okT t=true) (fun t=>[.agg (tC t)]) (fun t => .agg (tC (ofT t))) (fun t h H=>Q2 t h H) (fun x y _ _ h=>by
 simp only [List.cons.injEq,AV.agg.injEq,and_true] at h
 rw [KV x y h])
def c6 (x:Sx) (v:AV):List AV:=[.int .i64 x.kind,v,.int .i64 (ofT x.to).k,.int .i64 (ofT x.to).n,.str (ofT x.to).s,(ofT x.to).ar,.int .i64 (ofT x.e).k,.int .i64 (ofT x.e).n,.str (ofT x.e).s,(ofT x.e).ar,.str x.op,
 .int .i64 (ofT x.ca).k,.int .i64 (ofT x.ca).n,.str (ofT x.ca).s,(ofT x.ca).ar,.int .i64 (ofT x.cb).k,.int .i64 (ofT x.cb).n,.str (ofT x.cb).s,(ofT x.cb).ar,.str x.name,.int .i64 (ofT x.lo).k,.int .i64 (ofT x.lo).n,.str (ofT x.lo).s,(ofT x.lo).ar,.int .i64 (ofT x.hi).k,.int .i64 (ofT x.hi).n,.str (ofT x.hi).s,(ofT x.hi).ar,.int .i64 x.step]
def Q3 (x:Sx) (k:Nat) (tt:List AV) (H:AH):Prop:=∃i,i+k=x.items.length∧tt=mkT 62 [(1,.ptr 0 0),(2,.ptr 1 0),(3,.ptr 2 0),(4,.int .i64 (i:Int))] ∧
 H=[some (.box x.c),some (.box (Sx.c ⟨0,[],t0,t0,[],t0,t0,[],t0,t0,0⟩)),some (.box (c6 x (itE.tk 3 (x.items.take i)))),AO (x.items.take i)]
theorem WT (x:Sx) (hx:SxT x) (H:AH):CS zP AJ 24 [.agg x.c] H (.agg (Kj x).c) H:=by
 have hL:([Kk].map (·.f)).Nodup:=show ([35]:List Nat).Nodup by decide
 have X:=Bn [Kk] B4 Ad;have f1:=fun t (h:okT t=true) H=>C0 hL (show Kk∈[Kk] by simp) t h H
 have h1:=f1 _ hx.to;have h2:=f1 _ hx.e;have h3:=f1 _ hx.ca;have h4:=f1 _ hx.cb;have h5:=f1 _ hx.lo;have h6:=f1 _ hx.hi;generalize oOf [Kk]=O at X h1 h2 h3 h4 h5 h6;simp only [CB] at h1 h2 h3 h4 h5 h6;refine CS.tr0 Bh Tryz.func24 (by kernel_rfl) 0 (by simp [Tryz.f24]) (fun B hB hG => ?_) (by simp [Sx.c_low]) (by simp [Sx.c_low]) H;refine Tr.goD X hG ?_;simp [Tryz.f24,Sx.c];refine LpD.turns X hG [4,7,14,18,24,27,31,32] [(0,4),(0,7),(0,14),(0,18),(0,24),(0,27),(0,31),(1,4),(1,7),(1,14),(1,18),(1,24),(1,27),(1,31),(2,31),(3,31),(4,5),(4,6),(4,8),(4,9),(4,10),(4,11),(4,12),(4,13),(4,15),(4,16),(4,17),(4,20),(4,21),(4,22),(4,23),(4,25),(4,26),(4,28),(4,29),(4,31),(5,31),(6,31),(7,8),(7,9),(7,10),(7,11),(7,12),(7,13),(7,15),(7,16),(7,17),(7,20),(7,21),(7,22),(7,23),(7,25),(7,26),(7,28),(7,29),(7,31),(8,14),(8,18),(8,24),(8,27),(8,31),(9,14),(9,18),(9,24),(9,27),(9,31),(10,14),(10,18),(10,24),(10,27),(10,31),(11,31),(12,31),(13,31),(14,15),(14,16),(14,17),(14,20),(14,21),(14,22),(14,23),(14,25),(14,26),(14,28),(14,29),(14,31),(15,31),(16,31),(17,31),(18,20),(18,21),(18,22),(18,23),(18,25),(18,26),(18,28),(18,29),(18,31),(19,24),(19,27),(19,31),(20,24),(20,27),(20,31),(21,24),(21,27),(21,31),(22,31),(23,31),(24,25),(24,26),(24,28),(24,29),(24,31),(25,31),(26,31),(27,28),(27,29),(27,31),(28,31),(29,31),(30,31)] ?_;simp [h1,h2,h3,h4,h5,h6]
 refine LpD.loopN X hG (Q3 x) x.items.length (t':=mkT 62 [(1,.ptr 0 0),(2,.ptr 1 0),(3,.ptr 2 0),(4,.int .i64 ((0:Nat):Int))])
  (H':=[some (.box x.c),some (.box (Sx.c ⟨0,[],t0,t0,[],t0,t0,[],t0,t0,0⟩)),some (.box (c6 x (itE.tk 3 (x.items.take 0)))),AO (x.items.take 0)])
  (AD.mkV 1000 (fun i=>i) 4 (by simp [hB]) (by simp) (by simp) rfl (by
   intro i hi;rcases (by omega:i=0∨i=1∨i=2∨i=3) with rfl|rfl|rfl|rfl
   ·simp [AH.at,AI,AL,ren,Sx.c,itE.av_ren,Jj]
   ·simp [AH.at,AI,AL,ren,Sx.c,itE.av_ren,Jj]
   ·simp [AH.at,AI,AL,ren,c6,Jj]
   ·simp [AH.at]) (by simp [Sx.c,c6]) (by simp [ren])) ⟨0,by omega,rfl,rfl⟩ ?_
 rintro k tt H ⟨i,oQ,rfl,rfl⟩;cases k with
 |zero =>
  obtain rfl:i=x.items.length:=by omega
  rw [List.take_length];have oy:=itE.tk_cut (show ¬3<0 by omega) x.items;simp [Sx.c,c6,Bo,Kj,oy]
 |succ k =>
  have hb:=hx.items;have hi:i<x.items.length:=by omega
  have hi':(i:Int)<x.items.length:=by omega
  obtain ⟨y,hy⟩:∃y,x.items[i]? = some y:=⟨_,List.getElem?_eq_getElem hi⟩
  have g0:(itE.row x.items)[i*2+0]? = some (.str y.name):=itE.row_cell hy 0 (by decide);have g1:(itE.row x.items)[i*2+1]? = some (AN.av y.dims):=itE.row_cell hy 1 (by decide);simp only [Nat.add_zero] at g0;have oe:x.items.take (i+1)=x.items.take i++[y]:=by rw [List.take_add_one,hy,Option.toList_some]
  have sL:(x.items.take i).length=i:=by rw [List.length_take];omega
  have w1:IntKind.i64.wrap ((i:Int)+1)=((i+1:Nat):Int):=by rw [Ab (by omega) (by omega)];omega
  have hI:∀{t H},AD B t H (mkT 62 [(1,.ptr 0 0),(2,.ptr 1 0),(3,.ptr 2 0),(4,.int .i64 ((i+1:Nat):Int))]) [some (.box x.c),some (.box (Sx.c ⟨0,[],t0,t0,[],t0,t0,[],t0,t0,0⟩)),some (.box (c6 x (itE.tk 3 (x.items.take i++[y])))),AO (x.items.take i++[y])]→Nxt B (Q3 x) (k+1) t H :=fun h=>Nxt.mk k (by omega) h ⟨i+1,by omega,rfl,by rw [oe]⟩
  generalize x.items.take i=out at *;simp [Sx.c,c6,hi',-Int.natCast_add];refine LpD.turns X hG [16,18] [] ?_;have e1:itE.c y=[.str y.name,AN.av y.dims]:=rfl;have e2:itE.sz=2:=rfl
  by_cases h0:out=[]
  ·subst h0
   have a1:=fun H ow fid=>Nl itE (P:=zP) (H:=H) (ow:=ow) (fid:=fid) NG y
   rw [e1,e2] at a1;simp [hi,g0,g1,a1,w1]
   refine hI (AD.mkV 1000 (fun i=>if i=3 then 4 else i) 4 (by simp [hB]) (by intro i j hi hj h;split at h<;>split at h<;>omega) (by simp [hB]) rfl (by
    intro i hi;rcases (by omega:i=0∨i=1∨i=2∨i=3) with rfl|rfl|rfl|rfl
    ·simp [AH.at,AI,AL,ren,Sx.c,itE.av_ren,Jj]
    ·simp [AH.at,AI,AL,ren,Sx.c,itE.av_ren,Jj]
    ·simp [AH.at,AI,AL,ren,c6,Jj,itE.tk_ren]
    ·simp [AH.at,AO,AI]) (by simp [Sx.c,c6,itE.tk_low,AO]) (by simp [ren]))
  ·have a1:=fun H ow fid (h:AH.at H 3=some (.tok out.length))=>Nk itE (P:=zP) (H:=H) (ow:=ow) (fid:=fid) (k:=3) NG out y h0 h (by omega)
   rw [e1,e2] at a1;have pa:AO out=some (.tok out.length):=C3 h0;rw [pa];have i1:=Iz itE 3 h0;simp [hi,g0,g1,a1,w1,i1];exact hI (AD.mkK 4 (by simp [hB]) (by simp) (by simp [Sx.c,c6,AO]) (by simp [Sx.c,c6,itE.tk_low,AO]))
mutual
def toN:Nd→Nd
 |.mk l e s b c m => .mk l e (Kj s) (B5 b) (B5 c) m
def B5:List Nd→List Nd
 |[]=>[]
 |n::r=>toN n::B5 r
end
mutual
def okN:Nd→Prop
 |.mk _ _ s b c _=>SxT s∧Db b∧Db c
def Db:List Nd→Prop
 |[]=>True
 |n::r=>okN n∧Db r
end
theorem Q4:∀l,(B5 l).length=l.length
 |[]=>rfl
 |n::r=>by rw [B5,List.length_cons,Q4 r,List.length_cons]
theorem Q5:∀a b,B5 (a++b)=B5 a++B5 b
 |[],b=>rfl
 |n::a,b=>by rw [List.cons_append,B5,B5,Q5 a b,List.cons_append]
theorem N0:∀{l:List Nd},Db l→∀n∈l,okN n
 |[],_,n,h=>by cases h
 |m::r,k,n,h=>by
  rw [Db] at k;rcases List.mem_cons.1 h with rfl|h
  ·exact k.1
  ·exact N0 k.2 n h
theorem Q6 {n:Nd} (h:okN n):SxT n.st∧Db n.body∧Db n.els:=by
 cases n with
 |mk l e s b c m=>rw [okN] at h;exact h
theorem Q7:∀{l:List Nd},∀n∈l,szN n≤szL l
 |[],n,h=>by cases h
 |m::r,n,h=>by
  rw [szL];rcases List.mem_cons.1 h with rfl|h
  ·omega
  ·have:=Q7 n h;omega
theorem WV (n:Nd):ndC (toN n) = .int .i64 n.line :: .int .i64 n.end_::((Kj n.st).c++[ndE.av (B5 n.body),ndE.av (B5 n.els),.int .i64 n.mid]):=by
 rw [GK];cases n with
 |mk l e s b c m=>rw [toN];rfl
theorem Q8 (a b z:Int) (c0 c1 c2 c3 c4 c5 c6 c7 c8 c9 c10 c11 c12 c13 c14 c15 c16 c17 c18 c19 c20 c21 c22 c23 c24 c25 c26 c27 c28:AV) (l m:List Nd):Aq zP 95 [(0,.int .i64 a),(1,.int .i64 b),(2,.agg [c0,c1,c2,c3,c4,c5,c6,c7,c8,c9,c10,c11,c12,c13,c14,c15,c16,c17,c18,c19,c20,c21,c22,c23,c24,c25,c26,c27,c28]),(3,ndE.av l),(4,ndE.av m),(5,.int .i64 z)]=some (.agg [.int .i64 a,.int .i64 b,c0,c1,c2,c3,c4,c5,c6,c7,c8,c9,c10,c11,c12,c13,c14,c15,c16,c17,c18,c19,c20,c21,c22,c23,c24,c25,c26,c27,c28,ndE.av l,ndE.av m,.int .i64 z]):=by
 by_cases h:l=[]
 ·by_cases k:m=[]
  ·subst h;subst k;kernel_rfl
  ·subst h;rw [ndE.av_ne k];kernel_rfl
 ·by_cases k:m=[]
  ·subst k;rw [ndE.av_ne h];kernel_rfl
  ·rw [ndE.av_ne h,ndE.av_ne k];kernel_rfl
noncomputable def Q9:AF zP AJ:=AF.pure 24 (fun x:Sx=>SxT x) (fun x=>[.agg x.c]) (fun x => .agg (Kj x).c) (fun x h H=>WT x h H) (fun x y _ _ h=>by
 simp only [List.cons.injEq,AV.agg.injEq,and_true] at h
 rw [sxE.inj x y h])
@[simp high] theorem lP (l:List Nd):alen zP 24 (ndE.av l)=some (.int .i64 l.length):=ndE.alen Tryz.underlying24 l
@[simp high] theorem lQ {l:List Nd} {i:Nat} (h:i<l.length):Ao zP 24 (ndE.av l) (.int .i64 (i:Int))=some (.vptr (ndE.row l) (i*34)):=ndE.aidx Tryz.underlying24 (by kernel_rfl) h
def RA (l:List Nd) (k:Nat) (tt:List AV) (H:AH):Prop:=∃i,i+k=l.length∧tt=mkT 36 [(0,ndE.av l),(3,ndE.tk 0 (B5 (l.take i))),(4,.int .i64 (i:Int))]∧H=[AO (B5 (l.take i))]
theorem N1:∀(m:Nat) (l:List Nd),szL l<m→szL l<1000000000→Db l→∀H,CS zP AJ 11 [ndE.av l] H (ndE.av (B5 l)) H
 |0,l,hm,_,_,H=>absurd hm (Nat.not_lt_zero _)
 |m+1,l,hm,hz,o6,H=>by
  have hL:([Q9,AF.pure 11 (fun l:List Nd=>szL l<m∧szL l<1000000000∧Db l) (fun l=>[ndE.av l]) (fun l=>ndE.av (B5 l)) (fun l h H=>N1 m l h.1 h.2.1 h.2.2 H) (fun x y _ _ h=>by
   simp only [List.cons.injEq,and_true] at h
   rw [ndE.av_inj h])].map (·.f)).Nodup:=show ([24,11]:List Nat).Nodup by decide
  have X:=Bn [Q9,AF.pure 11 (fun l:List Nd=>szL l<m∧szL l<1000000000∧Db l) (fun l=>[ndE.av l]) (fun l=>ndE.av (B5 l)) (fun l h H=>N1 m l h.1 h.2.1 h.2.2 H) (fun x y _ _ h=>by
   simp only [List.cons.injEq,and_true] at h
   rw [ndE.av_inj h])] B4 Ad
  have f1:=fun (x:Sx) H (h:SxT x)=>C0 hL List.mem_cons_self x h H
  have f2:=fun (l:List Nd) H (h:szL l<m∧szL l<1000000000∧Db l)=>C0 hL (List.mem_cons_of_mem _ List.mem_cons_self) l h H
  generalize oOf _=O at X f1 f2;clear hL;refine CS.tr0 Bh Tryz.func11 (by kernel_rfl) 0 (by simp [Tryz.f11]) (fun B hB hG => ?_) (by simp) (by simp) H;refine Tr.goD X hG ?_;simp [Tryz.f11];have hlz:=Qd l
  refine LpD.loopN X hG (RA l) l.length (t':=mkT 36 [(0,ndE.av l),(3,ndE.tk 0 (B5 (l.take 0))),(4,.int .i64 ((0:Nat):Int))]) (H':=[AO (B5 (l.take 0))])
   (AD.mkV 1000 (fun i=>i) 1 (by simp [hB]) (by simp) (by simp) rfl (by
    intro i hi;obtain rfl:i=0:=by omega
    simp [AH.at,B5]) (by simp [B5]) (by simp [ren,B5,ndE.av_ren])) ⟨0,by omega,rfl,rfl⟩ ?_
  rintro k tt H ⟨i,oQ,rfl,rfl⟩;cases k with
  |zero =>
   obtain rfl:i=l.length:=by omega
   rw [List.take_length];have oy:=ndE.tk_cut (show ¬0<0 by omega) (B5 l);simp [Bo,oy]
  |succ k =>
   have hi:i<l.length:=by omega
   have hi':(i:Int)<l.length:=by omega
   obtain ⟨n,hn⟩:∃n,l[i]? = some n:=⟨_,List.getElem?_eq_getElem hi⟩
   have tg:=List.mem_of_getElem? hn;obtain ⟨o1,o2,o3⟩:=Q6 (N0 o6 n tg);have oa:=Q7 n tg;rw [Qc] at oa;have h1:=fun H=>f1 n.st H o1
   have h2:=fun H=>f2 n.body H ⟨by omega,by omega,o2⟩
   have h3:=fun H=>f2 n.els H ⟨by omega,by omega,o3⟩
   have g:∀j,j<34→(ndE.row l)[i*34+j]? = (ndC n)[j]? := fun j hj=>ndE.row_cell hn j hj
   obtain ⟨pB,pZ⟩:=ndE.row_at l i hn;have pB:((ndE.row l).drop (i*34)).take 34=ndC n:=pB;have pZ:i*34+34≤(ndE.row l).length:=pZ;have w1:IntKind.i64.wrap ((i:Int)+1)=((i+1:Nat):Int):=by rw [Ab (by omega) (by omega)];omega
   have oe:B5 (l.take (i+1))=B5 (l.take i)++[toN n]:=by rw [List.take_add_one,hn,Option.toList_some,Q5];rfl
   have sL:(B5 (l.take i)).length=i:=by rw [Q4,List.length_take];omega
   have hI:∀{t H},AD B t H (mkT 36 [(0,ndE.av l),(3,ndE.tk 0 (B5 (l.take i)++[toN n])),(4,.int .i64 ((i+1:Nat):Int))]) [AO (B5 (l.take i)++[toN n])]→Nxt B (RA l) (k+1) t H :=fun h=>Nxt.mk k (by omega) h ⟨i+1,by omega,by rw [oe],by rw [oe]⟩
   generalize B5 (l.take i)=out at *;have eN:=GK n;simp only [Sx.c,List.cons_append,List.nil_append] at eN h1;rw [eN] at pB;have eT:=WV n;simp only [Sx.c,List.cons_append,List.nil_append] at eT;have e2:ndE.sz=34:=rfl;have e1:ndE.c (toN n)=ndC (toN n):=rfl;rw [eT] at e1;have a0:=fun H ow fid=>Nl ndE (P:=zP) (H:=H) (ow:=ow) (fid:=fid) GL (toN n)
   have aN:=fun (h0:out≠[]) H ow fid (h:AH.at H 0=some (.tok out.length))=>Nk ndE (P:=zP) (H:=H) (ow:=ow) (fid:=fid) (k:=0) GL out (toN n) h0 h (by omega)
   rw [e1,e2] at a0;simp only [e1,e2] at aN
   by_cases h0:out=[]
   ·subst h0
    simp [hi,hi',pB,pZ,-Int.natCast_add];refine LpD.turns X hG [7,10,13,18] zL4 ?_;simp [h1,h2,h3,Q8,a0,w1,-Int.natCast_add]
    refine hI (AD.mkV 1000 (fun i=>if i=0 then 2 else i) 1 (by simp [hB]) (by intro i j hi hj h;omega) (by simp [hB]) rfl (by
     intro i hi;obtain rfl:i=0:=by omega
     simp [AH.at,AO,AI]) (by simp [AO]) (by simp [ren,ndE.tk_ren,ndE.tk_strip,ndE.tk_low,ndE.av_ren]))
   ·have aN:=aN h0
    have pa:AO out=some (.tok out.length):=C3 h0;rw [pa];simp [hi,hi',pB,pZ,-Int.natCast_add];refine LpD.turns X hG [7,10,13,18] zL4 ?_;have i1:=Iz ndE 0 h0;simp [h1,h2,h3,Q8,aN,w1,i1,-Int.natCast_add];exact hI (AD.mkK 1 (by simp [hB]) (by simp [ndE.tk_low]) (by simp [AO]) (by simp [AO]))
end Go.Proofs.YtmjfldclpijghaaGreatDoor
namespace Go.Proofs.YtmjfldclpijghaaGreatDoor.Tg
open Go.RowKit Go.Proofs.Fw
set_option maxRecDepth 100000
theorem zz0:AZ zP 31=some 1∧Aj zP 31=some false∧Ae zP 31=some (.nilSlice)∧Bg zP 31 4=true∧AZ zP 33=some 2∧Aj zP 33=some true∧Ae zP 33=some (.agg [.nilSlice,.int .i64 0])∧fI zP 33 0=(0,31,true)∧fI zP 33 1=(1,2,true)∧AZ zP 50=some 4∧Aj zP 50=some true∧Ae zP 50=some (.agg [.str [],.nilSlice,.int .i64 0,.int .i64 0])∧fI zP 50 0=(0,9,true)∧fI zP 50 1=(1,48,true)∧fI zP 50 2=(2,3,true)∧fI zP 50 3=(3,2,true)∧AZ zP 71=some 1∧Aj zP 71=some false∧Ae zP 71=some (.nilPtr)∧AZ zP 73=some 5∧Aj zP 73=some true∧Ae zP 73=some (.agg [.nilSlice,.int .i64 0,.nilSlice,.nilIface,.int .i64 0])∧fI zP 73 0=(0,33,true)∧fI zP 73 1=(2,25,true):=by and_intros<;>kernel_rfl
theorem zz1:fI zP 73 2=(3,35,true)∧fI zP 73 3=(4,3,true)∧AZ zP 227=some 1∧Aj zP 227=some false∧Ae zP 227=some (.nilPtr)∧AG zP 3=true∧AG zP 4=true∧AG zP 5=true∧AG zP 6=true∧AG zP 7=true∧AG zP 10=true∧AG zP 14=true∧AG zP 15=true∧AG zP 16=true∧AG zP 23=true:=by and_intros<;>kernel_rfl
theorem go34:AG zP 34=true:=by kernel_rfl
theorem zz2:AG zP 66=true∧AG zP 67=true∧AG zP 68=true∧AG zP 69=true∧AG zP 70=true∧AG zP 71=true∧AG zP 97=true∧AG zP 98=true∧AG zP 124=true:=by and_intros<;>kernel_rfl
attribute [simp] zz0 Tryz.underlying31 Tryz.underlying33 Tryz.underlying50
attribute [simp] Tryz.underlying71 zz1 Tryz.underlying73 Tryz.underlying227
attribute [simp] go34 zz2
end Go.Proofs.YtmjfldclpijghaaGreatDoor.Tg
namespace Go.Proofs.YtmjfldclpijghaaGreatDoor
open Go.RowKit Go.Proofs.Fw
set_option maxRecDepth 100000
set_option maxHeartbeats 4000000
structure Sy where
 name:List UInt8
 dims:List Int
 at_:Int
 size:Int
def syE:Enc Sy where
 sz:=4
 c:=fun x=>[.str x.name,AN.av x.dims,.int .i64 x.at_,.int .i64 x.size]
 pos:=by decide
 len:=fun _=>rfl
 low:=fun x=>by simp
 one:=fun x=>by simp
 inj:=fun x y h=>by obtain ⟨a,b,c,d⟩:=x;obtain ⟨a',b',c',d'⟩:=y;simp only [List.cons.injEq,AV.int.injEq,AV.str.injEq,true_and,and_true] at h;rw [h.1,AN.av_inj h.2.1,h.2.2.1,h.2.2.2]
def E7 (l:List Sy) (n:List UInt8):Option Sy:=l.find? fun x=>x.name==n
structure Ck where
 syms:List Sy
 cells:Int
 held:List (List UInt8)
 hv:Nat
 bad:Option (Int × Nat)
 at_:Int
def Ck.fail (s:Ck) (e:Nat):Ck:=⟨s.syms,s.cells,s.held,s.hv,if e=0 then s.bad else some (s.bad.getD (s.at_,e)),s.at_⟩
def Ck.name (s:Ck) (n:List UInt8) (k:Nat):Ck:=match E7 s.syms n with
 |none=>s.fail 6
 |some x=>if x.dims.length=k then s else s.fail 8
def Ck.free (s:Ck) (n:List UInt8):Ck:=if s.held.contains n then s.fail 9 else s
def Ck.head (s:Ck) (t:Tn):Ck:=if t.k=2∨t.k=3 then s.name t.s t.kids.length else s
mutual
def ckE:Tn→Ck→Ck
 |.lf k n w,s=>s.head (.lf k n w)
 |.nd k n w a,s=>Cy a (s.head (.nd k n w a))
def Cy:List Tn→Ck→Ck
 |[],s=>s
 |t::l,s=>Cy l (ckE t s)
end
def Ck.to (s:Ck) (t:Tn):Ck:=Cy t.kids ((s.name t.s t.kids.length).free t.s)
def He:List Int→Int→Option Int
 |[],z=>some z
 |n::l,z=>if n<1∨4096<z*n then none else He l (z*n)
def Ck.decl (s:Ck) (x:It):Ck × Nat :=
 if (E7 s.syms x.name).isSome then (s,7) else
 match He x.dims 1 with
 |none=>(s,4)
 |some z=>if 4096<s.cells+z then (s,4) else (⟨s.syms++[⟨x.name,x.dims,s.cells,z⟩],s.cells+z,s.held,s.hv,s.bad,s.at_⟩,0)
def Ck.item (s:Ck) (x:It):Ck:=if s.bad.isSome then s else (s.decl x).1.fail (s.decl x).2
def EB:List It→Ck→Ck
 |[],s=>s
 |x::l,s=>EB l (s.item x)
def Ck.loop (s:Ck) (x:Sx):Ck :=
 let r:=ckE x.hi (ckE x.lo ((s.name x.name 0).free x.name))
 if x.step=0 then r.fail 10 else r
def Ck.stmt (s:Ck) (x:Sx):Ck :=
 if x.kind=1 then EB x.items s
 else if x.kind=2 then ckE x.e (s.to x.to)
 else if x.kind=3 then s.loop x
 else if x.kind=5 then ckE x.cb (ckE x.ca s)
 else if x.kind=8 then s.to x.to
 else if x.kind=9 then ckE x.e s
 else s
def Ck.on (s:Ck) (a:Int):Ck:=⟨s.syms,s.cells,s.held,s.hv,s.bad,a⟩
def Ck.push (s:Ck) (n:List UInt8):Ck:=⟨s.syms,s.cells,s.held++[n],s.hv+1,s.bad,s.at_⟩
def Ck.pop (s:Ck):Ck:=⟨s.syms,s.cells,s.held.dropLast,s.hv,s.bad,s.at_⟩
mutual
def ckN:Nd→Ck→Ck
 |.mk _ _ x b c _,s=>if x.kind=3 then (ckL c (ckL b (s.push x.name))).pop else ckL c (ckL b s)
def ckL:List Nd→Ck→Ck
 |[],s=>s
 |n::r,s=>if ((s.on n.line).stmt n.st).bad.isSome then (s.on n.line).stmt n.st else ckL r (ckN n ((s.on n.line).stmt n.st))
end
def ck0:Ck:=⟨[],0,[],0,none,0⟩
def G7 (l:List Nd):List Sy × Int × Option (Int × Nat):=match (ckL l ck0).bad with
 |some e=>([],0,some e)
 |none=>((ckL l ck0).syms,(ckL l ck0).cells,none)
def El:Option (Int × Nat)→AV
 |none => .nilIface
 |some (a,e)=>Ac [(Ce,a)] (e:Int)
@[simp] theorem RB:El none = .nilIface:=AS rfl
theorem E8 (a:Int) (e:Nat):El (some (a,e)) = .iface 102 (.vptr [.str Ce,.int .i64 a,.iface 101 (.int .i64 (e:Int))] 0):=AS rfl
theorem II (x:Option (Int × Nat)):low 0 (El x)=true:=by
 cases x with
 |none=>rfl
 |some y=>exact Fp _ _
@[simp ↓ high] theorem lR (m:Nat) (x:Option (Int × Nat)):low m (El x)=true:=CA (Nat.zero_le m) _ (II x)
@[simp ↓ high] theorem lT (x:Option (Int × Nat)):BN (El x)=[]:=J2 _ (II x)
@[simp ↓ high] theorem lU (x:Option (Int × Nat)):(El x).known=true:=by cases x<;>rfl
@[simp ↓ high] theorem lV (x:Option (Int × Nat)):(El x).one=true:=by cases x<;>rfl
@[simp ↓ high] theorem lW (x:Option (Int × Nat)):An (El x)=[El x]:=by cases x<;>rfl
def Ck.hV (s:Ck) (q:Nat):AV:=if s.hv=0 then .nilSlice else .stk q s.hv 1 s.held.length
def Ck.hE (s:Ck):Option Ent:=if s.hv=0 then none else some (.stk s.hv (BL.row s.held))
@[simp ↓ high] theorem lX (s:Ck) (q:Nat):(s.hV q).known=true:=by unfold Ck.hV;split<;>rfl
@[simp ↓ high] theorem lY (s:Ck) (q:Nat):(s.hV q).one=true:=by unfold Ck.hV;split<;>rfl
@[simp ↓ high] theorem lZ (s:Ck) (q:Nat):An (s.hV q)=[s.hV q]:=by unfold Ck.hV;split<;>rfl
theorem Ck.hV_low (s:Ck) {q m:Nat} (h:q<m):low m (s.hV q)=true:=by unfold Ck.hV;split<;>simp [low,h]
theorem Ck.hV_ren (s:Ck) (φ:Nat→Nat) (q:Nat):ren φ (s.hV q)=s.hV (φ q):=by unfold Ck.hV;split<;>rfl
theorem Ls (s:Ck) (m:Nat):At m s.hE=true:=by
 unfold Ck.hE
 split
 ·rfl
 ·exact BL.row_lowm m _
theorem Jk (s:Ck) (φ:Nat→Nat):s.hE.map (AI φ)=s.hE:=by
 unfold Ck.hE
 split
 ·rfl
 ·simp [AI,BZ _ _ (BL.row_low _)]
def Ck.c (s:Ck) (t q:Nat):List AV:=[syE.tk t s.syms,.int .i64 s.cells,s.hV q,El s.bad,.int .i64 s.at_]
def ckH (s:Ck):AH:=[some (.box (s.c 1 2)),AO s.syms,s.hE]
def BJ:Env:=⟨AJ.glob,KJ,AJ.imm,fun t=>t==25,fun t=>t==25⟩
theorem F1:Ch zP BJ:=JO
theorem Jl:∀i,low 0 (BJ.glob i)=true:=Bh
theorem CS.ofK {f:FuncId} {args:List AV} {H H':AH} {v:AV} (h:CS zP BJ f args H v H'):CS zP AJ f args H v H':=fun g w cargs R hG hA=>h g w cargs R hG hA
theorem Em:CxW Bu zP BJ []:=Cx.toW ⟨Fe,F1,Ad⟩
theorem DP (s:Ck):AU 3 (ckH s)=true:=by
 have h1:=syE.tk_low (k:=1) (m:=3) (by decide) s.syms;have h2:=s.hV_low (q:=2) (m:=3) (by decide);simp only [ckH,AU,Kf,Ls,Bool.and_true]
 show lowL 3 (s.c 1 2)=true
 simp [Ck.c,lowL,h1,h2,low]
theorem CS.ck {f:FuncId} {args:List AV} {v:AV} {s r:Ck} (h:CS zP BJ f args (ckH s) v (ckH r)) (ha:lowL 3 args=true) (hv:low 0 v=true) (K:AH):CS zP BJ f args (ckH s++K) v (ckH r++K):=by
 have h3:∀(x:Ck) (i:Nat),i<3→AH.at (ckH x++K) i=((ckH x).at i).map (AI fun j=>j):=by
  intro x i hi
  rw [Gy (by simpa [ckH] using hi),Et (m:=3) (e:=(ckH x).at i) (fun i _=>rfl) (by
   cases he:(ckH x).at i with
   |none=>rfl
   |some y=>exact Hk (DP x) he)]
 have:=CS.embed (k:=3) (fun j=>j) (H:=ckH s++K) (H':=ckH r++K) h rfl rfl (fun i j _ _ h=>h) Jl ha (CA (Nat.zero_le 3) v hv) (DP s) (DP r) (h3 s) (h3 r) (by
  intro j hj
  have:3≤j:=by
   rcases Nat.lt_or_ge j 3 with h|h
   ·exact absurd rfl (hj j h)
   ·exact h
  rw [FO (by simpa [ckH] using this),FO (by simpa [ckH] using this)]
  rfl)
 rwa [Ea (fun i _=>rfl) _ ha,DE _ _ hv] at this
theorem CS.ckAt {f:FuncId} {args:List AV} {v:AV} {s r:Ck} (h:CS zP BJ f args (ckH s) v (ckH r)) (ha:lowL 3 args=true) (hv:low 0 v=true) {b t q:Nat} (vK:b≠t) (vL:b≠q) (vM:t≠q) {H H':AH} (h0:H.at b=some (.box (s.c t q))) (h1:H.at t=AO s.syms) (h2:H.at q=s.hE)
  (k0:H'.at b=some (.box (r.c t q))) (k1:H'.at t=AO r.syms) (k2:H'.at q=r.hE) (hO:∀j,j≠b→j≠t→j≠q→H'.at j=H.at j) :
  CS zP BJ f (AL (fun i=>if i=0 then b else if i=1 then t else q) args) H v H':=by
 have h3:∀(x:Ck) (G:AH),G.at b=some (.box (x.c t q))→G.at t=AO x.syms→G.at q=x.hE→∀i,i<3→G.at (if i=0 then b else if i=1 then t else q)=((ckH x).at i).map (AI (fun i=>if i=0 then b else if i=1 then t else q)):=by
  intro x G g0 g1 g2 i hi;rcases (by omega:i=0∨i=1∨i=2) with rfl|rfl|rfl
  ·rw [if_pos rfl,g0]
   have e1:=syE.tk_ren (fun i=>if i=0 then b else if i=1 then t else q) 1 x.syms;have e2:=x.hV_ren (fun i=>if i=0 then b else if i=1 then t else q) 2;have e3:=DE (fun i=>if i=0 then b else if i=1 then t else q) _ (II x.bad);simp at e1 e2;simp [ckH,AH.at,Ck.c,AI,AL,ren,e1,e2,e3]
  ·rw [if_neg (by decide),if_pos rfl,g1]
   exact (Ff _ _).symm
  ·rw [if_neg (by decide),if_neg (by decide),g2]
   exact (Jk _ _).symm
 have:=CS.embed (k:=3) (fun i=>if i=0 then b else if i=1 then t else q) (H:=H) (H':=H') h rfl rfl (by
  intro i j hi hj he;rcases (by omega:i=0∨i=1∨i=2) with rfl|rfl|rfl<;>rcases (by omega:j=0∨j=1∨j=2) with rfl|rfl|rfl<;>simp at he ⊢
  ·exact vK he
  ·exact vL he
  ·exact vK he.symm
  ·exact vM he
  ·exact vL he.symm
  ·exact vM he.symm) Jl ha (CA (Nat.zero_le 3) v hv) (DP s) (DP r) (h3 s H h0 h1 h2) (h3 r H' k0 k1 k2) (fun j hj=>hO j (fun h=>hj 0 (by decide) (by simp [h])) (fun h=>hj 1 (by decide) (by simp [h])) (fun h=>hj 2 (by decide) (by simp [h])))
 rwa [DE _ _ hv] at this
@[simp high] theorem zAH (l:List Int):alen zP 48 (AN.av l)=some (.int .i64 l.length):=AN.alen Tryz.underlying48 l
@[simp] theorem la:BJ.imm 50=false:=by decide
@[simp] theorem lb:BJ.imm 33=false:=by decide
@[simp] theorem lc:BJ.imm 73=false:=by decide
@[simp] theorem ld:BJ.imm 134=false:=by decide
@[simp] theorem lg:BJ.imm 92=false:=by decide
@[simp] theorem lh:BJ.imm 95=false:=by decide
@[simp] theorem li:BJ.imm 88=true:=by decide
@[simp] theorem lj:BJ.imm 106=true:=by decide
@[simp] theorem buSy0:Aq zP 50 []=some (.agg [.str [],.nilSlice,.int .i64 0,.int .i64 0]):=by kernel_rfl
theorem syC (x:Sy):syE.c x=[.str x.name,AN.av x.dims,.int .i64 x.at_,.int .i64 x.size]:=rfl
def sy0:Sy:=⟨[],[],0,0⟩
def GT (x:Option Sy):AV := .tup [.agg (syE.c (x.getD sy0)),.bool x.isSome]
theorem contract (s r:Ck) {f:FuncId} {fn:Func} {args:List AV} {v:AV} (hf:zP.funcs[f]? = some fn) (hb:fn.body=some (Au fn)) (hn:args.length≤fn.ntmps)
  (h:∀B:Bs,B.H=ckH s→Al BJ B.g→Tr zP B (Au fn) (mkT fn.ntmps (Eo 0 args)) (ckH s) (Fin zP fn 3 0 v (ckH r))) (hv:low 3 v=true):CS zP BJ f args (ckH s) v (ckH r):=CS.of_Tr hf hb 0 hn h hv (DP r)
structure Ck.ok (s:Ck):Prop where
 syms:(s.syms.length:Int)≤s.cells
 cells:s.cells≤4096
 held:s.held.length<4294967296
 hv:s.hv=0→s.held=[]
theorem RC {α:Type} {E:Enc α} {k k':Nat} {l l':List α} (h:E.tk k l=E.tk k' l'):l=l':=by
 by_cases h1:l=[]
 ·by_cases h2:l'=[]
  ·rw [h1,h2]
  ·rw [h1,E.tk_ne k' h2] at h;cases h
 ·by_cases h2:l'=[]
  ·rw [h2,E.tk_ne k h1] at h;cases h
  ·rw [E.tk_ne k h1,E.tk_ne k' h2] at h
   simp only [AV.slice.injEq] at h;exact E.row_inj h.2.2.2
theorem RD {s r:Ck} (hs:s.ok) (hr:r.ok) {t q:Nat} (h:s.c t q=r.c t q) (h6:s.hE=r.hE):s=r:=by
 obtain ⟨a,b,c,d,e,f⟩:=s;obtain ⟨a',b',c',d',e',f'⟩:=r;simp only [Ck.c,List.cons.injEq,AV.int.injEq,true_and,and_true] at h;obtain ⟨h1,h2,h3,h4,h5⟩:=h;have e1:=RC h1
 have e4:e=e':=by
  cases e with
  |none=>cases e' with
   |none=>rfl
   |some y=>obtain ⟨p,q⟩:=y;rw [E8] at h4;cases h4
  |some x=>cases e' with
   |none=>obtain ⟨p,q⟩:=x;rw [E8] at h4;cases h4
   |some y =>
    obtain ⟨p,q⟩:=x;obtain ⟨p',q'⟩:=y;rw [E8,E8] at h4;simp only [AV.iface.injEq,AV.vptr.injEq,List.cons.injEq,AV.int.injEq,true_and,and_true] at h4;have:q=q':=by omega
    rw [h4.1,this]
 have e3:d=d'∧c=c':=by
  simp only [Ck.hV,Ck.hE] at h3 h6
  by_cases hd:d=0
  ·by_cases hd':d'=0
   ·have k1:c=[]:=hs.hv hd
    have k2:c'=[]:=hr.hv hd';exact ⟨by rw [hd,hd'],by rw [k1,k2]⟩
   ·rw [if_pos hd,if_neg hd'] at h3;cases h3
  ·by_cases hd':d'=0
   ·rw [if_neg hd,if_pos hd'] at h3;cases h3
   ·rw [if_neg hd,if_neg hd'] at h6
    simp only [Option.some.injEq,Ent.stk.injEq] at h6;exact ⟨h6.1,BL.row_inj h6.2⟩
 obtain ⟨rfl,rfl⟩:=e3;subst e1 e4 h2 h5;rfl
theorem RE {s r:Ck} (hs:s.ok) (hr:r.ok) {K L:AH} (h:ckH s++K=ckH r++L):s=r∧K=L:=by simp only [ckH,List.cons_append,List.nil_append,List.cons.injEq,Option.some.injEq,Ent.box.injEq] at h;exact ⟨RD hs hr h.1 h.2.2.1,h.2.2.2⟩
def Ck.same (s r:Ck):Prop:=∃b,r=⟨s.syms,s.cells,s.held,s.hv,b,s.at_⟩
theorem Ck.same_rfl (s:Ck):s.same s:=⟨s.bad,rfl⟩
theorem Ck.same_trans {s r q:Ck} (h:s.same r) (k:r.same q):s.same q:=by obtain ⟨a,rfl⟩:=h;obtain ⟨b,rfl⟩:=k;exact ⟨b,rfl⟩
theorem Ck.same_ok {s r:Ck} (h:s.same r) (k:s.ok):r.ok:=by obtain ⟨a,rfl⟩:=h;exact ⟨k.syms,k.cells,k.held,k.hv⟩
theorem Jm (s:Ck) (e:Nat):s.same (s.fail e):=⟨_,rfl⟩
theorem Jn (s:Ck) (n:List UInt8) (k:Nat):s.same (s.name n k):=by
 unfold Ck.name
 split
 ·exact Jm _ _
 ·split
  ·exact s.same_rfl
  ·exact Jm _ _
theorem Kl (s:Ck) (n:List UInt8):s.same (s.free n):=by
 unfold Ck.free
 split
 ·exact Jm _ _
 ·exact s.same_rfl
theorem N2 (s:Ck) (t:Tn):s.same (s.head t):=by
 unfold Ck.head
 split
 ·exact Jn _ _ _
 ·exact s.same_rfl
mutual
theorem GU:∀(t:Tn) (s:Ck),s.same (ckE t s)
 |.lf k n w,s=>by rw [ckE];exact N2 _ _
 |.nd k n w a,s=>by rw [ckE];exact Ck.same_trans (N2 _ _) (Km a _)
theorem Km:∀(l:List Tn) (s:Ck),s.same (Cy l s)
 |[],s=>by rw [Cy];exact s.same_rfl
 |t::l,s=>by rw [Cy];exact Ck.same_trans (GU t s) (Km l _)
end
theorem WW (t:Tn) (s:Ck):ckE t s=Cy t.kids (s.head t):=by
 cases t with
 |lf k n w=>rw [ckE];simp only [Tn.kids];rw [Cy]
 |nd k n w a=>rw [ckE];rfl
theorem N3:∀(a:List Tn) (t:Tn) (s:Ck),Cy (a++[t]) s=ckE t (Cy a s)
 |[],t,s=>by rw [List.nil_append,Cy,Cy,Cy]
 |u::a,t,s=>by rw [List.cons_append,Cy,Cy,N3 a t]
theorem WX {s r:Ck} (h:s.same r) (K:AH):Cb (ckH s++K) (ckH r++K):=by
 obtain ⟨b,rfl⟩:=h;refine ⟨by simp [ckH],?_⟩;intro i hi hn;rcases Nat.lt_or_ge i 1 with h0|h0
 ·obtain rfl:i=0:=by omega
  simp [ckH,AH.at] at hn
 ·obtain ⟨j,rfl⟩:∃j,i=j+1:=⟨i-1,by omega⟩
  exact hn
noncomputable def AF.ck (f:FuncId) {β:Type} (ok:β→Prop) (mk:β→List AV) (next:β→Ck→Ck) (oV:∀x,lowL 3 (mk x)=true) (sM:∀x (s:Ck),Ck.same s (next x s)) (inj:∀x y,mk x=mk y→x=y)
  (cs:∀x s,ok x→s.ok→CS zP BJ f (mk x) (ckH s) (.tup []) (ckH (next x s))):AF zP BJ where
 f:=f
 α:=β × Ck × AH
 ok:=fun x H=>H=ckH x.2.1++x.2.2∧ok x.1∧x.2.1.ok
 args:=fun x=>mk x.1
 out:=fun _ => .tup []
 up:=fun x _=>ckH (next x.1 x.2.1)++x.2.2
 cs:=fun x H h=>by obtain ⟨rfl,h1,h2⟩:=h;exact ⟨CS.ck (cs x.1 x.2.1 h1 h2) (oV _) rfl _,WX (sM _ _) _⟩
 same:=fun x y H hx hy h=>by obtain ⟨a,s,K⟩:=x;obtain ⟨b,r,L⟩:=y;obtain ⟨e1,_,h2⟩:=hx;obtain ⟨e2,_,h4⟩:=hy;simp only at e1 e2 h h2 h4;obtain ⟨rfl,rfl⟩:=RE h2 h4 (e1.symm.trans e2);obtain rfl:=inj _ _ h;exact ⟨rfl,rfl⟩
theorem F2 {L:List (AF zP BJ)} {f:FuncId} {β:Type} {ok:β→Prop} {mk:β→List AV} {next:β→Ck→Ck} {oV:∀x,lowL 3 (mk x)=true} {sM:∀x (s:Ck),Ck.same s (next x s)} {inj:∀x y,mk x=mk y→x=y}
  {cs:∀x s,ok x→s.ok→CS zP BJ f (mk x) (ckH s) (.tup []) (ckH (next x s))} (hL:(L.map (·.f)).Nodup) (hF:AF.ck f ok mk next oV sM inj cs∈L) (x:β) (s:Ck) (h1:ok x) (h2:s.ok) (K:AH) :
  oOf L f (mk x) (ckH s++K)=some (.tup [],ckH (next x s)++K):=DS hL _ hF (x:=(x,s,K)) ⟨rfl,h1,h2⟩
def SfI (l:List Sy) (c:Int) (n:List UInt8) (k:Nat) (t:List AV) (H:AH):Prop:=∃i,i+k=l.length∧E7 (l.drop i) n=E7 l n∧t=mkT 22 [(1,.str n),(2,.ptr 0 0),(4,.ptr 1 0),(9,syE.av l),(10,.int .i64 (l.length:Int)),(11,.int .i64 (i:Int))] ∧
 H=[some (.box [syE.av l,.int .i64 c]),some (.box [.str [],.nilSlice,.int .i64 0,.int .i64 0])]
@[simp high] theorem ll (l:List Sy):alen zP 31 (syE.av l)=some (.int .i64 l.length):=syE.alen Tryz.underlying31 l
@[simp high] theorem lm {l:List Sy} {i:Nat} (h:i<l.length):Ao zP 31 (syE.av l) (.int .i64 (i:Int))=some (.vptr (syE.row l) (i*4)):=syE.aidx Tryz.underlying31 (by kernel_rfl) h
theorem RF (l:List Sy) (hl:l.length<1000000) (c:Int) (n:List UInt8) (H:AH):CS zP BJ 16 [.agg [syE.av l,.int .i64 c],.str n] H (GT (E7 l n)) H:=by
 refine CS.tr0 Jl Tryz.func16 (by kernel_rfl) 0 (by simp [Tryz.f16]) (fun B hB hG => ?_) (by simp [GT,syC]) (by simp) H;refine Tr.goW Em hG ?_;simp [Tryz.f16]
 refine LpD.loopW [] hG (SfI l c n) l.length (t':=mkT 22 [(1,.str n),(2,.ptr 0 0),(4,.ptr 1 0),(9,syE.av l),(10,.int .i64 (l.length:Int)),(11,.int .i64 ((0:Nat):Int))]) (H':=[some (.box [syE.av l,.int .i64 c]),some (.box [.str [],.nilSlice,.int .i64 0,.int .i64 0])])
  (AD.mkK 2 (by simp [hB]) (by simp) (by simp) (by simp)) ⟨0,by omega,rfl,rfl,rfl⟩ ?_
 rintro k t H ⟨i,oQ,hf,rfl,rfl⟩;refine ⟨Bu,Em,?_⟩
 by_cases hi:i<l.length
 ·obtain ⟨k,rfl⟩:∃j,k=j+1:=⟨k-1,by omega⟩
  have hi':(i:Int)<l.length:=by omega
  obtain ⟨x,hx⟩:∃x,l[i]? = some x:=⟨_,List.getElem?_eq_getElem hi⟩
  obtain ⟨g1,g2⟩:=syE.row_at _ _ hx;have e4:syE.sz=4:=rfl;rw [e4,syC] at g1;rw [e4] at g2
  have pC:l.drop i=x::l.drop (i+1):=by rw [List.drop_eq_getElem_cons hi];rw [List.getElem?_eq_getElem hi] at hx;injection hx with hx;rw [hx]
  rw [pC,E7,List.find?_cons] at hf;have wi:IntKind.i64.wrap ((i:Int)+1)=((i+1:Nat):Int):=by rw [Ab (by omega) (by omega)];omega
  by_cases h1:x.name=n
  ·have hb:(x.name==n)=true:=by rw [beq_iff_eq];exact h1
   rw [hb] at hf;simp only at hf;simp [hi,hi',g1,g2,h1,hb,GT,←hf,syC]
  ·have hb:(x.name==n)=false:=by rw [beq_eq_false_iff_ne];exact h1
   rw [hb] at hf;simp only at hf;have hI:SfI l c n k (mkT 22 [(1,.str n),(2,.ptr 0 0),(4,.ptr 1 0),(9,syE.av l),(10,.int .i64 (l.length:Int)),(11,.int .i64 ((i+1:Nat):Int))]) [some (.box [syE.av l,.int .i64 c]),some (.box [.str [],.nilSlice,.int .i64 0,.int .i64 0])]:=⟨i+1,by omega,hf,rfl,rfl⟩
   simp [hi,hi',g1,g2,h1,hb,wi,-Int.natCast_add];exact Nxt.mk k (by omega) (AD.mkK 2 (by simp [hB]) (by simp) (by simp) (by simp)) hI
 ·have hi':¬(i:Int)<l.length:=by omega
  rw [List.drop_of_length_le (by omega)] at hf;have sN:E7 l n=none:=hf.symm;simp [hi,hi',GT,sN,syC,sy0]
theorem WY {g:Gh} (k:Nat) (l:List Sy) (c n:AV) {cargs:List Value} (h:AB g [.agg [syE.tk k l,c],n] cargs):AB g [.agg [syE.av l,c],n] cargs:=by simp only [AB] at h ⊢;obtain ⟨v,ws,rfl,h1,h2⟩:=h;refine ⟨v,ws,rfl,?_,h2⟩;rw [Ux] at h1 ⊢;obtain ⟨vs,rfl,h3⟩:=h1;refine ⟨vs,rfl,?_⟩;simp only [AB] at h3 ⊢;obtain ⟨a,x,rfl,k1,k2⟩:=h3;exact ⟨a,x,rfl,QM syE k1,k2⟩
noncomputable def F3:AF zP BJ:=AF.pure 16 (fun x:Nat × List Sy × Int × List UInt8=>x.2.1.length<1000000) (fun x=>[.agg [syE.tk x.1 x.2.1,.int .i64 x.2.2.1],.str x.2.2.2]) (fun x=>GT (E7 x.2.1 x.2.2.2))
 (fun x h H=>CS.weakA (RF x.2.1 h x.2.2.1 x.2.2.2 H) fun g cargs hr=>WY _ _ _ _ hr) (fun x y _ _ h=>by
  simp only [List.cons.injEq,AV.agg.injEq,AV.str.injEq,and_true] at h
  rw [RC h.1.1,h.2])
theorem RG (s:Ck) (e:Nat):CS zP BJ 66 [.ptr 0 0,.int .i64 (e:Int)] (ckH s) (.tup []) (ckH (s.fail e)):=by
 refine contract s (s.fail e) Tryz.func66 (by kernel_rfl) (by simp [Tryz.f66]) (fun B hB hG => ?_) rfl;refine Tr.goW Em hG ?_;obtain ⟨sy,c,h,hv,b,a⟩:=s;cases b with
 |some y =>
  obtain ⟨p,q⟩:=y;have hy:Ck.fail ⟨sy,c,h,hv,some (p,q),a⟩ e=⟨sy,c,h,hv,some (p,q),a⟩:=by simp [Ck.fail]
  rw [hy];simp [Tryz.f66,ckH,Ck.c,E8]
 |none =>
  by_cases he:e=0
  ·subst he
   simp [Tryz.f66,ckH,Ck.c,Ck.fail]
  ·have he':¬(e:Int)=0:=by omega
   simp [Tryz.f66,ckH,Ck.c,Ck.fail,he,he',E8,Ck.hV,Ck.hE,Ce]
theorem RH {s:Ck} (h:s.ok):s.syms.length<1000000:=by have:=h.syms;have:=h.cells;omega
noncomputable def EW:AF zP BJ:=AF.ck 66 (fun _:Nat=>True) (fun x=>[.ptr 0 0,.int .i64 (x:Int)]) (fun x s=>s.fail x) (fun _=>by simp [low]) (fun x s=>Jm s x) (fun x y h=>by
 simp only [List.cons.injEq,AV.int.injEq,true_and,and_true] at h
 omega) (fun x s _ h=>RG s x)
theorem WZ (s:Ck) (h:s.ok) (n:List UInt8) (k:Nat):CS zP BJ 70 [.ptr 0 0,.str n,.int .i64 (k:Int)] (ckH s) (.tup []) (ckH (s.name n k)):=by
 refine contract s _ Tryz.func70 (by kernel_rfl) (by simp [Tryz.f70]) (fun B hB hG => ?_) rfl;have hL:([F3,EW].map (·.f)).Nodup:=show ([16,66]:List Nat).Nodup by decide
 have X:=Bn [F3,EW] F1 Ad;have f1:=fun k H=>C0 hL (show F3∈[F3,EW] by simp) (k,s.syms,s.cells,n) (RH h) H
 have f2:=fun e K=>F2 hL (show EW∈[F3,EW] by simp) e s trivial h K
 generalize oOf [F3,EW]=O at X f1 f2;have g6:=fun K=>f2 6 K
 have g8:=fun K=>f2 8 K
 unfold Ck.name;generalize s.fail 6=r6 at *;generalize s.fail 8=r8 at *;simp [ckH,Ck.c] at g6 g8;refine Tr.goD X hG ?_;cases hf:E7 s.syms n with
 |none =>simp only [hf] at f1;simp [GT,syC,sy0] at f1;simp [Tryz.f70,f1,g6,ckH,Ck.c]
 |some x =>
  simp only [hf] at f1;simp [GT,syC] at f1
  by_cases h:x.dims.length=k
  ·have h':(x.dims.length:Int)=k:=by omega
   simp [Tryz.f70,f1,ckH,Ck.c,h,h']
  ·have h':¬(x.dims.length:Int)=k:=by omega
   simp [Tryz.f70,f1,g8,ckH,Ck.c,h,h']
noncomputable def dl:AF zP BJ:=AF.ck 70 (fun _:List UInt8 × Nat=>True) (fun x=>[.ptr 0 0,.str x.1,.int .i64 (x.2:Int)]) (fun x s=>s.name x.1 x.2) (fun _=>by simp [low]) (fun x s=>Jn s x.1 x.2) (fun x y h=>by
 obtain ⟨a,b⟩:=x;obtain ⟨c,d⟩:=y;simp only [List.cons.injEq,AV.str.injEq,AV.int.injEq,true_and,and_true] at h;have:b=d:=by omega
 rw [h.1,this]) (fun x s _ h=>WZ s h x.1 x.2)
def G8 (n:List UInt8):List (List UInt8)→Nat→Int
 |[],_ => -1
 |x::l,i=>if n=x then (i:Int) else G8 n l (i+1)
theorem RJ (n:List UInt8):∀(l:List (List UInt8)) (i:Nat),decide (0≤G8 n l i)=l.contains n
 |[],i=>rfl
 |x::l,i=>by
  rw [G8,List.contains_cons]
  by_cases h:n=x
  ·simp [h]
  ·have hb:(n==x)=false:=by rw [beq_eq_false_iff_ne];exact h
   rw [if_neg h,hb,Bool.false_or];exact RJ n l (i+1)
def SxI (s:Ck) (n:List UInt8) (k:Nat) (t:List AV) (H:AH):Prop:=∃i,i+k=s.held.length∧G8 n (s.held.drop i) i=G8 n s.held 0∧t=mkT 19 [(0,.stk 2 s.hv 1 s.held.length),(1,.str n),(7,.int .i64 (s.held.length:Int)),(8,.int .i64 (i:Int))]∧H=ckH s
theorem Wa (s:Ck) (h:s.ok) (n:List UInt8):CS zP BJ 124 [s.hV 2,.str n] (ckH s) (.int .i64 (G8 n s.held 0)) (ckH s):=by
 refine contract s s Tryz.func124 (by kernel_rfl) (by simp [Tryz.f124]) (fun B hB hG => ?_) rfl;refine Tr.goW Em hG ?_
 by_cases h0:s.hv=0
 ·have h1:=h.hv h0
  simp [Tryz.f124,Ck.hV,h0];refine LpD.loopW [] hG (fun k t H=>k=0∧t=mkT 19 [(7,.int .i64 0),(8,.int .i64 0)]∧H=ckH s) 0 (t':=mkT 19 [(7,.int .i64 0),(8,.int .i64 0)]) (H':=ckH s) (AD.mkK 3 (by simp [hB,ckH]) (by simp) (by simp [ckH]) (DP s)) ⟨rfl,rfl,rfl⟩ ?_;rintro k t H ⟨rfl,rfl,rfl⟩;refine ⟨Bu,Em,?_⟩;simp [h1,G8,ckH]
 ·have hhl:=h.held
  have hE:s.hE=some (.stk s.hv (BL.row s.held)):=if_neg h0;have hc:ckH s=[some (.box (s.c 1 2)),AO s.syms,some (.stk s.hv (BL.row s.held))]:=by rw [←hE];rfl
  simp [Tryz.f124,Ck.hV,h0];refine LpD.loopW [] hG (SxI s n) s.held.length (t':=mkT 19 [(0,.stk 2 s.hv 1 s.held.length),(1,.str n),(7,.int .i64 (s.held.length:Int)),(8,.int .i64 ((0:Nat):Int))]) (H':=ckH s) (AD.mkK 3 (by simp [hB,ckH]) (by simp [low]) (by simp [ckH]) (DP s)) ⟨0,by omega,rfl,rfl,rfl⟩ ?_;rintro k t H ⟨i,oQ,hf,rfl,rfl⟩;refine ⟨Bu,Em,?_⟩
  by_cases hi:i<s.held.length
  ·obtain ⟨k,rfl⟩:∃j,k=j+1:=⟨k-1,by omega⟩
   have hi':(i:Int)<s.held.length:=by omega
   obtain ⟨x,hx⟩:∃x,s.held[i]? = some x:=⟨_,List.getElem?_eq_getElem hi⟩
   have g0:(BL.row s.held)[i*1+0]? = some (.str x):=BL.row_cell hx 0 (by decide);simp only [Nat.mul_one,Nat.add_zero] at g0
   have pC:s.held.drop i=x::s.held.drop (i+1):=by rw [List.drop_eq_getElem_cons hi];rw [List.getElem?_eq_getElem hi] at hx;injection hx with hx;rw [hx]
   rw [pC,G8] at hf;have wi:IntKind.i64.wrap ((i:Int)+1)=((i+1:Nat):Int):=by rw [Ab (by omega) (by omega)];omega
   by_cases h1:n=x
   ·rw [if_pos h1] at hf
    subst h1;simp [hc,hi,hi',g0,←hf]
   ·rw [if_neg h1] at hf
    have hI:SxI s n k (mkT 19 [(0,.stk 2 s.hv 1 s.held.length),(1,.str n),(7,.int .i64 (s.held.length:Int)),(8,.int .i64 ((i+1:Nat):Int))]) (ckH s):=⟨i+1,by omega,hf,rfl,rfl⟩
    rw [hc] at hI ⊢;simp [hi,hi',g0,h1,wi,-Int.natCast_add];exact Nxt.mk k (by omega) (AD.mkK 3 (by simp [hB,ckH]) (by simp [low]) (by simp) (by rw [←hc];exact DP s)) hI
  ·have hi':¬(i:Int)<s.held.length:=by omega
   rw [List.drop_of_length_le (by omega),G8] at hf;simp [hc,hi,hi',←hf]
theorem Wb (s:Ck) (h:s.ok) (n:List UInt8):CS zP BJ 98 [s.hV 2,.str n] (ckH s) (.bool (s.held.contains n)) (ckH s):=by refine contract s s Tryz.func98 (by kernel_rfl) (by simp [Tryz.f98]) (fun B hB hG => ?_) rfl;have X:=Fh (S:=[]) (Wa s h n) Em;have hO:=FD 124 [s.hV 2,.str n] (ckH s) (.int .i64 (G8 n s.held 0)) (ckH s) Bu;generalize orP 124 _ _ _ _ _=O at X hO;have hz:=RJ n s.held 0;have ht:(ckH s).take 3=ckH s:=rfl;generalize s.hV 2=V at *;generalize ckH s=H at *;refine Tr.goW X hG ?_;simp [-AH.at,Tryz.f98,hO,hz,ht]
theorem Wc (s:Ck) (h:s.ok) (n:List UInt8):CS zP BJ 71 [.ptr 0 0,.str n] (ckH s) (.tup []) (ckH (s.free n)):=by
 refine contract s _ Tryz.func71 (by kernel_rfl) (by simp [Tryz.f71]) (fun B hB hG => ?_) rfl;have hL:([EW].map (·.f)).Nodup:=show ([66]:List Nat).Nodup by decide
 have f1:=fun K=>F2 hL (show EW∈[EW] by simp) 9 s trivial h K
 have X0:CxW (oOf [EW]) zP BJ []:=(Bn [EW] F1 Ad).toW;generalize oOf [EW]=O0 at X0 f1;have X:=Fh (Wb s h n) X0;have hO:=FD 98 [s.hV 2,.str n] (ckH s) (.bool (s.held.contains n)) (ckH s) O0;have f2:∀K,orP 98 [s.hV 2,.str n] (ckH s) (.bool (s.held.contains n)) (ckH s) O0 66 [.ptr 0 0,.int .i64 ((9:Nat):Int)] (ckH s++K)=some (.tup [],ckH (s.fail 9)++K):=fun K=>by rw [JG (by decide)];exact f1 K
 generalize orP 98 _ _ _ _ _=O at X hO f2;refine Tr.goW X hG ?_;unfold Ck.free;generalize s.held.contains n=b at *;generalize s.fail 9=r at *;simp [ckH,Ck.c] at hO f2;cases b
 ·simp [Tryz.f71,hO,ckH,Ck.c]
 ·simp [Tryz.f71,hO,f2,ckH,Ck.c]
noncomputable def IJ:AF zP BJ:=AF.ck 71 (fun _:List UInt8=>True) (fun x=>[.ptr 0 0,.str x]) (fun x s=>s.free x) (fun _=>by simp [low]) (fun x s=>Kl s x) (fun x y h=>by
 simp only [List.cons.injEq,AV.str.injEq,true_and,and_true] at h
 exact h) (fun x s _ h=>Wc s h x)
theorem We:BJ.soft 48=false:=by decide
theorem RK:BJ.soft 31=false:=by decide
theorem Wf:Bg zP 48 1=true:=by kernel_rfl
theorem RL:Bg zP 31 syE.sz=true:=by kernel_rfl
@[simp] theorem bsDm0:CK zP 48 0 []=some (.slice .full 1 0 []):=by kernel_rfl
theorem Wg (d:List Int) (hd:d.length<4294967296) (H:AH):CS zP BJ 97 [AN.av d] H (AN.av d) H:=by
 refine CS.tr0 Jl Tryz.func97 (by kernel_rfl) 0 (by simp [Tryz.f97]) (fun B hB hG => ?_) (by simp) (by simp) H;refine Tr.goW Em hG ?_
 by_cases h:d=[]
 ·subst h
  simp [Tryz.f97]
 ·have hp:=List.length_pos_iff.2 h
  have oP:=fun H fid=>MH (P:=zP) (H:=H) (fid:=fid) (n:=0) (m:=d.length) (xs:=[]) (ys:=AN.row d) (ow := .unk) Wf hp (by omega) (AN.row_one d)
  have hr:=AN.row_low d;simp only [Nat.zero_add,List.nil_append] at oP;rw [AN.av_ne h];have e1:AN.sz=1:=rfl;simp [Tryz.f97,Lm We,oP,e1,hr]
noncomputable def Jo:AF zP BJ:=AF.pure 97 (fun d:List Int=>d.length<4294967296) (fun d=>[AN.av d]) (fun d=>AN.av d) (fun d h H=>Wg d h H) (fun x y _ _ h=>by
 simp only [List.cons.injEq,and_true] at h
 exact h)
@[simp high] theorem zAB (l:List Int):alen zP 48 (AN.av l)=some (.int .i64 l.length):=AN.alen Tryz.underlying48 l
@[simp high] theorem lp {l:List Int} {i:Nat} (h:i<l.length):Ao zP 48 (AN.av l) (.int .i64 (i:Int))=some (.vptr (AN.row l) (i*1)):=AN.aidx Tryz.underlying48 (by kernel_rfl) h
@[simp] theorem buSy (a:List UInt8) (d:List Int) (b c:Int):Aq zP 50 [(0,.str a),(1,AN.av d),(2,.int .i64 b),(3,.int .i64 c)]=some (.agg [.str a,AN.av d,.int .i64 b,.int .i64 c]):=by
 by_cases h:d=[]
 ·subst h;kernel_rfl
 ·rw [AN.av_ne h];kernel_rfl
@[simp] theorem bsSy (a:List UInt8) (d:List Int) (b c:Int):CK zP 31 1 [(0,.agg [.str a,AN.av d,.int .i64 b,.int .i64 c])]=some (.slice .full 4 1 [.str a,AN.av d,.int .i64 b,.int .i64 c]):=by
 by_cases h:d=[]
 ·subst h;kernel_rfl
 ·rw [AN.av_ne h];kernel_rfl
theorem Wh (s:Ck) (h:s.ok):((s.syms=[]∧BN (syE.tk 1 s.syms)=[]∧AO s.syms=none)∨(s.syms≠[]∧BN (syE.tk 1 s.syms)=[1]∧AO s.syms=some (.tok s.syms.length))) ∧
  ((s.hv=0∧BN (s.hV 2)=[]∧s.hE=none)∨(s.hv≠0∧BN (s.hV 2)=[2]∧s.hE=some (.stk s.hv (BL.row s.held)))):=by
 constructor
 ·by_cases hs:s.syms=[]
  ·exact .inl ⟨hs,by rw [hs];rfl,by rw [hs];rfl⟩
  ·refine .inr ⟨hs,?_,C3 hs⟩
   rw [syE.tk_ne 1 hs];simp [BN,JF _ (syE.row_low s.syms)]
 ·by_cases hv:s.hv=0
  ·exact .inl ⟨hv,by simp [Ck.hV,hv,BN],by simp [Ck.hE,hv]⟩
  ·exact .inr ⟨hv,by simp [Ck.hV,hv,BN],by simp [Ck.hE,hv]⟩
def Ck.tn (s:Ck):Nat:=if s.syms=[] then 3 else 1
def E9 (s r:Ck):AH:=[some (.box (r.c s.tn 2)),if s.syms=[] then none else AO r.syms,s.hE,if s.syms=[] then AO r.syms else none]
theorem Lt (s r:Ck) (h:r.hv=s.hv):AU 4 (E9 s r)=true:=by
 have h1:=syE.tk_low (k:=s.tn) (m:=4) (by unfold Ck.tn;split<;>decide) r.syms;have h2:=r.hV_low (q:=2) (m:=4) (by decide)
 have hb:At 4 (some (.box (r.c s.tn 2)))=true:=by
  show lowL 4 (r.c s.tn 2)=true
  simp [Ck.c,h1,h2]
 have hn:At 4 none=true:=rfl;unfold E9
 by_cases hs:s.syms=[]
 ·rw [if_pos hs,if_pos hs]
  simp only [AU,hb,hn,Kf,Ls,Bool.and_true]
 ·rw [if_neg hs,if_neg hs]
  simp only [AU,hb,hn,Kf,Ls,Bool.and_true]
def DcI (s:Ck) (x:It) (n:Sy) (k:Nat) (t:List AV) (H:AH):Prop:=∃(i:Nat) (z:Int),i+k=x.dims.length∧1≤z∧z≤4096∧He (x.dims.drop i) z=He x.dims 1 ∧
 t=mkT 74 [(0,.ptr 0 0),(3,.ptr 3 0),(4,.int .i64 0),(7,.int .i64 z),(21,AN.av x.dims),(22,.int .i64 (x.dims.length:Int)),(23,.int .i64 (i:Int))] ∧
 H=[some (.box (s.c 1 2)),AO s.syms,s.hE,some (.box [.str x.name,AN.av x.dims]),some (.box (syE.c n))]
theorem Wi (s:Ck) (h:s.ok) (x:It) (hx:x.dims.length<4294967296):CS zP BJ 67 [.ptr 0 0,.agg [.str x.name,AN.av x.dims]] (ckH s) (.int .i64 ((s.decl x).2:Int)) (E9 s (s.decl x).1):=by
 have vN:(s.decl x).1.hv=s.hv:=by
  unfold Ck.decl
  split
  ·rfl
  ·split
   ·rfl
   ·split<;>rfl
 refine CS.of_TrN (c:=Au Tryz.f67) 4 (by simp [ckH]) Tryz.func67 (by kernel_rfl) 0 (by simp [Tryz.f67]) (fun B hB hG => ?_) rfl (Lt s _ vN);refine Tr.post ?_;have wZ:s.syms.length<1000000:=by have:=h.syms;have:=h.cells;omega
 have hL:([F3,Jo].map (·.f)).Nodup:=show ([16,97]:List Nat).Nodup by decide
 have X:=Bn [F3,Jo] F1 Ad;have f1:=fun k H=>C0 hL (show F3∈[F3,Jo] by simp) (k,s.syms,s.cells,x.name) wZ H
 have f2:=fun H=>C0 hL (show Jo∈[F3,Jo] by simp) x.dims hx H
 generalize oOf [F3,Jo]=O at X f1 f2;simp only [GT,syC] at f1
 have fin:∀(c:Nat) (t:List (Nat × AV)) (H:AH),s.decl x=(s,c)→AV.int .i64 (c:Int)=(t.lookup 4).getD .undef→H.at 0=some (.box (s.c 1 2))→H.at 1=AO s.syms→H.at 2=s.hE→H.length<100 →
   ∃t1 H1,AD B (mkT 74 t) H t1 H1∧strip 4 (t1[4]?.getD AV.nothing) = .int .i64 ((s.decl x).2:Int)∧List.take 4 H1=E9 s (s.decl x).1:=by
  intro c t H he ht h0 h1 h2 hl;rw [he]
  refine ⟨mkT 74 [(4,.int .i64 (c:Int))],E9 s s,AD.mkVH 1000 (fun i=>if i=3 then 100 else i) 4 (by simp [hB,ckH]) (by
   intro i j hi hj he;have he:(if i=3 then 100 else i)=(if j=3 then 100 else j):=he
   split at he<;>split at he<;>omega) (by
   intro i hi _;rw [hB] at hi;simp [ckH] at hi
   rw [if_neg (by omega)]) rfl (by
   intro i hi;have e1:=syE.tk_ren (fun i=>if i=3 then 100 else i) 1 s.syms;have e2:=s.hV_ren (fun i=>if i=3 then 100 else i) 2;have e3:=DE (fun i=>if i=3 then 100 else i) _ (II s.bad);simp at e1 e2;rcases (by omega:i=0∨i=1∨i=2∨i=3) with rfl|rfl|rfl|rfl
   ·rw [if_neg (by decide),h0]
    by_cases hs:s.syms=[]
    ·have e1':syE.tk s.tn s.syms = .nilSlice:=by rw [hs];rfl
     have e1'':syE.tk 1 s.syms = .nilSlice:=by rw [hs];rfl
     simp [E9,AH.at,Ck.c,AI,AL,ren,e1',e1'',e2,e3]
    ·have:s.tn=1:=if_neg hs
     simp [E9,AH.at,Ck.c,AI,AL,ren,this,e1,e2,e3]
   ·rw [if_neg (by decide),h1]
    by_cases hs:s.syms=[]
    ·simp [E9,AH.at,hs]
    ·simp [E9,AH.at,hs]
     exact (Ff _ _).symm
   ·rw [if_neg (by decide),h2]
    exact (Jk _ _).symm
   ·rw [if_pos rfl,C7 (by omega)]
    by_cases hs:s.syms=[]<;>simp [E9,AH.at,hs]) (Lt s s rfl) (by
   intro p hp;rcases List.mem_singleton.1 hp with rfl;rw [←ht]
   exact ⟨rfl,rfl⟩),rfl,rfl⟩
 -- what is
 have fin2:∀(r:Ck) (t:List (Nat × AV)) (H:AH),r.hv=s.hv→(∀q,r.hV q=s.hV q)→AV.int .i64 0=(t.lookup 4).getD .undef→H.at 0=some (.box (r.c (if s.syms=[] then 5 else 1) 2))→H.at 1=(if s.syms=[] then none else AO r.syms)→H.at 2=s.hE→H.at 5=(if s.syms=[] then AO r.syms else none) →
   ∃t1 H1,AD B (mkT 74 t) H t1 H1∧strip 4 (t1[4]?.getD AV.nothing) = .int .i64 0∧List.take 4 H1=E9 s r:=by
  intro r t H vN th ht h0 h1 h2 h5
  refine ⟨mkT 74 [(4,.int .i64 0)],E9 s r,AD.mkVH 1000 (fun i=>if i=3 then 5 else i) 4 (by simp [hB,ckH]) (by
   intro i j hi hj he;have he:(if i=3 then 5 else i)=(if j=3 then 5 else j):=he
   split at he<;>split at he<;>omega) (by
   intro i hi _;rw [hB] at hi;simp [ckH] at hi
   rw [if_neg (by omega)]) rfl (by
   intro i hi;have e1:=syE.tk_ren (fun i=>if i=3 then 5 else i) s.tn r.syms;have e2:=r.hV_ren (fun i=>if i=3 then 5 else i) 2;have e3:=DE (fun i=>if i=3 then 5 else i) _ (II r.bad)
   have et:(if s.tn=3 then 5 else s.tn)=(if s.syms=[] then 5 else 1):=by
    unfold Ck.tn
    by_cases hs:s.syms=[]
    ·rw [if_pos hs,if_pos hs];rfl
    ·rw [if_neg hs,if_neg hs];rfl
   simp only [et] at e1;simp at e2;rcases (by omega:i=0∨i=1∨i=2∨i=3) with rfl|rfl|rfl|rfl
   ·rw [if_neg (by decide),h0]
    simp [E9,AH.at,Ck.c,AI,AL,ren,e1,e2,e3]
   ·rw [if_neg (by decide),h1]
    show _=Option.map _ (if s.syms=[] then none else AO r.syms)
    split
    ·rfl
    ·exact (Ff _ _).symm
   ·rw [if_neg (by decide),h2]
    exact (Jk _ _).symm
   ·rw [if_pos rfl,h5]
    show _=Option.map _ (if s.syms=[] then AO r.syms else none)
    split
    ·exact (Ff _ _).symm
    ·rfl) (Lt s r vN) (by
   intro p hp;rcases List.mem_singleton.1 hp with rfl;rw [←ht]
   exact ⟨rfl,rfl⟩),rfl,rfl⟩
 have xz:=Wh s h;obtain ⟨hA,hC⟩:=xz;have l1:=syE.tk_low (k:=1) (m:=5) (by decide) s.syms;have l2:=s.hV_low (q:=2) (m:=5) (by decide);have sn:=h.syms;have pb:=h.cells
 have stay:∀(z:Int) (i:Nat),AU 5 [some (.box (s.c 1 2)),AO s.syms,s.hE,some (.box [.str x.name,AN.av x.dims]),some (.box (syE.c sy0))]=true:=fun _ _=>by simp only [AU,Kf,Ls,Bool.and_true];simp [At,Ck.c,l1,l2,syC]
 refine Tr.goD X hG ?_;rcases hA with ⟨hs,a1,a2⟩|⟨hs,a1,a2⟩<;>rcases hC with ⟨hv,c1,c2⟩|⟨hv,c1,c2⟩
 all_goals
  simp [Tryz.f67,ckH,Ck.c];refine LpD.turns X hG [5,9,10] [(0,9),(1,9),(2,9),(3,9),(4,9),(5,9),(6,9),(7,9),(8,9),(8,10)] ?_;simp [f1,a1,a2,c1,c2];cases hf:E7 s.syms x.name with
  |some y =>
   have he:s.decl x=(s,7):=by simp [Ck.decl,hf]
   simp;exact fin 7 _ _ he rfl rfl (by rw [a2];rfl) (by rw [c2];rfl) (by simp)
  |none =>
   simp
   refine LpD.loopN X hG (DcI s x sy0) x.dims.length (t':=mkT 74 [(0,.ptr 0 0),(3,.ptr 3 0),(4,.int .i64 0),(7,.int .i64 1),(21,AN.av x.dims),(22,.int .i64 (x.dims.length:Int)),(23,.int .i64 ((0:Nat):Int))])
    (H':=[some (.box (s.c 1 2)),AO s.syms,s.hE,some (.box [.str x.name,AN.av x.dims]),some (.box (syE.c sy0))]) (AD.mkK 5 (by simp [hB,ckH]) (by simp) (by simp [Ck.c,syC,sy0,a2,c2]) (stay 0 0)) ⟨0,1,by omega,by decide,by decide,rfl,rfl,rfl⟩ ?_
   rintro k t H ⟨i,z,oQ,pd,pJ,hc,rfl,rfl⟩
   by_cases hi:i<x.dims.length
   ·obtain ⟨k,rfl⟩:∃j,k=j+1:=⟨k-1,by omega⟩
    have hi':(i:Int)<x.dims.length:=by omega
    obtain ⟨y,hy⟩:∃y,x.dims[i]? = some y:=⟨_,List.getElem?_eq_getElem hi⟩
    have g0:(AN.row x.dims)[i*1+0]? = some (.int .i64 y):=AN.row_cell hy 0 (by decide);simp only [Nat.mul_one,Nat.add_zero] at g0
    have pC:x.dims.drop i=y::x.dims.drop (i+1):=by rw [List.drop_eq_getElem_cons hi];rw [List.getElem?_eq_getElem hi] at hy;injection hy with hy;rw [hy]
    rw [pC,He] at hc;have wi:IntKind.i64.wrap ((i:Int)+1)=((i+1:Nat):Int):=by rw [Ab (by omega) (by omega)];omega
    have wb:Int.tdiv 4096 z=4096 / z:=Int.tdiv_eq_ediv_of_nonneg (by decide);have wc:0≤4096 / z:=Int.ediv_nonneg (by decide) (by omega);have rG:4096 / z≤4096:=Int.ediv_le_self _ (by decide);have hq:(4096 / z<y)↔4096<y*z:=Int.ediv_lt_iff_lt_mul (by omega);have wq:IntKind.i64.wrap (4096 / z)=4096 / z:=Ab (by omega) (by omega);have ql:¬z=0:=by omega
    rw [Int.mul_comm] at hq
    by_cases uh:y<1
    ·rw [if_pos (.inl uh)] at hc
     have he:s.decl x=(s,4):=by simp [Ck.decl,hf,←hc]
     simp [hi,hi',g0,uh,-Int.natCast_add];exact fin 4 _ _ he rfl rfl rfl rfl (by simp)
    ·by_cases vO:4096<z*y
     ·rw [if_pos (.inr vO)] at hc
      have he:s.decl x=(s,4):=by simp [Ck.decl,hf,←hc]
      have vP:=hq.2 vO;simp [hi,hi',g0,uh,wb,ql,wq,vP,-Int.natCast_add];exact fin 4 _ _ he rfl rfl rfl rfl (by simp)
     ·rw [if_neg (by omega)] at hc
      have vP:¬4096 / z<y:=fun h=>vO (hq.1 h)
      have hzy:1≤z*y:=Int.mul_pos (by omega:0<z) (by omega:0<y);have wm:IntKind.i64.wrap (z*y)=z*y:=Ab (by omega) (by omega)
      have hI:DcI s x sy0 k (mkT 74 [(0,.ptr 0 0),(3,.ptr 3 0),(4,.int .i64 0),(7,.int .i64 (z*y)),(21,AN.av x.dims),(22,.int .i64 (x.dims.length:Int)),(23,.int .i64 ((i+1:Nat):Int))])
       [some (.box (s.c 1 2)),AO s.syms,s.hE,some (.box [.str x.name,AN.av x.dims]),some (.box (syE.c sy0))]:=⟨i+1,z*y,by omega,hzy,by omega,hc,rfl,rfl⟩
      simp [hi,hi',g0,uh,wb,ql,wq,vP,wm,wi,-Int.natCast_add];exact Nxt.mk k (by omega) (AD.mkK 5 (by simp [hB,ckH]) (by simp) (by simp) (stay 0 0)) hI
   ·have hi':¬(i:Int)<x.dims.length:=by omega
    rw [List.drop_of_length_le (by omega),He] at hc;have wz:IntKind.i64.wrap (s.cells+z)=s.cells+z:=Ab (by omega) (by omega)
    by_cases hz:4096<s.cells+z
    ·have he:s.decl x=(s,4):=by simp [Ck.decl,hf,←hc,hz]
     simp [hi,hi',Ck.c,wz,hz];exact fin 4 _ _ he rfl rfl rfl rfl (by simp)
    ·skip
     obtain ⟨r,hr⟩:∃r:Ck,r=⟨s.syms++[⟨x.name,x.dims,s.cells,z⟩],s.cells+z,s.held,s.hv,s.bad,s.at_⟩:=⟨_,rfl⟩
     have he:s.decl x=(r,0):=by rw [hr];simp [Ck.decl,hf,←hc,hz]
     rw [he];have oL:r.syms≠[]:=by rw [hr];simp
     have ui:r.syms=s.syms++[⟨x.name,x.dims,s.cells,z⟩]:=by rw [hr]
     have th:∀q,r.hV q=s.hV q:=fun q=>by rw [hr];rfl
     have oq:r.cells=s.cells+z:=by rw [hr]
     have pQ:r.bad=s.bad:=by rw [hr]
     have pA:r.at_=s.at_:=by rw [hr]
     have pZ:r.syms.length=s.syms.length+1:=by rw [ui];simp
     simp [hi,hi',Ck.c,wz,hz];refine LpD.turns X hG [9,17,20] [(0,9),(0,17),(1,9),(2,9),(3,9),(4,9),(5,9),(6,9),(9,10),(9,11),(9,12),(9,13),(9,14)] ?_;have e4:syE.sz=4:=rfl
     first
     |(have hs':s.syms=[]:=hs
       have oP:=fun H fid ow=>syE.app1_nil (P:=zP) (H:=H) (fid:=fid) (ow:=ow) RL ⟨x.name,x.dims,s.cells,z⟩
       rw [e4] at oP;simp only [syC] at oP;have e0:syE.tk 1 s.syms = .nilSlice:=by rw [hs];rfl
       simp [e0,a2,c1,c2,f2,Lm RK,oP,wz]
       have pB:syE.tk 5 r.syms = .slice (.tok 5) 4 1 [.str x.name,AN.av x.dims,.int .i64 s.cells,.int .i64 z]:=by rw [ui,hs,List.nil_append,syE.tk_ne 5 (by simp),syE.row_one1];rfl
       refine fin2 r _ _ (by rw [hr]) th rfl ?_ (by rw [if_pos hs];rfl) (by rw [c2];rfl) (by rw [if_pos hs,ui,hs];rfl);rw [if_pos hs]
       simp [AH.at,Ck.c,pB,th,oq,pQ,pA])
     |(have hs':s.syms≠[]:=hs
       have wZ:=RH h;have oP:=fun H fid ow hk=>syE.app1_tok (P:=zP) (H:=H) (fid:=fid) (k:=1) (ow:=ow) RL s.syms ⟨x.name,x.dims,s.cells,z⟩ rfl hk (by omega)
       rw [e4] at oP;simp only [syC] at oP;have e0:=syE.tk_ne 1 hs;rw [e4] at e0;rw [e0] at a1;simp [e0,a1,a2,c1,c2,f2,Lm RK,oP,wz]
       have pB:syE.tk 1 r.syms = .slice (.tok 1) 4 (s.syms.length+1) (syE.row (s.syms++[⟨x.name,x.dims,s.cells,z⟩])):=by rw [ui,syE.tk_ne 1 (by simp),List.length_append];rfl
       refine fin2 r _ _ (by rw [hr]) th rfl ?_ (by rw [if_neg hs,C3 oL,pZ];rfl) (by rw [c2];rfl) (by rw [if_neg hs];rfl);rw [if_neg hs]
       simp [AH.at,Ck.c,pB,th,oq,pQ,pA])
def EvK (t:Tn):Prop:=∀s:Ck,s.ok→CS zP BJ 69 [.ptr 0 0,.agg (tC t)] (ckH s) (.tup []) (ckH (ckE t s))
noncomputable def F5 (P:Tn→Prop) (h:∀t,P t→EvK t):AF zP BJ:=AF.ck 69 P (fun t=>[.ptr 0 0,.agg (tC t)]) (fun t s=>ckE t s) (fun t=>by simp [low]) (fun t s=>GU t s) (fun x y h=>by
 simp only [List.cons.injEq,AV.agg.injEq,true_and,and_true] at h
 exact KV x y h) (fun t s ht hs=>h t ht s hs)
def CeI (t:Tn) (U:Ck) (k:Nat) (tt:List AV) (H:AH):Prop:=∃i,i+k=t.kids.length∧tt=mkT 32 [(0,.ptr 0 0),(22,t.ar),(23,.int .i64 (t.kids.length:Int)),(24,.int .i64 (i:Int))]∧H=ckH (Cy (t.kids.take i) U)
theorem RM (t:Tn) (ht:t.kids.length<4294967296) (hC:∀u∈t.kids,EvK u):EvK t:=by
 intro s hs;refine contract s _ Tryz.func69 (by kernel_rfl) (by simp [Tryz.f69]) (fun B hB hG => ?_) rfl;have hL:([dl,F5 (· ∈ t.kids) hC].map (·.f)).Nodup:=show ([70,69]:List Nat).Nodup by decide
 have X:=Bn [dl,F5 (· ∈ t.kids) hC] F1 Ad;have f1:=fun K=>F2 hL (show dl∈_ by simp) (t.s,t.kids.length) s trivial hs K
 have f2:=fun u (h:u∈t.kids) (V:Ck) (hV:V.ok) K=>F2 hL (show F5 (· ∈ t.kids) hC∈_ by simp) u V h hV K
 generalize oOf [dl,F5 (· ∈ t.kids) hC]=O at X f1 f2;refine Tr.goD X hG ?_;rw [WW];have sM:=N2 s t;have hc:(t.k=2∧¬t.k=3)∨(¬t.k=2∧t.k=3)∨(¬t.k=2∧¬t.k=3):=by omega
 have hh:s.head t=if t.k=2∨t.k=3 then s.name t.s t.kids.length else s:=rfl
 generalize s.head t=U at *;have hU:=Ck.same_ok sM hs;have oV:=DP U
 have oS:∀(H:AH) (l:List (Nat × AV)) (hl:l.lookup 0=some (.ptr 0 0)∧l.lookup 22=some t.ar∧l.lookup 23=some (.int .i64 (t.kids.length:Int))∧l.lookup 24=some (.int .i64 0)),H=ckH U →
   AD B (mkT 32 l) H (mkT 32 [(0,.ptr 0 0),(22,t.ar),(23,.int .i64 (t.kids.length:Int)),(24,.int .i64 ((0:Nat):Int))]) (ckH U):=by
  rintro H l ⟨l0,l1,l2,l3⟩ rfl;exact AD.mkK 3 (by simp [hB,ckH]) (by simp [l0,l1,l2,l3,low]) (by simp [ckH]) oV
 rcases hc with ⟨k2,k3⟩|⟨k2,k3⟩|⟨k2,k3⟩
 all_goals
  simp only [k2,k3,true_or,or_true,false_or,or_false,or_self,if_true,if_false] at hh;simp only [←hh] at f1
  first
  |(have k23:t.k=2∨t.k=3:=by omega
    have g1:=f1;simp only [ckH,Ck.c,List.cons_append,List.nil_append] at g1
    simp [Tryz.f69,k2,k3,g1,ckH,Ck.c])
  |(subst hh
    simp [Tryz.f69,k2,k3,ckH,Ck.c])
  refine LpD.loopN X hG (CeI t U) t.kids.length (t':=mkT 32 [(0,.ptr 0 0),(22,t.ar),(23,.int .i64 (t.kids.length:Int)),(24,.int .i64 ((0:Nat):Int))]) (H':=ckH U) (oS _ _ (by simp) rfl) ⟨0,by omega,rfl,by rw [List.take_zero,Cy]⟩ ?_;rintro k' tt H ⟨i,oQ,rfl,rfl⟩
  by_cases hi:i<t.kids.length
  ·obtain ⟨k',rfl⟩:∃j,k'=j+1:=⟨k'-1,by omega⟩
   have hi':(i:Int)<t.kids.length:=by omega
   obtain ⟨x,hx⟩:∃x,t.kids[i]? = some x:=⟨_,List.getElem?_eq_getElem hi⟩
   obtain ⟨c1,c2⟩:=M4 t.kids i hx;rw [CB] at c1;have oe:t.kids.take (i+1)=t.kids.take i++[x]:=by rw [List.take_add_one,hx];rfl
   have wi:IntKind.i64.wrap ((i:Int)+1)=((i+1:Nat):Int):=by rw [Ab (by omega) (by omega)];omega
   have hI:CeI t U k' (mkT 32 [(0,.ptr 0 0),(22,t.ar),(23,.int .i64 (t.kids.length:Int)),(24,.int .i64 ((i+1:Nat):Int))]) (ckH (ckE x (Cy (t.kids.take i) U))):=⟨i+1,by omega,rfl,by rw [oe,N3]⟩
   have g:=fun K=>f2 x (List.mem_of_getElem? hx) (Cy (t.kids.take i) U) (Ck.same_ok (Km _ U) hU) K
   generalize Cy (t.kids.take i) U=V at *;have p8:=DP (ckE x V);generalize ckE x V=W at *;simp [ckH,Ck.c] at g;simp [hi,hi',c1,c2,wi,g,ckH,Ck.c,-Int.natCast_add];exact Nxt.mk k' (by omega) (AD.mkK 3 (by simp [hB,ckH]) (by simp [low]) (by simp [ckH,Ck.c]) p8) hI
  ·have hi':¬(i:Int)<t.kids.length:=by omega
   rw [List.take_of_length_le (by omega)];simp [hi,hi',ckH,Ck.c]
mutual
theorem Kn:∀t:Tn,okT t=true→EvK t
 |.lf k n w,_=>RM (.lf k n w) (by simp [Tn.kids]) (fun u hu=>by cases hu)
 |.nd k n w a,h=>RM (.nd k n w a) (Po h) (N4 a (by simp only [okT,Bool.and_eq_true] at h;exact h.2))
theorem N4:∀l:List Tn,KW l=true→∀u∈l,EvK u
 |[],_,u,hu=>by cases hu
 |t::l,h,u,hu=>by
  simp only [KW,Bool.and_eq_true] at h;rcases List.mem_cons.1 hu with h1|hu
  ·rw [h1];exact Kn t h.1
  ·exact N4 l h.2 u hu
end
theorem Lu (s:Ck) (t:Tn):s.same (s.to t):=Ck.same_trans (Ck.same_trans (Jn _ _ _) (Kl _ _)) (Km _ _)
def CtI (t:Tn) (U:Ck) (k:Nat) (tt:List AV) (H:AH):Prop:=∃i,i+k=t.kids.length∧tt=mkT 28 [(0,.ptr 0 0),(18,t.ar),(19,.int .i64 (t.kids.length:Int)),(20,.int .i64 (i:Int))]∧H=ckH (Cy (t.kids.take i) U)
theorem Wj (t:Tn) (o6:okT t=true) (s:Ck) (hs:s.ok):CS zP BJ 68 [.ptr 0 0,.agg (tC t)] (ckH s) (.tup []) (ckH (s.to t)):=by
 have ht:=Po o6
 have hC:∀u∈t.kids,EvK u:=by
  cases t with
  |lf=>intro u hu;cases hu
  |nd k n w a=>exact N4 a (by simp only [okT,Bool.and_eq_true] at o6;exact o6.2)
 refine contract s _ Tryz.func68 (by kernel_rfl) (by simp [Tryz.f68]) (fun B hB hG => ?_) rfl;have hL:([dl,IJ,F5 (· ∈ t.kids) hC].map (·.f)).Nodup:=show ([70,71,69]:List Nat).Nodup by decide
 have X:=Bn [dl,IJ,F5 (· ∈ t.kids) hC] F1 Ad;have h1:=Jn s t.s t.kids.length;have h2:=Kl (s.name t.s t.kids.length) t.s;have f1:=fun K=>F2 hL (show dl∈_ by simp) (t.s,t.kids.length) s trivial hs K
 have f3:=fun K=>F2 hL (show IJ∈_ by simp) t.s (s.name t.s t.kids.length) trivial (Ck.same_ok h1 hs) K
 have f2:=fun u (h:u∈t.kids) (V:Ck) (hV:V.ok) K=>F2 hL (show F5 (· ∈ t.kids) hC∈_ by simp) u V h hV K
 generalize oOf [dl,IJ,F5 (· ∈ t.kids) hC]=O at X f1 f2 f3;refine Tr.goD X hG ?_;have hU:=Ck.same_ok (Ck.same_trans h1 h2) hs;unfold Ck.to;simp only at f1 f3;generalize s.name t.s t.kids.length=W at *;generalize W.free t.s=U at *;have oV:=DP U;simp [ckH,Ck.c] at f1 f3;simp [Tryz.f68,f1,f3,ckH,Ck.c];refine LpD.loopN X hG (CtI t U) t.kids.length (t':=mkT 28 [(0,.ptr 0 0),(18,t.ar),(19,.int .i64 (t.kids.length:Int)),(20,.int .i64 ((0:Nat):Int))]) (H':=ckH U) (AD.mkK 3 (by simp [hB,ckH]) (by simp [low]) (by simp [ckH,Ck.c]) oV) ⟨0,by omega,rfl,by rw [List.take_zero,Cy]⟩ ?_;rintro k' tt H ⟨i,oQ,rfl,rfl⟩
 by_cases hi:i<t.kids.length
 ·obtain ⟨k',rfl⟩:∃j,k'=j+1:=⟨k'-1,by omega⟩
  have hi':(i:Int)<t.kids.length:=by omega
  obtain ⟨x,hx⟩:∃x,t.kids[i]? = some x:=⟨_,List.getElem?_eq_getElem hi⟩
  obtain ⟨c1,c2⟩:=M4 t.kids i hx;rw [CB] at c1;have oe:t.kids.take (i+1)=t.kids.take i++[x]:=by rw [List.take_add_one,hx];rfl
  have wi:IntKind.i64.wrap ((i:Int)+1)=((i+1:Nat):Int):=by rw [Ab (by omega) (by omega)];omega
  have hI:CtI t U k' (mkT 28 [(0,.ptr 0 0),(18,t.ar),(19,.int .i64 (t.kids.length:Int)),(20,.int .i64 ((i+1:Nat):Int))]) (ckH (ckE x (Cy (t.kids.take i) U))):=⟨i+1,by omega,rfl,by rw [oe,N3]⟩
  have g:=fun K=>f2 x (List.mem_of_getElem? hx) (Cy (t.kids.take i) U) (Ck.same_ok (Km _ U) hU) K
  generalize Cy (t.kids.take i) U=V at *;have p8:=DP (ckE x V);generalize ckE x V=Z at *;simp [ckH,Ck.c] at g;simp [hi,hi',c1,c2,wi,g,ckH,Ck.c,-Int.natCast_add];exact Nxt.mk k' (by omega) (AD.mkK 3 (by simp [hB,ckH]) (by simp [low]) (by simp [ckH,Ck.c]) p8) hI
 ·have hi':¬(i:Int)<t.kids.length:=by omega
  rw [List.take_of_length_le (by omega)];simp [hi,hi',ckH,Ck.c]
def I4 (O:Orc) (P:Program) (E:Env) (ops:Array Oper) (K:List AV→AH→Prop):Nat→Array Bool→List AV→AH→Prop
 |0,listed,t,H=>Region.ready .any ops listed=[]∧K t H
 |n+1,listed,t,H=>Region.ready .any ops listed≠[]∧∀i∈Region.ready .any ops listed,∃o v H',ops[i]? = some o∧Ai E o.op=false∧Ap ops t o=some true∧AW O P E (AC E t) H 0 o=some (v,H')∧I4 O P E ops K n (listed.setIfInBounds i true) (AX t o.dst v) H'
theorem Wl {O:Orc} {P:Program} {E:Env} {ops:Array Oper} {K:List AV→AH→Prop} (hS:K2 P E O) (hM:Ch P E) {Q:Exit→Act→World→Prop}:∀(n:Nat) (listed:Array Bool) (t:List AV) (H:AH) {g:Gh} {w:World} {a:Act},
  I4 O P E ops K n listed t H→Rel g H w→Al E g→AB g t a.tmps.toList→a.defers=[] →
  (∀g' t' H' a' w',K t' H'→Rel g' H' w'→AQ g H w g' H' w'→AB g' t' a'.tmps.toList→a'.defers=[]→Q .normal a' w')→wpAny P .any ops Q n listed a w:=by
 intro n
 induction n with
 |zero =>intro listed t H g w a h R hG hT hd hQ;exact ⟨h.1,hQ g t H a w h.2 R (AQ.refl g H w) hT hd⟩
 |succ n ih =>intro listed t H g w a h R hG hT hd hQ;refine ⟨fun hr=>absurd hr h.1,fun i hi => ?_⟩;obtain ⟨o,v,H',ho,hid,hw,oS,hn⟩:=h.2 i hi;unfold wpOp;simp only [ho];rw [GW hT hw];simp only [if_true];refine .inl (Sj hS hM R hG hT (fun h=>by rw [hid] at h;cases h) oS fun g' x w' R' p' hv => ?_);exact ih _ _ _ hn R' (hG.mono p'.le) (Hg (AB.mono p'.le _ _ hT) hv) (by rw [Hh];exact hd) fun g2 t2 H2 a2 w2 k R2 p2=>hQ g2 t2 H2 a2 w2 k R2 (AQ.trans R p' p2)
theorem LpD.ordersW {O O':Orc} {P:Program} {E:Env} {S:List FuncId} {B:Bs} {Lp:EH} {ks0:List Fw.Fr} (X:CxW O' P E S) (hG:Al E B.g) {id:Nat} {ops:Array Oper} {t:List AV} {H:AH} {Q:AEx→List AV→AH→Prop}
  (h:I4 O' P E ops (fun t1 H1=>Go O P E Lp .skip ks0 t1 H1 Q) ops.size (Array.replicate ops.size false) t H):LpD P B (.scope (.region id ops true)) t H (Fw.unwind O P E Lp ks0 Q):=by
 intro Q' a w hs k;obtain ⟨g,R,p,hT,hd⟩:=hs;have R1:Rel g H {w with drawn:=w.drawn+1}:=R.same rfl;refine wp_region_any X.mix (Wl X.sound X.meth ops.size _ t _ h R1 (hG.mono p.le) hT hd fun g' t' H' a' w' hq R' p' hT' hd' => ?_);have hq':Fw.unwind O P E Lp ks0 Q .normal t' H':=by simpa only [J1] using hq
 refine k .normal t' H' a' w' hq' ⟨g',R',?_,hT',hd'⟩;exact AQ.trans B.R p (AQ.trans R (AQ.drew g H w) p')
theorem RN:∀(l:List Int) (z:Int) {y:Int},1≤z→He l z=some y→1≤y
 |[],z,y,hz,h=>by rw [He] at h;injection h with h;omega
 |n::l,z,y,hz,h=>by
  rw [He] at h
  split at h
  ·cases h
  ·rename_i hc
   exact RN l (z*n) (Int.mul_pos (by omega:0<z) (by omega:0<n)) h
theorem Wm (s:Ck) (x:It):(s.decl x).1=s∨∃z,1≤z∧s.cells+z≤4096∧(s.decl x).1=⟨s.syms++[⟨x.name,x.dims,s.cells,z⟩],s.cells+z,s.held,s.hv,s.bad,s.at_⟩:=by
 unfold Ck.decl
 split
 ·exact .inl rfl
 ·split
  ·exact .inl rfl
  ·rename_i z hz
   split
   ·exact .inl rfl
   ·exact .inr ⟨z,RN _ _ (by decide) hz,by omega,rfl⟩
theorem N5 {s:Ck} (h:s.ok) (x:It):(s.decl x).1.ok∧(s.decl x).1.held=s.held∧(s.decl x).1.hv=s.hv∧(s.syms≠[]→(s.decl x).1.syms≠[]):=by
 rcases Wm s x with e|⟨z,h1,h2,e⟩
 ·rw [e];exact ⟨h,rfl,rfl,fun k=>k⟩
 ·rw [e]
  refine ⟨⟨?_,h2,h.held,h.hv⟩,rfl,rfl,fun k=>by simp⟩;have:=h.syms;simp only [List.length_append,List.length_singleton];omega
theorem Wn {s:Ck} (h:s.ok) (x:It):(s.item x).ok∧(s.item x).held=s.held∧(s.item x).hv=s.hv∧(s.syms≠[]→(s.item x).syms≠[]):=by
 unfold Ck.item
 split
 ·exact ⟨h,rfl,rfl,fun k=>k⟩
 ·obtain ⟨h1,h2,h3,h4⟩:=N5 h x
  exact ⟨Ck.same_ok (Jm _ _) h1,h2,h3,h4⟩
theorem N6:∀(l:List It) {s:Ck},s.ok→(EB l s).ok∧(EB l s).held=s.held∧(EB l s).hv=s.hv∧(s.syms≠[]→(EB l s).syms≠[])
 |[],s,h=>⟨h,rfl,rfl,fun k=>k⟩
 |x::l,s,h=>by obtain ⟨h1,h2,h3,h4⟩:=Wn h x;obtain ⟨k1,k2,k3,k4⟩:=N6 l h1;rw [EB];exact ⟨k1,k2.trans h2,k3.trans h3,fun k=>k4 (h4 k)⟩
theorem RO:∀(a:List It) (x:It) (s:Ck),EB (a++[x]) s=(EB a s).item x
 |[],x,s=>by rw [List.nil_append,EB,EB,EB]
 |y::a,x,s=>by rw [List.cons_append,EB,EB,RO a x]
theorem RP {s:Ck} (h:s.ok) (x:It) (hx:x.dims.length<4294967296) {b t q m:Nat} (vK:b≠t) (vL:b≠q) (sp:b≠m) (vM:t≠q) (htm:t≠m) (hqm:q≠m) {H H':AH} (h0:H.at b=some (.box (s.c t q))) (h1:H.at t=AO s.syms) (h2:H.at q=s.hE) (h3:H.at m=none)
  (k0:H'.at b=some (.box ((s.decl x).1.c (if s.syms=[] then m else t) q))) (k1:H'.at t=if s.syms=[] then none else AO (s.decl x).1.syms) (k2:H'.at q=s.hE) (k3:H'.at m=if s.syms=[] then AO (s.decl x).1.syms else none) (hO:∀j,j≠b→j≠t→j≠q→j≠m→H'.at j=H.at j) :
  CS zP BJ 67 [.ptr b 0,.agg [.str x.name,AN.av x.dims]] H (.int .i64 ((s.decl x).2:Int)) H':=by
 have hc:=Wi s h x hx;have hd:=N5 h x;generalize (s.decl x).1=r at *;obtain ⟨φ,hφ⟩:∃φ:Nat→Nat,φ=fun i=>if i=0 then b else if i=1 then t else if i=2 then q else m:=⟨_,rfl⟩
 have p0:φ 0=b:=by rw [hφ];rfl
 have p1:φ 1=t:=by rw [hφ];rfl
 have p2:φ 2=q:=by rw [hφ];rfl
 have p3:φ 3=m:=by rw [hφ];rfl
 have four:∀{i:Nat},i<4→i=0∨i=1∨i=2∨i=3:=fun h=>by omega
 clear hφ
 have key:=CS.grow (k:=3) (n:=4) φ (H:=H) (H':=H') hc rfl rfl (by decide) (by
  intro i j hi hj he
  rcases four hi with rfl|rfl|rfl|rfl<;>rcases four hj with rfl|rfl|rfl|rfl<;>simp only [p0,p1,p2,p3] at he<;>first|rfl|exact absurd he ‹_› | exact absurd he.symm ‹_›) Jl (by simp [low]) rfl (DP s) (Lt s r hd.2.2.1) (by
  intro i hi;have e1:=syE.tk_ren φ 1 s.syms;have e2:=s.hV_ren φ 2;have e3:=DE φ _ (II s.bad);rw [p1] at e1;rw [p2] at e2;rcases four (by omega:i<4) with rfl|rfl|rfl|rfl
  ·rw [p0,h0]
   simp [ckH,AH.at,Ck.c,AI,AL,ren,e1,e2,e3]
  ·rw [p1,h1];exact (Ff _ _).symm
  ·rw [p2,h2];exact (Jk _ _).symm
  ·omega) (by
  intro i g1 g2;obtain rfl:i=3:=by omega
  rw [p3];exact h3) (by
  intro i hi;have e1:=syE.tk_ren φ s.tn r.syms;have e2:=r.hV_ren φ 2;have e3:=DE φ _ (II r.bad)
  have et:φ s.tn=(if s.syms=[] then m else t):=by
   unfold Ck.tn
   split
   ·exact p3
   ·exact p1
  rw [et] at e1;rw [p2] at e2;rcases four hi with rfl|rfl|rfl|rfl
  ·rw [p0,k0]
   simp [E9,AH.at,Ck.c,AI,AL,ren,e1,e2,e3]
  ·rw [p1,k1]
   show (if s.syms=[] then none else AO r.syms)=Option.map _ (if s.syms=[] then none else AO r.syms)
   split
   ·rfl
   ·exact (Ff _ _).symm
  ·rw [p2,k2];exact (Jk _ _).symm
  ·rw [p3,k3]
   show _=Option.map _ (if s.syms=[] then AO r.syms else none)
   split
   ·exact (Ff _ _).symm
   ·rfl) (by
  intro j hj;have j0:=hj 0 (by decide);have j1:=hj 1 (by decide);have j2:=hj 2 (by decide);have j3:=hj 3 (by decide);rw [p0] at j0;rw [p1] at j1;rw [p2] at j2;rw [p3] at j3
  exact hO j (fun h=>j0 h.symm) (fun h=>j1 h.symm) (fun h=>j2 h.symm) (fun h=>j3 h.symm))
 have hr:AL φ [.ptr 0 0,.agg [.str x.name,AN.av x.dims]]=[.ptr b 0,.agg [.str x.name,AN.av x.dims]]:=by simp [AL,ren,AN.av_ren,p0]
 rw [hr] at key;exact key
theorem Wo {s:Ck} (h:s.ok) (x:It) (hx:x.dims.length<4294967296) (K:AH):CS zP BJ 67 [.ptr 0 0,.agg [.str x.name,AN.av x.dims]] (ckH s++K) (.int .i64 ((s.decl x).2:Int)) (ckH (s.decl x).1++K):=by
 obtain ⟨_,hrh,hrv,_⟩:=N5 h x;have hE:(s.decl x).1.hE=s.hE:=by simp only [Ck.hE,hrh,hrv]
 have far:∀r:Ck,AH.at (ckH r++K) (3+K.length)=none:=fun r=>C7 (by simp [ckH];omega)
 have rest:∀j,j≠0→j≠1→j≠2→AH.at (ckH (s.decl x).1++K) j=AH.at (ckH s++K) j:=fun j h0 h1 h2=>by rw [FO (by simp [ckH];omega),FO (by simp [ckH];omega)];rfl
 by_cases hs:s.syms=[]
 ·have e1:∀t,s.c t 2=s.c 1 2:=fun t=>by simp only [Ck.c,hs];rfl
  exact RP h x hx (b:=0) (t:=3+K.length) (q:=2) (m:=1) (by omega) (by decide) (by decide) (by omega) (by omega) (by decide) (by rw [e1];rfl) (by rw [far,hs];rfl) rfl (show AO s.syms=none by rw [hs];rfl)
   (by rw [if_pos hs];rfl) (by rw [far,if_pos hs]) hE (by rw [if_pos hs];rfl) (fun j h0 _ h2 h1=>rest j h0 h1 h2)
 ·exact RP h x hx (b:=0) (t:=1) (q:=2) (m:=3+K.length) (by decide) (by decide) (by omega) (by decide) (by omega) (by omega) rfl rfl rfl (far s)
   (by rw [if_neg hs];rfl) (by rw [if_neg hs];rfl) hE (by rw [far,if_neg hs]) (fun j h0 h1 h2 _=>rest j h0 h1 h2)
abbrev Ko (p:String):Array Oper :=
 #[{dst:=some 22,op := .move (.tmp 0),type:=71,pos:=p,after := #[],guard:=none},
  {dst:=some 23,op := .move (.tmp 0),type:=71,pos:=p,after := #[],guard:=none},
  {dst:=some 24,op := .nilCheck (.tmp 23),type:=0,pos:=p,after := #[⟨1,.data⟩],guard:=none},
  {dst:=some 25,op := .fieldAddr 73 (.tmp 24) 0,type:=0,pos:=p,after := #[⟨2,.data⟩],guard:=none},
  {dst:=some 26,op := .load 134 (.tmp 5),type:=134,pos:=p,after := #[],guard:=none},
  {dst:=some 27,op := .call ⟨.value (.func 67),#[.tmp 25,.tmp 26],#[33,134]⟩,type:=101,pos:=p,after := #[⟨3,.data⟩,⟨4,.data⟩],guard:=none},
  {dst:=some 28,op := .call ⟨.value (.func 66),#[.tmp 22,.tmp 27],#[71,101]⟩,type:=0,pos:=p,after := #[⟨0,.data⟩,⟨5,.data⟩,⟨5,.chain⟩],guard:=none}]
def cnt (l:List Bool):Nat:=l.foldr (fun b n=>(1-b.toNat)+n) 0
theorem RQ:∀{l:List Bool},cnt l=0→∀b∈l,b=true
 |[],_,b,h=>by cases h
 |c::l,h,b,hb=>by
  cases c with
  |false=>simp [cnt] at h
  |true =>
   rcases List.mem_cons.1 hb with rfl|hb
   ·rfl
   ·exact RQ (l:=l) (by simpa [cnt] using h) b hb
def N7 (b0 b1 b2 b3 b4 b5 b6:Bool) (r:List Nat):Bool :=(r.isEmpty==(cnt [b0,b1,b2,b3,b4,b5,b6]==0))&&r.all fun i=>(i==0 && !b0) || (i==1 && !b1) || (i==2 && !b2&&b1) || (i==3 && !b3&&b2) || (i==4 && !b4) || (i==5 && !b5&&b3&&b4) || (i==6 && !b6&&b0&&b5)
theorem RR (p:String) (b0 b1 b2 b3 b4 b5 b6:Bool):N7 b0 b1 b2 b3 b4 b5 b6 (Region.ready .any (Ko p) #[b0,b1,b2,b3,b4,b5,b6])=true:=by cases b0<;>cases b1<;>cases b2<;>cases b3<;>cases b4<;>cases b5<;>cases b6<;>kernel_rfl
theorem dReg {O:Orc} {K:List AV→AH→Prop} {H0 H1 H2:AH} {e:Int} {it:List AV} (p:String) (l0:List (Nat × AV)) (hb:∃cs,H0.at 0=some (.box cs)) (hi:H0.at 3=some (.box it)) (wg:it.length=2)
  (h5:O 67 [.ptr 0 0,.agg it] H0=some (.int .i64 e,H1)) (h6:O 66 [.ptr 0 0,.int .i64 e] H1=some (.tup [],H2)) (t0:l0.lookup 0=some (.ptr 0 0)) (t5:l0.lookup 5=some (.ptr 3 0))
  (hK:∀l:List (Nat × AV),(∀i,i<22→l.lookup i=l0.lookup i)→K (mkT 87 l) H2):I4 O zP BJ (Ko p) K 7 #[false,false,false,false,false,false,false] (mkT 87 l0) H0:=by
 have key:∀(n:Nat) (b0 b1 b2 b3 b4 b5 b6:Bool) (l:List (Nat × AV)) (H:AH),cnt [b0,b1,b2,b3,b4,b5,b6]=n→(∀i,i<22→l.lookup i=l0.lookup i)→(b0=true→l.lookup 22=some (.ptr 0 0))→(b1=true→l.lookup 23=some (.ptr 0 0))→(b2=true→l.lookup 24=some (.ptr 0 0)) →
   (b3=true→l.lookup 25=some (.ptr 0 0))→(b4=true→l.lookup 26=some (.agg it))→(b5=true→l.lookup 27=some (.int .i64 e))→H=(if b6 then H2 else if b5 then H1 else H0)→(b6=true→b5=true)→(b5=true→b4=true)→I4 O zP BJ (Ko p) K n #[b0,b1,b2,b3,b4,b5,b6] (mkT 87 l) H:=by
  intro n
  induction n with
  |zero =>intro b0 b1 b2 b3 b4 b5 b6 l H hc hl _ _ _ _ _ _ hH _ _;have hs:=RR p b0 b1 b2 b3 b4 b5 b6;simp only [N7,hc,beq_self_eq_true,Bool.and_eq_true,beq_iff_eq,List.isEmpty_iff] at hs;have h6:b6=true:=RQ hc b6 (by simp);refine ⟨hs.1,?_⟩;subst h6;have hH:H=H2:=hH;rw [hH];exact hK l hl
  |succ n ih =>
   intro b0 b1 b2 b3 b4 b5 b6 l H hc hl g0 g1 g2 g3 g4 g5 hH sq sr;have hs:=RR p b0 b1 b2 b3 b4 b5 b6;obtain ⟨cs,hb⟩:=hb;have rp:=hl 0 (by decide);have vQ:=hl 5 (by decide);rw [t0] at rp;rw [t5] at vQ
   have nx:∀(i d:Nat) (v:AV),22≤d→∀j,j<22→(((d,v)::l).lookup j)=l0.lookup j:=fun i d v hd j hj=>by
    rw [List.lookup_cons,←hl j hj];have:(j==d)=false:=by rw [beq_eq_false_iff_ne];omega
    rw [this]
   simp only [N7,hc,Bool.and_eq_true,List.all_eq_true] at hs;refine ⟨fun h => ?_,fun i hi => ?_⟩
   ·rw [h] at hs
    exact absurd hs.1 (by simp)
   have h:=hs.2 i hi;simp only [Bool.or_eq_true,Bool.and_eq_true,beq_iff_eq,Bool.not_eq_true'] at h
   have lk:∀(d:Nat) (v:AV) (j:Nat),j≠d→((d,v)::l).lookup j=l.lookup j:=fun d v j h=>by
    rw [List.lookup_cons];have:(j==d)=false:=by rw [beq_eq_false_iff_ne];exact h
    rw [this]
   have ls:∀(d:Nat) (v:AV),((d,v)::l).lookup d=some v:=fun d v=>by rw [List.lookup_cons,beq_self_eq_true]
   have lo:∀(d:Nat) (v:AV),22≤d→∀j,j<22→((d,v)::l).lookup j=l0.lookup j:=fun d v hd j hj=>by rw [lk d v j (by omega)];exact hl j hj
   have nxt:∀(d:Nat) (v:AV) (L:Array Bool) (G:AH),I4 O zP BJ (Ko p) K n L (mkT 87 ((d,v)::l)) G→I4 O zP BJ (Ko p) K n L (AX (mkT 87 l) (some d) v) G:=fun d v L G h=>by rw [zV];exact h
   rcases h with ((((((⟨rfl,h1⟩|⟨rfl,h1⟩)|⟨⟨rfl,h1⟩,h2⟩)|⟨⟨rfl,h1⟩,h2⟩)|⟨rfl,h1⟩)|⟨⟨⟨rfl,h1⟩,h2⟩,h3⟩)|⟨⟨⟨rfl,h1⟩,h2⟩,h3⟩)
   ·subst h1
    refine ⟨_,.ptr 0 0,H,rfl,rfl,rfl,by simp [AW,aop.eq_def,rp],?_⟩;exact nxt 22 _ _ _ (ih true b1 b2 b3 b4 b5 b6 _ H (by simp only [cnt,List.foldr_cons,List.foldr_nil,Bool.toNat_true,Bool.toNat_false] at hc ⊢;omega) (lo _ _ (by decide)) (fun _=>ls _ _) (fun h=>(lk _ _ _ (by decide)).trans (g1 h)) (fun h=>(lk _ _ _ (by decide)).trans (g2 h)) (fun h=>(lk _ _ _ (by decide)).trans (g3 h)) (fun h=>(lk _ _ _ (by decide)).trans (g4 h)) (fun h=>(lk _ _ _ (by decide)).trans (g5 h)) hH sq sr)
   ·subst h1
    refine ⟨_,.ptr 0 0,H,rfl,rfl,rfl,by simp [AW,aop.eq_def,rp],?_⟩;exact nxt 23 _ _ _ (ih b0 true b2 b3 b4 b5 b6 _ H (by simp only [cnt,List.foldr_cons,List.foldr_nil,Bool.toNat_true,Bool.toNat_false] at hc ⊢;omega) (lo _ _ (by decide)) (fun h=>(lk _ _ _ (by decide)).trans (g0 h)) (fun _=>ls _ _) (fun h=>(lk _ _ _ (by decide)).trans (g2 h)) (fun h=>(lk _ _ _ (by decide)).trans (g3 h)) (fun h=>(lk _ _ _ (by decide)).trans (g4 h)) (fun h=>(lk _ _ _ (by decide)).trans (g5 h)) hH sq sr)
   ·subst h1
    have e:=g1 h2;refine ⟨_,.ptr 0 0,H,rfl,rfl,rfl,by simp [AW,aop.eq_def,e],?_⟩;exact nxt 24 _ _ _ (ih b0 b1 true b3 b4 b5 b6 _ H (by simp only [cnt,List.foldr_cons,List.foldr_nil,Bool.toNat_true,Bool.toNat_false] at hc ⊢;omega) (lo _ _ (by decide)) (fun h=>(lk _ _ _ (by decide)).trans (g0 h)) (fun h=>(lk _ _ _ (by decide)).trans (g1 h)) (fun _=>ls _ _) (fun h=>(lk _ _ _ (by decide)).trans (g3 h)) (fun h=>(lk _ _ _ (by decide)).trans (g4 h)) (fun h=>(lk _ _ _ (by decide)).trans (g5 h)) hH sq sr)
   ·subst h1
    have e:=g2 h2;refine ⟨_,.ptr 0 0,H,rfl,rfl,rfl,by simp [AW,aop.eq_def,e],?_⟩;exact nxt 25 _ _ _ (ih b0 b1 b2 true b4 b5 b6 _ H (by simp only [cnt,List.foldr_cons,List.foldr_nil,Bool.toNat_true,Bool.toNat_false] at hc ⊢;omega) (lo _ _ (by decide)) (fun h=>(lk _ _ _ (by decide)).trans (g0 h)) (fun h=>(lk _ _ _ (by decide)).trans (g1 h)) (fun h=>(lk _ _ _ (by decide)).trans (g2 h)) (fun _=>ls _ _) (fun h=>(lk _ _ _ (by decide)).trans (g4 h)) (fun h=>(lk _ _ _ (by decide)).trans (g5 h)) hH sq sr)
   ·subst h1
    have h5':b5=false:=by cases b5 with
     |false=>rfl
     |true=>exact (sr rfl).symm
    have h6':b6=false:=by cases b6 with
     |false=>rfl
     |true=>exact ((sq rfl).symm.trans h5')
    subst h5' h6';have hH:H=H0:=hH;rw [hH];refine ⟨_,.agg it,H0,rfl,rfl,rfl,?_,?_⟩
    ·obtain ⟨x,y,rfl⟩:∃x y,it=[x,y]:=by
      match it,wg with
      |[x,y],_=>exact ⟨x,y,rfl⟩
     simp only [AH.at] at hi;simp [AW,aop.eq_def,vQ,hi]
    exact nxt 26 _ _ _ (ih b0 b1 b2 b3 true false false _ H0 (by simp only [cnt,List.foldr_cons,List.foldr_nil,Bool.toNat_true,Bool.toNat_false] at hc ⊢;omega) (lo _ _ (by decide)) (fun h=>(lk _ _ _ (by decide)).trans (g0 h)) (fun h=>(lk _ _ _ (by decide)).trans (g1 h)) (fun h=>(lk _ _ _ (by decide)).trans (g2 h)) (fun h=>(lk _ _ _ (by decide)).trans (g3 h)) (fun _=>ls _ _) (fun h=>by cases h) rfl (fun h=>by cases h) (fun _=>rfl))
   ·subst h1
    have h6':b6=false:=by cases b6 with
     |false=>rfl
     |true=>exact (sq rfl).symm
    subst h6';have hH:H=H0:=hH;rw [hH];have e1:=g3 h2;have e2:=g4 h3;refine ⟨_,.int .i64 e,H1,rfl,rfl,rfl,by simp [AW,callee,e1,e2,h5],?_⟩;exact nxt 27 _ _ _ (ih b0 b1 b2 b3 b4 true false _ H1 (by simp only [cnt,List.foldr_cons,List.foldr_nil,Bool.toNat_true,Bool.toNat_false] at hc ⊢;omega) (lo _ _ (by decide)) (fun h=>(lk _ _ _ (by decide)).trans (g0 h)) (fun h=>(lk _ _ _ (by decide)).trans (g1 h)) (fun h=>(lk _ _ _ (by decide)).trans (g2 h)) (fun h=>(lk _ _ _ (by decide)).trans (g3 h)) (fun h=>(lk _ _ _ (by decide)).trans (g4 h)) (fun _=>ls _ _) rfl (fun h=>by cases h) (fun _=>h3))
   ·subst h1 h3 hH
    have e1:=g0 h2;have e2:=g5 rfl;refine ⟨_,.tup [],H2,rfl,rfl,rfl,by simp [AW,callee,e1,e2,h6],?_⟩;exact nxt 28 _ _ _ (ih b0 b1 b2 b3 b4 true true _ H2 (by simp only [cnt,List.foldr_cons,List.foldr_nil,Bool.toNat_true,Bool.toNat_false] at hc ⊢;omega) (lo _ _ (by decide)) (fun h=>(lk _ _ _ (by decide)).trans (g0 h)) (fun h=>(lk _ _ _ (by decide)).trans (g1 h)) (fun h=>(lk _ _ _ (by decide)).trans (g2 h)) (fun h=>(lk _ _ _ (by decide)).trans (g3 h)) (fun h=>(lk _ _ _ (by decide)).trans (g4 h)) (fun h=>(lk _ _ _ (by decide)).trans (g5 h)) rfl (fun _=>rfl) (fun _=>sr rfl))
 exact key 7 false false false false false false false l0 H0 rfl (fun _ _=>rfl) (fun h=>by cases h) (fun h=>by cases h) (fun h=>by cases h) (fun h=>by cases h) (fun h=>by cases h) (fun h=>by cases h) rfl (fun h=>by cases h) (fun h=>by cases h)
@[simp high] theorem lq (l:List It):alen zP 85 (itE.av l)=some (.int .i64 l.length):=itE.alen Tryz.underlying85 l
@[simp high] theorem lr {l:List It} {i:Nat} (h:i<l.length):Ao zP 85 (itE.av l) (.int .i64 (i:Int))=some (.vptr (itE.row l) (i*2)):=itE.aidx Tryz.underlying85 (by kernel_rfl) h
noncomputable def Lv:AF zP BJ:=AF.ck 68 (fun t:Tn=>okT t=true) (fun t=>[.ptr 0 0,.agg (tC t)]) (fun t s=>s.to t) (fun t=>by simp [low]) (fun t s=>Lu s t) (fun x y h=>by
 simp only [List.cons.injEq,AV.agg.injEq,true_and,and_true] at h
 exact KV x y h) (fun t s h hs=>Wj t h s hs)
def CsI (x:Sx) (s:Ck) (k:Nat) (t:List AV) (H:AH):Prop:=∃i,i+k=x.items.length∧t=mkT 87 [(0,.ptr 0 0),(11,itE.av x.items),(12,.int .i64 (x.items.length:Int)),(13,.int .i64 (i:Int))]∧H=ckH (EB (x.items.take i) s)
theorem Wp (s:Ck) (x:Sx):s.same (s.loop x):=by
 have h:=Ck.same_trans (Ck.same_trans (Ck.same_trans (Jn s x.name 0) (Kl _ x.name)) (GU x.lo _)) (GU x.hi _);unfold Ck.loop;simp only
 split
 ·exact Ck.same_trans h (Jm _ _)
 ·exact h
theorem Wq (x:Sx) (hx:SxT x) (s:Ck) (hs:s.ok):CS zP BJ 34 [.ptr 0 0,.agg x.c] (ckH s) (.tup []) (ckH (s.stmt x)):=by
 refine contract s _ Tryz.func34 (by kernel_rfl) (by simp [Tryz.f34]) (fun B hB hG => ?_) rfl;have hL:([dl,IJ,F5 (fun t=>okT t=true) Kn,Lv,EW].map (·.f)).Nodup:=show ([70,71,69,68,66]:List Nat).Nodup by decide
 have X:=Bn [dl,IJ,F5 (fun t=>okT t=true) Kn,Lv,EW] F1 Ad;have f1:=fun n (k:Nat) (V:Ck) (hV:V.ok) K=>F2 hL (show dl∈_ by simp) (n,k) V trivial hV K
 have f2:=fun n (V:Ck) (hV:V.ok) K=>F2 hL (show IJ∈_ by simp) n V trivial hV K
 have f3:=fun t (h:okT t=true) (V:Ck) (hV:V.ok) K=>F2 hL (show F5 (fun t=>okT t=true) Kn∈_ by simp) t V h hV K
 have f4:=fun t (h:okT t=true) (V:Ck) (hV:V.ok) K=>F2 hL (show Lv∈_ by simp) t V h hV K
 have f5:=fun e (V:Ck) (hV:V.ok) K=>F2 hL (show EW∈_ by simp) e V trivial hV K
 generalize oOf [dl,IJ,F5 (fun t=>okT t=true) Kn,Lv,EW]=O at X f1 f2 f3 f4 f5;refine Tr.goD X hG ?_;unfold Ck.stmt
 by_cases k1:x.kind=1
 ·rw [if_pos k1]
  have oV:=DP s;simp [Tryz.f34,Sx.c,ckH,Ck.c,k1];refine LpD.loopW [] hG (CsI x s) x.items.length (t':=mkT 87 [(0,.ptr 0 0),(11,itE.av x.items),(12,.int .i64 (x.items.length:Int)),(13,.int .i64 ((0:Nat):Int))]) (H':=ckH s) (AD.mkK 3 (by simp [hB,ckH]) (by simp [low]) (by simp [ckH,Ck.c]) oV) ⟨0,by omega,rfl,rfl⟩ ?_;rintro k t H ⟨i,oQ,rfl,rfl⟩;obtain ⟨hV,_⟩:=N6 (x.items.take i) hs
  by_cases hi:i<x.items.length
  ·obtain ⟨k,rfl⟩:∃j,k=j+1:=⟨k-1,by omega⟩
   have hi':(i:Int)<x.items.length:=by omega
   have wg:=hx.items;obtain ⟨y,hy⟩:∃y,x.items[i]? = some y:=⟨_,List.getElem?_eq_getElem hi⟩
   have hyd:=hx.dims y (List.mem_of_getElem? hy);obtain ⟨g1,g2⟩:=itE.row_at _ _ hy;have e2:itE.sz=2:=rfl;have ec:itE.c y=[.str y.name,AN.av y.dims]:=rfl;rw [e2,ec] at g1;rw [e2] at g2;have oe:x.items.take (i+1)=x.items.take i++[y]:=by rw [List.take_add_one,hy];rfl
   have wi:IntKind.i64.wrap ((i:Int)+1)=((i+1:Nat):Int):=by rw [Ab (by omega) (by omega)];omega
   have hI:CsI x s k (mkT 87 [(0,.ptr 0 0),(11,itE.av x.items),(12,.int .i64 (x.items.length:Int)),(13,.int .i64 ((i+1:Nat):Int))]) (ckH ((EB (x.items.take i) s).item y)):=⟨i+1,by omega,rfl,by rw [oe,RO]⟩
   generalize EB (x.items.take i) s=V at *;cases hb:V.bad with
   |some e =>
    have vR:V.item y=V:=by simp [Ck.item,hb]
    rw [vR] at hI;obtain ⟨p,q⟩:=e;refine ⟨Bu,Em,?_⟩;have p8:=DP V;simp only [ckH,Ck.c,hb,E8] at p8 hI;simp [hi,hi',g1,g2,ckH,Ck.c,hb,E8,wi,-Int.natCast_add];exact Nxt.mk k (by omega) (AD.mkK 3 (by simp [hB,ckH]) (by simp [low]) (by simp) p8) hI
   |none =>
    have vR:V.item y=(V.decl y).1.fail (V.decl y).2:=by simp [Ck.item,hb]
    rw [vR] at hI;have q1:=Wo hV y hyd [some (.box [.str y.name,AN.av y.dims])];have q2:=CS.ck (RG (V.decl y).1 (V.decl y).2) (by simp [low]) rfl [some (.box [.str y.name,AN.av y.dims])];have p8:=DP ((V.decl y).1.fail (V.decl y).2);generalize (V.decl y).2=e at *;generalize (V.decl y).1=r at *;generalize r.fail e=u at *;have hc:ckH V=[some (.box [syE.tk 1 V.syms,.int .i64 V.cells,V.hV 2,.nilIface,.int .i64 V.at_]),AO V.syms,V.hE]:=by simp [ckH,Ck.c,hb]
    rw [hc] at q1;have X2:=Fh (S:=[]) q1 (Fh (S:=[]) q2 Em)
    have o1:=FD 67 [.ptr 0 0,.agg [.str y.name,AN.av y.dims]] ([some (.box [syE.tk 1 V.syms,.int .i64 V.cells,V.hV 2,.nilIface,.int .i64 V.at_]),AO V.syms,V.hE]++[some (.box [.str y.name,AN.av y.dims])]) (.int .i64 (e:Int)) (ckH r++[some (.box [.str y.name,AN.av y.dims])])
     (orP 66 [.ptr 0 0,.int .i64 (e:Int)] (ckH r++[some (.box [.str y.name,AN.av y.dims])]) (.tup []) (ckH u++[some (.box [.str y.name,AN.av y.dims])]) Bu)
    have o2:orP 67 [.ptr 0 0,.agg [.str y.name,AN.av y.dims]] ([some (.box [syE.tk 1 V.syms,.int .i64 V.cells,V.hV 2,.nilIface,.int .i64 V.at_]),AO V.syms,V.hE]++[some (.box [.str y.name,AN.av y.dims])]) (.int .i64 (e:Int)) (ckH r++[some (.box [.str y.name,AN.av y.dims])])
     (orP 66 [.ptr 0 0,.int .i64 (e:Int)] (ckH r++[some (.box [.str y.name,AN.av y.dims])]) (.tup []) (ckH u++[some (.box [.str y.name,AN.av y.dims])]) Bu) 66 [.ptr 0 0,.int .i64 (e:Int)] (ckH r++[some (.box [.str y.name,AN.av y.dims])])=some (.tup [],ckH u++[some (.box [.str y.name,AN.av y.dims])]):=by
     rw [JG (by decide),FD]
    generalize orP 67 _ _ _ _ _=O2 at X2 o1 o2;refine ⟨O2,X2,?_⟩;simp [hi,hi',g1,g2,ckH,Ck.c,hb];refine LpD.ordersW X2 hG (dReg (H0:=[some (.box [syE.tk 1 V.syms,.int .i64 V.cells,V.hV 2,.nilIface,.int .i64 V.at_]),AO V.syms,V.hE]++[some (.box [.str y.name,AN.av y.dims])]) (H1:=ckH r++[some (.box [.str y.name,AN.av y.dims])]) (H2:=ckH u++[some (.box [.str y.name,AN.av y.dims])]) _ _ ⟨_,rfl⟩ rfl rfl o1 o2 rfl rfl ?_);intro l hl;have l13:=hl 13 (by decide);have l0:=hl 0 (by decide);have l11:=hl 11 (by decide);have l12:=hl 12 (by decide);simp at l13 l0 l11 l12;simp only [ckH,Ck.c] at hI p8;simp [l13,wi,ckH,Ck.c,-Int.natCast_add];exact Nxt.mk k (by omega) (AD.mkK 3 (by simp [hB,ckH]) (by simp [low,l0,l11,l12]) (by simp) p8) hI
  ·have hi':¬(i:Int)<x.items.length:=by omega
   obtain rfl:k=0:=by omega
   refine ⟨Bu,Em,?_⟩;rw [List.take_of_length_le (by omega)];simp [hi,hi',ckH,Ck.c]
 rw [if_neg k1]
 by_cases k2:x.kind=2
 ·rw [if_pos k2]
  have g1:=fun K=>f4 x.to hx.to s hs K
  have g2:=fun K=>f3 x.e hx.e (s.to x.to) (Ck.same_ok (Lu s x.to) hs) K
  generalize s.to x.to=s1 at *;generalize ckE x.e s1=s2 at *;simp [ckH,Ck.c] at g1 g2;simp [Tryz.f34,Sx.c,ckH,Ck.c,k2,g1,g2]
 rw [if_neg k2]
 by_cases k3:x.kind=3
 ·rw [if_pos k3]
  have h1:=Ck.same_ok (Jn s x.name 0) hs;have g1:=fun K=>f1 x.name 0 s hs K
  have g2:=fun K=>f2 x.name (s.name x.name 0) h1 K
  have h2:=Ck.same_ok (Kl (s.name x.name 0) x.name) h1;have g3:=fun K=>f3 x.lo hx.lo ((s.name x.name 0).free x.name) h2 K
  have h3:=Ck.same_ok (GU x.lo ((s.name x.name 0).free x.name)) h2;have g4:=fun K=>f3 x.hi hx.hi (ckE x.lo ((s.name x.name 0).free x.name)) h3 K
  have h4:=Ck.same_ok (GU x.hi (ckE x.lo ((s.name x.name 0).free x.name))) h3;have g5:=fun K=>f5 10 (ckE x.hi (ckE x.lo ((s.name x.name 0).free x.name))) h4 K
  simp only [Ck.loop];simp only at g1;generalize s.name x.name 0=s1 at *;generalize s1.free x.name=s2 at *;generalize ckE x.lo s2=s3 at *;generalize ckE x.hi s3=s4 at *;generalize s4.fail 10=s5 at *;simp [ckH,Ck.c] at g1 g2 g3 g4 g5
  by_cases hz:x.step=0
  ·simp [Tryz.f34,Sx.c,ckH,Ck.c,k3,g1,g2,g3,g4,g5,hz]
  ·simp [Tryz.f34,Sx.c,ckH,Ck.c,k3,g1,g2,g3,g4,hz]
 rw [if_neg k3]
 by_cases k5:x.kind=5
 ·rw [if_pos k5]
  have g1:=fun K=>f3 x.ca hx.ca s hs K
  have g2:=fun K=>f3 x.cb hx.cb (ckE x.ca s) (Ck.same_ok (GU x.ca s) hs) K
  generalize ckE x.ca s=s1 at *;generalize ckE x.cb s1=s2 at *;simp [ckH,Ck.c] at g1 g2;simp [Tryz.f34,Sx.c,ckH,Ck.c,k5,g1,g2]
 rw [if_neg k5]
 by_cases k8:x.kind=8
 ·rw [if_pos k8]
  have g1:=fun K=>f4 x.to hx.to s hs K
  generalize s.to x.to=s1 at *;simp [ckH,Ck.c] at g1;simp [Tryz.f34,Sx.c,ckH,Ck.c,k8,g1]
 rw [if_neg k8]
 by_cases k9:x.kind=9
 ·rw [if_pos k9]
  have g1:=fun K=>f3 x.e hx.e s hs K
  generalize ckE x.e s=s1 at *;simp [ckH,Ck.c] at g1;simp [Tryz.f34,Sx.c,ckH,Ck.c,k9,g1]
 rw [if_neg k9];simp [Tryz.f34,Sx.c,ckH,Ck.c,k1,k2,k3,k5,k8,k9]
theorem RS {s:Ck} (h:s.ok) (x:Sx):(s.stmt x).ok∧(s.stmt x).held=s.held∧(s.stmt x).hv=s.hv:=by
 have sm:∀{r:Ck},s.same r→r.ok∧r.held=s.held∧r.hv=s.hv:=fun {r} k=>by refine ⟨Ck.same_ok k h,?_,?_⟩<;>(obtain ⟨b,rfl⟩:=k;rfl)
 unfold Ck.stmt
 split
 ·obtain ⟨h1,h2,h3,_⟩:=N6 x.items h
  exact ⟨h1,h2,h3⟩
 split
 ·exact sm (Ck.same_trans (Lu s x.to) (GU _ _))
 split
 ·exact sm (Wp s x)
 split
 ·exact sm (Ck.same_trans (GU _ _) (GU _ _))
 split
 ·exact sm (Lu s x.to)
 split
 ·exact sm (GU _ _)
 ·exact sm s.same_rfl
@[simp high] theorem zAI (l:List Nd):alen zP 38 (ndE.av l)=some (.int .i64 l.length):=ndE.alen Tryz.underlying38 l
@[simp high] theorem zAJ {l:List Nd} {i:Nat} (h:i<l.length):Ao zP 38 (ndE.av l) (.int .i64 (i:Int))=some (.vptr (ndE.row l) (i*34)):=ndE.aidx Tryz.underlying38 (by kernel_rfl) h
theorem RT {s:Ck} (h:s.ok) (n:List UInt8) (hl:s.held.length+1<4294967296):(s.push n).ok:=⟨h.syms,h.cells,by simp only [Ck.push,List.length_append,List.length_singleton];exact hl,fun h=>by simp [Ck.push] at h⟩
theorem N8 {s:Ck} (h:s.ok) (a:Int):(s.on a).ok:=⟨h.syms,h.cells,h.held,h.hv⟩
theorem Wr {s:Ck} (h:s.ok):s.pop.ok:=⟨h.syms,h.cells,by have:=h.held;simp only [Ck.pop,List.length_dropLast];omega,fun hv=>by have:=h.hv hv;simp [Ck.pop,this]⟩
mutual
theorem RU:∀(n:Nd) {s:Ck},s.ok→s.held.length+szN n<4294967296→(ckN n s).ok∧(ckN n s).held=s.held∧s.hv≤(ckN n s).hv
 |.mk l e x b c m,s,h,hz=>by
  rw [szN] at hz;rw [ckN]
  split
  ·have hp:=RT h x.name (by omega)
   have hl:(s.push x.name).held=s.held++[x.name]:=rfl;have ox:(s.push x.name).held.length=s.held.length+1:=by rw [hl];simp
   obtain ⟨h1,h2,h3⟩:=IK b hp (by rw [ox];omega);obtain ⟨k1,k2,k3⟩:=IK c h1 (by rw [h2,ox];omega);have hv:(s.push x.name).hv=s.hv+1:=rfl;refine ⟨Wr k1,?_,?_⟩
   ·show (ckL c (ckL b (s.push x.name))).held.dropLast=s.held
    rw [k2,h2,hl,List.dropLast_concat]
   ·show s.hv≤(ckL c (ckL b (s.push x.name))).hv
    omega
  ·obtain ⟨h1,h2,h3⟩:=IK b h (by omega)
   obtain ⟨k1,k2,k3⟩:=IK c h1 (by rw [h2];omega);exact ⟨k1,k2.trans h2,by omega⟩
theorem IK:∀(l:List Nd) {s:Ck},s.ok→s.held.length+szL l<4294967296→(ckL l s).ok∧(ckL l s).held=s.held∧s.hv≤(ckL l s).hv
 |[],s,h,_=>by rw [ckL];exact ⟨h,rfl,Nat.le_refl _⟩
 |n::r,s,h,hz=>by
  rw [szL] at hz;rw [ckL];obtain ⟨h1,h2,h3⟩:=RS (N8 h n.line) n.st;have h2':((s.on n.line).stmt n.st).held=s.held:=h2;have h3':((s.on n.line).stmt n.st).hv=s.hv:=h3
  split
  ·exact ⟨h1,h2',by omega⟩
  ·obtain ⟨k1,k2,k3⟩:=RU n h1 (by rw [h2'];omega)
   obtain ⟨j1,j2,j3⟩:=IK r k1 (by rw [k2,h2'];omega);exact ⟨j1,(j2.trans k2).trans h2',by omega⟩
end
def Jp (l:List Nd):Prop:=∀s:Ck,s.ok→s.held.length+szL l<4294967296→CS zP BJ 23 [.ptr 0 0,ndE.av l] (ckH s) (.tup []) (ckH (ckL l s))
def hpK (m:Option AH) (s:Ck) (nb:Option Ent):AH:=match m with
 |none=>[some (.box (s.c 1 4)),AO s.syms,none,nb,s.hE]
 |some K=>ckH s++nb::K
theorem Ws {q4:Option AH} {s r:Ck} {nb:Option Ent} (hs:s.ok) (hr:r.ok) (h:hpK q4 s nb=hpK q4 r nb):s=r:=by
 cases q4 with
 |some K=>exact (RE hs hr h).1
 |none =>simp only [hpK,List.cons.injEq,Option.some.injEq,Ent.box.injEq,true_and,and_true] at h;exact RD hs hr h.1 h.2.2
theorem RV {l:List Nd} (hB:Jp l) (q4:Option AH) {s:Ck} (hs:s.ok) (hz:s.held.length+szL l<4294967296) (nb:Option Ent) :
  CS zP BJ 23 [.ptr 0 0,ndE.av l] (hpK q4 s nb) (.tup []) (hpK q4 (ckL l s) nb):=by
 have h:=hB s hs hz;cases q4 with
 |some K=>exact CS.ck h (by simp [low]) rfl _
 |none =>
  have:=CS.ckAt h (by simp [low]) rfl (b:=0) (t:=1) (q:=4) (by decide) (by decide) (by decide) (H:=hpK none s nb) (H':=hpK none (ckL l s) nb) rfl rfl rfl rfl rfl rfl (by
   intro j h0 h1 h4
   match j,h0,h1,h4 with
   |0,h,_,_=>exact absurd rfl h
   |1,_,h,_=>exact absurd rfl h
   |2,_,_,_|3,_,_,_=>rfl
   |4,_,_,h=>exact absurd rfl h
   |j+5,_,_,_=>rfl)
  simpa [AL,ren,Enc.av_ren] using this
open Classical in
theorem RW {l1 l2:List Nd} (B1:Jp l1) (B2:Jp l2) (q4:Option AH) {s:Ck} (hs:s.ok) (hz:s.held.length+szL l1+szL l2<4294967296) (nb:Option Ent) {O0:Orc} (X0:CxW O0 zP BJ []) :
  ∃O,CxW O zP BJ []∧(∀f a H,f≠23→O f a H=O0 f a H)∧O 23 [.ptr 0 0,ndE.av l1] (hpK q4 s nb)=some (.tup [],hpK q4 (ckL l1 s) nb) ∧
   O 23 [.ptr 0 0,ndE.av l2] (hpK q4 (ckL l1 s) nb)=some (.tup [],hpK q4 (ckL l2 (ckL l1 s)) nb):=by
 obtain ⟨h1,h2,_⟩:=IK l1 hs (by omega)
 refine ⟨orP 23 [.ptr 0 0,ndE.av l1] (hpK q4 s nb) (.tup []) (hpK q4 (ckL l1 s) nb) (orP 23 [.ptr 0 0,ndE.av l2] (hpK q4 (ckL l1 s) nb) (.tup []) (hpK q4 (ckL l2 (ckL l1 s)) nb) O0),
  Fh (RV B1 q4 hs (by omega) nb) (Fh (RV B2 q4 h1 (by rw [h2];omega) nb) X0),fun f a H hf=>by rw [JG hf,JG hf],FD _ _ _ _ _ _,?_⟩
 by_cases hc:[AV.ptr 0 0,ndE.av l2]=[.ptr 0 0,ndE.av l1]∧hpK q4 (ckL l1 s) nb=hpK q4 s nb
 ·obtain ⟨ha,hH⟩:=hc
  simp only [List.cons.injEq,true_and,and_true] at ha;have hl:=ndE.av_inj ha;have he:=Ws h1 hs hH;subst hl;rw [he,he,FD]
 ·have:∀(O1:Orc),orP 23 [.ptr 0 0,ndE.av l1] (hpK q4 s nb) (.tup []) (hpK q4 (ckL l1 s) nb) O1 23 [.ptr 0 0,ndE.av l2] (hpK q4 (ckL l1 s) nb)=O1 23 [.ptr 0 0,ndE.av l2] (hpK q4 (ckL l1 s) nb):=fun O1=>if_neg fun h=>hc h.2
  rw [this,FD]
theorem RX:BJ.soft 25=true:=by decide
theorem RY:BJ.stk 25=true:=by decide
@[simp] theorem bsSt1 (a:List UInt8):CK zP 25 1 [(0,.str a)]=some (.slice .full 1 1 [.str a]):=by kernel_rfl
theorem Wu {P:Program} {H:AH} {fid:Nat} {t:TypeId} {sz:Nat} {ow:Own} {ys:List AV} (h:Bg P t sz=true) (ha:ys.all AV.one=true) :
  E6 P H fid t t .nilSlice (.slice ow sz 1 ys)=some (.stk fid 1 sz 1,[(fid,.stk 1 ys)]):=by
 unfold Bg at h;unfold E6
 split at h
 ·rename_i e he
  rw [he];simp only
  split at h
  ·rename_i i hi
   rw [hi];simp only
   split at h
   ·rename_i z hz
    rw [hz];simp only [Bool.and_eq_true,beq_iff_eq,decide_eq_true_eq] at h;obtain ⟨⟨⟨h1,h2⟩,h3⟩,h4⟩:=h;simp only;have qU:1*i.bytes≤140737488355328:=by omega
    rw [if_pos ⟨h1,by omega,by simp [FX]⟩];simp only [D7,h2,if_true,ha,and_self];rw [if_pos qU]
   ·cases h
  ·cases h
 ·cases h
theorem Wv {P:Program} {H:AH} {fid k ver n:Nat} {t:TypeId} {sz:Nat} {ow:Own} {ys cs:List AV} (h:Bg P t sz=true) (hk:H.at k=some (.stk ver cs)) (hb:n+1≤137438953472) (hc:n*sz≤cs.length) (ha:ys.all AV.one=true) :
  E6 P H fid t t (.stk k ver sz n) (.slice ow sz 1 ys)=some (.stk k (ver+1) sz (n+1),[(k,.stk (ver+1) (cs.take (n*sz)++ys))]):=by
 unfold Bg at h;unfold E6
 split at h
 ·rename_i e he
  rw [he];simp only
  split at h
  ·rename_i i hi
   rw [hi];simp only
   split at h
   ·rename_i z hz
    rw [hz];simp only [Bool.and_eq_true,beq_iff_eq,decide_eq_true_eq] at h;obtain ⟨⟨⟨h1,h2⟩,h3⟩,h4⟩:=h;simp only
    have qU:(n+1)*i.bytes≤140737488355328:=by
     calc (n+1)*i.bytes≤137438953472*1024:=Nat.mul_le_mul hb h4
      _=140737488355328:=by decide
    rw [if_pos ⟨h1,by omega,by simp [FX]⟩];simp only [D7,h2,if_true,ha,and_self];rw [if_pos ⟨trivial,qU,by omega⟩,hk];simp only [true_and];rw [if_pos hc]
   ·cases h
  ·cases h
 ·cases h
theorem RZ:Bg zP 25 1=true:=by kernel_rfl
theorem Ww (H:AH) (fid:Nat) (ow:Own) (a:List UInt8):E6 zP H fid 25 25 .nilSlice (.slice ow 1 1 [.str a])=some (.stk fid 1 1 1,[(fid,.stk 1 [.str a])]):=Wu RZ rfl
theorem Wy (H:AH) (fid q ver n:Nat) (ow:Own) (a:List UInt8) (cs:List AV) (hq:H.at q=some (.stk ver cs)) (hn:n≤4294967296) (hc:cs.length=n) :
  E6 zP H fid 25 25 (.stk q ver 1 n) (.slice ow 1 1 [.str a])=some (.stk q (ver+1) 1 (n+1),[(q,.stk (ver+1) (cs++[.str a]))]):=by
 rw [Wv RZ hq (by omega) (by omega) rfl,List.take_of_length_le (by omega)]
def CbI (l:List Nd) (s:Ck) (k:Nat) (t:List AV) (H:AH):Prop:=∃i V,i+k=l.length∧V.ok∧V.held=s.held∧s.hv≤V.hv∧ckL (l.drop i) V=ckL l s∧t=mkT 69 [(0,.ptr 0 0),(6,ndE.av l),(7,.int .i64 (l.length:Int)),(8,.int .i64 (i:Int))]∧H=ckH V
theorem N9:∀(N:Nat) (l:List Nd),szL l<N→Db l→Jp l
 |0,_,h,_=>absurd h (Nat.not_lt_zero _)
 |N+1,l,hN,o6=>by
  intro s hs hz;refine contract s _ Tryz.func23 (by kernel_rfl) (by simp [Tryz.f23]) (fun B hB hG => ?_) rfl;have oV:=DP s;refine Tr.goW Em hG ?_;simp [Tryz.f23,ckH,Ck.c];refine LpD.loopW [] hG (CbI l s) l.length (t':=mkT 69 [(0,.ptr 0 0),(6,ndE.av l),(7,.int .i64 (l.length:Int)),(8,.int .i64 ((0:Nat):Int))]) (H':=ckH s) (AD.mkK 3 (by simp [hB,ckH]) (by simp [low]) (by simp [ckH,Ck.c]) oV) ⟨0,s,by omega,hs,rfl,Nat.le_refl _,rfl,rfl,rfl⟩ ?_;rintro k t H ⟨i,V,oQ,hV,rH,hVv,he,rfl,rfl⟩;cases k with
  |zero =>
   obtain rfl:i=l.length:=by omega
   rw [List.drop_length,ckL] at he;rw [←he];refine ⟨Bu,Em,?_⟩;simp [ckH,Ck.c]
  |succ k =>
   have hi:i<l.length:=by omega
   have hi':(i:Int)<l.length:=by omega
   obtain ⟨n,hn⟩:∃n,l[i]? = some n:=⟨_,List.getElem?_eq_getElem hi⟩
   have pC:l.drop i=n::l.drop (i+1):=by rw [List.drop_eq_getElem_cons hi];rw [List.getElem?_eq_getElem hi] at hn;injection hn with hn;rw [hn]
   have oa:=Vm hn;have zER:=Qc n;have vS:=Q6 (N0 o6 n (List.mem_of_getElem? hn));have ox:=Qd l;have wi:IntKind.i64.wrap ((i:Int)+1)=((i+1:Nat):Int):=by rw [Ab (by omega) (by omega)];omega
   obtain ⟨pB,pZ⟩:=ndE.row_at l i hn;have pB:((ndE.row l).drop (i*34)).take 34=ndC n:=pB;have pZ:i*34+34≤(ndE.row l).length:=pZ;have ec:=GK n;simp only [Sx.c,List.cons_append,List.nil_append] at ec;rw [pC,ckL] at he;have q0:=CS.ck (Wq n.st vS.1 (V.on n.line) (N8 hV n.line)) (by simp [low,Sx.c_low,Am (Nat.zero_le 3) _ (Sx.c_low n.st)]) rfl [some (.box (ndC n))];obtain ⟨hW,qb,wh⟩:=RS (N8 hV n.line) n.st;have qb:((V.on n.line).stmt n.st).held=V.held:=qb;have wh:((V.on n.line).stmt n.st).hv=V.hv:=wh;have oS:ckH (V.on n.line)++[some (.box (ndC n))]=[some (.box [syE.tk 1 V.syms,.int .i64 V.cells,V.hV 2,El V.bad,.int .i64 n.line]),AO V.syms,V.hE,some (.box (ndC n))]:=rfl;rw [oS] at q0;generalize (V.on n.line).stmt n.st=W at *;have X0:=Fh (S:=[]) q0 Em;have o0:=FD 34 [.ptr 0 0,.agg n.st.c] [some (.box [syE.tk 1 V.syms,.int .i64 V.cells,V.hV 2,El V.bad,.int .i64 n.line]),AO V.syms,V.hE,some (.box (ndC n))] (.tup []) (ckH W++[some (.box (ndC n))]) Bu;generalize orP 34 _ _ _ _ _=O0 at X0 o0;cases hb:W.bad with
   |some e =>obtain ⟨p,q⟩:=e;rw [hb] at he;simp only [Option.isSome_some,if_true] at he;rw [←he];refine ⟨O0,X0,?_⟩;rw [ec] at o0 pB;simp [ckH,Ck.c,hb,E8,Sx.c] at o0;simp [hi,hi',pB,pZ,o0,ckH,Ck.c,hb,E8]
   |none =>
    rw [hb] at he;simp only [Option.isSome_none,Bool.false_eq_true,if_false] at he;have hIb:Jp n.body:=N9 N n.body (by omega) vS.2.1;have wk:Jp n.els:=N9 N n.els (by omega) vS.2.2;have rq:=RU n hW (by rw [qb,rH];omega)
    by_cases hk:n.st.kind=3
    ·have hp:=RT hW n.st.name (by rw [qb,rH];omega)
     have qq:(W.push n.st.name).held=W.held++[n.st.name]:=rfl;have zAT:(W.push n.st.name).held.length=W.held.length+1:=by rw [qq];simp
     have pp:ckN n W=(ckL n.els (ckL n.body (W.push n.st.name))).pop:=by
      cases n with
      |mk l e x b c m=>rw [ckN];exact if_pos hk
     obtain ⟨h1,h2,h3⟩:=IK n.body hp (by rw [zAT,qb,rH];omega);obtain ⟨k1,k2,k3⟩:=IK n.els h1 (by rw [h2,zAT,qb,rH];omega);have hpv:(W.push n.st.name).hv=W.hv+1:=rfl;have tq:=fun q4=>RW hIb wk q4 hp (by rw [zAT,qb,rH];omega) (some (.box (ndC n))) X0
     have hZ:(ckL n.els (ckL n.body (W.push n.st.name))).hv≠0:=by omega
     have vU:(ckL n.els (ckL n.body (W.push n.st.name))).held=W.held++[n.st.name]:=by rw [k2,h2,qq]
     rw [pp] at he rq;generalize ckL n.els (ckL n.body (W.push n.st.name))=Z at *;have wn:∀q,Z.hV q = .stk q Z.hv 1 (W.held.length+1):=fun q=>by simp [Ck.hV,hZ,vU]
     have wo:Z.hE=some (.stk Z.hv (BL.row W.held++[.str n.st.name])):=by simp only [Ck.hE,if_neg hZ,vU,BL.row_append];rfl
     have wr:Z.pop.held=W.held:=by show Z.held.dropLast=_;rw [vU,List.dropLast_concat]
     have vV:∀q,Z.pop.hV q = .stk q Z.hv 1 W.held.length:=fun q=>by have:Z.pop.hv=Z.hv:=rfl;simp [Ck.hV,this,hZ,wr]
     have wt:Z.pop.hE=some (.stk Z.hv (BL.row W.held)):=by have:Z.pop.hv=Z.hv:=rfl;simp [Ck.hE,this,hZ,wr]
     generalize ckL n.body (W.push n.st.name)=Y at *;have hwl:W.held.length≤4294967296:=by rw [qb,rH];omega
     by_cases ss:W.hv=0
     ·have hWe:W.held=[]:=hW.hv ss
      obtain ⟨O,X,tj,o1,o2⟩:=tq none;refine ⟨O,X,?_⟩;rw [←tj _ _ _ (by decide)] at o0
      have vW:hpK none (W.push n.st.name) (some (.box (ndC n)))=[some (.box [syE.tk 1 W.syms,.int .i64 W.cells,.stk 4 1 1 1,.nilIface,.int .i64 W.at_]),AO W.syms,none,some (.box (ndC n)),some (.stk 1 [.str n.st.name])]:=by simp [hpK,Ck.c,Ck.push,Ck.hV,Ck.hE,ss,hWe,hb];rfl
      rw [vW] at o1;have tl:W.hE=none:=by simp [Ck.hE,ss]
      have tm:W.hV 2 = .nilSlice:=by simp [Ck.hV,ss]
      rw [ec] at o0 o1 o2 pB;simp [hpK] at o1 o2;simp [ckH,Ck.c,hb,Sx.c,tl,tm,wn,wo,hk] at o0 o1 o2;have wl:IntKind.i64.wrap (((W.held.length+1:Nat):Int)-1)=(W.held.length:Int):=by rw [Ab (by omega) (by omega)];omega
      have wle:(W.held.length:Int)≤((W.held.length+1:Nat):Int):=by omega
      simp [hi,hi',pB,pZ,o0,ckH,Ck.c,hb,hk,tl,tm];refine LpD.turnsW ⟨Fe,F1,Ad⟩ hG [9,12] [(0,9)] ?_;simp [Qe RX RY,Ww,o1,o2,hk];refine LpD.turnsW ⟨Fe,F1,Ad⟩ hG [14] [] ?_;simp [wi,wl,wle,-Int.natCast_add];have p8:=DP Z.pop;have hI:CbI l s k (mkT 69 [(0,.ptr 0 0),(6,ndE.av l),(7,.int .i64 (l.length:Int)),(8,.int .i64 ((i+1:Nat):Int))]) (ckH Z.pop):=⟨i+1,Z.pop,by omega,rq.1,by rw [rq.2.1,qb,rH],by omega,he,rfl,rfl⟩
      have oe:(BL.row W.held++[AV.str n.st.name]).take W.held.length=BL.row W.held:=List.take_left' (by rw [BL.row_length];exact Nat.mul_one _);have sn:s.hv=0:=by omega
      refine Nxt.mk k (by omega) (AD.trans (AD.cutS (k:=4) (ver:=Z.hv) W.held.length rfl rfl) (AD.mkVH 1000 (fun i=>if i=2 then 4 else i) 3 (by simp [hB,ckH]) (by
       intro i j hi hj he;have he:(if i=2 then 4 else i)=(if j=2 then 4 else j):=he
       split at he<;>split at he<;>omega) (by
       intro i hi oL;rw [hB] at oL
       by_cases h2:i=2
       ·subst h2
        exfalso;apply oL
        show s.hE=none
        simp [Ck.hE,sn]
       ·exact if_neg h2) rfl (by
       intro i hi;have e1:=syE.tk_ren (fun i=>if i=2 then 4 else i) 1 Z.syms;have e2:=Z.pop.hV_ren (fun i=>if i=2 then 4 else i) 2;have e3:=DE (fun i=>if i=2 then 4 else i) _ (II Z.bad);have pc:Z.pop.c 1 2=[syE.tk 1 Z.syms,.int .i64 Z.cells,Z.pop.hV 2,El Z.bad,.int .i64 Z.at_]:=rfl;simp only [vV] at e2;simp at e1 e2;rcases (by omega:i=0∨i=1∨i=2) with rfl|rfl|rfl
       ·simp [ckH,AH.at,pc,vV,AI,AL,ren,e1,e3]
       ·exact (Ff _ _).symm
       ·show some (Ent.stk Z.hv ((BL.row W.held++[AV.str n.st.name]).take W.held.length))=Z.pop.hE.map _
        rw [oe,Jk,wt]) p8 (by simp [ren,strip,Enc.av_ren,Enc.av_strip]))) hI
     ·obtain ⟨O,X,tj,o1,o2⟩:=tq (some [none])
      refine ⟨O,X,?_⟩;rw [←tj _ _ _ (by decide)] at o0;have x3:(BL.row W.held).length=W.held.length:=by rw [BL.row_length];exact Nat.mul_one _
      have vW:hpK (some [none]) (W.push n.st.name) (some (.box (ndC n)))=[some (.box [syE.tk 1 W.syms,.int .i64 W.cells,.stk 2 (W.hv+1) 1 (W.held.length+1),.nilIface,.int .i64 W.at_]),AO W.syms,some (.stk (W.hv+1) (BL.row W.held++[.str n.st.name])),some (.box (ndC n)),none]:=by simp [hpK,ckH,Ck.c,Ck.push,Ck.hV,Ck.hE,hb,BL.row_append];rfl
      rw [vW] at o1;have tl:W.hE=some (.stk W.hv (BL.row W.held)):=by simp [Ck.hE,ss]
      have tm:W.hV 2 = .stk 2 W.hv 1 W.held.length:=by simp [Ck.hV,ss]
      have oP:=fun H fid ow a (h:AH.at H 2=some (.stk W.hv (BL.row W.held)))=>Wy H fid 2 W.hv W.held.length ow a (BL.row W.held) h hwl x3
      rw [ec] at o0 o1 o2 pB;simp [hpK] at o1 o2;simp [ckH,Ck.c,hb,Sx.c,tl,tm,wn,wo,hk] at o0 o1 o2;have wl:IntKind.i64.wrap (((W.held.length+1:Nat):Int)-1)=(W.held.length:Int):=by rw [Ab (by omega) (by omega)];omega
      have wle:(W.held.length:Int)≤((W.held.length+1:Nat):Int):=by omega
      simp [hi,hi',pB,pZ,o0,ckH,Ck.c,hb,hk,tl,tm];refine LpD.turnsW ⟨Fe,F1,Ad⟩ hG [9,12] [(0,9)] ?_;simp [Qe RX RY,oP,o1,o2,hk];refine LpD.turnsW ⟨Fe,F1,Ad⟩ hG [14] [] ?_;simp [wi,wl,wle,-Int.natCast_add];have p8:=DP Z.pop;have hI:CbI l s k (mkT 69 [(0,.ptr 0 0),(6,ndE.av l),(7,.int .i64 (l.length:Int)),(8,.int .i64 ((i+1:Nat):Int))]) (ckH Z.pop):=⟨i+1,Z.pop,by omega,rq.1,by rw [rq.2.1,qb,rH],by omega,he,rfl,rfl⟩
      have oe:(BL.row W.held++[AV.str n.st.name]).take W.held.length=BL.row W.held:=List.take_left' (by rw [BL.row_length];exact Nat.mul_one _)
      have pc:ckH Z.pop=[some (.box [syE.tk 1 Z.syms,.int .i64 Z.cells,.stk 2 Z.hv 1 W.held.length,El Z.bad,.int .i64 Z.at_]),AO Z.syms,some (.stk Z.hv (BL.row W.held))]:=by rw [←wt,←vV 2];rfl
      rw [pc] at hI p8;exact Nxt.mk k (by omega) (AD.trans (AD.cutS (k:=2) (ver:=Z.hv) W.held.length rfl rfl) (AD.mkK 3 (by simp [hB,ckH]) (by simp [low]) (by simp [oe]) p8)) hI
    ·have pp:ckN n W=ckL n.els (ckL n.body W):=by
      cases n with
      |mk l e x b c m=>rw [ckN];exact if_neg hk
     obtain ⟨O,X,tj,o1,o2⟩:=RW hIb wk (some []) hW (by rw [qb,rH];omega) (some (.box (ndC n))) X0;refine ⟨O,X,?_⟩;rw [←tj _ _ _ (by decide)] at o0;rw [pp] at he rq;generalize ckL n.body W=Y at *;generalize ckL n.els Y=Z at *;have hI:CbI l s k (mkT 69 [(0,.ptr 0 0),(6,ndE.av l),(7,.int .i64 (l.length:Int)),(8,.int .i64 ((i+1:Nat):Int))]) (ckH Z):=⟨i+1,Z,by omega,rq.1,by rw [rq.2.1,qb,rH],by omega,he,rfl,rfl⟩
     have p8:=DP Z;simp only [hpK] at o1 o2;rw [ec] at o0 o1 o2 pB;simp [ckH,Ck.c,hb,Sx.c] at o0 o1 o2;simp [hi,hi',pB,pZ,o0,o1,o2,ckH,Ck.c,hb,hk,wi,-Int.natCast_add];exact Nxt.mk k (by omega) (AD.mkK 3 (by simp [hB,ckH]) (by simp [low]) (by simp [ckH,Ck.c]) p8) hI
@[simp] theorem buCk0:Aq zP 73 []=some (.agg [.nilSlice,.int .i64 0,.nilSlice,.nilIface,.int .i64 0]):=by kernel_rfl
@[simp] theorem buTb0:Aq zP 33 []=some (.agg [.nilSlice,.int .i64 0]):=by kernel_rfl
theorem Wz:ck0.ok:=⟨by decide,by decide,by decide,fun _=>rfl⟩
def GV (x:List Sy × Int × Option (Int × Nat)):AV := .tup [.agg [syE.av x.1,.int .i64 x.2.1],El x.2.2]
theorem W0 (l:List Nd) (o6:Db l) (hz:szL l<4294967296) (H:AH):CS zP BJ 10 [ndE.av l] H (GV (G7 l)) H:=by
 have hB:=N9 (szL l+1) l (Nat.lt_succ_self _) o6 ck0 Wz (by show 0+szL l<_;omega);unfold G7;generalize ckL l ck0=r at *
 have q0:=CS.ckAt hB (by simp [low]) rfl (b:=1) (t:=2) (q:=3) (by decide) (by decide) (by decide) (H:=[some (.box [.nilSlice,.int .i64 0]),some (.box [.nilSlice,.int .i64 0,.nilSlice,.nilIface,.int .i64 0])]) (H':=[some (.box [.nilSlice,.int .i64 0]),some (.box (r.c 2 3)),AO r.syms,r.hE]) rfl rfl rfl rfl rfl rfl (by
  intro j h1 h2 h3
  match j,h1,h2,h3 with
  |0,_,_,_=>rfl
  |1,h,_,_=>exact absurd rfl h
  |2,_,h,_=>exact absurd rfl h
  |3,_,_,h=>exact absurd rfl h
  |j+4,_,_,_=>rfl)
 have hr:AL (fun i=>if i=0 then 1 else if i=1 then 2 else 3) [.ptr 0 0,ndE.av l]=[.ptr 1 0,ndE.av l]:=by simp [AL,ren,Enc.av_ren]
 rw [hr] at q0;have X:=Fh (S:=[]) q0 Em;have o0:=FD 23 [.ptr 1 0,ndE.av l] [some (.box [.nilSlice,.int .i64 0]),some (.box [.nilSlice,.int .i64 0,.nilSlice,.nilIface,.int .i64 0])] (.tup []) [some (.box [.nilSlice,.int .i64 0]),some (.box (r.c 2 3)),AO r.syms,r.hE] Bu;generalize orP 23 _ _ _ _ _=O at X o0;have oy:=syE.tk_cut (k:=2) (n:=0) (by decide) r.syms;refine CS.tr0 Jl Tryz.func10 (by kernel_rfl) 0 (by simp [Tryz.f10]) (fun B hB hG => ?_) (by simp [GV]) (by simp) H;refine Tr.goW X hG ?_;cases hb:r.bad with
 |some e =>obtain ⟨p,q⟩:=e;simp [Ck.c,hb,E8] at o0;simp [Tryz.f10,o0];refine LpD.turnsW ⟨Fe,F1,Ad⟩ hG [5] [(1,5),(2,5),(3,5),(4,5)] ?_;simp [GV,E8]
 |none =>simp [Ck.c,hb] at o0;simp [Tryz.f10,o0,GV,oy]
@[simp] theorem zDT:AJ.imm 98=false:=by decide
@[simp] theorem zDU:AJ.imm 42=false:=by decide
@[simp] theorem zDV:AJ.imm 53=false:=by decide
@[simp] theorem buSd0:Aq zP 53 []=some (.agg [.str [],.nilSlice,.int .i64 0,.int .i64 0]):=by kernel_rfl
@[simp high] theorem zDW (l:List Sy):alen zP 40 (syE.av l)=some (.int .i64 l.length):=syE.alen Tryz.underlying40 l
@[simp high] theorem zDX {l:List Sy} {i:Nat} (h:i<l.length):Ao zP 40 (syE.av l) (.int .i64 (i:Int))=some (.vptr (syE.row l) (i*4)):=syE.aidx Tryz.underlying40 (by kernel_rfl) h
def pV:Option (Int × Nat)→AV
 |none => .nilSlice
 |some (a,_) => .slice .full 2 1 [.str Ce,.int .i64 a]
def cV:Option (Int × Nat)→Int
 |none=>0
 |some (_,e)=>(e:Int)
theorem zAx (x:Option (Int × Nat)):low 0 (pV x)=true:=by cases x<;>simp [pV,low]
@[simp ↓ high] theorem zDY (m:Nat) (x:Option (Int × Nat)):low m (pV x)=true:=CA (Nat.zero_le m) _ (zAx x)
@[simp ↓ high] theorem zDZ (x:Option (Int × Nat)):BN (pV x)=[]:=J2 _ (zAx x)
@[simp ↓ high] theorem zDa (x:Option (Int × Nat)):(pV x).known=true:=by cases x<;>rfl
@[simp ↓ high] theorem zDb (x:Option (Int × Nat)):(pV x).one=true:=by cases x<;>rfl
@[simp ↓ high] theorem zDc (x:Option (Int × Nat)):An (pV x)=[pV x]:=by cases x<;>rfl
def dkC (s:Ck) (t:Nat):List AV:=[syE.tk t s.syms,.int .i64 s.cells,pV s.bad,.int .i64 (cV s.bad),.int .i64 s.at_]
def dkH (s:Ck):AH:=[some (.box (dkC s 1)),AO s.syms]
theorem Tl (s:Ck):AU 2 (dkH s)=true:=by
 have h1:=syE.tk_low (k:=1) (m:=2) (by decide) s.syms;simp only [dkH,AU,Kf,Bool.and_true]
 show lowL 2 (dkC s 1)=true
 simp [dkC,h1]
structure Ck.dok (s:Ck):Prop where
 syms:(s.syms.length:Int)≤s.cells
 cells:s.cells≤4096
 bad:∀a e,s.bad=some (a,e)→e≠0
theorem zAy {s:Ck} (h:s.dok):s.syms.length<1000000:=by have:=h.syms;have:=h.cells;omega
theorem zAz {s:Ck} (h:s.dok):cV s.bad=0↔s.bad=none:=by
 cases hb:s.bad with
 |none=>simp [cV]
 |some x =>obtain ⟨a,e⟩:=x;have:=h.bad a e hb;simp [cV];omega
theorem zAL (s r:Ck) {f:FuncId} {fn:Func} {args:List AV} {v:AV} (hf:zP.funcs[f]? = some fn) (hb:fn.body=some (Au fn)) (hn:args.length≤fn.ntmps)
  (h:∀B:Bs,B.H=dkH s→Al AJ B.g→Tr zP B (Au fn) (mkT fn.ntmps (Eo 0 args)) (dkH s) (Fin zP fn 2 0 v (dkH r))) (hv:low 2 v=true):CS zP AJ f args (dkH s) v (dkH r):=CS.of_Tr hf hb 0 hn h hv (Tl r)
theorem CS.dkAt {f:FuncId} {args:List AV} {v:AV} {s r:Ck} (h:CS zP AJ f args (dkH s) v (dkH r)) (ha:lowL 2 args=true) (hv:low 0 v=true) {b t:Nat} (vK:b≠t) {H H':AH} (h0:H.at b=some (.box (dkC s t))) (h1:H.at t=AO s.syms)
  (k0:H'.at b=some (.box (dkC r t))) (k1:H'.at t=AO r.syms) (hO:∀j,j≠b→j≠t→H'.at j=H.at j) :
  CS zP AJ f (AL (fun i=>if i=0 then b else t) args) H v H':=by
 have h3:∀(x:Ck) (G:AH),G.at b=some (.box (dkC x t))→G.at t=AO x.syms→∀i,i<2→G.at (if i=0 then b else t)=((dkH x).at i).map (AI (fun i=>if i=0 then b else t)):=by
  intro x G g0 g1 i hi;rcases (by omega:i=0∨i=1) with rfl|rfl
  ·rw [if_pos rfl,g0]
   have e1:=syE.tk_ren (fun i=>if i=0 then b else t) 1 x.syms;have e3:=DE (fun i=>if i=0 then b else t) _ (zAx x.bad);simp at e1;simp [dkH,AH.at,dkC,AI,AL,ren,e1,e3]
  ·rw [if_neg (by decide),g1]
   exact (Ff _ _).symm
 have:=CS.embed (k:=2) (fun i=>if i=0 then b else t) (H:=H) (H':=H') h rfl rfl (by
  intro i j hi hj he;rcases (by omega:i=0∨i=1) with rfl|rfl<;>rcases (by omega:j=0∨j=1) with rfl|rfl<;>simp at he ⊢
  ·exact vK he
  ·exact vK he.symm) Bh ha (CA (Nat.zero_le 2) v hv) (Tl s) (Tl r) (h3 s H h0 h1) (h3 r H' k0 k1) (fun j hj=>hO j (fun h=>hj 0 (by decide) (by simp [h])) (fun h=>hj 1 (by decide) (by simp [h])))
 rwa [DE _ _ hv] at this
theorem CS.dk {f:FuncId} {args:List AV} {v:AV} {s r:Ck} (h:CS zP AJ f args (dkH s) v (dkH r)) (ha:lowL 2 args=true) (hv:low 0 v=true) (K:AH):CS zP AJ f args (dkH s++K) v (dkH r++K):=by
 have:=CS.dkAt h ha hv (b:=0) (t:=1) (by decide) (H:=dkH s++K) (H':=dkH r++K) rfl rfl rfl rfl (by
  intro j h0 h1;rw [FO (by simp [dkH];omega),FO (by simp [dkH];omega)]
  rfl)
 rwa [Ea (m:=2) (fun i hi=>by rcases (by omega:i=0∨i=1) with rfl|rfl<;>rfl) _ ha] at this
def Ck.base (s:Ck):Ck:=⟨s.syms,s.cells,[],0,s.bad,s.at_⟩
theorem zA0 (s:Ck):dkH s.base=dkH s:=rfl
theorem zBg {s r:Ck} (hs:s.dok) (hr:r.dok) {t:Nat} (h:dkC s t=dkC r t):s.base=r.base:=by
 obtain ⟨a,b,c,d,e,f⟩:=s;obtain ⟨a',b',c',d',e',f'⟩:=r;simp only [dkC,List.cons.injEq,AV.int.injEq,true_and,and_true] at h;obtain ⟨h1,h2,h4,h5,h6⟩:=h;have e1:=RC h1
 have e4:e=e':=by
  cases e with
  |none=>cases e' with
   |none=>rfl
   |some y=>obtain ⟨p,q⟩:=y;cases h4
  |some x=>cases e' with
   |none=>obtain ⟨p,q⟩:=x;cases h4
   |some y =>
    obtain ⟨p,q⟩:=x;obtain ⟨p',q'⟩:=y;simp only [pV,cV,AV.slice.injEq,List.cons.injEq,AV.int.injEq,true_and,and_true] at h4 h5;have:q=q':=by omega
    rw [h4,this]
 subst e1 e4 h2 h6;rfl
theorem zCU {s r:Ck} (h:r.syms=s.syms) (K:AH):Cb (dkH s++K) (dkH r++K):=by
 refine ⟨by simp [dkH],?_⟩;intro i hi hn
 match i,hn with
 |0,hn=>cases hn
 |i+1,hn =>
  have:(dkH r++K)[i+1]? = (dkH s++K)[i+1]? := by simp [dkH,h]
  unfold AH.at at hn ⊢;rw [this];exact hn
noncomputable def AF.dk (f:FuncId) {β:Type} (ok:β→Prop) (mk:β→List AV) (next:β→Ck→Ck) (oV:∀x,lowL 2 (mk x)=true) (wZ:∀x (s:Ck),(next x s).syms=s.syms) (zD9:∀x (s:Ck),(next x s).base=next x s.base) (inj:∀x y,mk x=mk y→x=y)
  (cs:∀x s,ok x→s.dok→CS zP AJ f (mk x) (dkH s) (.tup []) (dkH (next x s))):AF zP AJ where
 f:=f
 α:=β × Ck × AH
 ok:=fun x H=>H=dkH x.2.1++x.2.2∧ok x.1∧x.2.1.dok
 args:=fun x=>mk x.1
 out:=fun _ => .tup []
 up:=fun x _=>dkH (next x.1 x.2.1)++x.2.2
 cs:=fun x H h=>by obtain ⟨rfl,h1,h2⟩:=h;exact ⟨CS.dk (cs x.1 x.2.1 h1 h2) (oV _) rfl _,zCU (wZ _ _) _⟩
 same:=fun x y H hx hy h=>by
  obtain ⟨a,s,K⟩:=x;obtain ⟨b,r,L⟩:=y;obtain ⟨e1,_,h2⟩:=hx;obtain ⟨e2,_,h4⟩:=hy;simp only at e1 e2 h h2 h4;have he:=e1.symm.trans e2;simp only [dkH,List.cons_append,List.nil_append,List.cons.injEq,Option.some.injEq,Ent.box.injEq] at he;have hb:=zBg h2 h4 he.1;obtain rfl:=inj _ _ h;obtain rfl:=he.2.2;refine ⟨rfl,?_⟩
  show dkH (next a s)++K=dkH (next a r)++K
  rw [←zA0,←zA0 (next a r),zD9,zD9,hb]
theorem dT {L:List (AF zP AJ)} {f:FuncId} {β:Type} {ok:β→Prop} {mk:β→List AV} {next:β→Ck→Ck} {oV:∀x,lowL 2 (mk x)=true} {wZ:∀x (s:Ck),(next x s).syms=s.syms} {zD9:∀x (s:Ck),(next x s).base=next x s.base} {inj:∀x y,mk x=mk y→x=y}
  {cs:∀x s,ok x→s.dok→CS zP AJ f (mk x) (dkH s) (.tup []) (dkH (next x s))} (hL:(L.map (·.f)).Nodup) (hF:AF.dk f ok mk next oV wZ zD9 inj cs∈L) (x:β) (s:Ck) (h1:ok x) (h2:s.dok) (K:AH) :
  oOf L f (mk x) (dkH s++K)=some (.tup [],dkH (next x s)++K):=DS hL _ hF (x:=(x,s,K)) ⟨rfl,h1,h2⟩
def DfI (l:List Sy) (c:Int) (n:List UInt8) (k:Nat) (t:List AV) (H:AH):Prop:=∃i,i+k=l.length∧E7 (l.drop i) n=E7 l n∧t=mkT 28 [(1,.str n),(2,.ptr 0 0),(4,.ptr 1 0),(6,.int .i64 (i:Int))] ∧
 H=[some (.box [syE.av l,.int .i64 c]),some (.box [.str [],.nilSlice,.int .i64 0,.int .i64 0])]
theorem zBh (l:List Sy) (hl:l.length<1000000) (c:Int) (n:List UInt8) (H:AH):CS zP AJ 17 [.agg [syE.av l,.int .i64 c],.str n] H (GT (E7 l n)) H:=by
 refine CS.tr0 Bh Tryz.func17 (by kernel_rfl) 0 (by simp [Tryz.f17]) (fun B hB hG => ?_) (by simp [GT,syC]) (by simp) H;refine Tr.goD GI hG ?_;simp [Tryz.f17]
 refine LpD.loopN GI hG (DfI l c n) l.length (t':=mkT 28 [(1,.str n),(2,.ptr 0 0),(4,.ptr 1 0),(6,.int .i64 0)]) (H':=[some (.box [syE.av l,.int .i64 c]),some (.box [.str [],.nilSlice,.int .i64 0,.int .i64 0])])
  (AD.mkK 2 (by simp [hB]) (by simp) (by simp) (by simp)) ⟨0,by omega,rfl,rfl,rfl⟩ ?_
 rintro k t H ⟨i,oQ,hf,rfl,rfl⟩
 by_cases hi:i<l.length
 ·obtain ⟨k,rfl⟩:∃j,k=j+1:=⟨k-1,by omega⟩
  have hi':(i:Int)<l.length:=by omega
  obtain ⟨x,hx⟩:∃x,l[i]? = some x:=⟨_,List.getElem?_eq_getElem hi⟩
  have g0:(syE.row l)[i*4+0]? = some (.str x.name):=syE.row_cell hx 0 (by decide);simp only [Nat.add_zero] at g0;obtain ⟨g1,g2⟩:=syE.row_at _ _ hx;have e4:syE.sz=4:=rfl;rw [e4,syC] at g1;rw [e4] at g2
  have pC:l.drop i=x::l.drop (i+1):=by rw [List.drop_eq_getElem_cons hi];rw [List.getElem?_eq_getElem hi] at hx;injection hx with hx;rw [hx]
  rw [pC,E7,List.find?_cons] at hf;have wi:IntKind.i64.wrap ((i:Int)+1)=(i:Int)+1:=Ab (by omega) (by omega)
  by_cases h1:x.name=n
  ·have hb:(x.name==n)=true:=by rw [beq_iff_eq];exact h1
   rw [hb] at hf;simp only at hf;simp [hi,hi',g0,g1,g2,h1,hb,GT,←hf,syC]
  ·have hb:(x.name==n)=false:=by rw [beq_eq_false_iff_ne];exact h1
   rw [hb] at hf;simp only at hf;have hI:DfI l c n k (mkT 28 [(1,.str n),(2,.ptr 0 0),(4,.ptr 1 0),(6,.int .i64 ((i+1:Nat):Int))]) [some (.box [syE.av l,.int .i64 c]),some (.box [.str [],.nilSlice,.int .i64 0,.int .i64 0])]:=⟨i+1,by omega,hf,rfl,rfl⟩
   simp [hi,hi',g0,h1,hb,wi];exact Nxt.mk k (by omega) (AD.mkK 2 (by simp [hB]) (by simp) (by simp) (by simp)) hI
 ·have hi':¬(i:Int)<l.length:=by omega
  rw [List.drop_of_length_le (by omega)] at hf;have sN:E7 l n=none:=hf.symm;simp [hi,hi',GT,sN,syC,sy0]
noncomputable def ga:AF zP AJ:=AF.pure 17 (fun x:Nat × List Sy × Int × List UInt8=>x.2.1.length<1000000) (fun x=>[.agg [syE.tk x.1 x.2.1,.int .i64 x.2.2.1],.str x.2.2.2]) (fun x=>GT (E7 x.2.1 x.2.2.2))
 (fun x h H=>CS.weakA (zBh x.2.1 h x.2.2.1 x.2.2.2 H) fun g cargs hr=>WY _ _ _ _ hr) (fun x y _ _ h=>by
  simp only [List.cons.injEq,AV.agg.injEq,AV.str.injEq,and_true] at h
  rw [RC h.1.1,h.2])
theorem zCV (s:Ck) (hs:s.dok) (e:Nat) (he:e≠0):CS zP AJ 41 [.ptr 0 0,.int .i64 (e:Int)] (dkH s) (.tup []) (dkH (s.fail e)):=by
 refine zAL s (s.fail e) Tryz.func41 (by kernel_rfl) (by simp [Tryz.f41]) (fun B hB hG => ?_) rfl;refine Tr.goD U3 hG ?_;have hz:=zAz hs;obtain ⟨sy,c,h,hv,b,a⟩:=s;cases b with
 |some y =>
  obtain ⟨p,q⟩:=y;have hy:Ck.fail ⟨sy,c,h,hv,some (p,q),a⟩ e=⟨sy,c,h,hv,some (p,q),a⟩:=by simp [Ck.fail]
  have hq:¬cV (some (p,q))=0:=fun h=>by have:=hz.1 h;cases this
  rw [hy];simp [Tryz.f41,dkH,dkC,hq]
 |none =>simp [Tryz.f41,dkH,dkC,Ck.fail,he,pV,cV,Mz,Ce]
theorem zAW {s:Ck} (h:s.dok) {e:Nat} (he:e≠0):(s.fail e).dok:=⟨h.syms,h.cells,fun a x hx=>by
 simp only [Ck.fail,if_neg he,Option.some.injEq] at hx;cases hb:s.bad with
 |none=>rw [hb] at hx;simp at hx;rw [←hx.2];exact he
 |some y=>rw [hb] at hx;simp at hx;exact h.bad a x (by rw [hb,hx])⟩
theorem zBE (s:Ck) (e:Nat):(s.fail e).base=s.base.fail e:=rfl
noncomputable def bd:AF zP AJ:=AF.dk 41 (fun x:Nat=>x≠0) (fun x=>[.ptr 0 0,.int .i64 (x:Int)]) (fun x s=>s.fail x) (fun _=>by simp [low]) (fun _ _=>rfl) (fun x s=>zBE s x) (fun x y h=>by
 simp only [List.cons.injEq,AV.int.injEq,true_and,and_true] at h
 omega) (fun x s h hs=>zCV s hs x h)
theorem zA1 (s:Ck) (n:List UInt8) (k:Nat):(s.name n k).base=s.base.name n k:=by
 unfold Ck.name;have:s.base.syms=s.syms:=rfl;rw [this]
 split
 ·rfl
 ·split<;>rfl
theorem zAY {s:Ck} (h:s.dok) (n:List UInt8) (k:Nat):(s.name n k).dok:=by
 unfold Ck.name
 split
 ·exact zAW h (by decide)
 ·split
  ·exact h
  ·exact zAW h (by decide)
theorem zBF (s:Ck) (n:List UInt8) (k:Nat):(s.name n k).syms=s.syms:=by obtain ⟨b,h⟩:=Jn s n k;rw [h]
theorem zCW (s:Ck) (h:s.dok) (n:List UInt8) (k:Nat):CS zP AJ 39 [.ptr 0 0,.str n,.int .i64 (k:Int)] (dkH s) (.tup []) (dkH (s.name n k)):=by
 refine zAL s _ Tryz.func39 (by kernel_rfl) (by simp [Tryz.f39]) (fun B hB hG => ?_) rfl;have hL:([ga,bd].map (·.f)).Nodup:=show ([17,41]:List Nat).Nodup by decide
 have X:=Bn [ga,bd] B4 Ad;have f1:=fun k H=>C0 hL (show ga∈[ga,bd] by simp) (k,s.syms,s.cells,n) (zAy h) H
 have f2:=fun e (he:e≠0) K=>dT hL (show bd∈[ga,bd] by simp) e s he h K
 generalize oOf [ga,bd]=O at X f1 f2;have g6:=fun K=>f2 6 (by decide) K
 have g8:=fun K=>f2 8 (by decide) K
 unfold Ck.name;generalize s.fail 6=r6 at *;generalize s.fail 8=r8 at *;simp [dkH,dkC] at g6 g8;refine Tr.goD X hG ?_;cases hf:E7 s.syms n with
 |none =>simp only [hf] at f1;simp [GT,syC,sy0] at f1;simp [Tryz.f39,f1,g6,dkH,dkC]
 |some x =>
  simp only [hf] at f1;simp [GT,syC] at f1
  by_cases h:x.dims.length=k
  ·have h':(x.dims.length:Int)=k:=by omega
   simp [Tryz.f39,f1,dkH,dkC,h,h']
  ·have h':¬(x.dims.length:Int)=k:=by omega
   simp [Tryz.f39,f1,g8,dkH,dkC,h,h']
noncomputable def ln:AF zP AJ:=AF.dk 39 (fun _:List UInt8 × Nat=>True) (fun x=>[.ptr 0 0,.str x.1,.int .i64 (x.2:Int)]) (fun x s=>s.name x.1 x.2) (fun _=>by simp [low]) (fun x s=>zBF s x.1 x.2) (fun x s=>zA1 s x.1 x.2) (fun x y h=>by
 obtain ⟨a,b⟩:=x;obtain ⟨c,d⟩:=y;simp only [List.cons.injEq,AV.str.injEq,AV.int.injEq,true_and,and_true] at h;have:b=d:=by omega
 rw [h.1,this]) (fun x s _ h=>zCW s h x.1 x.2)
def Ck.ix (s:Ck) (n:List UInt8) (act:List (List UInt8)):Ck:=if act.contains n then s.fail 9 else s
theorem zBG (s:Ck) (n:List UInt8) (act:List (List UInt8)):(s.ix n act).syms=s.syms:=by unfold Ck.ix;split<;>rfl
theorem zBH (s:Ck) (n:List UInt8) (act:List (List UInt8)):(s.ix n act).base=s.base.ix n act:=by unfold Ck.ix;split<;>rfl
theorem zAa {s:Ck} (h:s.dok) (n:List UInt8) (act:List (List UInt8)):(s.ix n act).dok:=by
 unfold Ck.ix
 split
 ·exact zAW h (by decide)
 ·exact h
theorem zCX (s:Ck) (e:Nat):(s.fail e).fail e=s.fail e:=by by_cases h:e=0<;>simp [Ck.fail,h]
theorem zCY (s:Ck) (n:List UInt8) (a:List (List UInt8)) (x:List UInt8):s.ix n (a++[x])=if x=n then (s.ix n a).fail 9 else s.ix n a:=by
 unfold Ck.ix
 have hc:(a++[x]).contains n=(a.contains n || decide (x=n)):=by
  simp only [List.contains_append,List.contains_cons,List.contains_nil,Bool.or_false]
  congr 1
  by_cases h:x=n
  ·simp [h]
  ·have h2:¬n=x:=fun e=>h e.symm
   simp [h,h2]
 rw [hc]
 by_cases h:x=n
 ·simp only [h,decide_true,Bool.or_true,if_true]
  split
  ·rw [zCX]
  ·rfl
 ·simp only [h,decide_false,Bool.or_false,if_false]
def DiI (s:Ck) (n:List UInt8) (act:List (List UInt8)) (k:Nat) (t:List AV) (H:AH):Prop:=∃i,i+k=act.length∧t=mkT 21 [(0,.ptr 0 0),(1,.str n),(2,BL.av act),(6,.int .i64 (i:Int))]∧H=dkH (s.ix n (act.take i))
theorem zCZ (s:Ck) (hs:s.dok) (n:List UInt8) (act:List (List UInt8)) (hl:act.length<4294967296):CS zP AJ 40 [.ptr 0 0,.str n,BL.av act] (dkH s) (.tup []) (dkH (s.ix n act)):=by
 refine zAL s _ Tryz.func40 (by kernel_rfl) (by simp [Tryz.f40]) (fun B hB hG => ?_) rfl;have hL:([bd].map (·.f)).Nodup:=show ([41]:List Nat).Nodup by decide
 have X:=Bn [bd] B4 Ad;have f1:=fun (V:Ck) (hV:V.dok) K=>dT hL (show bd∈[bd] by simp) 9 V (by decide) hV K
 generalize oOf [bd]=O at X f1;refine Tr.goD X hG ?_;have oV:=Tl s;simp [Tryz.f40,dkH,dkC];refine LpD.loopN X hG (DiI s n act) act.length (t':=mkT 21 [(0,.ptr 0 0),(1,.str n),(2,BL.av act),(6,.int .i64 ((0:Nat):Int))]) (H':=dkH s) (AD.mkK 2 (by simp [hB,dkH]) (by simp [low]) (by simp [dkH,dkC]) oV) ⟨0,by omega,rfl,rfl⟩ ?_;rintro k t H ⟨i,oQ,rfl,rfl⟩
 by_cases hi:i<act.length
 ·obtain ⟨k,rfl⟩:∃j,k=j+1:=⟨k-1,by omega⟩
  have hi':(i:Int)<act.length:=by omega
  obtain ⟨x,hx⟩:∃x,act[i]? = some x:=⟨_,List.getElem?_eq_getElem hi⟩
  have g0:(BL.row act)[i*1+0]? = some (.str x):=BL.row_cell hx 0 (by decide);simp only [Nat.mul_one,Nat.add_zero] at g0;have wi:IntKind.i64.wrap ((i:Int)+1)=((i+1:Nat):Int):=by rw [Ab (by omega) (by omega)];omega
  have oe:act.take (i+1)=act.take i++[x]:=by rw [List.take_add_one,hx];rfl
  have hI:DiI s n act k (mkT 21 [(0,.ptr 0 0),(1,.str n),(2,BL.av act),(6,.int .i64 ((i+1:Nat):Int))]) (dkH (s.ix n (act.take (i+1)))):=⟨i+1,by omega,rfl,rfl⟩
  rw [oe,zCY] at hI;have f2:=f1 _ (zAa hs n (act.take i));generalize s.ix n (act.take i)=u at *;have hlu:=Tl u;have hlf:=Tl (u.fail 9);generalize u.fail 9=v at *;simp [dkH,dkC] at f2
  by_cases h:x=n
  ·rw [if_pos h] at hI
   simp [hi,hi',g0,h,wi,f2,dkH,dkC,-Int.natCast_add];exact Nxt.mk k (by omega) (AD.mkK 2 (by simp [hB,dkH]) (by simp [low]) (by simp [dkH,dkC]) hlf) hI
  ·rw [if_neg h] at hI
   simp [hi,hi',g0,h,wi,dkH,dkC,-Int.natCast_add];exact Nxt.mk k (by omega) (AD.mkK 2 (by simp [hB,dkH]) (by simp [low]) (by simp [dkH,dkC]) hlu) hI
 ·have hi':¬(i:Int)<act.length:=by omega
  rw [List.take_of_length_le (by omega)];simp [hi,hi',dkH,dkC]
noncomputable def zAQ:AF zP AJ:=AF.dk 40 (fun x:List UInt8 × List (List UInt8)=>x.2.length<4294967296) (fun x=>[.ptr 0 0,.str x.1,BL.av x.2]) (fun x s=>s.ix x.1 x.2) (fun _=>by simp [low]) (fun x s=>zBG s x.1 x.2) (fun x s=>zBH s x.1 x.2) (fun x y h=>by
 obtain ⟨a,b⟩:=x;obtain ⟨c,d⟩:=y;simp only [List.cons.injEq,AV.str.injEq,true_and,and_true] at h
 rw [h.1,BL.av_inj h.2]) (fun x s h hs=>zCZ s hs x.1 x.2 h)
theorem zBi (s:Ck) (t:Tn):(s.head t).base=s.base.head t:=by
 unfold Ck.head
 split
 ·exact zA1 s _ _
 ·rfl
theorem zBI {s:Ck} (h:s.dok) (t:Tn):(s.head t).dok:=by
 unfold Ck.head
 split
 ·exact zAY h _ _
 ·exact h
mutual
theorem ro:∀(t:Tn) (s:Ck),(ckE t s).base=ckE t s.base
 |.lf k n w,s=>by rw [ckE,ckE];exact zBi s _
 |.nd k n w a,s=>by rw [ckE,ckE,zBJ a,zBi]
theorem zBJ:∀(l:List Tn) (s:Ck),(Cy l s).base=Cy l s.base
 |[],s=>by rw [Cy,Cy]
 |t::l,s=>by rw [Cy,Cy,zBJ l,ro t]
end
mutual
theorem dg:∀(t:Tn) {s:Ck},s.dok→(ckE t s).dok
 |.lf k n w,s,h=>by rw [ckE];exact zBI h _
 |.nd k n w a,s,h=>by rw [ckE];exact zAb a (zBI h _)
theorem zAb:∀(l:List Tn) {s:Ck},s.dok→(Cy l s).dok
 |[],s,h=>by rw [Cy];exact h
 |t::l,s,h=>by rw [Cy];exact zAb l (dg t h)
end
theorem tf {s r:Ck} (h:s.same r):r.syms=s.syms:=by obtain ⟨b,rfl⟩:=h;rfl
mutual
def vT1:Tn→Bool
 |.lf _ _ _=>true
 |.nd k _ _ a=>(k != 2)&&vTs a
def vTs:List Tn→Bool
 |[]=>true
 |t::l=>vT1 t&&vTs l
end
theorem zCa {t:Tn} (h:vT1 t=true) (hk:t.k=2):t.kids=[]:=by
 cases t with
 |lf=>rfl
 |nd k n w a =>simp only [vT1,Bool.and_eq_true,bne_iff_ne] at h;exact absurd hk h.1
def EvD (t:Tn):Prop:=∀s:Ck,s.dok→CS zP AJ 38 [.ptr 0 0,.agg (tC t)] (dkH s) (.tup []) (dkH (ckE t s))
noncomputable def lv (P:Tn→Prop) (h:∀t,P t→EvD t):AF zP AJ:=AF.dk 38 P (fun t=>[.ptr 0 0,.agg (tC t)]) (fun t s=>ckE t s) (fun t=>by simp [low]) (fun t s=>tf (GU t s)) (fun t s=>ro t s) (fun x y h=>by
 simp only [List.cons.injEq,AV.agg.injEq,true_and,and_true] at h
 exact KV x y h) (fun t s ht hs=>h t ht s hs)
def DxI (t:Tn) (U:Ck) (k:Nat) (sl:List AV) (H:AH):Prop:=∃i,i+k=t.kids.length∧sl=mkT 36 [(0,.ptr 0 0),(3,.vptr [.int .i64 t.k,.int .i64 t.n,.str t.s,t.ar] 0),(4,.int .i64 (i:Int))]∧H=dkH (Cy (t.kids.take i) U)
theorem zBj (t:Tn) (ht:t.kids.length<4294967296) (hv:vT1 t=true) (hC:∀u∈t.kids,EvD u):EvD t:=by
 intro s hs;refine zAL s _ Tryz.func38 (by kernel_rfl) (by simp [Tryz.f38]) (fun B hB hG => ?_) rfl;have hL:([ln,lv (· ∈ t.kids) hC].map (·.f)).Nodup:=show ([39,38]:List Nat).Nodup by decide
 have X:=Bn [ln,lv (· ∈ t.kids) hC] B4 Ad;have f1:=fun K=>dT hL (show ln∈_ by simp) (t.s,t.kids.length) s trivial hs K
 have f2:=fun u (h:u∈t.kids) (V:Ck) (hV:V.dok) K=>dT hL (show lv (· ∈ t.kids) hC∈_ by simp) u V h hV K
 generalize oOf [ln,lv (· ∈ t.kids) hC]=O at X f1 f2;refine Tr.goD X hG ?_;rw [WW];have hU:=zBI hs t;have qP:=zCa hv;have hc:(t.k=2∧¬t.k=3)∨(¬t.k=2∧t.k=3)∨(¬t.k=2∧¬t.k=3):=by omega
 have hh:s.head t=if t.k=2∨t.k=3 then s.name t.s t.kids.length else s:=rfl
 generalize s.head t=U at *;have oV:=Tl U
 have oS:∀(H:AH) (l:List (Nat × AV)) (hl:l.lookup 0=some (.ptr 0 0)∧l.lookup 3=some (.vptr [.int .i64 t.k,.int .i64 t.n,.str t.s,t.ar] 0)∧l.lookup 4=some (.int .i64 0)),H=dkH U →
   AD B (mkT 36 l) H (mkT 36 [(0,.ptr 0 0),(3,.vptr [.int .i64 t.k,.int .i64 t.n,.str t.s,t.ar] 0),(4,.int .i64 ((0:Nat):Int))]) (dkH U):=by
  rintro H l ⟨l0,l1,l2⟩ rfl;exact AD.mkK 2 (by simp [hB,dkH]) (by simp [l0,l1,l2,low]) (by simp [dkH]) oV
 rcases hc with ⟨k2,k3⟩|⟨k2,k3⟩|⟨k2,k3⟩
 all_goals
  simp only [k2,k3,true_or,or_true,false_or,or_false,or_self,if_true,if_false] at hh;simp only [←hh] at f1
  first
  |(have k23:t.k=2:=k2
    have g1:=f1;rw [qP k2] at g1;simp [dkH,dkC] at g1
    simp [Tryz.f38,k2,k3,g1,dkH,dkC])
  |(have k23:t.k=3:=k3
    have g1:=f1;simp only [dkH,dkC,List.cons_append,List.nil_append] at g1
    simp [Tryz.f38,k2,k3,g1,dkH,dkC])
  |(subst hh
    simp [Tryz.f38,k2,k3,dkH,dkC])
  refine LpD.loopN X hG (DxI t U) t.kids.length (t':=mkT 36 [(0,.ptr 0 0),(3,.vptr [.int .i64 t.k,.int .i64 t.n,.str t.s,t.ar] 0),(4,.int .i64 ((0:Nat):Int))]) (H':=dkH U) ?_ ⟨0,by omega,rfl,by rw [List.take_zero,Cy]⟩ ?_
  ·refine oS _ _ ?_ rfl
   simp [k2,k3]
  rintro k' sl H ⟨i,oQ,rfl,rfl⟩
  by_cases hi:i<t.kids.length
  ·obtain ⟨k',rfl⟩:∃j,k'=j+1:=⟨k'-1,by omega⟩
   have hi':(i:Int)<t.kids.length:=by omega
   obtain ⟨x,hx⟩:∃x,t.kids[i]? = some x:=⟨_,List.getElem?_eq_getElem hi⟩
   obtain ⟨c1,c2⟩:=M4 t.kids i hx;rw [CB] at c1;have oe:t.kids.take (i+1)=t.kids.take i++[x]:=by rw [List.take_add_one,hx];rfl
   have wi:IntKind.i64.wrap ((i:Int)+1)=((i+1:Nat):Int):=by rw [Ab (by omega) (by omega)];omega
   have hI:DxI t U k' (mkT 36 [(0,.ptr 0 0),(3,.vptr [.int .i64 t.k,.int .i64 t.n,.str t.s,t.ar] 0),(4,.int .i64 ((i+1:Nat):Int))]) (dkH (ckE x (Cy (t.kids.take i) U))):=⟨i+1,by omega,rfl,by rw [oe,N3]⟩
   have g:=fun K=>f2 x (List.mem_of_getElem? hx) (Cy (t.kids.take i) U) (zAb _ hU) K
   generalize Cy (t.kids.take i) U=V at *;have p8:=Tl (ckE x V);generalize ckE x V=W at *;simp [dkH,dkC] at g;simp [hi,hi',c1,c2,wi,g,dkH,dkC,-Int.natCast_add];exact Nxt.mk k' (by omega) (AD.mkK 2 (by simp [hB,dkH]) (by simp [low]) (by simp [dkH,dkC]) p8) hI
  ·have hi':¬(i:Int)<t.kids.length:=by omega
   rw [List.take_of_length_le (by omega)];simp [hi,hi',dkH,dkC]
mutual
theorem zBK:∀t:Tn,okT t=true→vT1 t=true→EvD t
 |.lf k n w,_,h=>zBj (.lf k n w) (by simp [Tn.kids]) h (fun u hu=>by cases hu)
 |.nd k n w a,h,hv=>zBj (.nd k n w a) (Po h) hv (zBL a (by simp only [okT,Bool.and_eq_true] at h;exact h.2) (by simp only [vT1,Bool.and_eq_true] at hv;exact hv.2))
theorem zBL:∀l:List Tn,KW l=true→vTs l=true→∀u∈l,EvD u
 |[],_,_,u,hu=>by cases hu
 |t::l,h,hv,u,hu=>by
  simp only [KW,Bool.and_eq_true] at h;simp only [vTs,Bool.and_eq_true] at hv;rcases List.mem_cons.1 hu with h1|hu
  ·rw [h1];exact zBK t h.1 hv.1
  ·exact zBL l h.2 hv.2 u hu
end
def Ck.toD (s:Ck) (t:Tn) (act:List (List UInt8)):Ck:=Cy t.kids ((s.name t.s t.kids.length).ix t.s act)
theorem zBM (s:Ck) (t:Tn) (act:List (List UInt8)):(s.toD t act).base=s.base.toD t act:=by unfold Ck.toD;rw [zBJ,zBH,zA1]
theorem zBN (s:Ck) (t:Tn) (act:List (List UInt8)):(s.toD t act).syms=s.syms:=by unfold Ck.toD;rw [tf (Km _ _),zBG,zBF]
theorem zA2 {s:Ck} (h:s.dok) (t:Tn) (act:List (List UInt8)):(s.toD t act).dok:=zAb _ (zAa (zAY h _ _) _ _)
def DtI (t:Tn) (U:Ck) (k:Nat) (sl:List AV) (H:AH):Prop:=∃i,i+k=t.kids.length∧sl=mkT 40 [(0,.ptr 0 0),(4,.vptr [.int .i64 t.k,.int .i64 t.n,.str t.s,t.ar] 0),(6,.int .i64 (i:Int))]∧H=dkH (Cy (t.kids.take i) U)
theorem zCb (t:Tn) (o6:okT t=true) (hv:vT1 t=true) (hk:t.k≠3→t.kids=[]) (act:List (List UInt8)) (zDz:act.length<4294967296) (s:Ck) (hs:s.dok):CS zP AJ 37 [.ptr 0 0,.agg (tC t),BL.av act] (dkH s) (.tup []) (dkH (s.toD t act)):=by
 have ht:=Po o6
 have hC:∀u∈t.kids,EvD u:=by
  cases t with
  |lf=>intro u hu;cases hu
  |nd k n w a=>exact zBL a (by simp only [okT,Bool.and_eq_true] at o6;exact o6.2) (by simp only [vT1,Bool.and_eq_true] at hv;exact hv.2)
 refine zAL s _ Tryz.func37 (by kernel_rfl) (by simp [Tryz.f37]) (fun B hB hG => ?_) rfl;have hL:([ln,lv (· ∈ t.kids) hC,zAQ].map (·.f)).Nodup:=show ([39,38,40]:List Nat).Nodup by decide
 have X:=Bn [ln,lv (· ∈ t.kids) hC,zAQ] B4 Ad;have f1:=fun K=>dT hL (show ln∈_ by simp) (t.s,t.kids.length) s trivial hs K
 have f2:=fun u (h:u∈t.kids) (V:Ck) (hV:V.dok) K=>dT hL (show lv (· ∈ t.kids) hC∈_ by simp) u V h hV K
 have f3:=fun (V:Ck) (hV:V.dok) K=>dT hL (show zAQ∈_ by simp) (t.s,act) V zDz hV K
 generalize oOf [ln,lv (· ∈ t.kids) hC,zAQ]=O at X f1 f2 f3;refine Tr.goD X hG ?_;have h1:=zAY hs t.s t.kids.length;have f3:=f3 _ h1;have hU:=zAa h1 t.s act;unfold Ck.toD;simp only at f1 f3;generalize hW:s.name t.s t.kids.length=W at *;generalize W.ix t.s act=U at *;have oV:=Tl U
 by_cases k3:t.k=3
 all_goals
  first
  |(have k3':=k3
    rw [hk k3'] at f1;simp [dkH,dkC] at f1 f3
    simp [Tryz.f37,k3,f1,f3,dkH,dkC])
  |(simp [dkH,dkC] at f1 f3
    simp [Tryz.f37,k3,f1,f3,dkH,dkC])
  refine LpD.loopN X hG (DtI t U) t.kids.length (t':=mkT 40 [(0,.ptr 0 0),(4,.vptr [.int .i64 t.k,.int .i64 t.n,.str t.s,t.ar] 0),(6,.int .i64 ((0:Nat):Int))]) (H':=dkH U) (AD.mkK 2 (by simp [hB,dkH]) (by simp [low,k3]) (by simp [dkH,dkC]) oV) ⟨0,by omega,rfl,by rw [List.take_zero,Cy]⟩ ?_;rintro k' tt H ⟨i,oQ,rfl,rfl⟩
  by_cases hi:i<t.kids.length
  ·obtain ⟨k',rfl⟩:∃j,k'=j+1:=⟨k'-1,by omega⟩
   have hi':(i:Int)<t.kids.length:=by omega
   obtain ⟨x,hx⟩:∃x,t.kids[i]? = some x:=⟨_,List.getElem?_eq_getElem hi⟩
   obtain ⟨c1,c2⟩:=M4 t.kids i hx;rw [CB] at c1;have oe:t.kids.take (i+1)=t.kids.take i++[x]:=by rw [List.take_add_one,hx];rfl
   have wi:IntKind.i64.wrap ((i:Int)+1)=((i+1:Nat):Int):=by rw [Ab (by omega) (by omega)];omega
   have hI:DtI t U k' (mkT 40 [(0,.ptr 0 0),(4,.vptr [.int .i64 t.k,.int .i64 t.n,.str t.s,t.ar] 0),(6,.int .i64 ((i+1:Nat):Int))]) (dkH (ckE x (Cy (t.kids.take i) U))):=⟨i+1,by omega,rfl,by rw [oe,N3]⟩
   have g:=fun K=>f2 x (List.mem_of_getElem? hx) (Cy (t.kids.take i) U) (zAb _ hU) K
   generalize Cy (t.kids.take i) U=V at *;have p8:=Tl (ckE x V);generalize ckE x V=Z at *;simp [dkH,dkC] at g;simp [hi,hi',c1,c2,wi,g,dkH,dkC,-Int.natCast_add];exact Nxt.mk k' (by omega) (AD.mkK 2 (by simp [hB,dkH]) (by simp [low]) (by simp [dkH,dkC]) p8) hI
  ·have hi':¬(i:Int)<t.kids.length:=by omega
   rw [List.take_of_length_le (by omega)];simp [hi,hi',dkH,dkC]
@[simp high] theorem zDd (l:List Int):alen zP 48 (AN.av l)=some (.int .i64 l.length):=AN.alen Tryz.underlying48 l
def szV:Option Int→Int
 |none => -1
 |some z=>z
def DzI (d:List Int) (k:Nat) (t:List AV) (H:AH):Prop:=∃(i:Nat) (z:Int),i+k=d.length∧1≤z∧z≤4096∧He (d.drop i) z=He d 1∧t=mkT 32 [(0,AN.av d),(3,.int .i64 z),(4,.int .i64 (i:Int))]∧H=[]
theorem zCc (d:List Int) (hd:d.length<4294967296) (hp:∀x∈d,1≤x) (H:AH):CS zP AJ 72 [AN.av d] H (.int .i64 (szV (He d 1))) H:=by
 refine CS.tr0 Bh Tryz.func72 (by kernel_rfl) 0 (by simp [Tryz.f72]) (fun B hB hG => ?_) (by simp) (by simp) H;refine Tr.goD GI hG ?_;simp [Tryz.f72];refine LpD.loopN GI hG (DzI d) d.length (t':=mkT 32 [(0,AN.av d),(3,.int .i64 1),(4,.int .i64 0)]) (H':=[]) (AD.mk0 hB (by simp)) ⟨0,1,by omega,by decide,by decide,rfl,rfl,rfl⟩ ?_;rintro k t H ⟨i,n,oQ,sK,pT,hs,rfl,rfl⟩
 by_cases hi:i<d.length
 ·obtain ⟨k,rfl⟩:∃j,k=j+1:=⟨k-1,by omega⟩
  have hi':(i:Int)<d.length:=by omega
  obtain ⟨x,hx⟩:∃x,d[i]? = some x:=⟨_,List.getElem?_eq_getElem hi⟩
  have g0:(AN.row d)[i*1+0]? = some (.int .i64 x):=AN.row_cell hx 0 (by decide);simp only [Nat.mul_one,Nat.add_zero] at g0;have xF:=hp x (List.mem_of_getElem? hx)
  have pC:d.drop i=x::d.drop (i+1):=by rw [List.drop_eq_getElem_cons hi];rw [List.getElem?_eq_getElem hi] at hx;injection hx with hx;rw [hx]
  rw [pC,He] at hs;have wi:IntKind.i64.wrap ((i:Int)+1)=(i:Int)+1:=Ab (by omega) (by omega)
  have hxn:x≤n*x:=by
   have:=Int.mul_le_mul_of_nonneg_right sK (show 0≤x by omega)
   rwa [Int.one_mul] at this
  by_cases h1:4096<x
  ·rw [if_pos (.inr (by omega))] at hs
   simp [hi,hi',g0,h1,←hs,szV]
  ·have oZ:n*x≤4096*4096:=Int.mul_le_mul pT (by omega) (by omega) (by decide)
   have wm:IntKind.i64.wrap (n*x)=n*x:=Ab (by omega) (by omega)
   by_cases h2:4096<n*x
   ·rw [if_pos (.inr h2)] at hs
    simp [hi,hi',g0,h1,wm,h2,←hs,szV]
   ·rw [if_neg (by omega)] at hs
    have hI:DzI d k (mkT 32 [(0,AN.av d),(3,.int .i64 (n*x)),(4,.int .i64 ((i+1:Nat):Int))]) []:=⟨i+1,n*x,by omega,by omega,by omega,hs,rfl,rfl⟩
    simp [hi,hi',g0,h1,wm,h2,wi];exact Nxt.mk k (by omega) (AD.mk0 hB (by simp)) hI
 ·have hi':¬(i:Int)<d.length:=by omega
  rw [List.drop_of_length_le (by omega),He] at hs;simp [hi,hi',←hs,szV]
noncomputable def zAc:AF zP AJ:=AF.pure 72 (fun d:List Int=>d.length<4294967296∧∀x∈d,1≤x) (fun d=>[AN.av d]) (fun d => .int .i64 (szV (He d 1))) (fun d h H=>zCc d h.1 h.2 H) (fun x y _ _ h=>by
 simp only [List.cons.injEq,and_true] at h
 rw [AN.av_inj h])
end Go.Proofs.YtmjfldclpijghaaGreatDoor
