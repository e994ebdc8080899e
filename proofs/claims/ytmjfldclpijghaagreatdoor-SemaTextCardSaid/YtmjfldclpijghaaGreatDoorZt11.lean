/- The document's checker: decl. .. What the rows of the laws on names lay: what the runs are to -/
import Derived.Test.YtmjfldclpijghaaGreatDoorZt10
import Derived.Test.YtmjfldclpijghaaGreatDoorCards
import Derived.Test.YtmjfldclpijghaaGreatDoorTie
import Derived.ProofKit
import Derived.OpenShut
import Derived.Deep.DeepHandedRow
import Derived.Deep.DeepWitnessRowRef
import Derived.LaidMore
import Derived.LaidSub
import Derived.ChangeMaps5
import Derived.Lay
set_option linter.unusedSimpArgs false
set_option linter.unusedVariables false
namespace Go.Proofs.YtmjfldclpijghaaGreatDoor
open Go.RowKit Go.Proofs.Fw
set_option maxRecDepth 100000
set_option maxHeartbeats 4000000
theorem zA3:AJ.soft 40=false:=by decide
theorem zA4:Bg zP 40 syE.sz=true:=by kernel_rfl
@[simp high] theorem zDe (l:List It):alen zP 75 (itE.av l)=some (.int .i64 l.length):=itE.alen Tryz.underlying75 l
@[simp high] theorem zDf {l:List It} {i:Nat} (h:i<l.length):Ao zP 75 (itE.av l) (.int .i64 (i:Int))=some (.vptr (itE.row l) (i*2)):=itE.aidx Tryz.underlying75 (by kernel_rfl) h
@[simp] theorem buSdA (a:List UInt8) (d:List Int) (b c:Int):Aq zP 53 [(0,.str a),(1,AN.av d),(2,.int .i64 b),(3,.int .i64 c)]=some (.agg [.str a,AN.av d,.int .i64 b,.int .i64 c]):=by
 by_cases h:d=[]
 ·subst h;kernel_rfl
 ·rw [AN.av_ne h];kernel_rfl
@[simp] theorem bsSdA (a:List UInt8) (d:List Int) (b c:Int):CK zP 40 1 [(0,.agg [.str a,AN.av d,.int .i64 b,.int .i64 c])]=some (.slice .full 4 1 [.str a,AN.av d,.int .i64 b,.int .i64 c]):=by
 by_cases h:d=[]
 ·subst h;kernel_rfl
 ·rw [AN.av_ne h];kernel_rfl
theorem zBO (s:Ck):(s.syms=[]∧BN (syE.tk 1 s.syms)=[]∧AO s.syms=none)∨(s.syms≠[]∧BN (syE.tk 1 s.syms)=[1]∧AO s.syms=some (.tok s.syms.length)):=by
 by_cases hs:s.syms=[]
 ·exact .inl ⟨hs,by rw [hs];rfl,by rw [hs];rfl⟩
 ·refine .inr ⟨hs,?_,C3 hs⟩
  rw [syE.tk_ne 1 hs];simp [BN,JF _ (syE.row_low s.syms)]
theorem zBk (s:Ck):s.fail 0=s:=by obtain ⟨a,b,c,d,e,f⟩:=s;rfl
theorem zBl {s:Ck} (h:s.dok) (x:It):(s.item x).dok∧(s.syms≠[]→(s.item x).syms≠[]):=by
 have h0:(s.decl x).1.dok∧(s.syms≠[]→(s.decl x).1.syms≠[]):=by
  rcases Wm s x with e|⟨z,h1,h2,e⟩
  ·rw [e];exact ⟨h,fun k=>k⟩
  ·rw [e]
   refine ⟨⟨?_,h2,h.bad⟩,fun k=>by simp⟩;have:=h.syms;simp only [List.length_append,List.length_singleton];omega
 unfold Ck.item
 split
 ·exact ⟨h,fun k=>k⟩
 ·by_cases he:(s.decl x).2=0
  ·rw [he,zBk];exact h0
  ·exact ⟨zAW h0.1 he,h0.2⟩
theorem zBP:∀(l:List It) {s:Ck},s.dok→(EB l s).dok∧(s.syms≠[]→(EB l s).syms≠[])
 |[],s,h=>⟨h,fun k=>k⟩
 |x::l,s,h=>by obtain ⟨h1,h2⟩:=zBl h x;obtain ⟨k1,k2⟩:=zBP l h1;rw [EB];exact ⟨k1,fun k=>k2 (h2 k)⟩
theorem zBQ:∀(l:List It) {s:Ck},s.bad.isSome=true→EB l s=s
 |[],s,h=>rfl
 |x::l,s,h=>by
  have:s.item x=s:=by simp [Ck.item,h]
  rw [EB,this];exact zBQ l h
theorem zCd (l:List It) (i:Nat) (s:Ck):EB l s=EB (l.drop i) (EB (l.take i) s):=by
 induction l generalizing i s with
 |nil=>simp [EB]
 |cons x l ih =>
  cases i with
  |zero=>simp [EB]
  |succ i=>rw [List.take_succ_cons,List.drop_succ_cons,EB,EB];exact ih i _
theorem zBm:∀(l:List Int) (z:Int) {y:Int},z≤4096→He l z=some y→y≤4096
 |[],z,y,hz,h=>by rw [He] at h;injection h with h;omega
 |n::l,z,y,hz,h=>by
  rw [He] at h
  split at h
  ·cases h
  ·exact zBm l (z*n) (by omega) h
def DjI (l:List It) (s:Ck) (k:Nat) (t:List AV) (H:AH):Prop:=∃(i:Nat) (V:Ck),i+k=l.length∧V=EB (l.take i) s∧V.dok∧V.bad=none∧(s.syms≠[]→V.syms≠[])∧t=mkT 89 [(0,.ptr 0 0),(1,itE.av l),(4,.int .i64 (i:Int))]∧H=dkH V
theorem zCe (l:List It) (hl:l.length<4294967296) (hd:∀x∈l,x.dims.length<4294967296∧∀d∈x.dims,1≤d) (s:Ck) (hs:s.dok) (hb:s.bad=none):CS zP AJ 36 [.ptr 0 0,itE.av l] (dkH s) (.tup []) (dkH (EB l s)):=by
 refine zAL s _ Tryz.func36 (by kernel_rfl) (by simp [Tryz.f36]) (fun B hB hG => ?_) rfl;have hL:([ga,bd,zAc].map (·.f)).Nodup:=show ([17,41,72]:List Nat).Nodup by decide
 have X:=Bn [ga,bd,zAc] B4 Ad;have f1:=fun k (V:Ck) (hV:V.dok) n H=>C0 hL (show ga∈[ga,bd,zAc] by simp) (k,V.syms,V.cells,n) (zAy hV) H
 have f2:=fun e (he:e≠0) (V:Ck) (hV:V.dok) K=>dT hL (show bd∈_ by simp) e V he hV K
 have f3:=fun d (h:d.length<4294967296∧∀x∈d,1≤x) H=>C0 hL (show zAc∈_ by simp) d h H
 generalize oOf [ga,bd,zAc]=O at X f1 f2 f3;refine Tr.goD X hG ?_;simp [Tryz.f36,dkH,dkC];refine LpD.loopN X hG (DjI l s) l.length (t':=mkT 89 [(0,.ptr 0 0),(1,itE.av l),(4,.int .i64 ((0:Nat):Int))]) (H':=dkH s) (AD.mkK 2 (by simp [hB,dkH]) (by simp [low]) (by simp [dkH,dkC]) (Tl s)) ⟨0,s,by omega,rfl,hs,hb,fun k=>k,rfl,rfl⟩ ?_;rintro k t H ⟨i,V,oQ,hV,hVd,hVb,hVs,rfl,rfl⟩
 by_cases hi:i<l.length
 ·obtain ⟨k,rfl⟩:∃j,k=j+1:=⟨k-1,by omega⟩
  have hi':(i:Int)<l.length:=by omega
  obtain ⟨y,hy⟩:∃y,l[i]? = some y:=⟨_,List.getElem?_eq_getElem hi⟩
  obtain ⟨hyd,hyp⟩:=hd y (List.mem_of_getElem? hy);have g0:(itE.row l)[i*2+0]? = some (.str y.name):=itE.row_cell hy 0 (by decide);have g1:(itE.row l)[i*2+1]? = some (AN.av y.dims):=itE.row_cell hy 1 (by decide);simp only [Nat.add_zero] at g0;have oe:l.take (i+1)=l.take i++[y]:=by rw [List.take_add_one,hy];rfl
  have wi:IntKind.i64.wrap ((i:Int)+1)=((i+1:Nat):Int):=by rw [Ab (by omega) (by omega)];omega
  have yK:(V.item y).bad.isSome=true→EB l s=V.item y:=fun h=>by have e:=zCd l (i+1) s;rw [oe,RO,←hV] at e;rw [e];exact zBQ _ h
  have ol:EB (l.take (i+1)) s=V.item y:=by rw [oe,RO,←hV]
  obtain ⟨hD1,hD2⟩:=zBl hVd y;have vR:V.item y=(V.decl y).1.fail (V.decl y).2:=by simp [Ck.item,hVb]
  rw [vR] at yK ol hD1 hD2;have f1:=fun k H=>f1 k V hVd y.name H
  have f3:=fun H=>f3 y.dims ⟨hyd,hyp⟩ H
  have g7:=fun K=>f2 7 (by decide) V hVd K
  have g4:=fun K=>f2 4 (by decide) V hVd K
  simp only [GT,syC] at f1;have bad7:(V.fail 7).bad.isSome=true:=rfl;have bad4:(V.fail 4).bad.isSome=true:=rfl;generalize hF7:V.fail 7=F7 at *;generalize hF4:V.fail 4=F4 at *;simp [dkH,dkC] at g7 g4;have pM:=hVd.syms;have ub:=hVd.cells;rcases zBO V with ⟨hv,a1,a2⟩|⟨hv,a1,a2⟩
  all_goals
   simp [hi,hi',dkH,dkC];refine LpD.turns X hG [9,13,14] [(0,13),(1,13),(2,13),(3,13),(4,13),(5,13),(6,13),(7,13),(8,13),(9,13),(10,13),(11,13),(12,13),(12,14)] ?_;simp [f1,g0,a1,a2,hi,hi'];cases hf:E7 V.syms y.name with
   |some x =>
    have he:V.decl y=(V,7):=by simp [Ck.decl,hf]
    rw [he] at yK;simp only [hF7] at yK;simp only [a2] at g7;simp [g7];rw [yK bad7];simp
   |none =>
    simp [g1,f3,hi,hi'];cases hz:He y.dims 1 with
    |none =>
     have he:V.decl y=(V,4):=by simp [Ck.decl,hf,hz]
     rw [he] at yK;simp only [hF4] at yK;simp only [a2] at g4;simp [szV,g4];rw [yK bad4];simp
    |some z =>
     have pd:=RN _ _ (by decide) hz;have pJ:=zBm _ _ (by decide) hz;have ql:¬z<0:=by omega
     have vC:0≤z:=by omega
     have wz:IntKind.i64.wrap (V.cells+z)=V.cells+z:=Ab (by omega) (by omega)
     by_cases hzc:4096<V.cells+z
     ·have he:V.decl y=(V,4):=by simp [Ck.decl,hf,hz,hzc]
      rw [he] at yK;simp only [hF4] at yK;simp only [a2] at g4;simp [szV,ql,vC,wz,hzc,g4];rw [yK bad4];simp
     ·have zES:V.cells+z≤4096:=by omega
      obtain ⟨r,hr⟩:∃r:Ck,r=⟨V.syms++[⟨y.name,y.dims,V.cells,z⟩],V.cells+z,V.held,V.hv,V.bad,V.at_⟩:=⟨_,rfl⟩
      have he:V.decl y=(r,0):=by rw [hr];simp [Ck.decl,hf,hz,hzc]
      rw [he] at ol hD1 hD2;simp only [zBk] at ol hD1 hD2;have oL:r.syms≠[]:=by rw [hr];simp
      have ui:r.syms=V.syms++[⟨y.name,y.dims,V.cells,z⟩]:=by rw [hr]
      have oq:r.cells=V.cells+z:=by rw [hr]
      have pQ:r.bad=V.bad:=by rw [hr]
      have pA:r.at_=V.at_:=by rw [hr]
      have pZ:r.syms.length=V.syms.length+1:=by rw [ui];simp
      have hI:DjI l s k (mkT 89 [(0,.ptr 0 0),(1,itE.av l),(4,.int .i64 ((i+1:Nat):Int))]) (dkH r):=⟨i+1,r,by omega,ol.symm,hD1,pQ.trans hVb,fun _=>oL,rfl,rfl⟩
      have e4:syE.sz=4:=rfl;simp [szV,ql,vC,wz,hzc,zES];refine LpD.turns X hG [24,28] [(0,24)] ?_
      first
      |(have hs':V.syms=[]:=hv
        have oP:=fun H fid ow=>syE.app1_nil (P:=zP) (H:=H) (fid:=fid) (ow:=ow) zA4 ⟨y.name,y.dims,V.cells,z⟩
        rw [e4] at oP;simp only [syC] at oP;have e0:syE.tk 1 V.syms = .nilSlice:=by rw [hv];rfl
        simp [e0,a2,g0,g1,hi,hi',Lm zA3,oP,wz,wi,-Int.natCast_add]
        have pB:syE.tk 3 r.syms = .slice (.tok 3) 4 1 [.str y.name,AN.av y.dims,.int .i64 V.cells,.int .i64 z]:=by rw [ui,hv,List.nil_append,syE.tk_ne 3 (by simp),syE.row_one1];rfl
        have sn:s.syms=[]:=Classical.byContradiction fun h=>hVs h hv
        refine Nxt.mk k (by omega) (AD.mkVH 1000 (fun i=>if i=1 then 3 else i) 2 (by simp [hB,dkH]) (by
         intro i j hi hj he;have he:(if i=1 then 3 else i)=(if j=1 then 3 else j):=he
         split at he<;>split at he<;>omega) (by
         intro i hi hn;rw [hB] at hi hn;simp [dkH] at hi;rcases (by omega:i=0∨i=1) with rfl|rfl
         ·rfl
         ·exact absurd (show AO s.syms=none by rw [sn];rfl) hn) rfl (by
         intro i hi;have e1:=syE.tk_ren (fun i=>if i=1 then 3 else i) 1 r.syms;have e3:=DE (fun i=>if i=1 then 3 else i) _ (zAx V.bad);simp at e1;rcases (by omega:i=0∨i=1) with rfl|rfl
         ·simp [dkH,AH.at,dkC,AI,AL,ren,e1,e3,pB,oq,pQ,pA]
         ·have e2:=Ff (fun i=>if i=1 then 3 else i) r.syms
          have e4':AO r.syms=some (.tok 1):=by rw [C3 oL,pZ,hv];rfl
          simp [dkH,AH.at,e4',AI]) (Tl r) (by
         intro p hp;simp only [List.mem_cons,List.not_mem_nil,or_false] at hp
         rcases hp with rfl|rfl|rfl<;>simp [low,Fw.strip,ren,itE.av_strip,itE.av_ren])) hI)
      |(have hs':V.syms≠[]:=hv
        have wZ:=zAy hVd;have oP:=fun H fid ow hk=>syE.app1_tok (P:=zP) (H:=H) (fid:=fid) (k:=1) (ow:=ow) zA4 V.syms ⟨y.name,y.dims,V.cells,z⟩ rfl hk (by omega)
        rw [e4] at oP;simp only [syC] at oP;have e0:=syE.tk_ne 1 hv;rw [e4] at e0;rw [e0] at a1;simp [e0,a1,a2,g0,g1,hi,hi',Lm zA3,oP,wz,wi,-Int.natCast_add]
        have pB:syE.tk 1 r.syms = .slice (.tok 1) 4 (V.syms.length+1) (syE.row (V.syms++[⟨y.name,y.dims,V.cells,z⟩])):=by rw [ui,syE.tk_ne 1 (by simp),List.length_append];rfl
        have e4':AO r.syms=some (.tok (V.syms.length+1)):=by rw [C3 oL,pZ]
        have p8:=Tl r
        exact Nxt.mk k (by omega) (AD.mkK 2 (by simp [hB,dkH]) (by simp [low]) (by simp [dkH,dkC,pB,oq,pQ,pA,e4']) p8) hI)
 ·have hi':¬(i:Int)<l.length:=by omega
  rw [List.take_of_length_le (by omega)] at hV;simp [hi,hi',hV,dkH,dkC]
@[simp high] theorem zDg (l:List Nd):alen zP 24 (ndE.av l)=some (.int .i64 l.length):=ndE.alen Tryz.underlying24 l
@[simp high] theorem zDh {l:List Nd} {i:Nat} (h:i<l.length):Ao zP 24 (ndE.av l) (.int .i64 (i:Int))=some (.vptr (ndE.row l) (i*34)):=ndE.aidx Tryz.underlying24 (by kernel_rfl) h
theorem zCf {l:List Nd} {i:Nat} {n:Nd} (h:l[i]? = some n):(ndE.row l)[i*34]? = some (.int .i64 n.line)∧(ndE.row l)[i*34+1]? = some (.int .i64 n.end_)∧((ndE.row l).drop (i*34+2)).take 29=n.st.c∧i*34+2+29≤(ndE.row l).length ∧
  (ndE.row l)[i*34+31]? = some (ndE.av n.body)∧(ndE.row l)[i*34+32]? = some (ndE.av n.els)∧(ndE.row l)[i*34+33]? = some (.int .i64 n.mid):=by
 have g:∀j,j<34→(ndE.row l)[i*34+j]? = (ndC n)[j]? := fun j hj=>ndE.row_cell h j hj
 obtain ⟨pB,pZ⟩:=ndE.row_at l i h;have pB:((ndE.row l).drop (i*34)).take 34=ndC n:=pB;have pZ:i*34+34≤(ndE.row l).length:=pZ;have eN:=GK n;refine ⟨?_,?_,?_,by omega,?_,?_,?_⟩
 ·have:=g 0 (by decide);rw [Nat.add_zero] at this;rw [this,eN];rfl
 ·rw [g 1 (by decide),eN];rfl
 ·have h2:(((ndE.row l).drop (i*34)).take 34).drop 2=(ndC n).drop 2:=by rw [pB]
  rw [List.drop_take,List.drop_drop] at h2;have h3:=congrArg (List.take 29) h2;rw [List.take_take,show min 29 (34-2)=29 by decide] at h3;rw [h3,eN];rfl
 ·rw [g 31 (by decide),eN];rfl
 ·rw [g 32 (by decide),eN];rfl
 ·rw [g 33 (by decide),eN];rfl
def Ck.loopD (s:Ck) (x:Sx) (act:List (List UInt8)):Ck :=
 let r:=ckE x.hi (ckE x.lo ((s.name x.name 0).ix x.name act))
 if x.step=0 then r.fail 10 else r
mutual
def dkN:Nd→List (List UInt8)→Ck→Ck
 |.mk l _ x b c _,act,s =>
  if x.kind=1 then EB x.items (s.on l)
  else if x.kind=2 then ckE x.e ((s.on l).toD x.to act)
  else if x.kind=8 then (s.on l).toD x.to act
  else if x.kind=9 then ckE x.e (s.on l)
  else if x.kind=5 then dkL c act (dkL b act (ckE x.cb (ckE x.ca (s.on l))))
  else if x.kind=3 then dkL b (act++[x.name]) ((s.on l).loopD x act)
  else s.on l
def dkL:List Nd→List (List UInt8)→Ck→Ck
 |[],_,s=>s
 |n::r,act,s=>if s.bad.isSome then s else dkL r act (dkN n act s)
end
theorem zBR (n:Nd) (act:List (List UInt8)) (s:Ck):dkN n act s =
  if n.st.kind=1 then EB n.st.items (s.on n.line)
  else if n.st.kind=2 then ckE n.st.e ((s.on n.line).toD n.st.to act)
  else if n.st.kind=8 then (s.on n.line).toD n.st.to act
  else if n.st.kind=9 then ckE n.st.e (s.on n.line)
  else if n.st.kind=5 then dkL n.els act (dkL n.body act (ckE n.st.cb (ckE n.st.ca (s.on n.line))))
  else if n.st.kind=3 then dkL n.body (act++[n.st.name]) ((s.on n.line).loopD n.st act)
  else s.on n.line:=by
 cases n;rw [dkN];rfl
structure SdT (x:Sx):Prop where
 t:SxT x
 to:vT1 x.to=true
 tk:x.to.k≠3→x.to.kids=[]
 e:vT1 x.e=true
 ca:vT1 x.ca=true
 cb:vT1 x.cb=true
 lo:vT1 x.lo=true
 hi:vT1 x.hi=true
 dims:∀y∈x.items,∀d∈y.dims,1≤d
mutual
def okD:Bool→Nd→Prop
 |top,.mk _ _ x b c _=>SdT x∧(top=false→x.kind≠1)∧SY false b∧SY false c∧(x.kind≠5→c=[])∧(x.kind≠5→x.kind≠3→b=[])
def SY:Bool→List Nd→Prop
 |_,[]=>True
 |top,n::r=>okD top n∧SY top r
end
theorem zBn {top:Bool} {n:Nd} (h:okD top n):SdT n.st∧(top=false→n.st.kind≠1)∧SY false n.body∧SY false n.els:=by
 cases n with
 |mk l e s b c m=>rw [okD] at h;exact ⟨h.1,h.2.1,h.2.2.1,h.2.2.2.1⟩
theorem zBo {top:Bool}:∀{l:List Nd},SY top l→∀n∈l,okD top n
 |[],_,n,h=>by cases h
 |m::r,k,n,h=>by
  rw [SY] at k;rcases List.mem_cons.1 h with rfl|h
  ·exact k.1
  ·exact zBo k.2 n h
theorem zBp {s:Ck} (h:s.dok) (a:Int):(s.on a).dok:=⟨h.syms,h.cells,h.bad⟩
theorem zBq {s:Ck} (h:s.dok) (x:Sx) (act:List (List UInt8)):(s.loopD x act).dok:=by
 have h1:=dg x.hi (dg x.lo (zAa (zAY h x.name 0) x.name act));unfold Ck.loopD;simp only
 split
 ·exact zAW h1 (by decide)
 ·exact h1
theorem zCg (s:Ck) (x:Sx) (act:List (List UInt8)):(s.loopD x act).syms=s.syms:=by
 have h1:(ckE x.hi (ckE x.lo ((s.name x.name 0).ix x.name act))).syms=s.syms:=by rw [tf (GU _ _),tf (GU _ _),zBG,zBF]
 unfold Ck.loopD;simp only
 split
 ·exact h1
 ·exact h1
mutual
theorem zCh:∀(n:Nd) (act:List (List UInt8)) {s:Ck},s.dok→(dkN n act s).dok
 |.mk l _ x b c _,act,s,h=>by
  have h0:=zBp h l;rw [dkN]
  split
  ·exact (zBP _ h0).1
  split
  ·exact dg _ (zA2 h0 _ _)
  split
  ·exact zA2 h0 _ _
  split
  ·exact dg _ h0
  split
  ·exact l4 c act (l4 b act (dg _ (dg _ h0)))
  split
  ·exact l4 b _ (zBq h0 _ _)
  ·exact h0
theorem l4:∀(l:List Nd) (act:List (List UInt8)) {s:Ck},s.dok→(dkL l act s).dok
 |[],act,s,h=>by rw [dkL];exact h
 |n::r,act,s,h=>by
  rw [dkL]
  split
  ·exact h
  ·exact l4 r act (zCh n act h)
end
mutual
theorem zBr:∀(n:Nd) (act:List (List UInt8)) (s:Ck),okD false n→(dkN n act s).syms=s.syms
 |.mk l _ x b c _,act,s,h=>by
  rw [okD] at h;rw [dkN];have h0:(s.on l).syms=s.syms:=rfl
  split
  ·exact absurd ‹_› (h.2.1 rfl)
  split
  ·rw [tf (GU _ _),zBN,h0]
  split
  ·rw [zBN,h0]
  split
  ·rw [tf (GU _ _),h0]
  split
  ·rw [zAd c _ _ h.2.2.2.1,zAd b _ _ h.2.2.1,tf (GU _ _),tf (GU _ _),h0]
  split
  ·rw [zAd b _ _ h.2.2.1,zCg,h0]
  ·exact h0
theorem zAd:∀(l:List Nd) (act:List (List UInt8)) (s:Ck),SY false l→(dkL l act s).syms=s.syms
 |[],act,s,h=>by rw [dkL]
 |n::r,act,s,h=>by
  rw [SY] at h;rw [dkL]
  split
  ·rfl
  ·rw [zAd r _ _ h.2,zBr n _ _ h.1]
end
theorem zCi (s:Ck) (a:Int):(s.on a).base=s.base.on a:=rfl
theorem zCj (s:Ck) (x:It):s.base.decl x=((s.decl x).1.base,(s.decl x).2):=by
 have h1:s.base.syms=s.syms:=rfl;have h2:s.base.cells=s.cells:=rfl;unfold Ck.decl;rw [h1,h2]
 split
 ·rfl
 ·split
  ·rfl
  ·split<;>rfl
theorem zCk (s:Ck) (x:It):(s.item x).base=s.base.item x:=by
 have h1:s.base.bad=s.bad:=rfl;unfold Ck.item;rw [h1,zCj]
 split
 ·rfl
 ·exact zBE _ _
theorem zBs:∀(l:List It) (s:Ck),(EB l s).base=EB l s.base
 |[],s=>rfl
 |x::l,s=>by rw [EB,EB,zBs l,zCk]
theorem zCl (s:Ck) (x:Sx) (act:List (List UInt8)):(s.loopD x act).base=s.base.loopD x act:=by
 unfold Ck.loopD;rw [←zA1,←zBH,←ro,←ro];simp only
 split
 ·exact zBE _ _
 ·rfl
mutual
theorem zCm:∀(n:Nd) (act:List (List UInt8)) (s:Ck),(dkN n act s).base=dkN n act s.base
 |.mk l _ x b c _,act,s=>by
  rw [dkN,dkN,←zCi]
  split
  ·exact zBs _ _
  split
  ·rw [ro,zBM]
  split
  ·exact zBM _ _ _
  split
  ·exact ro _ _
  split
  ·rw [l5 c,l5 b,ro,ro]
  split
  ·rw [l5 b,zCl]
  ·rfl
theorem l5:∀(l:List Nd) (act:List (List UInt8)) (s:Ck),(dkL l act s).base=dkL l act s.base
 |[],act,s=>by rw [dkL,dkL]
 |n::r,act,s=>by
  have h1:s.base.bad=s.bad:=rfl;rw [dkL,dkL,h1]
  split
  ·rfl
  ·rw [l5 r,zCm n]
end
def zAR (l:List Nd):Prop:=∀(act:List (List UInt8)) (s:Ck),s.dok→act.length+szL l<4294967296→CS zP AJ 25 [.ptr 0 0,ndE.av l,BL.av act] (dkH s) (.tup []) (dkH (dkL l act s))
open Classical in
theorem zCn {l1 l2:List Nd} (B1:zAR l1) (B2:zAR l2) {act:List (List UInt8)} {s:Ck} (hs:s.dok) (hz:act.length+szL l1+szL l2<4294967296) (K:AH) {O0:Orc} (X0:CxW O0 zP AJ []) :
  ∃O,CxW O zP AJ []∧(∀f a H,f≠25→O f a H=O0 f a H)∧O 25 [.ptr 0 0,ndE.av l1,BL.av act] (dkH s++K)=some (.tup [],dkH (dkL l1 act s)++K) ∧
   O 25 [.ptr 0 0,ndE.av l2,BL.av act] (dkH (dkL l1 act s)++K)=some (.tup [],dkH (dkL l2 act (dkL l1 act s))++K):=by
 have h1:=l4 l1 act hs
 refine ⟨orP 25 [.ptr 0 0,ndE.av l1,BL.av act] (dkH s++K) (.tup []) (dkH (dkL l1 act s)++K) (orP 25 [.ptr 0 0,ndE.av l2,BL.av act] (dkH (dkL l1 act s)++K) (.tup []) (dkH (dkL l2 act (dkL l1 act s))++K) O0),
  Fh (CS.dk (B1 act s hs (by omega)) (by simp [low]) rfl K) (Fh (CS.dk (B2 act _ h1 (by omega)) (by simp [low]) rfl K) X0),fun f a H hf=>by rw [JG hf,JG hf],FD _ _ _ _ _ _,?_⟩
 by_cases hc:[AV.ptr 0 0,ndE.av l2,BL.av act]=[.ptr 0 0,ndE.av l1,BL.av act]∧dkH (dkL l1 act s)++K=dkH s++K
 ·obtain ⟨ha,hH⟩:=hc
  simp only [List.cons.injEq,true_and,and_true] at ha;have hl:=ndE.av_inj ha;subst hl
  have hb:(dkL l2 act s).base=s.base:=by have he:=hH;simp only [dkH,List.cons_append,List.nil_append,List.cons.injEq,Option.some.injEq,Ent.box.injEq] at he;exact zBg h1 hs he.1
  have h2:dkH (dkL l2 act (dkL l2 act s))=dkH (dkL l2 act s):=by rw [←zA0,l5,hb,←l5,zA0]
  rw [h2,hH,FD]
 ·have:∀(O1:Orc),orP 25 [.ptr 0 0,ndE.av l1,BL.av act] (dkH s++K) (.tup []) (dkH (dkL l1 act s)++K) O1 25 [.ptr 0 0,ndE.av l2,BL.av act] (dkH (dkL l1 act s)++K)=O1 25 [.ptr 0 0,ndE.av l2,BL.av act] (dkH (dkL l1 act s)++K):=fun O1=>if_neg fun h=>hc h.2
  rw [this,FD]
theorem vT:AJ.soft 25=false:=by decide
theorem zBt:Bg zP 25 1=true:=by kernel_rfl
@[simp] theorem zDi:CK zP 25 0 []=some (.slice .full 1 0 []):=by kernel_rfl
@[simp] theorem zDj (a:List UInt8):CK zP 25 1 [(0,.str a)]=some (.slice .full 1 1 [.str a]):=by kernel_rfl
theorem zA5 (H:AH) (fid:Nat):DO zP H fid 25 25 (.slice .full 1 0 []) .nilSlice=some (.slice .full 1 0 [],[]):=by kernel_rfl
theorem zCo {l:List Nd} (hB:zAR l) {act:List (List UInt8)} {W:Ck} (hW:W.dok) (hz:act.length+szL l<4294967296) (hs:(dkL l act W).syms=W.syms) (x1:Option Ent) (j m:Nat) (row:List AV) (R:AH) (hx:W.syms=[]∨x1=AO W.syms) (hr:BL.av act = .slice .unk 1 m row) :
  ∃O,Cx O zP AJ∧O 25 [.ptr 0 0,ndE.av l,.slice (.tok j) 1 m row] (some (.box (dkC W 1))::x1::R)=some (.tup [],some (.box (dkC (dkL l act W) 1))::x1::R):=by
 have h:=hB act W hW hz
 have key:CS zP AJ 25 [.ptr 0 0,ndE.av l,BL.av act] (some (.box (dkC W 1))::x1::R) (.tup []) (some (.box (dkC (dkL l act W) 1))::x1::R):=by
  generalize dkL l act W=Z at *;have tt:∀t,W.syms=[]→dkC W t=dkC W 1∧dkC Z t=dkC Z 1:=fun t h=>by simp only [dkC,hs,h];exact ⟨rfl,rfl⟩
  by_cases hv:W.syms=[]
  ·obtain ⟨t1,t2⟩:=tt (R.length+2) hv
   have:=CS.dkAt h (by simp [low]) rfl (b:=0) (t:=R.length+2) (by omega) (H:=some (.box (dkC W 1))::x1::R) (H':=some (.box (dkC Z 1))::x1::R) (by rw [t1];rfl) (by rw [C7 (by simp),hv];rfl) (by rw [t2];rfl) (by rw [C7 (by simp),hs,hv];rfl) (by
    intro j h0 h1;cases j with
    |zero=>exact absurd rfl h0
    |succ j=>rfl)
   simpa [AL,ren,Enc.av_ren] using this
  ·have hx1:x1=AO W.syms:=hx.resolve_left hv
   have:=CS.dkAt h (by simp [low]) rfl (b:=0) (t:=1) (by decide) (H:=some (.box (dkC W 1))::x1::R) (H':=some (.box (dkC Z 1))::x1::R) rfl hx1 rfl (by rw [hs];exact hx1) (by
    intro j h0 h1;cases j with
    |zero=>exact absurd rfl h0
    |succ j=>rfl)
   simpa [AL,ren,Enc.av_ren] using this
 rw [hr] at key
 have k2:CS zP AJ 25 [.ptr 0 0,ndE.av l,.slice (.tok j) 1 m row] (some (.box (dkC W 1))::x1::R) (.tup []) (some (.box (dkC (dkL l act W) 1))::x1::R):=CS.weakA key fun g cargs hr=>by simp only [AB] at hr ⊢;obtain ⟨v,ws,rfl,h1,v2,ws2,rfl,h2,v3,ws3,rfl,h3,h4⟩:=hr;exact ⟨v,_,rfl,h1,v2,_,rfl,h2,v3,_,rfl,M0 g _ h3,h4⟩
 refine ⟨_,zDE k2 ?_ ⟨Fe,B4,Ad⟩,FD _ _ _ _ _ _⟩;refine ⟨by simp,?_⟩;intro i hi hn;cases i with
 |zero=>cases hn
 |succ i=>exact hn
noncomputable def zBu:AF zP AJ:=AF.dk 37 (fun x:Tn × List (List UInt8)=>okT x.1=true∧vT1 x.1=true∧(x.1.k≠3→x.1.kids=[])∧x.2.length<4294967296) (fun x=>[.ptr 0 0,.agg (tC x.1),BL.av x.2]) (fun x s=>s.toD x.1 x.2) (fun _=>by simp [low]) (fun x s=>zBN s x.1 x.2) (fun x s=>zBM s x.1 x.2) (fun x y h=>by
 obtain ⟨a,b⟩:=x;obtain ⟨c,d⟩:=y;simp only [List.cons.injEq,AV.agg.injEq,true_and,and_true] at h
 rw [KV _ _ h.1,BL.av_inj h.2]) (fun x s h hs=>zCb x.1 h.1 h.2.1 h.2.2.1 x.2 h.2.2.2 s hs)
noncomputable def LsD:List (AF zP AJ):=[ln,lv (fun t=>okT t=true∧vT1 t=true) (fun t h=>zBK t h.1 h.2),zAQ,bd,zBu]
theorem zAe:(LsD.map (·.f)).Nodup:=show ([39,38,40,41,37]:List Nat).Nodup by decide
def DbI (l:List Nd) (act:List (List UInt8)) (s:Ck) (k:Nat) (t:List AV) (H:AH):Prop:=∃i V,i+k=l.length∧V.dok∧dkL (l.drop i) act V=dkL l act s∧t=mkT 133 [(0,.ptr 0 0),(1,ndE.av l),(2,BL.av act),(6,.int .i64 (i:Int))]∧H=dkH V
theorem zBS:∀(N:Nat) (l:List Nd) (top:Bool),szL l<N→SY top l→zAR l
 |0,_,_,h,_=>absurd h (Nat.not_lt_zero _)
 |N+1,l,top,hN,o6=>by
  intro act s hs hz;refine zAL s _ Tryz.func25 (by kernel_rfl) (by simp [Tryz.f25]) (fun B hB hG => ?_) rfl;have X0:=Bn LsD B4 Ad;have f1:=fun n (k:Nat) (V:Ck) (hV:V.dok) K=>dT zAe (show ln∈LsD by simp [LsD]) (n,k) V trivial hV K
  have f2:=fun t (h:okT t=true∧vT1 t=true) (V:Ck) (hV:V.dok) K=>dT zAe (show lv (fun t=>okT t=true∧vT1 t=true) (fun t h=>zBK t h.1 h.2)∈LsD by simp [LsD]) t V h hV K
  have f3:=fun n (V:Ck) (hV:V.dok) K=>dT zAe (show zAQ∈LsD by simp [LsD]) (n,act) V (show act.length<4294967296 by omega) hV K
  have f4:=fun (V:Ck) (hV:V.dok) K=>dT zAe (show bd∈LsD by simp [LsD]) 10 V (by decide) hV K
  have f5:=fun t (h:okT t=true∧vT1 t=true∧(t.k≠3→t.kids=[])) (V:Ck) (hV:V.dok) K=>dT zAe (show zBu∈LsD by simp [LsD]) (t,act) V ⟨h.1,h.2.1,h.2.2,show act.length<4294967296 by omega⟩ hV K
  generalize oOf LsD=O0 at X0 f1 f2 f3 f4 f5;simp only at f1 f2 f3 f4 f5;have X0':CxW O0 zP AJ []:=Cx.toW X0;refine Tr.goW X0' hG ?_;simp [Tryz.f25,dkH,dkC];refine LpD.loopW [] hG (DbI l act s) l.length (t':=mkT 133 [(0,.ptr 0 0),(1,ndE.av l),(2,BL.av act),(6,.int .i64 ((0:Nat):Int))]) (H':=dkH s) (AD.mkK 2 (by simp [hB,dkH]) (by simp [low]) (by simp [dkH,dkC]) (Tl s)) ⟨0,s,by omega,hs,rfl,rfl,rfl⟩ ?_;rintro k t H ⟨i,V,oQ,hV,he,rfl,rfl⟩;cases k with
  |zero =>
   obtain rfl:i=l.length:=by omega
   rw [List.drop_length,dkL] at he;rw [←he];refine ⟨O0,X0',?_⟩;simp [dkH,dkC]
  |succ k =>
   have hi:i<l.length:=by omega
   have hi':(i:Int)<l.length:=by omega
   obtain ⟨n,hn⟩:∃n,l[i]? = some n:=⟨_,List.getElem?_eq_getElem hi⟩
   have pC:l.drop i=n::l.drop (i+1):=by rw [List.drop_eq_getElem_cons hi];rw [List.getElem?_eq_getElem hi] at hn;injection hn with hn;rw [hn]
   have oa:=Vm hn;have zER:=Qc n;obtain ⟨oS,zEH,hob,hoe⟩:=zBn (zBo o6 n (List.mem_of_getElem? hn));have ox:=Qd l;have wi:IntKind.i64.wrap ((i:Int)+1)=((i+1:Nat):Int):=by rw [Ab (by omega) (by omega)];omega
   obtain ⟨a1,a2,a3,a4,a5,a6,a7⟩:=zCf hn;simp only [Sx.c] at a3;rw [pC,dkL] at he;cases hb:V.bad with
   |some e =>
    obtain ⟨p,q⟩:=e;rw [hb] at he;simp only [Option.isSome_some,if_true] at he;rw [←he];have hz:¬cV V.bad=0:=fun h=>by have:=(zAz hV).1 h;rw [hb] at this;cases this
    refine ⟨O0,X0',?_⟩;simp [hi,hi',hz,dkH,dkC]
   |none =>
    rw [hb] at he;simp only [Option.isSome_none,Bool.false_eq_true,if_false] at he;have hV1:=zBp hV n.line;have hIb:zAR n.body:=zBS N n.body false (by omega) hob;have wk:zAR n.els:=zBS N n.els false (by omega) hoe;have hI:∀Z:Ck,dkN n act V=Z→Z.dok→DbI l act s k (mkT 133 [(0,.ptr 0 0),(1,ndE.av l),(2,BL.av act),(6,.int .i64 ((i+1:Nat):Int))]) (dkH Z):=fun Z h1 h2=>⟨i+1,Z,by omega,h2,by rw [←h1];exact he,rfl,rfl⟩
    rw [zBR] at hI;have hcb:cV V.bad=0:=(zAz hV).2 hb;have hc:V.on n.line=⟨V.syms,V.cells,V.held,V.hv,none,n.line⟩:=by simp [Ck.on,hb]
    by_cases k1:n.st.kind=1
    ·skip
     have zEU:top=true:=by
      cases top with
      |true=>rfl
      |false=>exact absurd k1 (zEH rfl)
     have oi:=zCe n.st.items oS.t.items (fun y hy=>⟨oS.t.dims y hy,oS.dims y hy⟩) (V.on n.line) hV1 hb;have d1:=(zBP n.st.items hV1).1;have q1:=CS.dk oi (by simp [low]) rfl [some (.box n.st.c)];rw [if_pos k1] at hI;have hI:=hI _ rfl d1;have p8:=Tl (EB n.st.items (V.on n.line));have o1:=FD 36 [.ptr 0 0,itE.av n.st.items] (dkH (V.on n.line)++[some (.box n.st.c)]) (.tup []) (dkH (EB n.st.items (V.on n.line))++[some (.box n.st.c)]) O0;have X1:=Fh (S:=[]) q1 X0';generalize EB n.st.items (V.on n.line)=s1 at *;generalize orP 36 _ _ _ _ O0=O1 at X1 o1;simp [dkH,dkC,Ck.on,Sx.c,hcb,k1] at o1;refine ⟨O1,X1,?_⟩;simp [hi,hi',hcb,a1,a3,a4,a5,a6,k1,o1,wi,dkH,dkC,-Int.natCast_add];exact Nxt.mk k (by omega) (AD.mkK 2 (by simp [hB,dkH]) (by simp [low]) (by simp [dkH,dkC]) p8) hI
    rw [if_neg k1] at hI
    by_cases k2:n.st.kind=2
    ·skip
     have g1:=fun K=>f5 n.st.to ⟨oS.t.to,oS.to,oS.tk⟩ _ hV1 K
     have d1:=zA2 hV1 n.st.to act;have g2:=fun K=>f2 n.st.e ⟨oS.t.e,oS.e⟩ _ d1 K
     have d2:=dg n.st.e d1;rw [if_pos k2] at hI;have hI:=hI _ rfl d2;generalize (V.on n.line).toD n.st.to act=s1 at *;generalize ckE n.st.e s1=s2 at *;simp [dkH,dkC,Ck.on,hcb] at g1 g2;have p8:=Tl s2;refine ⟨O0,X0',?_⟩;simp [hi,hi',hcb,a1,a3,a4,a5,a6,k2,g1,g2,wi,dkH,dkC,-Int.natCast_add];exact Nxt.mk k (by omega) (AD.mkK 2 (by simp [hB,dkH]) (by simp [low]) (by simp [dkH,dkC]) p8) hI
    rw [if_neg k2] at hI
    by_cases k8:n.st.kind=8
    ·skip
     have g1:=fun K=>f5 n.st.to ⟨oS.t.to,oS.to,oS.tk⟩ _ hV1 K
     have d1:=zA2 hV1 n.st.to act;rw [if_pos k8] at hI;have hI:=hI _ rfl d1;generalize (V.on n.line).toD n.st.to act=s1 at *;simp [dkH,dkC,Ck.on,hcb] at g1;have p8:=Tl s1;refine ⟨O0,X0',?_⟩;simp [hi,hi',hcb,a1,a3,a4,a5,a6,k8,g1,wi,dkH,dkC,-Int.natCast_add];exact Nxt.mk k (by omega) (AD.mkK 2 (by simp [hB,dkH]) (by simp [low]) (by simp [dkH,dkC]) p8) hI
    rw [if_neg k8] at hI
    by_cases k9:n.st.kind=9
    ·skip
     have g1:=fun K=>f2 n.st.e ⟨oS.t.e,oS.e⟩ _ hV1 K
     have d1:=dg n.st.e hV1;rw [if_pos k9] at hI;have hI:=hI _ rfl d1;generalize ckE n.st.e (V.on n.line)=s1 at *;simp [dkH,dkC,Ck.on,hcb] at g1;have p8:=Tl s1;refine ⟨O0,X0',?_⟩;simp [hi,hi',hcb,a1,a3,a4,a5,a6,k9,g1,wi,dkH,dkC,-Int.natCast_add];exact Nxt.mk k (by omega) (AD.mkK 2 (by simp [hB,dkH]) (by simp [low]) (by simp [dkH,dkC]) p8) hI
    rw [if_neg k9] at hI
    by_cases k5:n.st.kind=5
    ·skip
     have g1:=fun K=>f2 n.st.ca ⟨oS.t.ca,oS.ca⟩ _ hV1 K
     have d1:=dg n.st.ca hV1;have g2:=fun K=>f2 n.st.cb ⟨oS.t.cb,oS.cb⟩ _ d1 K
     have d2:=dg n.st.cb d1;obtain ⟨O,X,hO,o1,o2⟩:=zCn hIb wk (act:=act) d2 (by omega) [some (.box n.st.c)] X0';have d3:=l4 n.els act (l4 n.body act d2);rw [if_pos k5] at hI;have hI:=hI _ rfl d3;generalize ckE n.st.ca (V.on n.line)=s1 at *;generalize ckE n.st.cb s1=s2 at *;generalize dkL n.body act s2=s3 at *;generalize dkL n.els act s3=s4 at *;have g1:∀K,O _ _ _=_:=fun K=>(hO _ _ _ (by decide)).trans (g1 K)
     have g2:∀K,O _ _ _=_:=fun K=>(hO _ _ _ (by decide)).trans (g2 K)
     simp [dkH,dkC,Ck.on,hcb] at g1 g2;simp [dkH,dkC,Sx.c,k5] at o1 o2;have p8:=Tl s4;refine ⟨O,X,?_⟩;simp [hi,hi',hcb,a1,a3,a4,a5,a6,k5,g1,g2,o1,o2,wi,dkH,dkC,-Int.natCast_add];exact Nxt.mk k (by omega) (AD.mkK 2 (by simp [hB,dkH]) (by simp [low]) (by simp [dkH,dkC]) p8) hI
    rw [if_neg k5] at hI
    by_cases k3:n.st.kind=3
    ·skip
     have g1:=fun K=>f1 n.st.name 0 _ hV1 K
     have d1:=zAY hV1 n.st.name 0;have g2:=fun K=>f3 n.st.name _ d1 K
     have d2:=zAa d1 n.st.name act;have g3:=fun K=>f2 n.st.lo ⟨oS.t.lo,oS.lo⟩ _ d2 K
     have d3:=dg n.st.lo d2;have g4:=fun K=>f2 n.st.hi ⟨oS.t.hi,oS.hi⟩ _ d3 K
     have d4:=dg n.st.hi d3;have g5:=fun K=>f4 _ d4 K
     have d5:=zBq hV1 n.st act;have d6:=l4 n.body (act++[n.st.name]) d5;have hW:=hIb (act++[n.st.name]) _ d5 (by simp;omega);have hWs:=zAd n.body (act++[n.st.name]) ((V.on n.line).loopD n.st act) hob;have hlp:(V.on n.line).loopD n.st act=if n.st.step=0 then (ckE n.st.hi (ckE n.st.lo (((V.on n.line).name n.st.name 0).ix n.st.name act))).fail 10 else ckE n.st.hi (ckE n.st.lo (((V.on n.line).name n.st.name 0).ix n.st.name act)):=rfl
     rw [if_pos k3] at hI;have hI:=hI _ rfl d6;generalize (V.on n.line).loopD n.st act=W at *;generalize (V.on n.line).name n.st.name 0=s1 at *;generalize s1.ix n.st.name act=s2 at *;generalize ckE n.st.lo s2=s3 at *;generalize ckE n.st.hi s3=s4 at *;generalize s4.fail 10=s5 at *;obtain ⟨Z,hZd⟩:∃Z,dkL n.body (act++[n.st.name]) W=Z:=⟨_,rfl⟩
     rw [hZd] at hI hWs d6 hW;have p8:=Tl Z;simp [dkH,dkC,Ck.on,hcb] at g1 g2 g3 g4 g5;have zD4:=fun H fid (m:Nat) ys ow (hm:0<m) (hb:0+m≤137438953472) (ha:ys.all AV.one=true)=>MH (P:=zP) (H:=H) (fid:=fid) (n:=0) (m:=m) (xs:=[]) (ys:=ys) (ow:=ow) zBt hm hb ha
     simp only [Nat.zero_add,List.nil_append] at zD4;have Q:=fun x1 j m row R h1 h2=>zCo hIb d5 (act:=act++[n.st.name]) (by simp;omega) (by rw [hZd];exact hWs) x1 j m row R h1 h2
     simp only [hZd,dkC] at Q
     by_cases zDz:act=[]
     ·have ea:BL.av act = .nilSlice:=by rw [zDz];rfl
      rcases zBO W with ⟨hv,b1,b2⟩|⟨hv,b1,b2⟩
      ·obtain ⟨O2,X2,o⟩:=Q (some .hid) 4 1 [.str n.st.name] [some .hid,some .hid,some (.tok 1)] (.inl hv) (by rw [zDz];rfl)
       refine ⟨O0,X0',?_⟩
       by_cases hz:n.st.step=0
       ·rw [if_pos hz] at hlp
        subst hlp;simp [hi,hi',hcb,a1,a3,a4,a5,a6,k3,g1,g2,g3,g4,g5,hz,dkH,dkC];refine LpD.turnsW X2 hG [8,12,13] zL1 ?_;simp [hi,hi',a5,Lm vT,wi,ea,zA5,zD4,b1,b2,o,-Int.natCast_add];exact Nxt.mk k (by omega) (AD.mkK 2 (by simp [hB,dkH]) (by simp [low,ea]) (by simp [dkH,dkC,hWs,b2]) p8) hI
       ·rw [if_neg hz] at hlp
        subst hlp;simp [hi,hi',hcb,a1,a3,a4,a5,a6,k3,g1,g2,g3,g4,hz,dkH,dkC];refine LpD.turnsW X2 hG [8,12,13] zL1 ?_;simp [hi,hi',a5,Lm vT,wi,ea,zA5,zD4,b1,b2,o,-Int.natCast_add];exact Nxt.mk k (by omega) (AD.mkK 2 (by simp [hB,dkH]) (by simp [low,ea]) (by simp [dkH,dkC,hWs,b2]) p8) hI
      ·obtain ⟨O2,X2,o⟩:=Q (some (.tok W.syms.length)) 4 1 [.str n.st.name] [some .hid,some .hid,some (.tok 1)] (.inr b2.symm) (by rw [zDz];rfl)
       refine ⟨O0,X0',?_⟩
       by_cases hz:n.st.step=0
       ·rw [if_pos hz] at hlp
        subst hlp;simp [hi,hi',hcb,a1,a3,a4,a5,a6,k3,g1,g2,g3,g4,g5,hz,dkH,dkC];refine LpD.turnsW X2 hG [8,12,13] zL1 ?_;simp [hi,hi',a5,Lm vT,wi,ea,zA5,zD4,b1,b2,o,-Int.natCast_add];exact Nxt.mk k (by omega) (AD.mkK 2 (by simp [hB,dkH]) (by simp [low,ea]) (by simp [dkH,dkC,hWs,b2]) p8) hI
       ·rw [if_neg hz] at hlp
        subst hlp;simp [hi,hi',hcb,a1,a3,a4,a5,a6,k3,g1,g2,g3,g4,hz,dkH,dkC];refine LpD.turnsW X2 hG [8,12,13] zL1 ?_;simp [hi,hi',a5,Lm vT,wi,ea,zA5,zD4,b1,b2,o,-Int.natCast_add];exact Nxt.mk k (by omega) (AD.mkK 2 (by simp [hB,dkH]) (by simp [low,ea]) (by simp [dkH,dkC,hWs,b2]) p8) hI
     ·have ea:=BL.av_ne zDz
      have e1:BL.sz=1:=rfl;have hp:=List.length_pos_iff.2 zDz;rw [e1] at ea;have h8:=fun H fid ow=>zD4 H fid act.length (BL.row act) ow hp (by omega) (BL.row_one act)
      have tD:=fun H fid (k:Nat) ow hk=>EZ (P:=zP) (H:=H) (fid:=fid) (k:=k) (n:=act.length) (m:=1) (xs:=BL.row act) (ys:=[.str n.st.name]) (ow:=ow) zBt hk (by decide) (by omega) rfl
      have xd:BL.av (act++[n.st.name]) = .slice .unk 1 (act.length+1) (BL.row act++[.str n.st.name]):=by rw [BL.av_ne (by simp),BL.row_append,List.length_append];rfl
      rcases zBO W with ⟨hv,b1,b2⟩|⟨hv,b1,b2⟩
      ·obtain ⟨O2,X2,o⟩:=Q (some .hid) 3 (act.length+1) (BL.row act++[.str n.st.name]) [some .hid,some (.tok (act.length+1)),some .hid] (.inl hv) xd
       refine ⟨O0,X0',?_⟩
       by_cases hz:n.st.step=0
       ·rw [if_pos hz] at hlp
        subst hlp;simp [hi,hi',hcb,a1,a3,a4,a5,a6,k3,g1,g2,g3,g4,g5,hz,dkH,dkC];refine LpD.turnsW X2 hG [8,12,13] zL1 ?_;simp [hi,hi',a5,Lm vT,wi,ea,h8,tD,b1,b2,o,-Int.natCast_add];exact Nxt.mk k (by omega) (AD.mkK 2 (by simp [hB,dkH]) (by simp [low,ea]) (by simp [dkH,dkC,hWs,b2]) p8) hI
       ·rw [if_neg hz] at hlp
        subst hlp;simp [hi,hi',hcb,a1,a3,a4,a5,a6,k3,g1,g2,g3,g4,hz,dkH,dkC];refine LpD.turnsW X2 hG [8,12,13] zL1 ?_;simp [hi,hi',a5,Lm vT,wi,ea,h8,tD,b1,b2,o,-Int.natCast_add];exact Nxt.mk k (by omega) (AD.mkK 2 (by simp [hB,dkH]) (by simp [low,ea]) (by simp [dkH,dkC,hWs,b2]) p8) hI
      ·obtain ⟨O2,X2,o⟩:=Q (some (.tok W.syms.length)) 3 (act.length+1) (BL.row act++[.str n.st.name]) [some .hid,some (.tok (act.length+1)),some .hid] (.inr b2.symm) xd
       refine ⟨O0,X0',?_⟩
       by_cases hz:n.st.step=0
       ·rw [if_pos hz] at hlp
        subst hlp;simp [hi,hi',hcb,a1,a3,a4,a5,a6,k3,g1,g2,g3,g4,g5,hz,dkH,dkC];refine LpD.turnsW X2 hG [8,12,13] zL1 ?_;simp [hi,hi',a5,Lm vT,wi,ea,h8,tD,b1,b2,o,-Int.natCast_add];exact Nxt.mk k (by omega) (AD.mkK 2 (by simp [hB,dkH]) (by simp [low,ea]) (by simp [dkH,dkC,hWs,b2]) p8) hI
       ·rw [if_neg hz] at hlp
        subst hlp;simp [hi,hi',hcb,a1,a3,a4,a5,a6,k3,g1,g2,g3,g4,hz,dkH,dkC];refine LpD.turnsW X2 hG [8,12,13] zL1 ?_;simp [hi,hi',a5,Lm vT,wi,ea,h8,tD,b1,b2,o,-Int.natCast_add];exact Nxt.mk k (by omega) (AD.mkK 2 (by simp [hB,dkH]) (by simp [low,ea]) (by simp [dkH,dkC,hWs,b2]) p8) hI
    rw [if_neg k3] at hI;have hI:=hI _ rfl hV1;have p8:=Tl (V.on n.line);refine ⟨O0,X0',?_⟩;simp [hi,hi',hcb,a1,a3,a4,a5,a6,k1,k2,k3,k5,k8,k9,wi,dkH,dkC,-Int.natCast_add];exact Nxt.mk k (by omega) (AD.mkK 2 (by simp [hB,dkH]) (by simp [low]) (by simp [dkH,dkC,Ck.on,hcb]) p8) hI
@[simp] theorem buCd0:Aq zP 98 []=some (.agg [.nilSlice,.int .i64 0,.nilSlice,.int .i64 0,.int .i64 0]):=by kernel_rfl
@[simp] theorem buTd0:Aq zP 42 []=some (.agg [.nilSlice,.int .i64 0]):=by kernel_rfl
@[simp] theorem buWd0:Aq zP 28 []=some (.agg [.nilSlice,.int .i64 0]):=by kernel_rfl
theorem zBT:ck0.dok:=⟨by decide,by decide,fun _ _ h=>by cases h⟩
def gt (l:List Nd):List Sy × Int × Option (Int × Nat):=match (dkL l [] ck0).bad with
 |some e=>([],0,some e)
 |none=>((dkL l [] ck0).syms,(dkL l [] ck0).cells,none)
def zAN (x:List Sy × Int × Option (Int × Nat)):AV := .tup [.agg [syE.av x.1,.int .i64 x.2.1],.agg [pV x.2.2,.int .i64 (cV x.2.2)]]
theorem zCp (l:List Nd) (o6:SY true l) (hz:szL l<4294967296) (H:AH):CS zP AJ 12 [ndE.av l] H (zAN (gt l)) H:=by
 have hB:=zBS (szL l+1) l true (Nat.lt_succ_self _) o6 [] ck0 zBT (by show 0+szL l<_;omega);have hr0:=l4 l [] zBT;unfold gt;generalize dkL l [] ck0=r at *
 have q0:=CS.dkAt hB (by simp [low]) rfl (b:=2) (t:=3) (by decide) (H:=[some (.box [.nilSlice,.int .i64 0]),some (.box [.nilSlice,.int .i64 0]),some (.box [.nilSlice,.int .i64 0,.nilSlice,.int .i64 0,.int .i64 0])]) (H':=[some (.box [.nilSlice,.int .i64 0]),some (.box [.nilSlice,.int .i64 0]),some (.box (dkC r 3)),AO r.syms]) rfl rfl rfl rfl (by
  intro j h1 h2
  match j,h1,h2 with
  |0,_,_|1,_,_=>rfl
  |2,h,_=>exact absurd rfl h
  |3,_,h=>exact absurd rfl h
  |j+4,_,_=>rfl)
 have hr:AL (fun i=>if i=0 then 2 else 3) [.ptr 0 0,ndE.av l,BL.av []]=[.ptr 2 0,ndE.av l,.nilSlice]:=by simp [AL,ren,Enc.av_ren]
 rw [hr] at q0;have X:=Fh (S:=[]) q0 GI.toW;have o0:=FD 25 [.ptr 2 0,ndE.av l,.nilSlice] [some (.box [.nilSlice,.int .i64 0]),some (.box [.nilSlice,.int .i64 0]),some (.box [.nilSlice,.int .i64 0,.nilSlice,.int .i64 0,.int .i64 0])] (.tup []) [some (.box [.nilSlice,.int .i64 0]),some (.box [.nilSlice,.int .i64 0]),some (.box (dkC r 3)),AO r.syms] Bu;generalize orP 25 _ _ _ _ _=O at X o0;have oy:=syE.tk_cut (k:=3) (n:=0) (by decide) r.syms;refine CS.tr0 Bh Tryz.func12 (by kernel_rfl) 0 (by simp [Tryz.f12]) (fun B hB hG => ?_) (by simp [zAN]) (by simp) H;refine Tr.goW X hG ?_;simp only [dkC] at o0;cases hb:r.bad with
 |some e =>
  obtain ⟨p,q⟩:=e;have hq:¬cV (some (p,q))=0:=fun h=>by have:=(zAz hr0).1 (by rw [hb];exact h);rw [hb] at this;cases this
  rw [hb] at o0;simp [Tryz.f12,o0,hq];refine LpD.turnsW ⟨Fe,B4,Ad⟩ hG [5,6] [(1,5),(2,5),(3,5),(4,5)] ?_;simp [zAN]
 |none =>rw [hb] at o0;simp [cV,pV] at o0;simp [Tryz.f12,o0,zAN,oy,pV,cV]
mutual
theorem wA:∀(t:Tn) (s:Ck),ckE (ofT t) s=ckE t s
 |.lf k n w,s=>by rw [ofT]
 |.nd k n w [],s=>by rw [ofT,ckE,ckE,Cy];rfl
 |.nd k n w (a::l),s=>by
  have h:s.head (.nd k n w (ofT a::D0 l))=s.head (.nd k n w (a::l)):=by unfold Ck.head;simp only [Tn.k,Tn.s,Tn.kids,List.length_cons,LR];rfl
  rw [ofT,ckE,ckE,h,Cy,Cy,wA a,zBU l]
theorem zBU:∀(l:List Tn) (s:Ck),Cy (D0 l) s=Cy l s
 |[],s=>by rw [D0]
 |a::l,s=>by rw [D0,Cy,Cy,wA a,zBU l]
end
theorem zCq (t:Tn):(ofT t).s=t.s:=by
 match t with
 |.lf k n w=>rfl
 |.nd k n w []=>rfl
 |.nd k n w (a::l)=>rfl
theorem zCr (t:Tn):(ofT t).kids=D0 t.kids:=by
 match t with
 |.lf k n w=>rfl
 |.nd k n w []=>rfl
 |.nd k n w (a::l)=>rfl
theorem zAS {s r:Ck} (h:s.same r):r.held=s.held:=by obtain ⟨b,rfl⟩:=h;rfl
theorem zBv:∀(l:List It) (s:Ck),(EB l s).held=s.held
 |[],s=>rfl
 |x::l,s=>by
  rw [EB,zBv l];unfold Ck.item
  split
  ·rfl
  ·rcases Wm s x with e|⟨z,_,_,e⟩
   all_goals
    show ((s.decl x).1).held=_;rw [e]
theorem zBw (s:Ck) (x:Sx):(s.stmt x).held=s.held:=by
 unfold Ck.stmt
 split
 ·exact zBv _ _
 split
 ·exact zAS (Ck.same_trans (Lu s x.to) (GU _ _))
 split
 ·exact zAS (Wp s x)
 split
 ·exact zAS (Ck.same_trans (GU _ _) (GU _ _))
 split
 ·exact zAS (Lu s x.to)
 split
 ·exact zAS (GU _ _)
 ·rfl
mutual
theorem zBx:∀(n:Nd) (s:Ck),(ckN n s).held=s.held
 |.mk l e x b c m,s=>by
  rw [ckN]
  split
  ·show (ckL c (ckL b (s.push x.name))).held.dropLast=s.held
   rw [zAV c,zAV b]
   show (s.held++[x.name]).dropLast=s.held
   rw [List.dropLast_concat]
  ·rw [zAV c,zAV b]
theorem zAV:∀(l:List Nd) (s:Ck),(ckL l s).held=s.held
 |[],s=>by rw [ckL]
 |n::r,s=>by
  have h:((s.on n.line).stmt n.st).held=s.held:=zBw _ _;rw [ckL]
  split
  ·exact h
  ·rw [zAV r,zBx n,h]
end
theorem zA6 {s:Ck} {e:Int × Nat} (h:s.bad=some e) (k:Nat):(s.fail k).bad=some e:=by
 simp only [Ck.fail,h,Option.getD_some]
 split<;>rfl
theorem zBV {s:Ck} {e:Int × Nat} (h:s.bad=some e) (n:List UInt8) (k:Nat):(s.name n k).bad=some e:=by
 unfold Ck.name
 split
 ·exact zA6 h _
 ·split
  ·exact h
  ·exact zA6 h _
theorem zBy {s:Ck} {e:Int × Nat} (h:s.bad=some e) (n:List UInt8):(s.free n).bad=some e:=by
 unfold Ck.free
 split
 ·exact zA6 h _
 ·exact h
theorem zBz {s:Ck} {e:Int × Nat} (h:s.bad=some e) (t:Tn):(s.head t).bad=some e:=by
 unfold Ck.head
 split
 ·exact zBV h _ _
 ·exact h
mutual
theorem zAO:∀(t:Tn) {s:Ck} {e:Int × Nat},s.bad=some e→(ckE t s).bad=some e
 |.lf k n w,s,e,h=>by rw [ckE];exact zBz h _
 |.nd k n w a,s,e,h=>by rw [ckE];exact zBW a (zBz h _)
theorem zBW:∀(l:List Tn) {s:Ck} {e:Int × Nat},s.bad=some e→(Cy l s).bad=some e
 |[],s,e,h=>by rw [Cy];exact h
 |t::l,s,e,h=>by rw [Cy];exact zBW l (zAO t h)
end
theorem zCs {s:Ck} {e:Int × Nat} (h:s.bad=some e) (x:Sx):(s.stmt x).bad=some e:=by
 have hto:(s.to x.to).bad=some e:=zBW _ (zBy (zBV h _ _) _);unfold Ck.stmt
 split
 ·rw [zBQ _ (by rw [h];rfl)];exact h
 split
 ·exact zAO _ hto
 split
 ·have h1:=zAO x.hi (zAO x.lo (zBy (zBV h x.name 0) x.name))
  unfold Ck.loop;simp only
  split
  ·exact zA6 h1 _
  ·exact h1
 split
 ·exact zAO _ (zAO _ h)
 split
 ·exact hto
 split
 ·exact zAO _ h
 ·exact h
theorem zCt:∀(l:List Nd) {s:Ck} {e:Int × Nat},s.bad=some e→(ckL l s).bad=some e
 |[],s,e,h=>by rw [ckL];exact h
 |n::r,s,e,h=>by have h1:((s.on n.line).stmt n.st).bad=some e:=zCs (show (s.on n.line).bad=some e from h) _;rw [ckL,if_pos (by rw [h1];rfl)];exact h1
theorem zAf (l:List Nd) (act:List (List UInt8)) {s:Ck} {e:Int × Nat} (h:s.bad=some e):dkL l act s=s:=by
 cases l with
 |nil=>rw [dkL]
 |cons n r=>rw [dkL,if_pos (by rw [h];rfl)]
def hdD (n:Nd) (act:List (List UInt8)) (s:Ck):Ck :=
 if n.st.kind=1 then EB n.st.items (s.on n.line)
 else if n.st.kind=2 then ckE n.st.e ((s.on n.line).toD n.st.to act)
 else if n.st.kind=8 then (s.on n.line).toD n.st.to act
 else if n.st.kind=9 then ckE n.st.e (s.on n.line)
 else if n.st.kind=5 then ckE n.st.cb (ckE n.st.ca (s.on n.line))
 else if n.st.kind=3 then (s.on n.line).loopD n.st act
 else s.on n.line
theorem zB0 (n:Nd) (s:Ck):(s.on n.line).stmt (Kj n.st)=hdD n s.held s:=by
 have hh:∀(a:Ck) (m:List UInt8) (k:Nat),(a.name m k).held=a.held:=fun a m k=>zAS (Jn a m k)
 have hto:(s.on n.line).to (ofT n.st.to)=(s.on n.line).toD n.st.to s.held:=by unfold Ck.to Ck.toD;rw [zCr,zBU,LR,zCq];unfold Ck.free Ck.ix;rw [hh];rfl
 have hlo:(s.on n.line).loop (Kj n.st)=(s.on n.line).loopD n.st s.held:=by unfold Ck.loop Ck.loopD;have e1:(Kj n.st).hi=ofT n.st.hi:=rfl;have e2:(Kj n.st).lo=ofT n.st.lo:=rfl;have e3:(Kj n.st).name=n.st.name:=rfl;have e4:(Kj n.st).step=n.st.step:=rfl;rw [e1,e2,e3,e4,wA,wA];unfold Ck.free Ck.ix;rw [hh];rfl
 unfold Ck.stmt hdD;have e0:(Kj n.st).kind=n.st.kind:=rfl;have e1:(Kj n.st).items=n.st.items:=rfl;have e2:(Kj n.st).to=ofT n.st.to:=rfl;have e3:(Kj n.st).e=ofT n.st.e:=rfl;have e4:(Kj n.st).ca=ofT n.st.ca:=rfl;have e5:(Kj n.st).cb=ofT n.st.cb:=rfl;rw [e0,e1,e2,e3,e4,e5,hto,hlo,wA,wA,wA,wA]
 by_cases k1:n.st.kind=1
 ·rw [if_pos k1,if_pos k1]
 rw [if_neg k1,if_neg k1]
 by_cases k2:n.st.kind=2
 ·rw [if_pos k2,if_pos k2]
 rw [if_neg k2,if_neg k2]
 by_cases k3:n.st.kind=3
 ·simp [k3]
 rw [if_neg k3]
 by_cases k5:n.st.kind=5
 ·simp [k5]
 rw [if_neg k5]
 by_cases k8:n.st.kind=8
 ·simp [k8]
 by_cases k9:n.st.kind=9
 ·simp [k9]
 simp [k3,k5,k8,k9]
theorem zCu (n:Nd) (act:List (List UInt8)) (s:Ck):dkN n act s =
  if n.st.kind=5 then dkL n.els act (dkL n.body act (hdD n act s))
  else if n.st.kind=3 then dkL n.body (act++[n.st.name]) (hdD n act s)
  else hdD n act s:=by
 rw [zBR];unfold hdD
 by_cases k1:n.st.kind=1
 ·simp [k1]
 by_cases k2:n.st.kind=2
 ·simp [k2]
 by_cases k8:n.st.kind=8
 ·simp [k8]
 by_cases k9:n.st.kind=9
 ·simp [k9]
 by_cases k5:n.st.kind=5
 ·simp [k5]
 by_cases k3:n.st.kind=3
 ·simp [k3]
 simp [k1,k2,k3,k5,k8,k9]
theorem zA7 {p d:Ck} (e:p.base=d.base):p.bad=d.bad∧p.syms=d.syms∧p.cells=d.cells :=⟨(congrArg Ck.bad e:p.base.bad=d.base.bad),(congrArg Ck.syms e:p.base.syms=d.base.syms),(congrArg Ck.cells e:p.base.cells=d.base.cells)⟩
def ends (p d:Ck):Prop:=p.bad=d.bad∧(d.bad=none→p.base=d.base)
theorem zB1 {l:List Nd} {act:List (List UInt8)} {p d:Ck} (h:ends p d) (ih:p.bad=none→ends (ckL (B5 l) p) (dkL l act p)):ends (ckL (B5 l) p) (dkL l act d):=by
 obtain ⟨h1,h2⟩:=h;cases hb:d.bad with
 |some e =>rw [hb] at h1;rw [zAf l act hb];exact ⟨(zCt _ h1).trans hb.symm,fun h=>by rw [hb] at h;cases h⟩
 |none =>
  rw [hb] at h1;obtain ⟨k1,k2⟩:=ih h1;have e:(dkL l act p).base=(dkL l act d).base:=by rw [l5,l5,h2 hb]
  have eb:(dkL l act p).bad=(dkL l act d).bad:=(zA7 e).1;exact ⟨k1.trans eb,fun h=>(k2 (eb.trans h)).trans e⟩
theorem zBX (p:Ck):ends p p:=⟨rfl,fun _=>rfl⟩
mutual
theorem zCv:∀(n:Nd) {top:Bool} (W:Ck),okD top n→W.bad=none →
  ends (ckN (toN n) W) (if n.st.kind=5 then dkL n.els W.held (dkL n.body W.held W) else if n.st.kind=3 then dkL n.body (W.held++[n.st.name]) W else W)
 |.mk l e x b c m,top,W,hw,hb=>by
  rw [okD] at hw;obtain ⟨_,_,w4,w5,w2,w3⟩:=hw;rw [toN,ckN]
  show ends (if x.kind=3 then _ else _) (if x.kind=5 then dkL c W.held (dkL b W.held W) else if x.kind=3 then dkL b (W.held++[x.name]) W else W)
  by_cases k5:x.kind=5
  ·rw [if_neg (by omega),if_pos k5]
   have h1:=zAg b W w4 hb;refine zB1 (l:=c) h1 fun hn => ?_
   have:=zAg c (ckL (B5 b) W) w5 hn
   rwa [zAV] at this
  ·rw [if_neg k5]
   have hc:=w2 k5;subst hc
   by_cases k3:x.kind=3
   ·rw [if_pos k3,if_pos k3]
    have hp:(W.push x.name).bad=none:=hb;have h1:=zAg b (W.push x.name) w4 hp;have hh:(W.push x.name).held=W.held++[x.name]:=rfl;rw [hh] at h1
    have e:(dkL b (W.held++[x.name]) (W.push x.name)).base=(dkL b (W.held++[x.name]) W).base:=by rw [l5,l5];rfl
    have eb:(dkL b (W.held++[x.name]) (W.push x.name)).bad=(dkL b (W.held++[x.name]) W).bad:=(zA7 e).1;have zET:(Kj x).name=x.name:=rfl;rw [zET,B5,ckL];exact ⟨h1.1.trans eb,fun h=>(h1.2 (eb.trans h)).trans e⟩
   ·rw [if_neg k3,if_neg k3]
    have hbb:=w3 k5 k3;subst hbb;rw [B5,ckL,ckL];exact zBX W
theorem zAg:∀(l:List Nd) {top:Bool} (s:Ck),SY top l→s.bad=none→ends (ckL (B5 l) s) (dkL l s.held s)
 |[],top,s,_,_=>by rw [B5,ckL,dkL];exact zBX s
 |n::r,top,s,hw,hb=>by
  rw [SY] at hw;have hl:(toN n).line=n.line:=by cases n;rw [toN];rfl
  have oS:(toN n).st=Kj n.st:=by cases n;rw [toN];rfl
  have hd:dkL (n::r) s.held s=dkL r s.held (dkN n s.held s):=by rw [dkL,if_neg (by rw [hb];decide)]
  rw [hd,zCu,B5,ckL,hl,oS,zB0];have hh:(hdD n s.held s).held=s.held:=by rw [←zB0];exact zBw _ _
  generalize hdD n s.held s=W at *;cases hW:W.bad with
  |some e =>
   rw [if_pos (show (some e).isSome=true from rfl),zAf n.body _ hW,zAf n.body _ hW,zAf n.els _ hW]
   have:(if n.st.kind=5 then W else if n.st.kind=3 then W else W)=W:=by
    split
    ·rfl
    ·split<;>rfl
   rw [this,zAf r _ hW];exact zBX W
  |none =>
   rw [if_neg (by decide)];have h1:=zCv n W hw.1 hW;rw [hh] at h1;refine zB1 (l:=r) h1 fun hn => ?_
   have:=zAg r (ckN (toN n) W) hw.2 hn
   rwa [zBx,hh] at this
end
theorem zCw (l:List Nd) {top:Bool} (h:SY top l):G7 (B5 l)=gt l:=by
 obtain ⟨h1,h2⟩:=zAg l ck0 h rfl;have hh:ck0.held=[]:=rfl;rw [hh] at h1 h2;unfold G7 gt;rw [h1];generalize ckL (B5 l) ck0=p at *;generalize dkL l [] ck0=d at *;cases hb:d.bad with
 |some e=>rfl
 |none =>have e:=h2 hb;have e1:=(zA7 e).2.1;have e2:=(zA7 e).2.2;simp only [e1,e2]
def gE (e:Ex):Prop:=okT e.tn=true∧vT1 e.tn=true
def gTs (l:List Ex):Prop:=KW (Ex.tns l)=true∧vTs (Ex.tns l)=true
def gER (f:Rd):Prop:=∀r,gE (f r).1
theorem Ky:gE .none:=⟨rfl,rfl⟩
theorem zB2 {k:Nat} {a b:Ex} (hk:k≠2) (ha:gE a) (hb:gE b):gE (.bin k a b):=⟨zDQ ha.1 hb.1,by
 have:¬((k:Int)=2):=by omega
 simp [Ex.tn,vT1,vTs,ha.2,hb.2,this]⟩
theorem zBY:∀{a:List Ex} {e:Ex},gTs a→gE e→gTs (a++[e])
 |[],e,_,h=>by simp [gTs,Ex.tns,KW,vTs,h.1,h.2]
 |x::a,e,h,k=>by simp only [gTs,Ex.tns,KW,vTs,Bool.and_eq_true] at h;have:=zBY (a:=a) ⟨h.1.2,h.2.2⟩ k;simp only [gTs,List.cons_append,Ex.tns,KW,vTs,Bool.and_eq_true];exact ⟨⟨h.1.1,this.1⟩,h.2.1,this.2⟩
theorem zAq {ts:List Wd} {of:Rd} (h:gER of) {f:List UInt8} {one:Nat} {s:List UInt8} {two:Nat} (h1:one≠2) (h2:two≠2):∀(n:Nat) (e:Ex) (r:St),gE e→gE (Cs ts of f one s two n e r).1
 |0,e,r,he=>he
 |n+1,e,r,he=>by
  simp only [Cs]
  split
  ·exact zAq h h1 h2 n _ _ (zB2 h1 he (h _))
  ·split
   ·exact zAq h h1 h2 n _ _ (zB2 h2 he (h _))
   ·exact he
theorem zB3 {ts:List Wd} {of:Rd} (h:gER of):gER (Bq ts of):=fun r =>zAq (fun r=>zAq h (by decide) (by decide) _ _ _ (h r)) (by decide) (by decide) _ _ _ (zAq h (by decide) (by decide) _ _ _ (h r))
theorem zB4 {ts:List Wd} {sum:Rd} (h:gER sum):∀(n:Nat) (a:List Ex) (r:St),gTs a→gTs (Dv ts sum n a r).1∧(Dv ts sum n a r).1.length≤a.length+n
 |0,a,r,ha=>⟨ha,Nat.le_refl _⟩
 |n+1,a,r,ha=>by
  simp only [Dv]
  split
  ·split
   ·exact ⟨ha,by simp only;omega⟩
   ·obtain ⟨h2,h3⟩:=zB4 h n (a++[(sum r.step).1]) (sum r.step).2 (zBY ha (h r.step))
    refine ⟨h2,?_⟩;rw [List.length_append] at h3;simp only [List.length_cons,List.length_nil] at h3;exact Nat.le_trans h3 (by omega)
  ·exact ⟨ha,by simp only;omega⟩
theorem zB5 {ts:List Wd} {sum:Rd} (h:gER sum) (s:List UInt8) (r:St):gE (Ex.elem s (C9 ts sum r).1):=by
 unfold C9;have h0:=h r;obtain ⟨h1,h2⟩:=zB4 h (ts:=ts) 5 [(sum r).1] (sum r).2 (zBY (a:=[]) ⟨rfl,rfl⟩ h0);simp only [List.length_cons,List.length_nil] at h2;have h3:(Dv ts sum 5 [(sum r).1] (sum r).2).1.length<4294967296:=by omega
 simp [gE,Ex.tn,okT,vT1,LS,h1.1,h1.2,h3]
 try omega
theorem zCx {ts:List Wd} {sum fac:Rd} (h:gER sum) (hf:gER fac):gER (CN ts sum fac):=fun r=>by
 unfold CN
 split
 ·split
  ·exact ⟨rfl,rfl⟩
  ·split
   ·split
    ·exact zB5 h _ _
    ·exact ⟨rfl,rfl⟩
   ·split
    ·split
     ·exact Ky
     ·split
      ·have:=hf ⟨r.step.at_,r.step.deep+1,r.step.err⟩
       simp [gE,Fl,Ex.tn,okT,KW,vT1,vTs,this.1,this.2]
      ·exact h _
    ·exact Ky
 ·exact Ky
theorem zBZ (ts:List Wd):∀n,gER (Ax ts n)
 |0=>fun _=>Ky
 |n+1=>zCx (zB3 (zBZ ts n)) (zBZ ts n)
theorem zA8 (ts:List Wd):gER (Bv ts):=zB3 (zBZ ts _)
theorem zA9 (ts:List Wd) (r:Sr):gE (CD ts r).1:=by
 unfold CD
 split
 ·exact Ky
 ·rw [←S9]
  unfold K9
  split
  ·exact zA8 _ _
  ·exact Ky
theorem zBA (ts:List Wd) (r:Sr):gE (CV ts r).1∧((CV ts r).1.tn.k≠3→(CV ts r).1.tn.kids=[]):=by
 unfold CV
 split
 ·split
  ·exact ⟨zB5 (zA8 _) _ _,fun h=>absurd rfl h⟩
  ·exact ⟨⟨rfl,rfl⟩,fun _=>rfl⟩
 ·exact ⟨Ky,fun _=>rfl⟩
theorem zB6 (ts:List Wd) (r:Sr):gE (Ip ts r).1.2.1∧gE (Ip ts r).1.2.2:=by
 unfold Ip
 split
 ·exact ⟨Ky,Ky⟩
 ·rw [←TB]
  unfold LA
  split
  ·exact ⟨Ky,Ky⟩
  ·split
   ·exact ⟨zA8 _ _,zA8 _ _⟩
   ·exact ⟨Ky,Ky⟩
theorem zBa {ts:List Wd} {r:Sr} {k:Nat} {s:List UInt8} (h:isW ts r k s=true):r.err=none:=by simp only [isW,Bool.and_eq_true,Option.isNone_iff_eq_none] at h;exact h.1
theorem zB7 {ts:List Wd}:∀(n:Nat) (d:List Int) (r:Sr),(∀x∈d,1≤x)→(ES ts n d r).2.err=none→(∀x∈(ES ts n d r).1,1≤x)∧(ES ts n d r).1.length≤d.length+n
 |0,d,r,hd,_=>⟨hd,Nat.le_refl _⟩
 |n+1,d,r,hd,h=>by
  rw [ES] at h ⊢;generalize (if 4≤d.length then r.fail (r.at_-1) 4 else r)=r1 at *;generalize Ci ts r1=m at *
  have hm:(if m.2.err=none∧m.1=0 then m.2.fail r1.at_ 1 else m.2).err=none→(∀x∈d++[(m.1:Int)],1≤x):=fun he=>by
   split at he
   ·cases he
   ·rename_i hc
    have:m.1≠0:=fun h0=>hc ⟨he,h0⟩
    intro x hx;rcases List.mem_append.1 hx with hx|hx
    ·exact hd x hx
    ·rw [List.mem_singleton.1 hx];omega
  generalize (if m.2.err=none∧m.1=0 then m.2.fail r1.at_ 1 else m.2)=r2 at *
  split at h
  ·rename_i hw
   rw [if_pos hw];obtain ⟨h1,h2⟩:=zB7 n _ _ (hm (zBa hw)) h;refine ⟨h1,?_⟩;rw [List.length_append,List.length_singleton] at h2;omega
  ·rename_i hw
   rw [if_neg hw];refine ⟨hm h,?_⟩;simp only [List.length_append,List.length_singleton];omega
def gI (y:It):Prop:=y.dims.length<4294967296∧∀d∈y.dims,1≤d
theorem zCy {ts:List Wd} {r:Sr} (h:(CT ts r).2.err=none):gI (CT ts r).1:=by
 unfold CT at h ⊢;simp only at h ⊢
 split at h
 ·rename_i hw
  rw [if_pos hw]
  have h2:(ES ts 6 [] (CJ ts r).2.step).2.err=none:=by
   unfold Bt at h
   split at h
   ·exact zBa ‹_›
   ·cases h
  obtain ⟨h3,h4⟩:=zB7 6 [] _ (fun _ h=>nomatch h) h2;simp only [List.length_nil] at h4;exact ⟨by show (ES ts 6 [] (CJ ts r).2.step).1.length<_;omega,h3⟩
 ·rename_i hw
  rw [if_neg hw];exact ⟨by show 0<_;decide,fun _ h=>nomatch h⟩
theorem zB8 {ts:List Wd}:∀(n:Nat) (l:List It) (r:Sr),(∀y∈l,gI y)→(Fy ts n l r).2.err=none→(∀y∈(Fy ts n l r).1,gI y)∧(Fy ts n l r).1.length≤l.length+n
 |0,l,r,hl,_=>⟨hl,Nat.le_refl _⟩
 |n+1,l,r,hl,h=>by
  have h2:(CT ts r).2.err=none→∀y∈l++[(CT ts r).1],gI y:=fun he y hy=>by
   rcases List.mem_append.1 hy with hy|hy
   ·exact hl y hy
   ·rw [List.mem_singleton.1 hy];exact zCy he
  rw [Fy] at h ⊢
  split at h
  ·rename_i hw
   rw [if_pos hw];obtain ⟨h3,h4⟩:=zB8 n _ _ (h2 (zBa hw)) h;rw [List.length_append,List.length_singleton] at h4;exact ⟨h3,by omega⟩
  ·rename_i hw
   rw [if_neg hw];refine ⟨h2 h,?_⟩;simp only [List.length_append,List.length_singleton];omega
theorem SdT.mk' {m:Sm} (h1:gE m.to) (h2:m.to.tn.k≠3→m.to.tn.kids=[]) (h3:gE m.e) (h4:gE m.ca) (h5:gE m.cb) (h6:gE m.lo) (h7:gE m.hi) (h8:m.items.length<4294967296) (h9:∀y∈m.items,gI y):SdT m.x :=⟨⟨h1.1,h3.1,h4.1,h5.1,h6.1,h7.1,h8,fun y hy=>(h9 y hy).1⟩,h1.2,h2,h3.2,h4.2,h5.2,h6.2,h7.2,fun y hy=>(h9 y hy).2⟩
theorem SdT.kind (k:Nat):SdT ({kind:=k}:Sm).x:=SdT.mk' Ky (fun _=>rfl) Ky Ky Ky Ky Ky (show 0<4294967296 by decide) fun _ h=>nomatch h
theorem zCz (ts:List Wd) (oK:ts.length<1000000) (w:List UInt8) (r:Sr) (he:(Cf ts w r).2.err=none):SdT (Cf ts w r).1.x:=by
 have h0:([]:List It).length<4294967296:=by decide
 have hn:∀y∈([]:List It),gI y:=fun _ h=>nomatch h
 unfold Cf at he ⊢
 by_cases c1:w=IW
 ·rw [if_pos c1] at he ⊢
  obtain ⟨h1,h2⟩:=zB8 (ts.length+1) [] r hn he;simp only [List.length_nil] at h2;exact SdT.mk' Ky (fun _=>rfl) Ky Ky Ky Ky Ky (by show (GQ ts r).1.length<_;unfold GQ;omega) h1
 rw [if_neg c1]
 by_cases c2:w=doT
 ·rw [if_pos c2];exact SdT.mk' Ky (fun _=>rfl) Ky Ky Ky (zA9 _ _) (zA9 _ _) h0 hn
 rw [if_neg c2]
 by_cases c3:w=HJ
 ·rw [if_pos c3]
  split
  ·exact SdT.kind 4
  ·exact SdT.kind 7
 rw [if_neg c3]
 by_cases c4:w=ifT
 ·rw [if_pos c4];exact SdT.mk' Ky (fun _=>rfl) Ky (zB6 _ _).1 (zB6 _ _).2 Ky Ky h0 hn
 rw [if_neg c4]
 by_cases c5:w=IX
 ·rw [if_pos c5];exact SdT.kind 6
 rw [if_neg c5]
 by_cases c6:w=IY
 ·rw [if_pos c6];exact SdT.mk' (zBA _ _).1 (zBA _ _).2 Ky Ky Ky Ky Ky h0 hn
 rw [if_neg c6]
 split
 ·exact SdT.mk' Ky (fun _=>rfl) (zA9 _ _) Ky Ky Ky Ky h0 hn
 ·exact SdT.kind 0
theorem zC0 (s:List UInt8) (hs:s.length<1000000):SdT (E2 s).1.x:=by
 unfold E2;cases hl:lex (s.length+1) s 0 false with
 |error x=>exact SdT.kind 0
 |ok ts =>
  have oK:=UR hs hl;simp only;unfold Lb;cases ts with
  |nil=>exact SdT.kind 0
  |cons w r =>
   simp only
   split
   ·exact SdT.kind 0
   ·rename_i he
    have hx:(ET (w::r) w).2.err=none:=by
     split at he
     ·cases he
     ·exact he
    unfold ET at hx ⊢
    by_cases c1:w.kind=4
    ·rw [if_pos c1] at hx ⊢
     exact zCz _ oK _ _ hx
    rw [if_neg c1]
    split
    ·exact SdT.mk' (zBA _ _).1 (zBA _ _).2 (zA9 _ _) Ky Ky Ky Ky (show 0<4294967296 by decide) fun _ h=>nomatch h
    ·exact SdT.kind 0
theorem zBB {b:Bool}:∀{l:List Nd} {n:Nd},SY b l→okD b n→SY b (l++[n])
 |[],n,_,h=>by rw [List.nil_append,SY];exact ⟨h,by rw [SY];trivial⟩
 |m::l,n,h,k=>by rw [SY] at h;rw [List.cons_append,SY];exact ⟨h.1,zBB h.2 k⟩
theorem m5 {b:Bool}:SY b []:=by rw [SY];trivial
theorem zBC:∀(l:List Nd) (n:Nd),szL (l++[n])=szL l+szN n
 |[],n=>by simp only [List.nil_append,szL];omega
 |m::l,n=>by rw [List.cons_append,szL,szL,zBC l n];omega
theorem zB9 {b:Bool} {x:Sx} (h:SdT x) (k:b=false→x.kind≠1) (l:Nat):okD b (Nd.leaf l x):=by unfold Nd.leaf;rw [okD];exact ⟨h,k,m5,m5,fun _=>rfl,fun _ _=>rfl⟩
theorem zCA (l:Nat) (x:Sx):szN (Nd.leaf l x)=1:=by unfold Nd.leaf;rw [szN,szL]
theorem zC1 (Z:Zs) (s:Bst):s.at_≤(EU Z s).at_:=by rw [zDS];unfold DV;omega
def BkG (Z:Zs) (of:Int) (s:Bst) (z:Nat) (r:List Nd × Bst):Prop :=SY (decide (of=0)) r.1∧szL r.1+s.at_≤z+r.2.at_∧(r.2.bad=none→∀z,Z[r.2.at_]? = some z→z.1.kind=6→of=5)
theorem zAr {Z:Zs} (hZ:∀z∈Z,SdT z.1) {nest:Nat→Sx→Bst→Nd × Bst} {top:Bool} (of:Int)
  (hN:top=false→∀l x s,SdT x→x.kind=3∨x.kind=5→(∀b,okD b (nest l x s).1)∧((nest l x s).2.bad=none→szN (nest l x s).1+s.at_≤(nest l x s).2.at_)∧s.at_≤(nest l x s).2.at_) (beg:Nat) :
  ∀(f:Nat) (s:Bst) (out:List Nd),SY (decide (of=0)) out→BkG Z of s (szL out) (Ej Z nest top of beg f s out)
 |0,s,out,h=>⟨h,Nat.le_refl _,fun hb=>absurd hb (Bst.fail_bad s _ _)⟩
 |f+1,s0,out,h=>by
  have hs:=zC1 Z s0;unfold Ej;generalize EU Z s0=s at *;simp only;have stop:∀p c,BkG Z of s0 (szL out) (out,s.fail p c):=fun p c=>⟨h,by show szL out+s0.at_≤szL out+s.at_;omega,fun hb=>absurd hb (Bst.fail_bad s p c)⟩
  have back:∀{r s1 z1},BkG Z of s1 z1 r→z1+s0.at_≤szL out+s1.at_→BkG Z of s0 (szL out) r:=fun hr hz=>⟨hr.1,by have:=hr.2.1;omega,hr.2.2⟩
  split
  ·rename_i hb
   exact ⟨h,by show szL out+s0.at_≤szL out+s.at_;omega,fun hn=>by have hn:s.bad=none:=hn;rw [hn] at hb;cases hb⟩
  ·split
   ·rename_i hz
    split
    ·exact ⟨h,by show szL out+s0.at_≤szL out+s.at_;omega,fun _ z pJ=>by have pJ:Z[s.at_]? = some z:=pJ;rw [hz] at pJ;cases pJ⟩
    ·exact stop _ _
   ·rename_i z hz
    have hx:=hZ z (List.mem_of_getElem? hz)
    have zEK:∀(c:Prop) [Decidable c] p e,(c→z.1.kind≠6∨of=5)→BkG Z of s0 (szL out) (out,if c then s else s.fail p e):=fun c _ p e hc=>by
     split
     ·rename_i hcc
      exact ⟨h,by show szL out+s0.at_≤szL out+s.at_;omega,fun _ z2 pJ h6=>by
       have pJ:Z[s.at_]? = some z2:=pJ;rw [hz] at pJ;injection pJ with pJ;subst pJ;rcases hc hcc with h|h
       ·exact absurd h6 h
       ·exact h⟩
     ·exact stop _ _
    split
    ·exact zEK _ _ _ fun _ => .inl (by omega)
    ·split
     ·exact zEK _ _ _ fun _ => .inl (by omega)
     ·split
      ·exact zEK _ _ _ fun h => .inr h
      ·split
       ·split
        ·exact stop _ _
        ·rename_i hc
         have vn:of=0:=Classical.byContradiction fun hn=>hc (.inr hn)
         refine back (zAr hZ of hN beg f _ _ (zBB h (zB9 hx (fun hf=>by simp [vn] at hf) _))) ?_;rw [zBC,zCA];simp only;omega
       ·rename_i hk1
        split
        ·rename_i hk
         split
         ·exact ⟨h,by show szL out+s0.at_≤szL out+s.at_;omega,fun hb=>absurd hb (Bst.fail_bad _ _ _)⟩
         ·rename_i zEH
          obtain ⟨n1,n2,n3⟩:=hN (by simpa using zEH) s.at_ z.1 ⟨s.at_,s.bad,true⟩ hx hk;simp only at n2 n3
          split
          ·rename_i hb
           exact ⟨h,by show szL out+s0.at_≤szL out+(nest s.at_ z.1 ⟨s.at_,s.bad,true⟩).2.at_;omega,fun hn=>by
            have hn:(nest s.at_ z.1 ⟨s.at_,s.bad,true⟩).2.bad=none:=hn
            rw [hn] at hb;cases hb⟩
          ·rename_i hb
           have hb':(nest s.at_ z.1 ⟨s.at_,s.bad,true⟩).2.bad=none:=by simpa using hb
           have n2:=n2 hb';refine back (zAr hZ of hN beg f _ _ (zBB h (n1 _))) ?_;rw [zBC];omega
        ·refine back (zAr hZ of hN beg f _ _ (zBB h (zB9 hx (fun _=>hk1) _))) ?_
         rw [zBC,zCA];simp only;omega
theorem zC2 {Z:Zs} {blk:Int→Nat→Bst→List Nd × Bst} (hb:∀of beg s,BkG Z of s 0 (blk of beg s)) (l:Nat) (x:Sx) (s:Bst) (hx:SdT x) (hk:x.kind=3∨x.kind=5) :
  (∀b,okD b (HZ Z blk l x s).1)∧((HZ Z blk l x s).2.bad=none→szN (HZ Z blk l x s).1+s.at_≤(HZ Z blk l x s).2.at_)∧s.at_≤(HZ Z blk l x s).2.at_:=by
 have k1:¬x.kind=1:=by omega
 have k0:decide (x.kind=0)=false:=by simp;omega
 have key:∀(B C:List Nd) (e m:Int),SY false B→SY false C→(x.kind=3→C=[])→∀b,okD b (Nd.mk l e x B C m):=fun B C e m h1 h2 h3 b=>by rw [okD];exact ⟨hx,fun _=>k1,h1,h2,fun h=>h3 (by omega),fun h h'=>by omega⟩
 obtain ⟨b1,b2,b3⟩:=hb x.kind l ⟨s.at_+1,s.bad,s.plain⟩;rw [k0] at b1;simp only at b2;unfold HZ;simp only;generalize blk x.kind l ⟨s.at_+1,s.bad,s.plain⟩=b at *
 split
 ·rename_i hbb
  exact ⟨key _ _ _ _ b1 m5 fun _=>rfl,fun h=>(by have h:b.2.bad=none:=h;rw [h] at hbb;cases hbb),by simp only;omega⟩
 ·rename_i hbb
  have hbb:b.2.bad=none:=by simpa using hbb
  split
  ·exact ⟨key _ _ _ _ b1 m5 fun _=>rfl,fun _=>by rw [szN,szL];simp only;omega,by simp only;omega⟩
  ·rename_i z hz
   split
   ·rename_i h6
    have h5:=b3 hbb z hz h6;obtain ⟨c1,c2,c3⟩:=hb 6 l ⟨b.2.at_+1,b.2.bad,b.2.plain⟩;have c1:SY false (blk 6 l ⟨b.2.at_+1,b.2.bad,b.2.plain⟩).1:=c1;simp only at c2;generalize blk 6 l ⟨b.2.at_+1,b.2.bad,b.2.plain⟩=c at *
    split
    ·rename_i hcb
     exact ⟨key _ _ _ _ b1 c1 fun h=>by omega,fun h=>(by have h:c.2.bad=none:=h;rw [h] at hcb;cases hcb),by simp only;omega⟩
    ·exact ⟨key _ _ _ _ b1 c1 fun h=>by omega,fun _=>by rw [szN];simp only;omega,by simp only;omega⟩
   ·exact ⟨key _ _ _ _ b1 m5 fun _=>rfl,fun _=>by rw [szN,szL];simp only;omega,by simp only;omega⟩
theorem zCB {Z:Zs} (hZ:∀z∈Z,SdT z.1):∀k of beg s,BkG Z of s 0 (E4 Z k of beg s)
 |0,of,beg,s=>zAr hZ of (fun h=>by cases h) beg _ s [] m5
 |k+1,of,beg,s=>zAr hZ of (fun _ l x s hx hk=>zC2 (zCB hZ k) l x s hx hk) beg _ s [] m5
theorem zC3 (ls:List (List UInt8)) (xi:ls.length<1000000) (hl:∀s∈ls,s.length<1000000) (h:(FW ls).2=none):SY true (FW ls).1∧szL (FW ls).1≤ls.length:=by
 have hT:∀z∈Cg ls,SdT z.1:=fun z hz=>by obtain ⟨s,hs,rfl⟩:=List.mem_map.1 hz;refine zC0 (CC s) ?_;have:=hl s hs;have h1:=QL s;unfold CC;rw [List.length_take];omega
 obtain ⟨h0,h1,_⟩:=zCB hT 8 0 0 ⟨0,none,false⟩;have h2:=((Lj (lB xi) 8).goes 0 0 ⟨0,none,false⟩).len (Nat.zero_le _);rw [Vg] at h2;unfold FW at h ⊢;generalize E4 (Cg ls) 8 0 0 ⟨0,none,false⟩=r at *;simp only at h h1 ⊢
 split at h
 ·cases h
 ·exact ⟨h0,by simp only;omega⟩
theorem zC4 {x:Sx} (h:SxT x):SxT (Kj x):=⟨wf _ h.to,wf _ h.e,wf _ h.ca,wf _ h.cb,wf _ h.lo,wf _ h.hi,h.items,h.dims⟩
mutual
theorem zC5:∀(n:Nd) {b:Bool},okD b n→okN n∧okN (toN n)∧szN (toN n)=szN n
 |.mk l e x B C m,b,h=>by rw [okD] at h;obtain ⟨b1,b2,b3⟩:=zBD B h.2.2.1;obtain ⟨c1,c2,c3⟩:=zBD C h.2.2.2.1;rw [toN,okN,okN,szN,szN,b3,c3];exact ⟨⟨h.1.t,b1,c1⟩,⟨zC4 h.1.t,b2,c2⟩,rfl⟩
theorem zBD:∀(l:List Nd) {b:Bool},SY b l→Db l∧Db (B5 l)∧szL (B5 l)=szL l
 |[],b,_=>by rw [B5,Db];exact ⟨trivial,trivial,rfl⟩
 |n::r,b,h=>by rw [SY] at h;obtain ⟨b1,b2,b3⟩:=zC5 n h.1;obtain ⟨c1,c2,c3⟩:=zBD r h.2;rw [B5,Db,Db,szL,szL,b3,c3];exact ⟨⟨b1,c1⟩,⟨b2,c2⟩,rfl⟩
end
def l6 (s:Ck):Prop:=∀y∈s.syms,y.dims.length<4294967296
theorem zCC:∀(l:List It) {s:Ck},(∀y∈l,y.dims.length<4294967296)→l6 s→l6 (EB l s)
 |[],s,_,h=>h
 |x::l,s,hl,h=>by
  rw [EB];refine zCC l (fun y hy=>hl y (List.mem_cons_of_mem _ hy)) ?_;unfold Ck.item
  split
  ·exact h
  ·rcases Wm s x with e|⟨z,_,_,e⟩
   ·show l6 ((s.decl x).1.fail _);rw [e];exact h
   ·show l6 ((s.decl x).1.fail _);rw [e]
    intro y hy;rcases List.mem_append.1 hy with hy|hy
    ·exact h y hy
    ·rw [List.mem_singleton.1 hy];exact hl x List.mem_cons_self
theorem zC6 {top:Bool} (n:Nd) (act:List (List UInt8)) {s:Ck} (ho:okD top n) (h:l6 s):l6 (dkN n act s):=by
 by_cases k1:n.st.kind=1
 ·rw [zBR,if_pos k1]
  exact zCC _ (zBn ho).1.t.dims h
 ·have h2:okD false n:=by
   cases n with
   |mk l e x b c m =>rw [okD] at ho ⊢;exact ⟨ho.1,fun _=>k1,ho.2.2⟩
  unfold l6;rw [zBr n act s h2];exact h
theorem zCD {top:Bool}:∀(l:List Nd) (act:List (List UInt8)) {s:Ck},SY top l→l6 s→l6 (dkL l act s)
 |[],act,s,_,h=>by rw [dkL];exact h
 |n::r,act,s,ho,h=>by
  rw [SY] at ho;rw [dkL]
  split
  ·exact h
  ·exact zCD r act ho.2 (zC6 n act ho.1 h)
theorem zC7 {l:List Nd} {top:Bool} (ho:SY top l):(gt l).1.length<1000000∧(∀y∈(gt l).1,y.dims.length<4294967296)∧∀a e,(gt l).2.2=some (a,e)→e≠0:=by
 have h1:=l4 l [] zBT;have h2:=zCD l [] ho (fun y hy=>nomatch hy:l6 ck0);unfold gt;cases hb:(dkL l [] ck0).bad with
 |some e=>exact ⟨(by show 0<_;decide),(fun _ h=>nomatch h),fun a x h=>h1.bad a x (hb.trans h)⟩
 |none=>exact ⟨zAy h1,h2,fun _ _ h=>by cases h⟩
@[simp] theorem buTd1 (c:Int):Aq zP 42 [(1,.int .i64 c)]=some (.agg [.nilSlice,.int .i64 c]):=by kernel_rfl
@[simp high] theorem zDk (l:List Sy):alen zP 31 (syE.av l)=some (.int .i64 l.length):=syE.alen Tryz.underlying31 l
@[simp high] theorem zDl {l:List Sy} {i:Nat} (h:i<l.length):Ao zP 31 (syE.av l) (.int .i64 (i:Int))=some (.vptr (syE.row l) (i*4)):=syE.aidx Tryz.underlying31 (by kernel_rfl) h
@[simp] theorem zDm:AJ.imm 33=false:=by decide
theorem zCE {l:List Sy} {i:Nat} {y:Sy} (h:l[i]? = some y):(syE.row l)[i*4]? = some (.str y.name)∧(syE.row l)[i*4+1]? = some (AN.av y.dims)∧(syE.row l)[i*4+2]? = some (.int .i64 y.at_)∧(syE.row l)[i*4+3]? = some (.int .i64 y.size) :=⟨syE.row_cell h 0 (by decide),syE.row_cell h 1 (by decide),syE.row_cell h 2 (by decide),syE.row_cell h 3 (by decide)⟩
def OsH (l:List Sy) (c:Int) (i:Nat):AH:=[some (.box [syE.av l,.int .i64 c]),some (.box [.nilSlice,.int .i64 0]),some (.box [syE.tk 3 (l.take i),.int .i64 c]),AO (l.take i)]
def OsI (l:List Sy) (c:Int) (k:Nat) (t:List AV) (H:AH):Prop:=∃i,i+k=l.length∧t=mkT 46 [(1,.ptr 0 0),(2,.ptr 1 0),(3,.ptr 2 0),(4,.int .i64 (i:Int))]∧H=OsH l c i
theorem zCF (l:List Sy) (c:Int) (i:Nat):AU 4 (OsH l c i)=true:=by have h1:=syE.tk_low (k:=3) (m:=4) (by decide) (l.take i);simp only [OsH,AU,Kf,Bool.and_true];simp [At,h1]
theorem zC8 (l:List Sy) (hl:l.length<1000000) (c:Int) (H:AH):CS zP AJ 15 [.agg [syE.av l,.int .i64 c]] H (.agg [syE.av l,.int .i64 c]) H:=by
 refine CS.tr0 Bh Tryz.func15 (by kernel_rfl) 0 (by simp [Tryz.f15]) (fun B hB hG => ?_) (by simp) (by simp) H;refine Tr.goD GI hG ?_;simp [Tryz.f15];refine LpD.loopN GI hG (OsI l c) l.length (t':=mkT 46 [(1,.ptr 0 0),(2,.ptr 1 0),(3,.ptr 2 0),(4,.int .i64 ((0:Nat):Int))]) (H':=OsH l c 0) ?_ ⟨0,by omega,rfl,rfl⟩ ?_
 ·exact AD.mkVH 1000 (fun i=>if i=3 then 100 else i) 4 (by simp [hB]) (by
   intro i j hi hj he;have he:(if i=3 then 100 else i)=(if j=3 then 100 else j):=he
   split at he<;>split at he<;>omega) (by intro i hi;rw [hB] at hi;simp at hi) rfl (by
   intro i hi
   rcases (by omega:i=0∨i=1∨i=2∨i=3) with rfl|rfl|rfl|rfl<;>simp [OsH,AH.at,AI,AL,ren,Enc.av_ren]) (zCF l c 0) (by
   intro p hp;simp only [List.mem_cons,List.not_mem_nil,or_false] at hp
   rcases hp with rfl|rfl|rfl|rfl<;>simp [low,Fw.strip,ren])
 rintro k t H ⟨i,oQ,rfl,rfl⟩
 by_cases hi:i<l.length
 ·obtain ⟨k,rfl⟩:∃j,k=j+1:=⟨k-1,by omega⟩
  have hi':(i:Int)<l.length:=by omega
  obtain ⟨y,hy⟩:∃y,l[i]? = some y:=⟨_,List.getElem?_eq_getElem hi⟩
  obtain ⟨g0,g1,g2,g3⟩:=zCE hy;have wi:IntKind.i64.wrap ((i:Int)+1)=((i+1:Nat):Int):=by rw [Ab (by omega) (by omega)];omega
  have oe:l.take (i+1)=l.take i++[y]:=by rw [List.take_add_one,hy];rfl
  have ox:(l.take i).length=i:=by rw [List.length_take];omega
  have hI:OsI l c k (mkT 46 [(1,.ptr 0 0),(2,.ptr 1 0),(3,.ptr 2 0),(4,.int .i64 ((i+1:Nat):Int))]) (OsH l c (i+1)):=⟨i+1,by omega,rfl,rfl⟩
  have p8:=zCF l c (i+1);have e4:syE.sz=4:=rfl;simp [OsH,hi,hi',-Int.natCast_add];refine LpD.turns GI hG [28,30] [] ?_
  by_cases h0:i=0
  ·have zD5:l.take i=[]:=by rw [h0];rfl
   have e0:syE.tk 3 (l.take i) = .nilSlice:=by rw [zD5];rfl
   have e1:AO (l.take i)=none:=by rw [zD5];rfl
   have oP:=fun H fid ow=>syE.app1_nil (P:=zP) (H:=H) (fid:=fid) (ow:=ow) zA4 y
   rw [e4] at oP;simp only [syC] at oP
   have pB:syE.tk 3 (l.take (i+1)) = .slice (.tok 3) 4 1 [.str y.name,AN.av y.dims,.int .i64 y.at_,.int .i64 y.size]:=by rw [oe,zD5,List.nil_append,syE.tk_ne 3 (by simp),syE.row_one1];rfl
   have zEL:AO (l.take (i+1))=some (.tok 1):=by rw [oe,zD5];rfl
   simp [hi,hi',g0,g1,g2,g3,e0,e1,Lm zA3,oP,wi,-Int.natCast_add]
   refine Nxt.mk k (by omega) (AD.mkVH 1000 (fun i=>if i=3 then 4 else i) 4 (by simp [hB]) (by
    intro i j hi hj he;have he:(if i=3 then 4 else i)=(if j=3 then 4 else j):=he
    split at he<;>split at he<;>omega) (by intro i hi;rw [hB] at hi;simp at hi) rfl (by
    intro q hq
    rcases (by omega:q=0∨q=1∨q=2∨q=3) with rfl|rfl|rfl|rfl<;>simp [OsH,pB,zEL,AH.at,AI,AL,ren,Enc.av_ren]) p8 (by
    intro p hp;simp only [List.mem_cons,List.not_mem_nil,or_false] at hp
    rcases hp with rfl|rfl|rfl|rfl<;>simp [low,Fw.strip,ren])) hI
  ·have oL:l.take i≠[]:=fun h=>by rw [h] at ox;exact h0 ox.symm
   have oP:=fun H fid ow hk=>syE.app1_tok (P:=zP) (H:=H) (fid:=fid) (k:=3) (n:=i) (ow:=ow) zA4 (l.take i) y ox.symm hk (by omega)
   rw [e4] at oP;simp only [syC] at oP;have e0:=syE.tk_ne 3 oL;rw [e4,ox] at e0;have e1:=C3 oL;rw [ox] at e1
   have pB:syE.tk 3 (l.take (i+1)) = .slice (.tok 3) 4 (i+1) (syE.row (l.take i++[y])):=by rw [oe,syE.tk_ne 3 (by simp),List.length_append,ox];rfl
   have zEL:AO (l.take (i+1))=some (.tok (i+1)):=by rw [oe,C3 (by simp),List.length_append,ox];rfl
   simp [hi,hi',g0,g1,g2,g3,e0,e1,Lm zA3,oP,wi,-Int.natCast_add];exact Nxt.mk k (by omega) (AD.mkK 4 (by simp [hB]) (by simp [low]) (by simp only [OsH,pB,zEL];rfl) p8) hI
 ·have hi':¬(i:Int)<l.length:=by omega
  have oy:=syE.tk_cut (k:=3) (n:=0) (by decide) l;simp [OsH,hi,hi',oy,List.take_of_length_le (show l.length≤i by omega)]
def SaH (l:List Sy) (c:Int):AH:=[some (.box [syE.av l,.int .i64 c]),some (.box [syE.av l,.int .i64 c])]
def SaI (l:List Sy) (c:Int) (k:Nat) (t:List AV) (H:AH):Prop:=∃i,i+k=l.length∧t=mkT 118 [(2,.ptr 0 0),(3,.ptr 1 0),(5,.int .i64 (i:Int))]∧H=SaH l c
def SaJ (l:List Sy) (c:Int) (i:Nat) (d:List Int) (k:Nat) (t:List AV) (H:AH):Prop:=∃j,j+k=d.length∧t=mkT 118 [(2,.ptr 0 0),(3,.ptr 1 0),(5,.int .i64 (i:Int)),(6,.int .i64 (j:Int))]∧H=SaH l c
theorem zC9 (l:List Sy) (hl:l.length<1000000) (hd:∀y∈l,y.dims.length<4294967296) (c:Int) (H:AH):CS zP AJ 14 [.agg [syE.av l,.int .i64 c],.agg [syE.av l,.int .i64 c]] H (.bool true) H:=by
 refine CS.tr0 Bh Tryz.func14 (by kernel_rfl) 0 (by simp [Tryz.f14]) (fun B hB hG => ?_) (by simp) (by simp) H;refine Tr.goD GI hG ?_;simp [Tryz.f14];have stay:AU 2 (SaH l c)=true:=by simp [SaH]
 refine LpD.loopN GI hG (SaI l c) l.length (t':=mkT 118 [(2,.ptr 0 0),(3,.ptr 1 0),(5,.int .i64 ((0:Nat):Int))]) (H':=SaH l c) (AD.mkK 2 (by simp [hB]) (by simp) (by simp [SaH]) stay) ⟨0,by omega,rfl,rfl⟩ ?_;rintro k tt H ⟨i,oQ,rfl,rfl⟩
 by_cases hi:i<l.length
 ·obtain ⟨k,rfl⟩:∃j,k=j+1:=⟨k-1,by omega⟩
  have hi':(i:Int)<l.length:=by omega
  obtain ⟨y,hy⟩:∃y,l[i]? = some y:=⟨_,List.getElem?_eq_getElem hi⟩
  have hyd:=hd y (List.mem_of_getElem? hy);obtain ⟨g0,g1,g2,g3⟩:=zCE hy;have w1:IntKind.i64.wrap ((i:Int)+1)=((i+1:Nat):Int):=by rw [Ab (by omega) (by omega)];omega
  simp [SaH,hi',-Int.natCast_add];refine LpD.turns GI hG [] [] ?_;simp [hi,g0,g1,g2,g3,-Int.natCast_add];refine LpD.loopN GI hG (SaJ l c i y.dims) y.dims.length (t':=mkT 118 [(2,.ptr 0 0),(3,.ptr 1 0),(5,.int .i64 (i:Int)),(6,.int .i64 ((0:Nat):Int))]) (H':=SaH l c) (AD.mkK 2 (by simp [hB]) (by simp) (by simp [SaH]) stay) ⟨0,by omega,rfl,rfl⟩ ?_;rintro k2 tt H ⟨j,qr,rfl,rfl⟩
  by_cases hj:j<y.dims.length
  ·obtain ⟨k2,rfl⟩:∃j,k2=j+1:=⟨k2-1,by omega⟩
   have hj':(j:Int)<y.dims.length:=by omega
   obtain ⟨z,hz⟩:∃z,y.dims[j]? = some z:=⟨_,List.getElem?_eq_getElem hj⟩
   have cz:(AN.row y.dims)[j*1+0]? = some (.int .i64 z):=AN.row_cell hz 0 (by decide);simp only [Nat.mul_one,Nat.add_zero] at cz;have w2:IntKind.i64.wrap ((j:Int)+1)=((j+1:Nat):Int):=by rw [Ab (by omega) (by omega)];omega
   simp [SaH,hi,hi',g1,hj',-Int.natCast_add];refine LpD.turns GI hG [] [] ?_;simp [hi,g1,hj,cz,w2,-Int.natCast_add];exact Nxt.mk k2 (by omega) (AD.mkK 2 (by simp [hB]) (by simp) (by simp [SaH]) stay) ⟨j+1,by omega,rfl,rfl⟩
  ·have hj':¬(j:Int)<y.dims.length:=by omega
   simp [SaH,hi,hi',g1,hj',Bo,w1,-Int.natCast_add];exact Nxt.mk k (by omega) (AD.mkK 2 (by simp [hB]) (by simp) (by simp [SaH]) stay) ⟨i+1,by omega,rfl,rfl⟩
 ·have hi':¬(i:Int)<l.length:=by omega
  simp [SaH,hi',Bo]
def OA (x:Sx):Bool:=okT x.to&&okT x.e&&okT x.ca&&okT x.cb&&okT x.lo&&okT x.hi&&decide (x.items.length<4294967296)&&x.items.all fun y=>decide (y.dims.length<4294967296)
mutual
def OB:Nd→Bool
 |.mk _ _ s b c _=>OA s&&Hf b&&Hf c
def Hf:List Nd→Bool
 |[]=>true
 |n::r=>OB n&&Hf r
end
theorem W1 {x:Sx} (h:OA x=true):SxT x:=by simp only [OA,Bool.and_eq_true,decide_eq_true_eq,List.all_eq_true] at h;obtain ⟨⟨⟨⟨⟨⟨⟨h1,h2⟩,h3⟩,h4⟩,h5⟩,h6⟩,h7⟩,h8⟩:=h;exact ⟨h1,h2,h3,h4,h5,h6,h7,h8⟩
mutual
theorem W2:∀n:Nd,OB n=true→okN n
 |.mk _ _ s b c _,h=>by simp only [OB,Bool.and_eq_true] at h;rw [okN];exact ⟨W1 h.1.1,I5 b h.1.2,I5 c h.2⟩
theorem I5:∀l:List Nd,Hf l=true→Db l
 |[],_=>trivial
 |n::r,h=>by simp only [Hf,Bool.and_eq_true] at h;rw [Db];exact ⟨W2 n h.1,I5 r h.2⟩
end
theorem CS.kToS {f:FuncId} {args:List AV} {H H':AH} {v:AV} (h:CS zP BJ f args H v H'):CS zP A7 f args H v H':=CS.toS (CS.ofK h)
noncomputable def Kp:AF zP A7:=AF.pure 10 (fun l:List Nd=>Db l∧szL l<4294967296) (fun l=>[ndE.av l]) (fun l=>GV (G7 l)) (fun l h H=>CS.kToS (W0 l h.1 h.2 H)) (fun x y _ _ h=>by
 simp only [List.cons.injEq,and_true] at h
 rw [ndE.av_inj h])
noncomputable def Ra:AF zP A7:=AF.pure 16 (fun x:List Sy × Int × List UInt8=>x.1.length<1000000) (fun x=>[.agg [syE.av x.1,.int .i64 x.2.1],.str x.2.2]) (fun x=>GT (E7 x.1 x.2.2)) (fun x h H=>CS.kToS (RF x.1 h x.2.1 x.2.2 H)) (fun x y _ _ h=>by
 simp only [List.cons.injEq,AV.agg.injEq,AV.str.injEq,and_true] at h
 rw [syE.av_inj h.1.1,h.2])
def k8A:List UInt8:=[105,110,116,101,103,101,114,32,97,40,50,44,32,51,41,44,32,120,10]
def k8B:List UInt8:=[105,110,116,101,103,101,114,32,120,10]
def k8C:List UInt8:=[100,111,32,120,32,61,32,49,44,32,50,10]
def k8D:List UInt8:=[120,32,61,32,49,10]
def k8E:List UInt8:=[101,110,100,32,100,111,10]
def k8S:List Sy:=[⟨[97],[2,3],0,6⟩,⟨[120],[],6,1⟩]
theorem k8_1:((ofW [k8A]).2.isNone&&Hf (ofW [k8A]).1&&decide (szL (ofW [k8A]).1<4294967296))=true:=by kernel_rfl
theorem k8_2:((ofW [k8B,k8C,k8D,k8E]).2.isNone&&Hf (ofW [k8B,k8C,k8D,k8E]).1&&decide (szL (ofW [k8B,k8C,k8D,k8E]).1<4294967296))=true:=by kernel_rfl
theorem k8_3:G7 (ofW [k8A]).1=(k8S,7,none):=by kernel_rfl
theorem k8_4:G7 (ofW [k8B,k8C,k8D,k8E]).1=([],0,some (2,9)):=by kernel_rfl
noncomputable def Lz8:List (AF zP A7):=[Nz,Kp,Ra,Ei fAt,Ei Lr]
theorem I6:(Lz8.map (·.f)).Nodup:=show ([21,10,16,20,13]:List Nat).Nodup by decide
@[simp] theorem bsS4 (a b c d:List UInt8):CK zP 25 4 [(0,.str a),(1,.str b),(2,.str c),(3,.str d)]=some (.slice .full 1 4 [.str a,.str b,.str c,.str d]):=by kernel_rfl
theorem W3 (H:AH):CS zP A7 7 [] H (.bool true) H:=by
 have X:Cx (oOf Lz8) zP A7:=Bn _ NB Ad;have h1:=k8_1;have h2:=k8_2;simp only [Bool.and_eq_true,decide_eq_true_eq,Option.isNone_iff_eq_none] at h1 h2;have o1:∀H,oOf Lz8 21 [.slice .full 1 1 [.str k8A]] H=some (Hc (ofW [k8A]),H):=fun H=>DS I6 Nz (by simp [Lz8]) (x:=(.full,[k8A])) (H:=H) ⟨by decide,by decide⟩
 have o2:∀H,oOf Lz8 21 [.slice .full 1 4 [.str k8B,.str k8C,.str k8D,.str k8E]] H=some (Hc (ofW [k8B,k8C,k8D,k8E]),H):=fun H=>DS I6 Nz (by simp [Lz8]) (x:=(.full,[k8B,k8C,k8D,k8E])) (H:=H) ⟨by decide,by decide⟩
 have c1:=fun H=>DS I6 Kp (by simp [Lz8]) (x:=(ofW [k8A]).1) (H:=H) ⟨I5 _ h1.1.2,h1.2⟩
 have c2:=fun H=>DS I6 Kp (by simp [Lz8]) (x:=(ofW [k8B,k8C,k8D,k8E]).1) (H:=H) ⟨I5 _ h2.1.2,h2.2⟩
 have d1:=fun n H=>DS I6 Ra (by simp [Lz8]) (x:=(k8S,7,n)) (H:=H) (show k8S.length<1000000 by decide)
 have a1:=fun H=>DS I6 (Ei fAt) (by simp [Lz8]) (x:=(Ce,2,9)) (H:=H) trivial
 have t1:=fun H=>DS I6 (Ei Lr) (by simp [Lz8]) (x:=([(Ce,2)],9,.full)) (H:=H) ⟨by decide,by decide,.inr rfl⟩
 generalize oOf Lz8=O at X o1 o2 c1 c2 d1 a1 t1;have c1:∀H,O 10 [ndE.av (ofW [k8A]).1] H=some (GV (G7 (ofW [k8A]).1),H):=c1;have c2:∀H,O 10 [ndE.av (ofW [k8B,k8C,k8D,k8E]).1] H=some (GV (G7 (ofW [k8B,k8C,k8D,k8E]).1),H):=c2;have d1:∀n H,O 16 [.agg [syE.av k8S,.int .i64 7],.str n] H=some (GT (E7 k8S n),H):=d1;have a1:∀H,O 20 [.str Ce,.int .i64 2,.int .i64 9] H=some (.agg [.slice .full 2 1 [.str Ce,.int .i64 2],.int .i64 9],H):=a1;have t1:∀H,O 13 [.iface 102 (.vptr [.str Ce,.int .i64 2,.iface 101 (.int .i64 9)] 0),.agg [.slice .full 2 1 [.str Ce,.int .i64 2],.int .i64 9]] H=some (.bool true,H):=t1;rw [k8_3] at c1;rw [k8_4] at c2;simp only [Hc,h1.1.1,h2.1.1] at o1 o2;generalize (ofW [k8A]).1=T1 at *;generalize (ofW [k8B,k8C,k8D,k8E]).1=T2 at *;have d2:=d1 [120];have d3:=d1 [121];have e2:E7 k8S [120]=some ⟨[120],[],6,1⟩:=by kernel_rfl
 have e3:E7 k8S [121]=none:=by kernel_rfl
 rw [e2] at d2;rw [e3] at d3;have eS:syE.av k8S = .slice .unk 4 2 [.str [97],.slice .unk 1 2 [.int .i64 2,.int .i64 3],.int .i64 0,.int .i64 6,.str [120],.nilSlice,.int .i64 6,.int .i64 1]:=by kernel_rfl
 simp only [GV,eS,GT,syC,Option.getD_some,Option.getD_none,sy0,Enc.av_nil,RB,E8,Option.isSome_some,Option.isSome_none] at c1 c2 d2 d3 t1;simp only [k8A,k8B,k8C,k8D,k8E,Ce,P9] at o1 o2 a1 t1 c2;refine CS.tr0 HS Tryz.func7 (by kernel_rfl) 0 (by simp [Tryz.f7]) (fun B hBs hG => ?_) rfl rfl H;refine Tr.goD X hG ?_;simp [Tryz.f7,o1,o2,c1,c2,d2,d3,a1,t1]
noncomputable def Rb:AF zP A7:=AF.pure 7 (fun _:Unit=>True) (fun _=>[]) (fun _ => .bool true) (fun _ _ H=>W3 H) (fun _ _ _ _ _=>rfl)
noncomputable def Re:AF zP A7:=AF.pure 11 (fun l:List Nd=>szL l<1000000000∧Db l) (fun l=>[ndE.av l]) (fun l=>ndE.av (B5 l)) (fun l h H=>CS.toS (N1 _ l (Nat.lt_succ_self _) h.1 h.2 H)) (fun x y _ _ h=>by
 simp only [List.cons.injEq,and_true] at h
 rw [ndE.av_inj h])
theorem zDA (s:List UInt8) (H:AH):CS zP AJ 8 [.str s] H (.bool (decide (s.length≤2500))) H:=by
 refine CS.tr0 Bh Tryz.func8 (by kernel_rfl) 0 (by simp [Tryz.f8]) (fun B hB hG => ?_) (by simp) (by simp) H;refine Tr.goD GI hG ?_
 by_cases h:s.length≤2500
 ·have h':(s.length:Int)≤2500:=by omega
  simp [Tryz.f8,h,h']
 ·have h':¬(s.length:Int)≤2500:=by omega
  simp [Tryz.f8,h,h']
@[simp high] theorem zDn (l:List Int):alen zP 48 (AN.av l)=some (.int .i64 l.length):=AN.alen Tryz.underlying48 l
theorem zDB (s:List UInt8) (hs:s.length<900000):AP (md s).2.2∧SY true (md s).1∧szL (md s).1<1000000:=by
 have hz:szL []<1000000:=by rw [szL];omega
 have h:=zBe s hs;unfold md;generalize dK s=q at *;obtain ⟨ls,e⟩:=q;cases e with
 |some y=>exact ⟨h.1,m5,hz⟩
 |none =>
  obtain ⟨hn,hl⟩:=h.2 rfl;simp only at hn hl ⊢;have hf:=zC3 ls hn hl;have hk:=zBf hn;generalize FW ls=r at *;obtain ⟨T,e⟩:=r;cases e with
  |some y=>exact ⟨hk,m5,hz⟩
  |none =>obtain ⟨a1,a2⟩:=hf rfl;exact ⟨Bx,a1,by simp only at a2 ⊢;omega⟩
noncomputable def zCG:AF zP AJ:=AF.pure 8 (fun _:List UInt8=>True) (fun s=>[.str s]) (fun s => .bool (decide (s.length≤2500))) (fun s _ H=>zDA s H) (fun x y _ _ h=>by
 simp only [List.cons.injEq,AV.str.injEq,and_true] at h
 rw [h])
noncomputable def zCH:AF zP AJ:=AF.pure 9 (fun s:List UInt8=>s.length<900000) (fun s=>[.str s]) (fun s=>nz (md s)) (fun s h H=>zCT s h H) (fun x y _ _ h=>by
 simp only [List.cons.injEq,AV.str.injEq,and_true] at h
 rw [h])
noncomputable def zCI:AF zP AJ:=AF.pure 13 (fun b:Option (Int × Nat)=>∀a e,b=some (a,e)→e≠0) (fun b=>[El b,.agg [pV b,.int .i64 (cV b)]]) (fun _ => .bool true) (fun b h H=>by
 cases b with
 |none=>exact zDP none (by simp [BO]) H
 |some y =>
  obtain ⟨a,e⟩:=y;have he:=h a e rfl
  exact CS.toF (z8 [(Ce,a)] (e:Int) (by omega) (show 1<1000 by decide) .full (.inr rfl) H)) (fun _ _ _ _ _=>rfl)
noncomputable def zCJ:AF zP AJ:=AF.pure 12 (fun l:List Nd=>SY true l∧szL l<4294967296) (fun l=>[ndE.av l]) (fun l=>zAN (gt l)) (fun l h H=>zCp l h.1 h.2 H) (fun x y _ _ h=>by
 simp only [List.cons.injEq,and_true] at h
 rw [ndE.av_inj h])
noncomputable def zCK:AF zP AJ:=AF.pure 15 (fun x:List Sy × Int=>x.1.length<1000000) (fun x=>[.agg [syE.av x.1,.int .i64 x.2]]) (fun x => .agg [syE.av x.1,.int .i64 x.2]) (fun x h H=>zC8 x.1 h x.2 H) (fun x y _ _ h=>by
 simp only [List.cons.injEq,and_true] at h
 rw [h])
noncomputable def zCL:AF zP AJ:=AF.pure 14 (fun x:List Sy × Int=>x.1.length<1000000∧∀y∈x.1,y.dims.length<4294967296) (fun x=>[.agg [syE.av x.1,.int .i64 x.2],.agg [syE.av x.1,.int .i64 x.2]]) (fun _ => .bool true) (fun x h H=>zC9 x.1 h.1 h.2 x.2 H) (fun _ _ _ _ _=>rfl)
noncomputable def zCM:AF zP A7:=AF.pure 16 (fun x:List Sy × Int × List UInt8=>x.1.length<1000000) (fun x=>[.agg [syE.av x.1,.int .i64 x.2.1],.str x.2.2]) (fun x=>GT (E7 x.1 x.2.2)) (fun x h H=>CS.kToS (RF x.1 h x.2.1 x.2.2 H)) (fun x y _ _ h=>by
 simp only [List.cons.injEq,AV.agg.injEq,AV.str.injEq,and_true] at h
 rw [syE.av_inj h.1.1,h.2])
noncomputable def zCN:AF zP AJ:=AF.pure 17 (fun x:List Sy × Int × List UInt8=>x.1.length<1000000) (fun x=>[.agg [syE.av x.1,.int .i64 x.2.1],.str x.2.2]) (fun x=>GT (E7 x.1 x.2.2)) (fun x h H=>zBh x.1 h x.2.1 x.2.2 H) (fun x y _ _ h=>by
 simp only [List.cons.injEq,AV.agg.injEq,AV.str.injEq,and_true] at h
 rw [syE.av_inj h.1.1,h.2])
noncomputable def LsK:List (AF zP A7):=[Rb,Ei zCG,Ei zCH,Re,Kp,Ei zCJ,Ei zCI,Ei zCK,Ei zCL,zCM,Ei zCN]
theorem i6:(LsK.map (·.f)).Nodup:=show ([7,8,9,11,10,12,13,15,14,16,17]:List Nat).Nodup by decide
theorem zDC (s n:List UInt8) (H:AH):CS zP A7 3 [.str s,.str n] H (.bool true) H:=by
 have X:=Bn LsK NB Ad;have f1:∀H,oOf LsK 7 [] H=some (.bool true,H):=fun H=>DS i6 Rb (by simp [LsK]) (x:=()) (H:=H) trivial
 have f2:∀H,oOf LsK 8 [.str s] H=some (.bool (decide (s.length≤2500)),H):=fun H=>DS i6 (Ei zCG) (by simp [LsK]) (x:=s) (H:=H) trivial
 refine CS.tr0 HS Tryz.func3 (by kernel_rfl) 0 (by simp [Tryz.f3]) (fun B hB hG => ?_) rfl (by simp) H;refine Tr.goD X hG ?_
 by_cases h0:s.length≤2500
 ·by_cases h1:n.length≤50
  ·have h1':¬50<(n.length:Int):=by omega
   have h1'':(n.length:Int)≤50:=by omega
   have hs:s.length<900000:=by omega
   obtain ⟨k1,k2,k3⟩:=zDB s hs;have f3:∀H,oOf LsK 9 [.str s] H=some (nz (md s),H):=fun H=>DS i6 (Ei zCH) (by simp [LsK]) (x:=s) (H:=H) hs
   generalize md s=R at *;obtain ⟨T,ls,e⟩:=R;simp only [nz,erA] at f3;simp only at k1 k2 k3;obtain ⟨o1,o2,o3⟩:=zBD T k2;have f4:∀H,oOf LsK 11 [ndE.av T] H=some (ndE.av (B5 T),H):=fun H=>DS i6 Re (by simp [LsK]) (x:=T) (H:=H) ⟨by omega,o1⟩
   have f5:∀H,oOf LsK 10 [ndE.av (B5 T)] H=some (GV (G7 (B5 T)),H):=fun H=>DS i6 Kp (by simp [LsK]) (x:=B5 T) (H:=H) ⟨o2,by omega⟩
   have f6:∀H,oOf LsK 12 [ndE.av T] H=some (zAN (gt T),H):=fun H=>DS i6 (Ei zCJ) (by simp [LsK]) (x:=T) (H:=H) ⟨k2,by omega⟩
   obtain ⟨d1,d2,d3⟩:=zC7 k2;rw [zCw T k2] at f5;generalize gt T=q at *;obtain ⟨l,c,b⟩:=q;simp only [GV,zAN] at f5 f6;simp only at d1 d2 d3;have f7:∀H,oOf LsK 13 [El b,.agg [pV b,.int .i64 (cV b)]] H=some (.bool true,H):=fun H=>DS i6 (Ei zCI) (by simp [LsK]) (x:=b) (H:=H) d3
   have f8:∀H,oOf LsK 15 [.agg [syE.av l,.int .i64 c]] H=some (.agg [syE.av l,.int .i64 c],H):=fun H=>DS i6 (Ei zCK) (by simp [LsK]) (x:=(l,c)) (H:=H) d1
   have f9:∀H,oOf LsK 14 [.agg [syE.av l,.int .i64 c],.agg [syE.av l,.int .i64 c]] H=some (.bool true,H):=fun H=>DS i6 (Ei zCL) (by simp [LsK]) (x:=(l,c)) (H:=H) ⟨d1,d2⟩
   have f10:∀H,oOf LsK 16 [.agg [syE.av l,.int .i64 c],.str n] H=some (GT (E7 l n),H):=fun H=>DS i6 zCM (by simp [LsK]) (x:=(l,c,n)) (H:=H) d1
   have f11:∀H,oOf LsK 17 [.agg [syE.av l,.int .i64 c],.str n] H=some (GT (E7 l n),H):=fun H=>DS i6 (Ei zCN) (by simp [LsK]) (x:=(l,c,n)) (H:=H) d1
   generalize oOf LsK=O at X f1 f2 f3 f4 f5 f6 f7 f8 f9 f10 f11;simp only [GT,syC] at f10 f11;generalize (E7 l n).getD sy0=y at *;generalize (E7 l n).isSome=ok at *;cases e with
   |some z =>
    obtain ⟨ps,cc⟩:=z;have hcc:=(k1 ps cc rfl).2;have pM:¬erC (some (ps,cc))=0:=fun h=>by have h:(cc:Int)=0:=h;omega
    simp [Tryz.f3,f1,f2,f3,h0,h1',h1'',pM]
   |none =>have pM:erC none=0:=rfl;simp [Tryz.f3,f1,f2,f3,f4,f5,f6,h0,h1',h1'',pM];refine LpD.turns X hG [2,6,8] [(6,7)] ?_;cases ok<;>simp [f7,f8,f9,f10,f11]
  ·have h1':50<(n.length:Int):=by omega
   generalize oOf LsK=O at X f1 f2;simp [Tryz.f3,f1,f2,h0,h1']
 ·generalize oOf LsK=O at X f1 f2
  simp [Tryz.f3,f1,f2,h0]
open Go.ChangeShapes Go.WideShapes Go.ChangeAt Go.RowKit Go.Proofs.Fw
theorem W9:zP.globalNamed "strings.asciiSpace" = some 2:=by kernel_rfl
theorem XA:(zP.globals[2]?).map (·.type)=some 252:=by kernel_rfl
theorem XB:HC (H:=Unit) zP 3 252 Rows.laid_strings_asciiSpace=K5:=by kernel_rfl
theorem XC:zP.globalNamed "strconv.ErrRange" = some 5:=by kernel_rfl
theorem XD:(zP.globals[5]?).map (·.type)=some 35:=by kernel_rfl
theorem Ri : "*" ++ "errors.errorString" = "*errors.errorString" := by decide
theorem XE (u:TypeId) (h:zP.typeName? 3 u=some "*errors.errorString"):u=285 :=typeName_ptr_named (nm := "errors.errorString") (by rw [Ri];kernel_rfl) (by kernel_rfl) (by decide) u (by rw [Ri];exact h)
theorem XF {l:List (String × DataW Unit)} {W:World} (h:laidMet zP l W) (hm:("strings.asciiSpace",Rows.laid_strings_asciiSpace)∈l) (hr:l.filter (fun x=>x.1 == "strconv.ErrRange")=[("strconv.ErrRange",Rows.laid_strconv_ErrRange)]):Al AM (EF W):=by
 have h1:=h.filter fun x=>x.1 == "strconv.ErrRange"
 rw [hr] at h1;obtain ⟨ps,h,_⟩:=h;refine Xk (tab:=JI) rfl fun x hx => ?_
 simp only [JI,List.mem_cons,List.not_mem_nil,or_false] at hx;rcases hx with rfl|rfl
 ·have:=OV h hm 3 W9 XA
  rw [XB] at this;exact this
 ·exact Xl h1 XC XD Tryz.underlying35 XE Tryz.underlying285 Tryz.underlying287 rfl rfl Tryz.underlying9 (by kernel_rfl) (by kernel_rfl)
theorem own:ownKnob zP.godebug=none:=by kernel_rfl
open Go.ChangeShapes Go.WideShapes Go.ChangeAt Go.ChangeMaps Go.RowKit Go.Proofs.Fw
theorem gPow:zP.globalNamed "internal/strconv.uint64pow10" = some 6:=by kernel_rfl
theorem tPow:(zP.globals[6]?).map (·.type)=some 299:=by kernel_rfl
theorem XG:HC (H:=Unit) zP 3 299 Rows.laid_internal_strconv_uint64pow10=M6:=by kernel_rfl
theorem et:zP.globalNamed "errors.errorType" = some 0:=by kernel_rfl
theorem rt:(zP.cutTypes.find? (·.1 == "internal/reflectlite.rtype")).map (·.2)=some 187:=by kernel_rfl
theorem XH:((List.range zP.types.size).filter fun t=>zP.rowNamed t [101,114,114,111,114])=[35]:=by kernel_rfl
theorem XI {W:World} (h:handlesMet zP [("errors.errorType",Rows.laid_errors_errorType)] W):W.cell? ⟨0,0,none⟩=some (.iface 187 (.agg #[.pointer (some ⟨10,35,none⟩)])):=by
 obtain ⟨name,u,ty,e1,e2,e3,e4,e5⟩:=h _ (List.mem_singleton.2 rfl);have en:name=[101,114,114,111,114]:=(Option.some.inj e1).symm;subst en;obtain rfl:=Option.some.inj (rt.symm.trans e2);have hm:ty∈(List.range zP.types.size).filter fun t=>zP.rowNamed t [101,114,114,111,114]:=List.mem_filter.2 ⟨List.mem_range.2 e3,e4⟩
 rw [XH] at hm;obtain rfl:=List.mem_singleton.1 hm;have hh:typeHandle zP 35 = .pointer (some ⟨10,35,none⟩):=by kernel_rfl
 rw [hh] at e5;simpa using World.var?_cell et e5 0
theorem XJ {W:World} {l:List (String × DataW Unit)} (h1:laidMet zP l W) (ha:("strings.asciiSpace",Rows.laid_strings_asciiSpace)∈l) (hr:l.filter (fun x=>x.1 == "strconv.ErrRange")=[("strconv.ErrRange",Rows.laid_strconv_ErrRange)]) (hp:("internal/strconv.uint64pow10",Rows.laid_internal_strconv_uint64pow10)∈l)
  (h2:W.cell? ⟨0,0,none⟩=some (.iface 187 (.agg #[.pointer (some ⟨10,35,none⟩)]))):Al AJ (EF W):=by
 have hT:Al AM (EF W):=XF h1 ha hr;intro i
 by_cases hi:i=6
 ·subst hi
  rw [show AJ.glob 6 = .vptr M6 0 from rfl];obtain ⟨ps,h3,_⟩:=h1;have:=OV h3 hp 3 gPow tPow;rw [XG] at this;exact this
 ·by_cases hj:i=0
  ·subst hj
   rw [show AJ.glob 0 = .vptr [.iface 187 (.agg [.adr 10 35])] 0 from rfl];simp only [AA,AB];refine ⟨0,0,[.iface 187 (.agg #[.pointer (some ⟨10,35,none⟩)])],rfl,⟨_,_,rfl,⟨_,rfl,_,rfl,_,_,rfl,rfl,rfl⟩,rfl⟩,?_⟩;intro k v hk;cases k with
   |zero=>simp at hk;subst hk;exact h2
   |succ k=>simp at hk
  ·have:AM.glob i=AJ.glob i:=by
    simp only [AM,AJ,HD,M7,KI,List.find?_cons];rw [show ((0:Nat)==i)=false by simp;omega,show ((6:Nat)==i)=false by simp;omega]
   rw [←this];exact hT i
def lS:List (String × DataW Unit):=[("math/bits.deBruijn32tab",Rows.laid_math_bits_deBruijn32tab),("math/bits.deBruijn64tab",Rows.laid_math_bits_deBruijn64tab),("internal/strconv.uint64pow10",Rows.laid_internal_strconv_uint64pow10),("strconv.ErrRange",Rows.laid_strconv_ErrRange),("strconv.ErrSyntax",Rows.laid_strconv_ErrSyntax),("unicode.White_Space",Rows.laid_unicode_White_Space),("strings.asciiSpace",Rows.laid_strings_asciiSpace)]
theorem XK {W:World} (h:laidMetH zP Rows.semaRanksRow.laid W):Al AJ (EF W):=by have h':laidMet zP lS W∧handlesMet zP [("errors.errorType",Rows.laid_errors_errorType)] W:=h;exact XJ h'.1 (by simp [lS]) (by kernel_rfl) (by simp [lS]) (XI h'.2)
noncomputable def w0S (os:Os):World:={World.holding zP os ⟨#[],#[],[]⟩ with heap:=(World.holding zP os ⟨#[],#[],[]⟩).heap.setIfInBounds 0 (.cells #[.iface 187 (.agg #[.pointer (some ⟨10,35,none⟩)])] (((zP.globals[0]?).map (·.type)).getD 0) (0,0))}
noncomputable def wS (os:Os):World:=(w0S os).layVars zP lS
theorem XL (os:Os):(wS os).os=os:=World.layVars_os _ _ _
theorem XM:(Rows.semaRanksRow.laid.filter fun x=>x.2.handleName?.isNone)=lS:=rfl
theorem XN (os:Os):laidMet zP lS (wS os):=by
 have e1:(lS.filter fun x=>(lS.map (·.1)).contains x.1)=lS:=List.filter_eq_self.2 fun x hx=>List.contains_iff_mem.2 (List.mem_map.2 ⟨x,hx,rfl⟩)
 have e2:(lS.filter fun x => !(lS.map (·.1)).contains x.1)=[]:=List.filter_eq_nil_iff.2 fun x hx=>by rw [List.contains_iff_mem.2 (List.mem_map.2 ⟨x,hx,rfl⟩)];simp
 exact laidMet_layVars (w0:=w0S os) (lS.map (·.1)) [] (by rw [e1];rfl) (by rw [e1];kernel_rfl) (by rw [e1];kernel_rfl) (by rw [e2];exact LaidIn.none)
theorem XO (os:Os):laidMetH zP Rows.semaRanksRow.laid (wS os) :=laidMetH_of_parts3 (fuel:=8) (by rw [XM];exact XN os) (by kernel_rfl) (by kernel_rfl)
theorem XP (os:Os) (args:Array Value):laidMetH zP Rows.semaRanksRow.laid ((wS os).forCall (fun _ _=>0) ⟨#[],args,[]⟩).memory:=(XO os).of_heap (by simp [World.memory,World.forCall,Input.heap])
end Go.Proofs.YtmjfldclpijghaaGreatDoor
