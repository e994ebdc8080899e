/- The program's trees: walk, over a function that is handed to .. The document's Find. -/
import Derived.Test.YtffcldkblcmmiaaGreatDoorZt9
import Derived.Shelf.Strconv.Itoa2
import Derived.Shelf.Strconv.Itoa1
import Derived.Lib.ItoaMem
set_option linter.unusedSimpArgs false
set_option linter.unusedVariables false
namespace Go.Proofs.YtffcldkblcmmiaaGreatDoor
open Go.RowKit Go.Proofs.Fw
set_option maxRecDepth 100000
set_option maxHeartbeats 4000000
def wrB (ids:List (Nat × List AV)) (H:AH):AH:=ids.foldl (fun H x=>H.set x.1 (some (.box x.2))) H
theorem Gu:∀(ids:List (Nat × List AV)) (H:AH),(wrB ids H).length=H.length
 |[],H=>rfl
 |x::r,H=>by unfold wrB;rw [List.foldl_cons];exact (Gu r _).trans (List.length_set ..)
theorem K6 (x:Nat × List AV) (r:List (Nat × List AV)) (H:AH):wrB (x::r) H=wrB r (H.set x.1 (some (.box x.2))):=rfl
theorem SS:∀(ids:List (Nat × List AV)) (H K:AH),(∀x∈ids,x.1<H.length)→wrB ids (H++K)=wrB ids H++K
 |[],H,K,_=>rfl
 |x::r,H,K,h=>by rw [K6,K6,List.set_append_left _ _ (h x List.mem_cons_self)];exact SS r _ K fun y hy=>by rw [List.length_set];exact h y (List.mem_cons_of_mem _ hy)
theorem JL:∀(ids:List (Nat × List AV)) (H:AH) (j:Nat),(∀x∈ids,x.1≠j)→AH.at (wrB ids H) j=H.at j
 |[],_,_,_=>rfl
 |x::r,H,j,h=>by rw [K6,JL r _ j fun y hy=>h y (List.mem_cons_of_mem _ hy),Dx (h x List.mem_cons_self)]
theorem MO:∀(ids:List (Nat × List AV)) (H:AH),(ids.map (·.1)).Nodup→(∀x∈ids,x.1<H.length)→∀x∈ids,AH.at (wrB ids H) x.1=some (.box x.2)
 |[],_,_,_,x,hx=>by cases hx
 |y::r,H,hn,hl,x,hx=>by
  rw [List.map_cons,List.nodup_cons] at hn;rw [K6];rcases List.mem_cons.1 hx with rfl|hx
  ·rw [JL r _ _ (fun z hz he=>hn.1 (by rw [←he];exact List.mem_map_of_mem hz)),AH.at_set,if_pos ⟨rfl,hl x List.mem_cons_self⟩]
  ·exact MO r _ hn.2 (fun z hz=>by rw [List.length_set];exact hl z (List.mem_cons_of_mem _ hz)) x hx
theorem Oq:∀(ids:List (Nat × List AV)) (H:AH) (n:Nat),AR n H=true→(∀x∈ids,lowL n x.2=true)→AR n (wrB ids H)=true
 |[],_,_,h,_=>h
 |x::r,H,n,h,hc=>by
  rw [K6];refine Oq r _ n ?_ fun y hy=>hc y (List.mem_cons_of_mem _ hy)
  have hx:=hc x List.mem_cons_self;clear hc;generalize x.1=i
  induction H generalizing i with
  |nil=>exact h
  |cons e H ih =>
   simp only [AR,Bool.and_eq_true] at h;cases i with
   |zero=>simp only [List.set_cons_zero,AR,Av,hx,h.2];rfl
   |succ i=>simp only [List.set_cons_succ,AR,h.1,ih h.2 i];rfl
structure Clo (fc:FuncId) (σ:Type) where
 caps:List AV
 ids:σ→List (Nat × List AV)
 keys:List Nat
 key:∀s,(ids s).map (·.1)=keys
 nodup:keys.Nodup
 inj:∀s s',ids s=ids s'→s=s'
 lowC:∀s,∀x∈ids s,lowL 0 x.2=true
 Kp:AH→Prop
 kpA:∀H K,Kp H→Kp (H++K)
 kpW:∀s H,Kp H→Kp (wrB (ids s) H)
 kpL:∀H,Kp H→(∀i∈keys,i<H.length)∧lowL H.length caps=true
 ok:Nat→σ→Prop
 f:σ→Nd→Int→Bool × σ
 okN:∀j s n d,ok (j+1) s→ok j (f s n d).2
 okM:∀j s,ok (j+1) s→ok j s
 cs:∀j s n d H,ok (j+1) s→Kp H→(∀x∈ids s,H.at x.1=some (.box x.2))→0≤d→d<4611686018427387904→CS zP Ac fc (.agg (ndC n) :: .int .i64 d::caps) H (.bool (f s n d).1) (wrB (ids (f s n d).2) H)
section
variable {fc:FuncId} {σ:Type}
theorem Clo.okL (C:Clo fc σ) {i j:Nat} (h:i≤j) {s:σ} (k:C.ok j s):C.ok i s:=by
 induction h with
 |refl=>exact k
 |step _ ih=>exact ih (C.okM _ _ k)
theorem Clo.wr_at (C:Clo fc σ) (s:σ) {H:AH} (h:C.Kp H):∀x∈C.ids s,AH.at (wrB (C.ids s) H) x.1=some (.box x.2) :=MO _ _ (by rw [C.key];exact C.nodup) fun x hx=>(C.kpL H h).1 _ (by rw [←C.key s];exact List.mem_map_of_mem hx)
theorem Clo.wr_lt (C:Clo fc σ) (s:σ) {H:AH} (h:C.Kp H):∀x∈C.ids s,x.1<H.length:=fun x hx=>(C.kpL H h).1 _ (by rw [←C.key s];exact List.mem_map_of_mem hx)
theorem YP {L L':List (Nat × List AV)} (hk:L.map (·.1)=L'.map (·.1)) (hn:(L.map (·.1)).Nodup) {H:AH} (h:∀x∈L,H.at x.1=some (.box x.2)) (h':∀x∈L',H.at x.1=some (.box x.2)):L=L':=by
 induction L generalizing L' with
 |nil=>cases L' with
  |nil=>rfl
  |cons y r=>simp at hk
 |cons x r ih=>cases L' with
  |nil=>simp at hk
  |cons y r' =>simp only [List.map_cons,List.cons.injEq] at hk;rw [List.map_cons,List.nodup_cons] at hn;have h1:=h x List.mem_cons_self;have h2:=h' y List.mem_cons_self;rw [←hk.1,h1] at h2;simp only [Option.some.injEq,Ent.box.injEq] at h2;rw [ih hk.2 hn.2 (fun z hz=>h z (List.mem_cons_of_mem _ hz)) (fun z hz=>h' z (List.mem_cons_of_mem _ hz))];obtain ⟨a,b⟩:=x;obtain ⟨c,d⟩:=y;simp only at hk h2;rw [hk.1,h2]
theorem Clo.wr_inj (C:Clo fc σ) {s s':σ} {H:AH} (h:C.Kp H) (he:wrB (C.ids s) H=wrB (C.ids s') H):s=s':=by refine C.inj _ _ (YP (H:=wrB (C.ids s) H) (by rw [C.key,C.key]) (by rw [C.key];exact C.nodup) (C.wr_at s h) ?_);rw [he];exact C.wr_at s' h
theorem YQ {L L':List (Nat × List AV)} (hk:L.map (·.1)=L'.map (·.1)) (hn:(L.map (·.1)).Nodup) (H:AH) (hl:∀x∈L,x.1<H.length):wrB L' (wrB L H)=wrB L' H:=by
 apply AH.ext_at
 ·rw [Gu,Gu,Gu]
 ·intro j
  by_cases hj:∃x∈L',x.1=j
  ·obtain ⟨x,hx,rfl⟩:=hj
   have hl':∀y∈L',y.1<H.length:=fun y hy=>by
    have:y.1∈L.map (·.1):=by rw [hk];exact List.mem_map_of_mem hy
    obtain ⟨z,hz,he⟩:=List.mem_map.1 this;rw [←he];exact hl z hz
   rw [MO L' _ (by rw [←hk];exact hn) (fun y hy=>by rw [Gu];exact hl' y hy) x hx,MO L' _ (by rw [←hk];exact hn) hl' x hx]
  ·have h1:∀x∈L',x.1≠j:=fun x hx he=>hj ⟨x,hx,he⟩
   have h2:∀x∈L,x.1≠j:=fun x hx he=>by
    have:x.1∈L'.map (·.1):=by rw [←hk];exact List.mem_map_of_mem hx
    obtain ⟨z,hz,s8⟩:=List.mem_map.1 this;exact h1 z hz (s8.trans he)
   rw [JL _ _ _ h1,JL _ _ _ h2,JL _ _ _ h1]
theorem Clo.wr_wr (C:Clo fc σ) (s s':σ) {H:AH} (h:C.Kp H):wrB (C.ids s') (wrB (C.ids s) H)=wrB (C.ids s') H:=YQ (by rw [C.key,C.key]) (by rw [C.key];exact C.nodup) H (C.wr_lt s h)
mutual
def wkN (f:σ→Nd→Int→Bool × σ):Nd→Int→σ→Bool × σ
 |.mk l e x b c m,d,s =>
  if (f s (.mk l e x b c m) d).1=true then
   (if (wkL f b (d+1) (f s (.mk l e x b c m) d).2).1=true then wkL f c (d+1) (wkL f b (d+1) (f s (.mk l e x b c m) d).2).2
    else (false,(wkL f b (d+1) (f s (.mk l e x b c m) d).2).2))
  else (false,(f s (.mk l e x b c m) d).2)
def wkL (f:σ→Nd→Int→Bool × σ):List Nd→Int→σ→Bool × σ
 |[],_,s=>(true,s)
 |n::r,d,s=>if (wkN f n d s).1=true then wkL f r d (wkN f n d s).2 else (false,(wkN f n d s).2)
end
mutual
def szN:Nd→Nat
 |.mk _ _ _ b c _=>1+szL b+szL c
def szL:List Nd→Nat
 |[]=>0
 |n::r=>szN n+szL r
end
theorem IY (n:Nd):szN n=1+szL n.body+szL n.els:=by cases n;rw [szN];rfl
theorem YR (f:σ→Nd→Int→Bool × σ) (n:Nd) (d:Int) (s:σ):wkN f n d s =
  if (f s n d).1=true then
   (if (wkL f n.body (d+1) (f s n d).2).1=true then wkL f n.els (d+1) (wkL f n.body (d+1) (f s n d).2).2
    else (false,(wkL f n.body (d+1) (f s n d).2).2))
  else (false,(f s n d).2):=by cases n;rw [wkN];rfl
theorem JM:∀l:List Nd,l.length≤szL l
 |[]=>Nat.zero_le _
 |n::r=>by have:=JM r;rw [szL,IY,List.length_cons];omega
theorem zAP:∀{l:List Nd} {i:Nat} {n:Nd},l[i]? = some n→szN n+szL (l.drop (i+1))≤szL l
 |[],i,n,h=>by simp at h
 |m::l,0,n,h=>by simp only [List.getElem?_cons_zero,Option.some.injEq] at h;subst h;rw [szL];simp
 |m::l,i+1,n,h=>by simp only [List.getElem?_cons_succ] at h;have:=zAP h;rw [szL];simp only [List.drop_succ_cons];omega
mutual
theorem Clo.okWn (C:Clo fc σ):∀(n:Nd) (d:Int) (s:σ) (j:Nat),C.ok (szN n+j) s→C.ok j (wkN C.f n d s).2
 |.mk l e x b c m,d,s,j,h=>by
  rw [szN] at h;rw [wkN];have h1:=C.okN (szL b+szL c+j) s (.mk l e x b c m) d (C.okL (by omega) h)
  split
  ·have h2:=C.okWl b (d+1) _ (szL c+j) (C.okL (by omega) h1)
   split
   ·exact C.okWl c (d+1) _ j h2
   ·exact C.okL (by omega) h2
  ·exact C.okL (by omega) h1
theorem Clo.okWl (C:Clo fc σ):∀(l:List Nd) (d:Int) (s:σ) (j:Nat),C.ok (szL l+j) s→C.ok j (wkL C.f l d s).2
 |[],d,s,j,h=>by rw [szL] at h;rw [wkL];exact C.okL (by omega) h
 |n::r,d,s,j,h=>by
  rw [szL] at h;rw [wkL];have h1:=C.okWn n d s (szL r+j) (C.okL (by omega) h)
  split
  ·exact C.okWl r d _ j h1
  ·exact C.okL (by omega) h1
end
end
@[simp high] theorem pV (l:List Nd):alen zP 24 (ndE.av l)=some (.int .i64 l.length):=ndE.alen Tryz.underlying24 l
@[simp high] theorem pW {l:List Nd} {i:Nat} (h:i<l.length):Au zP 24 (ndE.av l) (.int .i64 (i:Int))=some (.vptr (ndE.row l) (i*34)):=ndE.aidx Tryz.underlying24 (by kernel_rfl) h
section
variable {fc:FuncId} {σ:Type}
def wkT (l:List Nd) (d:Int) (fv:AV) (i:Nat):List AV:=mkT 39 [(0,ndE.av l),(1,.int .i64 d),(2,fv),(6,.bool false),(9,ndE.av l),(10,.int .i64 (l.length:Int)),(11,.int .i64 (i:Int))]
def WkI (C:Clo fc σ) (l:List Nd) (d:Int) (s0:σ) (H0:AH) (k:Nat) (t:List AV) (H:AH):Prop :=∃i s,i+k=l.length∧t=wkT l d (.func (.func fc) [] C.caps) i∧H=wrB (C.ids s) H0∧C.ok (szL (l.drop i)) s∧wkL C.f (l.drop i) d s=wkL C.f l d s0
theorem zAO (C:Clo fc σ) (ul:AI zP fc=true) (xp:fc≠33):∀(N:Nat) (l:List Nd) (d:Int) (s:σ) (H:AH),szL l<N→0≤d→d+szL l<4611686018427387904→C.ok (szL l) s→C.Kp H→(∀x∈C.ids s,H.at x.1=some (.box x.2))→AR H.length H=true →
  CS zP Ac 33 [ndE.av l,.int .i64 d,.func (.func fc) [] C.caps] H (.bool (wkL C.f l d s).1) (wrB (C.ids (wkL C.f l d s).2) H)
 |0,_,_,_,_,h,_,_,_,_,_,_=>absurd h (Nat.not_lt_zero _)
 |N+1,l,d,s0,H0,hN,vh,hd,sw,hK,sX,si=>by
  have s9:=(C.kpL H0 hK).2;have yS:∀s,AR H0.length (wrB (C.ids s) H0)=true:=fun s=>Oq _ _ _ si fun x hx=>Ak (Nat.zero_le _) _ (C.lowC s x hx)
  have wv:∀s,(wrB (C.ids s) H0).length=H0.length:=fun s=>Gu _ _
  have vf:wrB (C.ids s0) H0=H0:=by
   apply AH.ext_at (Gu _ _);intro j
   by_cases hj:∃x∈C.ids s0,x.1=j
   ·obtain ⟨x,hx,rfl⟩:=hj
    rw [C.wr_at s0 hK x hx,sX x hx]
   ·exact JL _ _ _ fun x hx he=>hj ⟨x,hx,he⟩
  refine CS.of_Tr (c:=At Tryz.f33) (H0:=H0) (H1:=wrB (C.ids (wkL C.f l d s0).2) H0) Tryz.func33 (by kernel_rfl) 0 (by simp [Tryz.f33]) (fun B hB hG => ?_) rfl (yS _);have sl:∀m,H0.length≤m→low m (.func (.func fc) [] C.caps)=true:=fun m hm=>by simp only [low,lowL,Ak hm _ s9];rfl
  generalize yT:AV.func (.func fc) [] C.caps=fv at *;refine Tr.goW DB hG ?_;simp [-AH.at,Tryz.f33];refine LpD.loopW [] hG (WkI C l d s0 H0) l.length (t':=wkT l d fv 0) (H':=H0) (AE.mkK H0.length (by rw [hB];exact Nat.le_refl _) (by simp [sl]) (by simp) si) ⟨0,s0,by omega,by rw [yT],vf.symm,sw,rfl⟩ ?_;rintro k t H ⟨i,s,sa,rfl,rfl,zq,wU⟩;rw [yT];cases k with
  |zero =>
   obtain rfl:i=l.length:=by omega
   rw [List.drop_length,wkL] at wU;refine ⟨Bl,DB,?_⟩;rw [←wU];have hl:=wv s;generalize wrB (C.ids s) H0=H at *;simp [-AH.at,wkT];rw [←hl,List.take_length]
  |succ k =>
   have hi:i<l.length:=by omega
   have hi':(i:Int)<l.length:=by omega
   obtain ⟨n,hn⟩:∃n,l[i]? = some n:=⟨_,List.getElem?_eq_getElem hi⟩
   have uK:l.drop i=n::l.drop (i+1):=by rw [List.drop_eq_getElem_cons hi];rw [List.getElem?_eq_getElem hi] at hn;injection hn with hn;rw [hn]
   have sj:=zAP hn;have hszn:=IY n;rw [uK,szL] at zq;rw [uK,wkL,YR] at wU;have vf:IntKind.i64.wrap ((i:Int)+1)=(i:Int)+1:=AZ (by have:=JM l;omega) (by have:=JM l;omega);have zr:IntKind.i64.wrap (d+1)=d+1:=AZ (by omega) (by omega);obtain ⟨tM,tJ⟩:=ndE.row_at l i hn;have tM:((ndE.row l).drop (i*34)).take 34=ndC n:=tM;have tJ:i*34+34≤(ndE.row l).length:=tJ;obtain ⟨bx,zt⟩:∃bx:Option Ent,bx=some (.box (ndC n)):=⟨_,rfl⟩
   have vd:Av (H0.length+1) bx=true:=by rw [zt];exact Ak (Nat.zero_le _) _ (By n)
   have zG:∀s,C.Kp (wrB (C.ids s) H0++[bx]):=fun s=>C.kpA _ _ (C.kpW s _ hK)
   have xN:∀s,∀x∈C.ids s,AH.at (wrB (C.ids s) H0++[bx]) x.1=some (.box x.2):=fun s x hx=>by rw [GD (by rw [wv];exact C.wr_lt s hK x hx)];exact C.wr_at s hK x hx
   have zu:∀s,AR (wrB (C.ids s) H0++[bx]).length (wrB (C.ids s) H0++[bx])=true:=fun s=>by rw [List.length_append,wv,IM,L6 (Nat.le_add_right _ _) (yS s)];simp only [AR,List.length_cons,List.length_nil,Nat.zero_add,vd,Bool.and_true,Bool.true_and]
   have zH:∀s s',wrB (C.ids s') (wrB (C.ids s) H0++[bx])=wrB (C.ids s') H0++[bx]:=fun s s'=>by rw [SS _ _ _ (fun x hx=>by rw [wv];exact C.wr_lt s' hK x hx),C.wr_wr s s' hK]
   have ok1:=C.okN (szL n.body+szL n.els+szL (l.drop (i+1))) s n d (C.okL (by omega) zq);have h1:=C.cs _ s n d (wrB (C.ids s) H0++[bx]) (C.okL (Nat.le_refl _) (C.okL (by omega) zq:C.ok (szL n.body+szL n.els+szL (l.drop (i+1))+1) s)) (zG s) (xN s) vh (by omega);generalize C.f s n d=r1 at *;obtain ⟨b1,s1⟩:=r1;rw [zH] at h1;simp only at ok1 h1 wU;have ok2:=C.okWl n.body (d+1) s1 (szL n.els+szL (l.drop (i+1))) (C.okL (by omega) ok1);have h2:=zAO C ul xp N n.body (d+1) s1 (wrB (C.ids s1) H0++[bx]) (by omega) (by omega) (by omega) (C.okL (by omega) ok1) (zG s1) (xN s1) (zu s1)
   have vD:∀s2,wkL C.f n.body (d+1) s1=wkL C.f n.els (d+1) s2∨¬(n.body=n.els∧s1=s2):=fun s2=>by
    by_cases h:n.body=n.els∧s1=s2
    ·rw [h.1,h.2];exact .inl rfl
    ·exact .inr h
   generalize wkL C.f n.body (d+1) s1=r2 at *;obtain ⟨b2,s2⟩:=r2;rw [zH] at h2;simp only at ok2 h2 wU;have ok3:=C.okWl n.els (d+1) s2 (szL (l.drop (i+1))) ok2;have h3:=zAO C ul xp N n.els (d+1) s2 (wrB (C.ids s2) H0++[bx]) (by omega) (by omega) (by omega) (C.okL (by omega) ok2) (zG s2) (xN s2) (zu s2);have vD:=vD s2;generalize wkL C.f n.els (d+1) s2=r3 at *;obtain ⟨b3,s3⟩:=r3;rw [zH] at h3;simp only at ok3 h3 wU;rw [yT] at h2 h3;have X:=FL (S:=[]) h3 (FL h2 (FL h1 DB));have o3:=Ev 33 [ndE.av n.els,.int .i64 (d+1),fv] (wrB (C.ids s2) H0++[bx]) (.bool b3) (wrB (C.ids s3) H0++[bx]) (orP 33 [ndE.av n.body,.int .i64 (d+1),fv] (wrB (C.ids s1) H0++[bx]) (.bool b2) (wrB (C.ids s2) H0++[bx]) (orP fc (.agg (ndC n) :: .int .i64 d::C.caps) (wrB (C.ids s) H0++[bx]) (.bool b1) (wrB (C.ids s1) H0++[bx]) Bl))
   have o2:orP 33 [ndE.av n.els,.int .i64 (d+1),fv] (wrB (C.ids s2) H0++[bx]) (.bool b3) (wrB (C.ids s3) H0++[bx]) (orP 33 [ndE.av n.body,.int .i64 (d+1),fv] (wrB (C.ids s1) H0++[bx]) (.bool b2) (wrB (C.ids s2) H0++[bx]) (orP fc (.agg (ndC n) :: .int .i64 d::C.caps) (wrB (C.ids s) H0++[bx]) (.bool b1) (wrB (C.ids s1) H0++[bx]) Bl))
     33 [ndE.av n.body,.int .i64 (d+1),fv] (wrB (C.ids s1) H0++[bx])=some (.bool b2,wrB (C.ids s2) H0++[bx]):=by
    rcases vD with he|sU
    ·by_cases hc:n.body=n.els∧s1=s2
     ·simp only [Prod.mk.injEq] at he
      rw [hc.1,hc.2,Ev,he.1,he.2]
     ·unfold orP
      rw [if_neg,if_pos ⟨rfl,rfl,rfl⟩];rintro ⟨_,ha,hH⟩;simp only [List.cons.injEq,and_true] at ha;exact hc ⟨ndE.av_inj ha,C.wr_inj hK (List.append_cancel_right hH)⟩
    ·unfold orP
     rw [if_neg,if_pos ⟨rfl,rfl,rfl⟩];rintro ⟨_,ha,hH⟩;simp only [List.cons.injEq,and_true] at ha;exact sU ⟨ndE.av_inj ha,C.wr_inj hK (List.append_cancel_right hH)⟩
   have o1:orP 33 [ndE.av n.els,.int .i64 (d+1),fv] (wrB (C.ids s2) H0++[bx]) (.bool b3) (wrB (C.ids s3) H0++[bx]) (orP 33 [ndE.av n.body,.int .i64 (d+1),fv] (wrB (C.ids s1) H0++[bx]) (.bool b2) (wrB (C.ids s2) H0++[bx]) (orP fc (.agg (ndC n) :: .int .i64 d::C.caps) (wrB (C.ids s) H0++[bx]) (.bool b1) (wrB (C.ids s1) H0++[bx]) Bl))
     fc (.agg (ndC n) :: .int .i64 d::C.caps) (wrB (C.ids s) H0++[bx])=some (.bool b1,wrB (C.ids s1) H0++[bx]):=by
    rw [G2 xp,G2 xp,Ev]
   refine ⟨_,X,?_⟩;generalize orP 33 [ndE.av n.els,.int .i64 (d+1),fv] (wrB (C.ids s2) H0++[bx]) (.bool b3) (wrB (C.ids s3) H0++[bx]) (orP 33 [ndE.av n.body,.int .i64 (d+1),fv] (wrB (C.ids s1) H0++[bx]) (.bool b2) (wrB (C.ids s2) H0++[bx]) (orP fc (.agg (ndC n) :: .int .i64 d::C.caps) (wrB (C.ids s) H0++[bx]) (.bool b1) (wrB (C.ids s1) H0++[bx]) Bl))=O at o1 o2 o3;clear X h1 h2 h3 vD;have ss:=wv s;have tz:=wv s1;have se:=wv s2;have sq:=wv s3;have s6:=yS s1;have sx:=yS s2;have hr3:=yS s3;have s5:∀{t H},wkL C.f (l.drop (i+1)) d s3=wkL C.f l d s0→AE B t H (wkT l d fv (i+1)) (wrB (C.ids s3) H0)→Nxt B (WkI C l d s0 H0) (k+1) t H:=fun he hL=>Nxt.mk k (by omega) hL ⟨i+1,s3,by omega,by rw [yT],rfl,ok3,he⟩
   have zBy:=wU;rw [←wU];have zw:=Ch n;simp only [Sx.c,List.cons_append,List.nil_append] at zw;rw [zt,zw] at o1 o2 o3;rw [zw] at tM;clear vd zG xN zu zH zt wU;generalize wrB (C.ids s) H0=H at *;generalize e1:wrB (C.ids s1) H0=H1 at *;generalize e2:wrB (C.ids s2) H0=H2 at *;generalize e3:wrB (C.ids s3) H0=H3 at *;rw [←ss] at tz se sq;have a1:=fun e B=>DR H1 e B
   have a2:=fun e B=>DR H2 e B
   rw [tz] at a1;rw [se] at a2;have t1:∀B,(H1++B).take H0.length=H1:=fun B=>List.take_left' (tz.trans ss)
   have t2:∀B,(H2++B).take H0.length=H2:=fun B=>List.take_left' (se.trans ss)
   have t3:∀B,(H3++B).take H0.length=H3:=fun B=>List.take_left' (sq.trans ss)
   subst yT;cases b1 with
   |false=>simp [-AH.at,wkT,hi,hi',tM,tJ,ul,o1,DR,Dj,a1,a2,t1,e1]
   |true =>
    cases b2 with
    |false=>simp [-AH.at,wkT,hi,hi',tM,tJ,ul,zr,o1,o2,DR,Dj,a1,a2,t2,e2]
    |true =>
     cases b3 with
     |false=>simp [-AH.at,wkT,hi,hi',tM,tJ,ul,zr,o1,o2,o3,DR,Dj,a1,a2,t3,e3]
     |true =>
      simp [-AH.at,wkT,hi,hi',tM,tJ,ul,zr,o1,o2,o3,DR,Dj,a1,a2,vf];refine s5 ?_ ?_
      ·simpa using zBy
      ·exact AE.mkK H0.length (by rw [hB];exact Nat.le_refl _) (by simp [s9]) (t3 _) hr3
end
end Go.Proofs.YtffcldkblcmmiaaGreatDoor
namespace Go.Proofs.YtffcldkblcmmiaaGreatDoor.Tf
open Go.RowKit Go.Proofs.Fw
set_option maxRecDepth 100000
theorem zz0:AI zP 3=true∧AI zP 4=true∧AI zP 5=true∧AI zP 6=true∧AI zP 9=true∧AI zP 10=true∧AI zP 13=true∧AI zP 14=true∧AI zP 16=true∧AI zP 19=true∧AI zP 21=true∧AI zP 28=true:=by and_intros<;>kernel_rfl
theorem go34:AI zP 34=true:=by kernel_rfl
theorem go35:AI zP 35=true:=by kernel_rfl
theorem go55:AI zP 55=true:=by kernel_rfl
theorem zz1:AI zP 77=true∧AI zP 79=true:=by and_intros<;>kernel_rfl
attribute [simp] zz0 go34 go35 go55 zz1
end Go.Proofs.YtffcldkblcmmiaaGreatDoor.Tf
namespace Go.Proofs.YtffcldkblcmmiaaGreatDoor
open Go.RowKit Go.Proofs.Fw
set_option maxRecDepth 100000
set_option maxHeartbeats 4000000
@[simp] theorem pX:Ac.imm 3=false:=by decide
@[simp] theorem pY:Ac.imm 9=false:=by decide
theorem YS:AI zP 29=true:=by kernel_rfl
theorem YT:AI zP 27=true:=by kernel_rfl
section
variable {fc:FuncId} {σ:Type}
theorem Ot (C:Clo fc σ) (ul:AI zP fc=true) (xp:fc≠33) (l:List Nd) (s:σ) (H:AH) (sj:szL l<4611686018427387904) (sw:C.ok (szL l) s) (hK:C.Kp H) (sX:∀x∈C.ids s,H.at x.1=some (.box x.2)) (si:AR H.length H=true) :
  CS zP Ac 18 [ndE.av l,.func (.func fc) [] C.caps] H (.bool (wkL C.f l 0 s).1) (wrB (C.ids (wkL C.f l 0 s).2) H):=by
 have h:=zAO C ul xp (szL l+1) l 0 s H (Nat.lt_succ_self _) (Int.le_refl _) (by omega) sw hK sX si;have s9:=(C.kpL H hK).2;have tz:=Oq (C.ids (wkL C.f l 0 s).2) _ _ si fun x hx=>Ak (Nat.zero_le _) _ (C.lowC _ x hx)
 have se:=Gu (C.ids (wkL C.f l 0 s).2) H;generalize wrB (C.ids (wkL C.f l 0 s).2) H=H1 at *;generalize (wkL C.f l 0 s).1=b at *;have X:=FL (S:=[]) h DB;have hO:=Ev 33 [ndE.av l,.int .i64 0,.func (.func fc) [] C.caps] H (.bool b) H1 Bl;generalize orP 33 [ndE.av l,.int .i64 0,.func (.func fc) [] C.caps] H (.bool b) H1 Bl=O at X hO;refine CS.of_Tr (c:=At Tryz.f18) (H0:=H) (H1:=H1) Tryz.func18 (by kernel_rfl) 0 (by simp [Tryz.f18]) (fun B hB hG => ?_) rfl tz;refine Tr.goW X hG ?_;simp [-AH.at,Tryz.f18,hO];rw [←se,List.take_length]
end
theorem YU (n:Nd) (d:Int) (c:Nat) (hc:c<4611686018427387904) {H:AH} {b:Nat} (hH:H.at b=some (.box [.int .i64 (c:Int)])) :
  CS zP Ac 29 [.agg (ndC n),.int .i64 d,.ptr b 0] H (.bool true) (H.set b (some (.box [.int .i64 ((c+1:Nat):Int)]))):=by
 have w1:IntKind.i64.wrap ((c:Int)+1)=((c+1:Nat):Int):=by rw [AZ (by omega) (by omega)];rfl
 have hl:=By n
 have:=CS.rd1 (cs:=[.int .i64 (c:Int)]) (cs':=[.int .i64 ((c+1:Nat):Int)]) (args:=[.agg (ndC n),.int .i64 d,.ptr 0 0]) (v := .bool true) Dg Tryz.func29 (by kernel_rfl) 0 (by simp [Tryz.f29]) (fun B hB hG=>by
  refine Tr.goW DB hG ?_
  simp [Tryz.f29,w1,-Int.natCast_add]) (by simp [lowL,low,Ak (Nat.zero_le 1) _ hl]) rfl rfl rfl hH
 simpa [AN,ren,BB _ _ hl] using this
def JN (b:Nat):Clo 29 Nat where
 caps:=[.ptr b 0]
 ids:=fun c=>[(b,[.int .i64 (c:Int)])]
 keys:=[b]
 key:=fun _=>rfl
 nodup:=by simp
 inj:=fun s s' h=>by simp at h;omega
 lowC:=fun s x hx=>by simp at hx;subst hx;rfl
 Kp:=fun H=>b<H.length
 kpA:=fun H K h=>by rw [List.length_append];omega
 kpW:=fun s H h=>by rw [Gu];exact h
 kpL:=fun H h=>⟨fun i hi=>by simp at hi;subst hi;exact h,by simp [lowL,low,h]⟩
 ok:=fun j c=>c+j<4611686018427387904
 f:=fun c _ _=>(true,c+1)
 okN:=fun j s n d h=>by have h:s+(j+1)<4611686018427387904:=h;show s+1+j<4611686018427387904;omega
 okM:=fun j s h=>by have h:s+(j+1)<4611686018427387904:=h;show s+j<4611686018427387904;omega
 cs:=fun j s n d H h hK sX vh hd=>YU n d s (by have h:s+(j+1)<4611686018427387904:=h;omega) (sX (b,[.int .i64 (s:Int)]) (by simp))
mutual
theorem cntN (b:Nat):∀(n:Nd) (d:Int) (c:Nat),wkN (JN b).f n d c=(true,c+szN n)
 |.mk l e x bo el m,d,c=>by
  rw [wkN,szN];have h1:∀c n d,(JN b).f c n d=(true,c+1):=fun _ _ _=>rfl
  simp only [h1,if_true];rw [MP b bo (d+1) (c+1)];simp only [if_true];rw [MP b el (d+1)]
  congr 1;omega
theorem MP (b:Nat):∀(l:List Nd) (d:Int) (c:Nat),wkL (JN b).f l d c=(true,c+szL l)
 |[],d,c=>by rw [wkL,szL];rfl
 |n::r,d,c=>by
  rw [wkL,cntN b n d c];simp only [if_true];rw [MP b r d,szL]
  congr 1;omega
end
theorem YV (l:List Nd) (sj:szL l<4611686018427387904) (H:AH):CS zP Ac 15 [ndE.av l] H (.int .i64 (szL l:Int)) H:=by
 have h:=Ot (JN 0) YS (by decide) l 0 [some (.box [.int .i64 0])] sj (by show 0+szL l<_;omega) (by show 0<[some (Ent.box [AV.int IntKind.i64 0])].length;decide) (fun x hx=>by
  rcases List.mem_singleton.1 hx with rfl
  rfl) rfl
 rw [MP] at h;have he:wrB ((JN 0).ids (0+szL l)) [some (.box [.int .i64 0])]=[some (.box [.int .i64 (szL l:Int)])]:=by simp [JN,wrB]
 rw [he] at h;have hc:(JN 0).caps=[.ptr 0 0]:=rfl;rw [hc] at h;have X:=FL (S:=[]) h DB;have hO:=Ev 18 [ndE.av l,.func (.func 29) [] [.ptr 0 0]] [some (.box [.int .i64 0])] (.bool true) [some (.box [.int .i64 (szL l:Int)])] Bl;generalize orP 18 [ndE.av l,.func (.func 29) [] [.ptr 0 0]] [some (.box [.int .i64 0])] (.bool true) [some (.box [.int .i64 (szL l:Int)])] Bl=O at X hO;refine CS.tr0 Dg Tryz.func15 (by kernel_rfl) 0 (by simp [Tryz.f15]) (fun B hB hG => ?_) (by simp) (by simp) H;refine Tr.goW X hG ?_;simp [Tryz.f15,hO]
def sx0:Sx:=⟨0,[],t0,t0,[],t0,t0,[],t0,t0,0⟩
def nd0:Nd := .mk 0 0 sx0 [] [] 0
def fdF (at_:Int) (s n:Nd):Bool × Nd:=(decide (n.line≠at_),if n.line=at_ then n else s)
theorem YW (at_:Int) (s n:Nd) (d:Int) {H:AH} {a b:Nat} (uJ:a≠b) (ha:H.at a=some (.box [.int .i64 at_])) (hb:H.at b=some (.box (ndC s))) :
  CS zP Ac 27 [.agg (ndC n),.int .i64 d,.ptr a 0,.ptr b 0] H (.bool (fdF at_ s n).1) (H.set b (some (.box (ndC (fdF at_ s n).2)))):=by
 have hl:=By n;have ug:=By s;have zx:=By (fdF at_ s n).2;have l2:=fun (l:List AV) (h:lowL 0 l=true)=>Ak (Nat.zero_le 2) l h
 have key:=CS.of_Tr (P:=zP) (E:=Ac) (f:=27) (c:=At Tryz.f27) (args:=[.agg (ndC n),.int .i64 d,.ptr 0 0,.ptr 1 0]) (H0:=[some (.box [.int .i64 at_]),some (.box (ndC s))]) (H1:=[some (.box [.int .i64 at_]),some (.box (ndC (fdF at_ s n).2))])
  (v := .bool (fdF at_ s n).1) Tryz.func27 (by kernel_rfl) 0 (by simp [Tryz.f27]) (fun B hB hG=>by
   refine Tr.goW DB hG ?_;have e1:=Ch n;have e2:=Ch s;simp only [Sx.c,List.cons_append,List.nil_append] at e1 e2
   by_cases h:n.line=at_
   ·have h1:fdF at_ s n=(false,n):=by simp [fdF,h]
    rw [h1,e1,e2];simp [Tryz.f27,h]
   ·have h1:fdF at_ s n=(true,s):=by simp [fdF,h]
    rw [h1,e1,e2]
    simp [Tryz.f27,h]) rfl (by simp [AR,Av,l2 _ zx])
 have:=CS.embed (fun i=>if i=0 then a else b) (k:=2) (H:=H) (H':=H.set b (some (.box (ndC (fdF at_ s n).2)))) key rfl rfl (by
  intro i j hi hj he;rcases (by omega:i=0∨i=1) with rfl|rfl<;>rcases (by omega:j=0∨j=1) with rfl|rfl<;>simp at he ⊢
  ·exact uJ he
  ·exact uJ he.symm) Dg (by simp [l2 _ hl]) rfl (by simp [AR,Av,l2 _ ug]) (by simp [AR,Av,l2 _ zx]) (by
  intro i hi;rcases (by omega:i=0∨i=1) with rfl|rfl
  ·rw [if_pos rfl,ha];rfl
  ·rw [if_neg (by decide),hb];simp [AH.at,AJ,BB _ _ ug]) (by
  intro i hi;rcases (by omega:i=0∨i=1) with rfl|rfl
  ·rw [if_pos rfl,Dx (fun h=>uJ h.symm),ha];rfl
  ·rw [if_neg (by decide),Hb hb];simp [AH.at,AJ,BB _ _ zx]) (by
  intro j hj;have h1:=hj 1 (by decide);simp at h1
  exact Dx h1)
 simpa [AN,ren,BB _ _ hl] using this
def K7 (at_:Int) (a b:Nat) (uJ:a≠b):Clo 27 Nd where
 caps:=[.ptr a 0,.ptr b 0]
 ids:=fun s=>[(b,ndC s)]
 keys:=[b]
 key:=fun _=>rfl
 nodup:=by simp
 inj:=fun s s' h=>by simp only [List.cons.injEq,Prod.mk.injEq,true_and,and_true] at h;exact Ju _ _ h
 lowC:=fun s x hx=>by rcases List.mem_singleton.1 hx with rfl;exact By s
 Kp:=fun H=>b<H.length∧H.at a=some (.box [.int .i64 at_])
 kpA:=fun H K h=>⟨by rw [List.length_append];omega,by rw [GD (Db h.2)];exact h.2⟩
 kpW:=fun s H h=>⟨by rw [Gu];exact h.1,by
  rw [JL _ _ _ (fun x hx=>by
   rcases List.mem_singleton.1 hx with rfl
   exact fun h=>uJ h.symm)]
  exact h.2⟩
 kpL:=fun H h=>⟨fun i hi=>by simp at hi;subst hi;exact h.1,by simp [lowL,low,h.1,Db h.2]⟩
 ok:=fun _ _=>True
 f:=fun s n _=>fdF at_ s n
 okN:=fun _ _ _ _ _=>trivial
 okM:=fun _ _ _=>trivial
 cs:=fun j s n d H h hK sX vh hd=>YW at_ s n d uJ hK.2 (sX (b,ndC s) (by simp))
def FA (l:List Nd) (at_:Int):Bool × Nd:=wkL (fun s n _=>fdF at_ s n) l 0 nd0
theorem YX:Am zP 49=some (.agg (ndC nd0)):=by kernel_rfl
theorem YY (l:List Nd) (at_:Int) (sj:szL l<4611686018427387904) (H:AH):CS zP Ac 12 [ndE.av l,.int .i64 at_] H (.tup [.agg (ndC (FA l at_).2),.bool (!(FA l at_).1)]) H:=by
 have h:=Ot (K7 at_ 0 2 (by decide)) YT (by decide) l nd0 [some (.box [.int .i64 at_]),some (.box (ndC nd0)),some (.box (ndC nd0))] sj trivial ⟨by simp,rfl⟩ (fun x hx=>by
  rcases List.mem_singleton.1 hx with rfl
  rfl) (by kernel_rfl)
 have he:wrB ((K7 at_ 0 2 (by decide)).ids (wkL (K7 at_ 0 2 (by decide)).f l 0 nd0).2) [some (.box [.int .i64 at_]),some (.box (ndC nd0)),some (.box (ndC nd0))]=[some (.box [.int .i64 at_]),some (.box (ndC nd0)),some (.box (ndC (FA l at_).2))]:=rfl;rw [he] at h;have hb:(wkL (K7 at_ 0 2 (by decide)).f l 0 nd0).1=(FA l at_).1:=rfl;rw [hb] at h;have hc:(K7 at_ 0 2 (by decide)).caps=[.ptr 0 0,.ptr 2 0]:=rfl;rw [hc] at h;generalize FA l at_=r at *;obtain ⟨b,s⟩:=r;simp only at h ⊢;have X:=FL (S:=[]) h DB;have hO:=Ev 18 [ndE.av l,.func (.func 27) [] [.ptr 0 0,.ptr 2 0]] [some (.box [.int .i64 at_]),some (.box (ndC nd0)),some (.box (ndC nd0))] (.bool b) [some (.box [.int .i64 at_]),some (.box (ndC nd0)),some (.box (ndC s))] Bl;generalize orP 18 [ndE.av l,.func (.func 27) [] [.ptr 0 0,.ptr 2 0]] [some (.box [.int .i64 at_]),some (.box (ndC nd0)),some (.box (ndC nd0))] (.bool b) [some (.box [.int .i64 at_]),some (.box (ndC nd0)),some (.box (ndC s))] Bl=O at X hO;have e1:=Ch s;have ug:=By s;have e0:=Ch nd0;simp only [Sx.c,List.cons_append,List.nil_append] at e1 e0;refine CS.tr0 Dg Tryz.func12 (by kernel_rfl) 0 (by simp [Tryz.f12]) (fun B hB hG => ?_) (by simp [ug]) (by simp) H;rw [e1] at hO ⊢;have hz:Am zP 49=some (.agg (ndC nd0)):=YX;rw [e0] at hO hz;simp [show nd0.line=0 from rfl,show nd0.end_=0 from rfl,show nd0.st=sx0 from rfl,show nd0.body=[] from rfl,show nd0.els=[] from rfl,show nd0.mid=0 from rfl,sx0] at hO;refine Tr.goW X hG ?_;simp [Tryz.f12,hO]
def Ep (acc:List UInt8):List UInt8→List (List UInt8)
 |[]=>if acc=[] then [] else [acc]
 |c::r=>if c=10 then (acc++[c])::Ep [] r else Ep (acc++[c]) r
def FB (s:List UInt8):List (List UInt8):=Ep [] s
theorem YZ {s:List UInt8} {a i:Nat} (h:a≤i) (hi:i<s.length):(s.take (i+1)).drop a=(s.take i).drop a++[s[i]]:=by rw [List.take_add_one,List.getElem?_eq_getElem hi,Option.toList_some,List.drop_append_of_le_length (by rw [List.length_take];omega)]
theorem Ya (s:List UInt8) (i:Nat):(s.take i).drop i=[]:=List.drop_of_length_le (by rw [List.length_take];omega)
theorem J7:B6 zP 25 1=true:=by kernel_rfl
def LnI (s:List UInt8) (k:Nat) (t:List AV) (H:AH):Prop:=∃(i a:Nat) (out:List (List UInt8)),i+k=s.length∧a≤i∧out.length≤i∧out++Ep ((s.take i).drop a) (s.drop i)=FB s ∧
 t=mkT 37 [(0,.str s),(3,Ab.tk 0 out),(4,.int .i64 (a:Int)),(5,.int .i64 (i:Int))]∧H=[AW out]
theorem Yb (s:List UInt8) (hs:s.length<1000000) (H:AH):CS zP AG 40 [.str s] H (Ab.av (FB s)) H:=by
 refine CS.tr0 BL Tryz.func40 (by kernel_rfl) 0 (by simp [Tryz.f40]) (fun B hB hG => ?_) (by simp) (by simp) H;refine Tr.goD DX hG ?_;simp [Tryz.f40]
 refine LpD.loopN DX hG (LnI s) s.length (t':=mkT 37 [(0,.str s),(3,Ab.tk 0 []),(4,.int .i64 0),(5,.int .i64 0)]) (H':=[none])
  (AE.mkV 100 (fun i=>i) 1 (by simp [hB]) (by simp) (by simp) rfl (by
   intro i hi;obtain rfl:i=0:=by omega
   simp [AH.at]) (by simp) (by simp [ren])) ⟨0,0,[],by omega,by omega,by simp,rfl,rfl,by simp⟩ ?_
 rintro k t H ⟨i,a,out,sa,ha,ho,uC,rfl,rfl⟩;have tA:=Ab.tk_cut (show ¬0<0 by omega) out
 by_cases hi:i<s.length
 ·obtain ⟨k,rfl⟩:∃j,k=j+1:=⟨k-1,by omega⟩
  have hi':(i:Int)<s.length:=by omega
  have w1:IntKind.i64.wrap ((i:Int)+1)=(i:Int)+1:=AZ (by omega) (by omega);have q1:(a:Int)≤(i:Int)+1:=by omega
  have q2:(i:Int)+1≤s.length:=by omega
  have q3:((i:Int)+1).toNat=i+1:=by omega
  rw [List.drop_eq_getElem_cons hi,Ep] at uC;have zy:=YZ ha hi;have wF:=Ya s (i+1)
  by_cases hc:s[i]=10
  ·have wI:s[i].toNat=10:=by rw [hc];rfl
   have zI:(s[i].toNat:Int)=10:=by omega
   rw [if_pos hc] at uC
   have hI:LnI s k (mkT 37 [(0,.str s),(3,Ab.tk 0 (out++[(s.take i).drop a++[s[i]]])),(4,.int .i64 ((i+1:Nat):Int)),(5,.int .i64 ((i+1:Nat):Int))]) [AW (out++[(s.take i).drop a++[s[i]]])] :=⟨i+1,i+1,out++[(s.take i).drop a++[s[i]]],by omega,Nat.le_refl _,by rw [List.length_append,List.length_singleton];omega,by rw [wF,List.append_assoc];exact uC,rfl,rfl⟩
   generalize hx:(s.take i).drop a++[s[i]]=x at *;have e1:Ab.c x=[.str x]:=rfl;have e2:Ab.sz=1:=rfl
   by_cases h0:out=[]
   ·subst h0
    have a1:=fun H ow fid=>JK Ab (P:=zP) (H:=H) (ow:=ow) (fid:=fid) J7 x
    rw [e1,e2] at a1;simp only [List.nil_append] at hI;simp [hi,hi',wI,zI,w1,q1,q2,q3,zy,a1]
    refine Nxt.mk k (by omega) (AE.mkV 100 (fun i=>if i=0 then 1 else i) 1 (by simp [hB]) (by intro i j hi hj h;omega) (by simp [hB]) rfl (by
     intro i hi;obtain rfl:i=0:=by omega
     simp [AH.at,AW,AJ]) (by simp [AW]) (by simp [ren,Ab.tk_ren,Ab.tk_strip,Ab.tk_low])) hI
   ·have a1:=fun H ow fid (h:AH.at H 0=some (.tok out.length))=>JJ Ab (P:=zP) (H:=H) (ow:=ow) (fid:=fid) (k:=0) J7 out x h0 h (by omega)
    rw [e1,e2] at a1;have tc:AW out=some (.tok out.length):=C0 h0;rw [tc];simp [hi,hi',wI,zI,w1,q1,q2,q3,zy,a1];exact Nxt.mk k (by omega) (AE.mkK 1 (by simp [hB]) (by simp [Ab.tk_low]) (by simp [AW]) (by simp [AW])) hI
  ·have wI:¬s[i].toNat=10:=fun h=>hc (UInt8.toNat_inj.1 (by rw [h];rfl))
   have zI:¬(s[i].toNat:Int)=10:=by omega
   rw [if_neg hc,←zy] at uC;have hI:LnI s k (mkT 37 [(0,.str s),(3,Ab.tk 0 out),(4,.int .i64 (a:Int)),(5,.int .i64 ((i+1:Nat):Int))]) [AW out]:=⟨i+1,a,out,by omega,by omega,by omega,uC,rfl,rfl⟩
   simp [hi,hi',wI,zI,w1];exact Nxt.mk k (by omega) (AE.mkK 1 (by simp [hB]) (by simp [Ab.tk_low]) (by simp) (GU 1 out)) hI
 ·obtain rfl:i=s.length:=by omega
  rw [List.drop_of_length_le (Nat.le_refl _),List.take_of_length_le (Nat.le_refl _),Ep] at uC
  by_cases h1:a<s.length
  ·have h1':(a:Int)<s.length:=by omega
   have q1:(a:Int)≤s.length:=by omega
   have sU:¬s.drop a=[]:=fun h=>by have:=congrArg List.length h;rw [List.length_drop] at this;simp at this;omega
   rw [if_neg sU] at uC;generalize hx:s.drop a=x at *;have e1:Ab.c x=[.str x]:=rfl;have e2:Ab.sz=1:=rfl
   by_cases h0:out=[]
   ·subst h0
    have a1:=fun H ow fid=>JK Ab (P:=zP) (H:=H) (ow:=ow) (fid:=fid) J7 x
    rw [e1,e2] at a1;have zz:=Ab.tk_cut (show ¬1<0 by omega) [x];simp [h1,h1',q1,hx,a1,zz,←uC]
   ·have a1:=fun H ow fid (h:AH.at H 0=some (.tok out.length))=>JJ Ab (P:=zP) (H:=H) (ow:=ow) (fid:=fid) (k:=0) J7 out x h0 h (by omega)
    rw [e1,e2] at a1;have tc:AW out=some (.tok out.length):=C0 h0;have zz:=Ab.tk_cut (show ¬0<0 by omega) (out++[x]);rw [tc];simp [h1,h1',q1,hx,a1,zz,←uC]
  ·have h1':¬(a:Int)<s.length:=by omega
   have z0:s.drop a=[]:=List.drop_of_length_le (by omega);rw [if_pos z0,List.append_nil] at uC;simp [h1,h1',tA,←uC]
def FC (c:UInt8):Bool:=(decide (c.toNat<32) || decide (126<c.toNat)) && !decide (c.toNat=9) && !decide (c.toNat=10)
def Dq:Nat→List (List UInt8)→Er
 |_,[]=>none
 |i,l::r=>if 200<l.length then some ([(DS,i)],4) else if l.any FC then some ([(DS,i)],3) else Dq (i+1) r
def J8:List UInt8:=[116,101,120,116]
def CN (s:List UInt8):List (List UInt8) × Er:=if 65536<s.length then ([],some ([(J8,0)],4)) else
 match Dq 0 (FB s) with
 |some y=>([],some y)
 |none=>(FB s,none)
def Ft (s:List UInt8):List Nd × List (List UInt8) × Er:=match CN s with
 |(_,some y)=>([],[],some y)
 |(ls,none)=>match EJ ls with
  |(_,some y)=>([],[],some y)
  |(t,none)=>(t,ls,none)
theorem MQ:∀(s acc:List UInt8),(Ep acc s).length≤s.length+1
 |[],acc=>by rw [Ep];split<;>simp
 |c::r,acc=>by
  rw [Ep]
  split
  ·have:=MQ r []
   simp only [List.length_cons];omega
  ·have:=MQ r (acc++[c])
   simp only [List.length_cons];omega
noncomputable def MR:AF zP AG:=AF.pure 20 (fun _:List UInt8 × Int × Int=>True) (fun x=>[.str x.1,.int .i64 x.2.1,.int .i64 x.2.2]) (fun x => .agg [.slice .full 2 1 [.str x.1,.int .i64 x.2.1],.int .i64 x.2.2])
 (fun x _ H=>(Ra.1 _ _ _ _ _ (Ln x.1 x.2.1 x.2.2 H)).1) (fun x y _ _ h=>by
  simp only [List.cons.injEq,AV.str.injEq,AV.int.injEq,true_and,and_true] at h
  rw [h.1,h.2.1,h.2.2])
noncomputable def MS:AF zP AG:=AF.pure 40 (fun s:List UInt8=>s.length<1000000) (fun s=>[.str s]) (fun s=>Ab.av (FB s)) (fun s h H=>Yb s h H) (fun x y _ _ h=>by
 simp only [List.cons.injEq,AV.str.injEq,and_true] at h
 rw [h])
def spT (ls:List (List UInt8)) (i:Nat):List AV:=mkT 61 [(3,.ptr 0 0),(4,Ab.av ls),(5,.int .i64 (i:Int))]
def spH:AH:=[some (.box [.nilSlice,.int .i64 0])]
def SpI (ls:List (List UInt8)) (k:Nat) (t:List AV) (H:AH):Prop:=∃i,i+k=ls.length∧Dq i (ls.drop i)=Dq 0 ls∧t=spT ls i∧H=spH
def SqI (ls:List (List UInt8)) (l:List UInt8) (i:Nat) (k:Nat) (t:List AV) (H:AH):Prop:=∃j,j+k=l.length∧l.any FC=(l.drop j).any FC∧t=mkT 61 [(3,.ptr 0 0),(4,Ab.av ls),(5,.int .i64 (i:Int)),(6,.int .i64 (j:Int))]∧H=spH
theorem Yc (s:List UInt8) (hs:s.length<1000000) (H:AH):CS zP AG 23 [.str s] H (.tup [Ab.av (CN s).1,erA (CN s).2]) H:=by
 have hL:([MS,MR].map (·.f)).Nodup:=show ([40,20]:List Nat).Nodup by decide
 have X:=Bq [MS,MR] Bw Ae;have f1:=fun H=>CV hL (show MS∈_ by simp) s hs H
 have f2:=fun w p e H=>CV hL (show MR∈_ by simp) (w,p,e) trivial H
 simp only at f1 f2;generalize oOf [MS,MR]=O at X f1 f2;refine CS.tr0 BL Tryz.func23 (by kernel_rfl) 0 (by simp [Tryz.f23]) (fun B hB hG => ?_) (by simp) (by simp) H;refine Tr.goD X hG ?_;have tG:=MQ s [];have tG:(FB s).length≤s.length+1:=tG;unfold CN
 by_cases h1:65536<s.length
 ·have h1':(65536:Int)<s.length:=by omega
  simp [Tryz.f23,h1,h1',f2,erP,erC,CB,B3,J8]
 have h1':¬(65536:Int)<s.length:=by omega
 rw [if_neg h1];simp [Tryz.f23,h1,h1',f1];generalize FB s=ls at *;refine LpD.loopN X hG (SpI ls) ls.length (t':=spT ls 0) (H':=spH) (AE.mkK 1 (by simp [hB]) (by simp) (by simp [spH]) (by simp [spH])) ⟨0,by omega,rfl,rfl,rfl⟩ ?_;rintro k t H ⟨i,sa,vW,rfl,rfl⟩
 by_cases hi:i<ls.length
 ·obtain ⟨k,rfl⟩:∃j,k=j+1:=⟨k-1,by omega⟩
  have hi':(i:Int)<ls.length:=by omega
  obtain ⟨l,hl⟩:∃l,ls[i]? = some l:=⟨_,List.getElem?_eq_getElem hi⟩
  have g0:(Ab.row ls)[i*1+0]? = some (.str l):=Ab.row_cell hl 0 (by decide);simp only [Nat.mul_one,Nat.add_zero] at g0
  have hd:ls.drop i=l::ls.drop (i+1):=by rw [List.drop_eq_getElem_cons hi];rw [List.getElem?_eq_getElem hi] at hl;injection hl with hl;rw [hl]
  rw [hd,Dq] at vW;have wi:IntKind.i64.wrap ((i:Int)+1)=(i:Int)+1:=AZ (by omega) (by omega)
  by_cases h2:200<l.length
  ·have h2':(200:Int)<l.length:=by omega
   rw [if_pos h2] at vW;rw [←vW];simp [spT,spH,hi,hi',g0,h2,h2',f2,erP,erC,CB,B3,DS]
  ·have h2':¬(200:Int)<l.length:=by omega
   rw [if_neg h2] at vW;simp [spT,spH,hi,hi',g0,h2,h2'];refine LpD.loopN X hG (SqI ls l i) l.length (t':=mkT 61 [(3,.ptr 0 0),(4,Ab.av ls),(5,.int .i64 (i:Int)),(6,.int .i64 0)]) (H':=spH) (AE.mkK 1 (by simp [hB]) (by simp) (by simp [spH]) (by simp [spH])) ⟨0,by omega,rfl,rfl,rfl⟩ ?_;rintro k' t H ⟨j,vN,vO,rfl,rfl⟩
   by_cases hj:j<l.length
   ·obtain ⟨k',rfl⟩:∃j,k'=j+1:=⟨k'-1,by omega⟩
    have hj':(j:Int)<l.length:=by omega
    have wj:IntKind.i64.wrap ((j:Int)+1)=(j:Int)+1:=AZ (by omega) (by omega);rw [List.drop_eq_getElem_cons hj,List.any_cons] at vO;have sd:=(l[j]).toNat_lt;cases hb:FC l[j] with
    |true =>
     rw [hb,Bool.true_or] at vO;rw [vO] at vW;simp only [if_true] at vW;rw [←vW]
     have vg:(l[j].toNat<32∨126<l[j].toNat)∧l[j].toNat≠9∧l[j].toNat≠10:=by simp [FC] at hb;exact ⟨hb.1.1,hb.1.2,hb.2⟩
     by_cases hq:l[j].toNat<32
     ·have hA:l[j].toNat<32:=by omega
      have hA':(l[j].toNat:Int)<32:=by omega
      have tT:¬126<l[j].toNat:=by omega
      have vP:¬(126:Int)<l[j].toNat:=by omega
      have h9:¬l[j].toNat=9:=by omega
      have h9':¬(l[j].toNat:Int)=9:=by omega
      have um:((l[j].toNat:Int)==9)=false:=by rw [beq_eq_false_iff_ne];omega
      have tg:¬l[j].toNat=10:=by omega
      have vE:¬(l[j].toNat:Int)=10:=by omega
      have vF:((l[j].toNat:Int)==10)=false:=by rw [beq_eq_false_iff_ne];omega
      simp [spH,hi,hi',g0,hj,hj',hA,hA',tT,vP,h9,h9',um,tg,vE,vF,f2,erP,erC,CB,B3,DS]
     ·have hA:¬l[j].toNat<32:=by omega
      have hA':¬(l[j].toNat:Int)<32:=by omega
      have tT:126<l[j].toNat:=by omega
      have vP:(126:Int)<l[j].toNat:=by omega
      have h9:¬l[j].toNat=9:=by omega
      have h9':¬(l[j].toNat:Int)=9:=by omega
      have um:((l[j].toNat:Int)==9)=false:=by rw [beq_eq_false_iff_ne];omega
      have tg:¬l[j].toNat=10:=by omega
      have vE:¬(l[j].toNat:Int)=10:=by omega
      have vF:((l[j].toNat:Int)==10)=false:=by rw [beq_eq_false_iff_ne];omega
      simp [spH,hi,hi',g0,hj,hj',hA,hA',tT,vP,h9,h9',um,tg,vE,vF,f2,erP,erC,CB,B3,DS]
    |false =>
     rw [hb,Bool.false_or] at vO;have hI:SqI ls l i k' (mkT 61 [(3,.ptr 0 0),(4,Ab.av ls),(5,.int .i64 (i:Int)),(6,.int .i64 ((j+1:Nat):Int))]) spH:=⟨j+1,by omega,vO,rfl,rfl⟩
     have vg:l[j].toNat=9∨l[j].toNat=10∨(¬l[j].toNat<32∧¬126<l[j].toNat):=by simp [FC] at hb;omega
     rcases vg with hq|hq|hq
     ·have hA:l[j].toNat<32:=by omega
      have hA':(l[j].toNat:Int)<32:=by omega
      have tT:¬126<l[j].toNat:=by omega
      have vP:¬(126:Int)<l[j].toNat:=by omega
      have h9:l[j].toNat=9:=by omega
      have h9':(l[j].toNat:Int)=9:=by omega
      have um:((l[j].toNat:Int)==9)=true:=by rw [beq_iff_eq];omega
      have tg:¬l[j].toNat=10:=by omega
      have vE:¬(l[j].toNat:Int)=10:=by omega
      have vF:((l[j].toNat:Int)==10)=false:=by rw [beq_eq_false_iff_ne];omega
      simp [spH,hi,hi',g0,hj,hj',hA,hA',tT,vP,h9,h9',um,tg,vE,vF,wj];exact Nxt.mk k' (by omega) (AE.mkK 1 (by simp [hB]) (by simp) (by simp [spH]) (by simp [spH])) hI
     ·have hA:l[j].toNat<32:=by omega
      have hA':(l[j].toNat:Int)<32:=by omega
      have tT:¬126<l[j].toNat:=by omega
      have vP:¬(126:Int)<l[j].toNat:=by omega
      have h9:¬l[j].toNat=9:=by omega
      have h9':¬(l[j].toNat:Int)=9:=by omega
      have um:((l[j].toNat:Int)==9)=false:=by rw [beq_eq_false_iff_ne];omega
      have tg:l[j].toNat=10:=by omega
      have vE:(l[j].toNat:Int)=10:=by omega
      have vF:((l[j].toNat:Int)==10)=true:=by rw [beq_iff_eq];omega
      simp [spH,hi,hi',g0,hj,hj',hA,hA',tT,vP,h9,h9',um,tg,vE,vF,wj];exact Nxt.mk k' (by omega) (AE.mkK 1 (by simp [hB]) (by simp) (by simp [spH]) (by simp [spH])) hI
     ·have hA:¬l[j].toNat<32:=by omega
      have hA':¬(l[j].toNat:Int)<32:=by omega
      have tT:¬126<l[j].toNat:=by omega
      have vP:¬(126:Int)<l[j].toNat:=by omega
      have h9:¬l[j].toNat=9:=by omega
      have h9':¬(l[j].toNat:Int)=9:=by omega
      have um:((l[j].toNat:Int)==9)=false:=by rw [beq_eq_false_iff_ne];omega
      have tg:¬l[j].toNat=10:=by omega
      have vE:¬(l[j].toNat:Int)=10:=by omega
      have vF:((l[j].toNat:Int)==10)=false:=by rw [beq_eq_false_iff_ne];omega
      simp [spH,hi,hi',g0,hj,hj',hA,hA',tT,vP,h9,h9',um,tg,vE,vF,wj];exact Nxt.mk k' (by omega) (AE.mkK 1 (by simp [hB]) (by simp) (by simp [spH]) (by simp [spH])) hI
   ·have hj':¬(j:Int)<l.length:=by omega
    have z1:l.any FC=false:=by rw [vO,List.drop_of_length_le (by omega)];rfl
    rw [z1] at vW;simp only [Bool.false_eq_true,if_false] at vW;have hI:SpI ls k (spT ls (i+1)) spH:=⟨i+1,by omega,vW,rfl,rfl⟩
    simp [spH,hi,hi',g0,hj,hj',wi];exact Nxt.mk k (by omega) (AE.mkK 1 (by simp [hB]) (by simp) (by simp [spH]) (by simp [spH])) hI
 ·have hi':¬(i:Int)<ls.length:=by omega
  rw [List.drop_of_length_le (by omega),Dq] at vW;rw [←vW];simp [spT,spH,hi,hi',A2,A3]
theorem SU:∀(ls:List (List UInt8)) (i:Nat),Dq i ls=none→∀l∈ls,l.length≤200
 |[],_,_,_,hm=>by cases hm
 |x::ls,i,h,l,hm=>by
  rw [Dq] at h
  split at h
  ·cases h
  ·rename_i h1
   split at h
   ·cases h
   ·rcases List.mem_cons.1 hm with rfl|hm
    ·omega
    ·exact SU ls (i+1) h l hm
theorem SV:∀(ls:List (List UInt8)) (i:Nat),AO (Dq i ls)
 |[],_=>Bx
 |x::ls,i=>by
  rw [Dq]
  split
  ·exact HF (by simp) (by decide)
  ·split
   ·exact HF (by simp) (by decide)
   ·exact SV ls (i+1)
theorem MT (s:List UInt8) (hs:s.length<900000):AO (CN s).2∧((CN s).2=none→(CN s).1.length<1000000∧∀l∈(CN s).1,l.length<1000000):=by
 unfold CN
 split
 ·exact ⟨HF (by simp) (by decide),fun h=>by cases h⟩
 ·have h1:=SV (FB s) 0
  have h2:=SU (FB s) 0;have h3:(FB s).length≤s.length+1:=MQ s [];generalize Dq 0 (FB s)=e at *;cases e with
  |none=>exact ⟨Bx,fun _=>⟨by simp only;omega,fun l hl=>by have:=h2 rfl l hl;omega⟩⟩
  |some y=>exact ⟨h1,fun h=>by cases h⟩
theorem SW {ls:List (List UInt8)} (h:ls.length<1000000):AO (EJ ls).2:=by
 unfold EJ;have h1:=((JA (MM h) 8).goes 0 0 ⟨0,none,false⟩).ok Bx;simp only
 split
 ·rename_i hb
  rw [hb] at h1;exact h1
 ·exact Bx
noncomputable def MU:AF zP AG:=AF.pure 23 (fun s:List UInt8=>s.length<1000000) (fun s=>[.str s]) (fun s => .tup [Ab.av (CN s).1,erA (CN s).2]) (fun s h H=>Yc s h H) (fun x y _ _ h=>by
 simp only [List.cons.injEq,AV.str.injEq,and_true] at h
 rw [h])
noncomputable def MV:AF zP AG:=AF.pure 24 (fun ls:List (List UInt8)=>ls.length<1000000∧∀s∈ls,s.length<1000000) (fun ls=>[Ab.av ls]) (fun ls=>J6 (EJ ls)) (fun ls h H=>YN ls h.1 h.2 H) (fun x y _ _ h=>by
 simp only [List.cons.injEq,and_true] at h
 rw [Ab.av_inj h])
def IZ (x:List Nd × List (List UInt8) × Er):AV := .tup [ndE.av x.1,Ab.av x.2.1,erA x.2.2]
theorem Yd (s:List UInt8) (hs:s.length<900000) (H:AH):CS zP AG 7 [.str s] H (IZ (Ft s)) H:=by
 have hL:([MU,MV].map (·.f)).Nodup:=show ([23,24]:List Nat).Nodup by decide
 have X:=Bq [MU,MV] Bw Ae;have f1:=fun H=>CV hL (show MU∈_ by simp) s (by omega) H
 have f2:=fun (ls:List (List UInt8)) (h:ls.length<1000000∧∀s∈ls,s.length<1000000) H=>CV hL (show MV∈_ by simp) ls h H
 generalize oOf [MU,MV]=O at X f1 f2;refine CS.tr0 BL Tryz.func7 (by kernel_rfl) 0 (by simp [Tryz.f7]) (fun B hB hG => ?_) (by simp [IZ]) (by simp) H;refine Tr.goD X hG ?_;have sw:=MT s hs;unfold Ft;generalize CN s=p at *;obtain ⟨ls,e⟩:=p;simp only at sw f1 ⊢;obtain ⟨he,hn⟩:=sw;cases e with
 |some y =>
  have tL:¬erC (some y)=0:=fun h=>by have:=(E7 he).1 h;cases this
  simp at f1;simp [Tryz.f7,f1,tL];refine LpD.turns X hG [3] [] ?_;simp [IZ]
 |none =>
  have hn:=hn rfl;have g2:=fun H=>f2 ls hn H
  have xq:=SW hn.1;simp only [J6] at g2
  try simp only
  generalize EJ ls=q at *;obtain ⟨nd,e2⟩:=q;simp only at g2 xq ⊢;simp [A2,A3] at f1;cases e2 with
  |some y =>
   have tL:¬erC (some y)=0:=fun h=>by have:=(E7 xq).1 h;cases this
   simp at g2;simp [Tryz.f7,f1,g2,tL];refine LpD.turns X hG [3] [] ?_;simp [IZ]
  |none =>simp [A2,A3] at g2;simp [Tryz.f7,f1,g2,IZ,A2,A3]
def C5 (l:List UInt8):Nat:=if 200<l.length then 4 else if l.any FC then 3 else 0
theorem Ye {s:List UInt8} {i:Nat} (h:i<s.length):(Do s)[i]? = some (.int .u8 (s[i].toNat:Int)):=by unfold Do;rw [List.getElem?_map,List.getElem?_eq_getElem h];rfl
def ckT (l:List UInt8) (i:Nat):List AV:=mkT 32 [(2,.nilIface),(10,.slice .unk 1 l.length (Do l)),(11,.int .i64 (l.length:Int)),(12,.int .i64 (i:Int))]
def CkI (l:List UInt8) (k:Nat) (t:List AV) (H:AH):Prop:=∃i,i+k=l.length∧l.any FC=(l.drop i).any FC∧t=ckT l i∧H=[]
theorem MW (l:List UInt8):lowL 0 (Do l)=true:=by
 unfold Do
 induction l with
 |nil=>rfl
 |cons c l ih=>simp only [List.map_cons,lowL,ih];rfl
theorem Yf (l:List UInt8) (hl:l.length<1000000) (H:AH):CS zP Ac 35 [.str l] H (Bt (C5 l)) H:=by
 refine CS.tr0 Dg Tryz.func35 (by kernel_rfl) 0 (by simp [Tryz.f35]) (fun B hB hG => ?_) (by unfold Bt;split<;>rfl) (by simp) H;refine Tr.goW DB hG ?_;unfold C5
 by_cases h2:200<l.length
 ·have h2':(200:Int)<l.length:=by omega
  rw [if_pos h2];simp [Tryz.f35,h2,h2',Bt]
 ·have h2':¬(200:Int)<l.length:=by omega
  have h3:l.length≤9223372036854775807:=by omega
  rw [if_neg h2];generalize vU:Bt (if l.any FC=true then 3 else 0)=cv;simp [Tryz.f35,h2,h2',h3];refine LpD.loopW [] hG (CkI l) l.length (t':=ckT l 0) (H':=[]) (AE.mk0 hB (by simp [MW])) ⟨0,by omega,rfl,rfl,rfl⟩ ?_;rintro k t H ⟨j,vN,vO,rfl,rfl⟩;refine ⟨Bl,DB,?_⟩
  by_cases hj:j<l.length
  ·obtain ⟨k,rfl⟩:∃j,k=j+1:=⟨k-1,by omega⟩
   have hj':(j:Int)<l.length:=by omega
   have wj:IntKind.i64.wrap ((j:Int)+1)=(j:Int)+1:=AZ (by omega) (by omega);have su:=Ye hj;rw [List.drop_eq_getElem_cons hj,List.any_cons] at vO;have sd:=(l[j]).toNat_lt;cases hb:FC l[j] with
   |true =>
    rw [hb,Bool.true_or] at vO;rw [vO] at vU;subst vU
    have vg:(l[j].toNat<32∨126<l[j].toNat)∧l[j].toNat≠9∧l[j].toNat≠10:=by simp [FC] at hb;exact ⟨hb.1.1,hb.1.2,hb.2⟩
    have h9':¬(l[j].toNat:Int)=9:=by omega
    have um:((l[j].toNat:Int)==9)=false:=by rw [beq_eq_false_iff_ne];omega
    have h9:=vg.2.1;have tg:=vg.2.2;have vE:¬(l[j].toNat:Int)=10:=by omega
    have vF:((l[j].toNat:Int)==10)=false:=by rw [beq_eq_false_iff_ne];omega
    by_cases hq:l[j].toNat<32
    ·have hA':(l[j].toNat:Int)<32:=by omega
     simp [ckT,hj,hj',su,hq,hA',h9,h9',um,tg,vE,vF,Bt]
    ·have hA':¬(l[j].toNat:Int)<32:=by omega
     have tT:126<l[j].toNat:=by omega
     have vP:(126:Int)<l[j].toNat:=by omega
     simp [ckT,hj,hj',su,hq,hA',tT,vP,h9,h9',um,tg,vE,vF,Bt]
   |false =>
    rw [hb,Bool.false_or] at vO;have hI:CkI l k (ckT l (j+1)) []:=⟨j+1,by omega,vO,rfl,rfl⟩
    have vg:l[j].toNat=9∨l[j].toNat=10∨(¬l[j].toNat<32∧¬126<l[j].toNat):=by simp [FC] at hb;omega
    have fin:∀{L:List (Nat × AV)},AE B (mkT 32 L) [] (ckT l (j+1)) []→Nxt B (CkI l) (k+1) (mkT 32 L) []:=fun h=>Nxt.mk k (by omega) h hI
    rcases vg with hq|hq|hq
    ·have hA:l[j].toNat<32:=by omega
     have hA':(l[j].toNat:Int)<32:=by omega
     have um:((l[j].toNat:Int)==9)=true:=by rw [beq_iff_eq];omega
     have h9':(l[j].toNat:Int)=9:=by omega
     simp [ckT,hj,hj',su,hA,hA',hq,h9',um,wj];exact fin (AE.mk0 hB (by simp [MW]))
    ·have hA:l[j].toNat<32:=by omega
     have hA':(l[j].toNat:Int)<32:=by omega
     have h9:¬l[j].toNat=9:=by omega
     have h9':¬(l[j].toNat:Int)=9:=by omega
     have um:((l[j].toNat:Int)==9)=false:=by rw [beq_eq_false_iff_ne];omega
     have vF:((l[j].toNat:Int)==10)=true:=by rw [beq_iff_eq];omega
     have vE:(l[j].toNat:Int)=10:=by omega
     simp [ckT,hj,hj',su,hA,hA',h9,h9',um,hq,vE,vF,wj];exact fin (AE.mk0 hB (by simp [MW]))
    ·have hA:=hq.1
     have hA':¬(l[j].toNat:Int)<32:=by omega
     have tT:=hq.2;have vP:¬(126:Int)<l[j].toNat:=by omega
     simp [ckT,hj,hj',su,hA,hA',tT,vP,wj];exact fin (AE.mk0 hB (by simp [MW]))
  ·have hj':¬(j:Int)<l.length:=by omega
   have z1:l.any FC=false:=by rw [vO,List.drop_of_length_le (by omega)];rfl
   rw [z1] at vU;subst vU;simp [ckT,hj,hj',Bt]
noncomputable def MX:AF zP Ac:=AF.pure 35 (fun l:List UInt8=>l.length<1000000) (fun l=>[.str l]) (fun l=>Bt (C5 l)) (fun l h H=>Yf l h H) (fun x y _ _ h=>by
 simp only [List.cons.injEq,AV.str.injEq,and_true] at h
 rw [h])
theorem Yg (s:List UInt8) (c:Int) (H:AH):CS zP Ac 95 [.str s,.int .u8 c] H (.int .i64 (Lib.indexByte s c.toNat.toUInt8)) H:=by
 refine CS.of_calls fun g w cargs hA => ?_
 simp only [AB,AA] at hA;obtain ⟨_,_,rfl,rfl,_,_,rfl,rfl,rfl⟩:=hA;refine (Uo _ c w).mono ?_;rintro e w' ⟨rfl,rfl⟩;exact ⟨_,rfl,fun g=>by simp [AA],rfl⟩
theorem Yh (s:List UInt8) (hs:s.length<1000000) (H:AH):CS zP Ac 112 [.str s,.str [10]] H (.int .i64 (Lib.indexByte s 10)) H:=by
 have X:=FL (S:=[]) (Yg s 10 []) DB;have hO:=Ev 95 [.str s,.int .u8 10] [] (.int .i64 (Lib.indexByte s (10:Int).toNat.toUInt8)) [] Bl;have hc:(10:Int).toNat.toUInt8=10:=rfl;rw [hc] at hO X;generalize orP 95 [.str s,.int .u8 10] [] (.int .i64 (Lib.indexByte s 10)) [] Bl=O at X hO;refine CS.tr0 Dg Tryz.func112 (by kernel_rfl) 0 (by simp [Tryz.f112]) (fun B hB hG => ?_) rfl (by simp) H;refine Tr.goW X hG ?_
 by_cases h:s=[10]
 ·subst h
  have:Lib.indexByte [10] 10=0:=rfl;rw [this] at hO ⊢;simp [Tryz.f112,hO]
 ·have h1:([10]==s)=false:=by rw [beq_eq_false_iff_ne];exact fun e=>h e.symm
  have h2:¬[10]=s:=fun e=>h e.symm
  simp [Tryz.f112,hO,h,h1,h2]
theorem Yi (s:List UInt8) (hs:s.length<1000000) (H:AH):CS zP Ac 79 [.str s,.str [10]] H (.int .i64 (Lib.indexByte s 10)) H:=by
 have X:=FL (S:=[]) (Yh s hs []) DB;have hO:=Ev 112 [.str s,.str [10]] [] (.int .i64 (Lib.indexByte s 10)) [] Bl;generalize orP 112 [.str s,.str [10]] [] (.int .i64 (Lib.indexByte s 10)) [] Bl=O at X hO;refine CS.tr0 Dg Tryz.func79 (by kernel_rfl) 0 (by simp [Tryz.f79]) (fun B hB hG => ?_) rfl (by simp) H;refine Tr.goW X hG ?_;have ul:AI zP 112=true:=by kernel_rfl
 simp [Tryz.f79,hO,ul]
noncomputable def MY:AF zP Ac:=AF.pure 79 (fun s:List UInt8=>s.length<1000000) (fun s=>[.str s,.str [10]]) (fun s => .int .i64 (Lib.indexByte s 10)) (fun s h H=>Yi s h H) (fun x y _ _ h=>by
 simp only [List.cons.injEq,AV.str.injEq,and_true] at h
 rw [h])
def JO:AV := .func (.func 77) [] [.ptr 1 0,.ptr 0 0,.ptr 2 0]
def FD (s:List UInt8):AH:=[some (.box [.str s]),some (.box [.str [10]]),some (.box [.int .i64 1])]
theorem Yj (s:List UInt8):CS zP Ac 55 [.str s,.str [10],.int .i64 1] [] JO (FD s):=by refine CS.of_TrN (c:=At Tryz.f55) (H0:=[]) (H1:=FD s) 3 (by simp) Tryz.func55 (by kernel_rfl) 0 (by simp [Tryz.f55]) (fun B hB hG => ?_) rfl rfl;refine Tr.goW DB hG ?_;simp [Tryz.f55,JO,FD]
theorem Yk (s:List UInt8):CS zP Ac 34 [.str s,.str [10]] [] JO (FD s):=by have X:=FL (S:=[]) (Yj s) DB;have hO:=Ev 55 [.str s,.str [10],.int .i64 1] [] JO (FD s) Bl;generalize orP 55 [.str s,.str [10],.int .i64 1] [] JO (FD s) Bl=O at X hO;refine CS.of_TrN (c:=At Tryz.f34) (H0:=[]) (H1:=FD s) 3 (by simp) Tryz.func34 (by kernel_rfl) 0 (by simp [Tryz.f34]) (fun B hB hG => ?_) rfl rfl;refine Tr.goW X hG ?_;simp only [JO,FD] at hO;simp [Tryz.f34,hO,JO,FD]
theorem Ym (s:List UInt8) (a b c:List AV):CS zP Ac 34 [.str s,.str [10]] [some (.box a),some (.box b),some (.box c)] (.func (.func 77) [] [.ptr 4 0,.ptr 3 0,.ptr 5 0]) ([some (.box a),some (.box b),some (.box c)]++FD s):=by
 have:=CS.grow (k:=0) (n:=3) (fun i=>i+3) (H:=[some (.box a),some (.box b),some (.box c)]) (H':=[some (.box a),some (.box b),some (.box c)]++FD s) (Yk s) rfl rfl (by omega) (fun i j _ _ h=>by omega) Dg rfl rfl rfl rfl (fun i hi=>by omega)
  (fun i h1 h2=>Cy (by simp)) (by
   intro i hi
   rcases (by omega:i=0∨i=1∨i=2) with rfl|rfl|rfl<;>rfl) (by
   intro j hj;have h0:=hj 0 (by decide);have h1:=hj 1 (by decide);have h2:=hj 2 (by decide);rcases (by omega:j=0∨j=1∨j=2∨6≤j) with rfl|rfl|rfl|h
   ·rfl
   ·rfl
   ·rfl
   ·rw [Cy (by simp [FD];omega),Cy (by simp;omega)])
 exact this
theorem SX (c:UInt8) (s:List UInt8):Lib.indexByte (c::s) 10=if c=10 then 0 else if Lib.indexByte s 10<0 then -1 else Lib.indexByte s 10+1:=by
 have wR:=Lib.indexByte_ge s 10;rw [Lib.indexByte]
 by_cases hc:c=10
 ·rw [if_pos hc,if_pos (by simpa using hc)]
 ·rw [if_neg hc,if_neg (by simpa using hc)]
  by_cases h:Lib.indexByte s 10 = -1
  ·rw [if_pos (by simpa using h),if_pos (by omega)]
  ·rw [if_neg (by simpa using h),if_neg (by omega)]
theorem Ou:∀(s acc:List UInt8) (i:Nat),Lib.indexByte s 10=(i:Int)→i<s.length∧Ep acc s=(acc++s.take (i+1))::Ep [] (s.drop (i+1))
 |[],acc,i,h=>by have h1:Lib.indexByte [] 10 = -1:=rfl;omega
 |c::s,acc,i,h=>by
  rw [SX] at h;rw [Ep]
  by_cases hc:c=10
  ·rw [if_pos hc] at h
   obtain rfl:i=0:=by omega
   rw [if_pos hc];simp
  ·rw [if_neg hc] at h
   rw [if_neg hc]
   split at h
   ·omega
   ·obtain ⟨j,rfl⟩:∃j,i=j+1:=⟨i-1,by omega⟩
    obtain ⟨h1,h2⟩:=Ou s (acc++[c]) j (by omega);rw [h2];refine ⟨by simp only [List.length_cons];omega,?_⟩;simp
theorem SY:∀(s acc:List UInt8),Lib.indexByte s 10<0→Ep acc s=if acc++s=[] then [] else [acc++s]
 |[],acc,_=>by rw [Ep];simp
 |c::s,acc,h=>by
  rw [SX] at h;rw [Ep]
  by_cases hc:c=10
  ·rw [if_pos hc] at h;omega
  ·rw [if_neg hc] at h
   rw [if_neg hc];rw [SY s (acc++[c]) (by split at h<;>omega)];simp
def Ea (ls:List (List UInt8)) (rest:List UInt8):List (List UInt8) × Er:=match Dq ls.length (FB rest) with
 |some y=>([],some y)
 |none=>(ls++FB rest,none)
theorem SZ (s:List UInt8) (h:s.length≤65536):CN s=Ea [] s:=by unfold CN Ea;rw [if_neg (by omega)];rfl
theorem Sa (i:Nat) (l:List UInt8) (r:List (List UInt8)):Dq i (l::r)=if C5 l=0 then Dq (i+1) r else some ([(DS,i)],C5 l):=by
 rw [Dq];unfold C5
 split
 ·rfl
 ·split
  ·rfl
  ·rfl
theorem Yn {ls:List (List UInt8)} {s:List UInt8} {i:Nat} (h:Lib.indexByte s 10=(i:Int)):Ea ls s=if C5 (s.take (i+1))=0 then Ea (ls++[s.take (i+1)]) (s.drop (i+1)) else ([],some ([(DS,ls.length)],C5 (s.take (i+1)))):=by
 have h1:=(Ou s [] i h).2;unfold Ea FB;rw [h1,List.nil_append,Sa]
 by_cases hc:C5 (s.take (i+1))=0
 ·rw [if_pos hc,if_pos hc,List.length_append,List.length_singleton]
  cases Dq (ls.length+1) (Ep [] (s.drop (i+1))) with
  |some y=>rfl
  |none=>simp
 ·rw [if_neg hc,if_neg hc]
theorem Yo {ls:List (List UInt8)} {s:List UInt8} (h:Lib.indexByte s 10<0):Ea ls s=if s=[] then (ls,none) else if C5 s=0 then (ls++[s],none) else ([],some ([(DS,ls.length)],C5 s)):=by
 have h1:=SY s [] h;rw [List.nil_append] at h1;unfold Ea FB;rw [h1]
 by_cases hs:s=[]
 ·rw [if_pos hs,if_pos hs]
  simp [Dq]
 ·rw [if_neg hs,if_neg hs,Sa]
  by_cases hc:C5 s=0
  ·rw [if_pos hc,if_pos hc]
   simp [Dq]
  ·rw [if_neg hc,if_neg hc]
@[simp] theorem pZ:Ac.imm 85=true:=by decide
@[simp] theorem pa (w:List UInt8) (p c:Int):Ay zP 85 [(0,.str w),(1,.int .i64 p),(2,.iface 83 (.int .i64 c))]=some (.agg [.str w,.int .i64 p,.iface 83 (.int .i64 c)]):=by kernel_rfl
@[simp high] theorem pb (k:Nat) (l:List (List UInt8)):alen zP 25 (Ab.tk k l)=some (.int .i64 l.length):=Ab.tk_len Tryz.underlying25 k l
@[simp] theorem Sb:Ac.soft 25=false:=by decide
def GL:Code→Option (Code × Code)
 |.rangeFunc _ _ a b=>some (a,b)
 |.seq a b=>(match GL a with
  |some x=>some x
  |none=>GL b)
 |.block _ c=>GL c
 |_=>none
noncomputable def JP:Code:=((GL (At Tryz.f21)).getD (.skip,.skip)).1
noncomputable def GM:Code:=((GL (At Tryz.f21)).getD (.skip,.skip)).2
def hS (e:Er) (ls:List (List UInt8)) (rest:List UInt8):AH:=[some (.box [.nilSlice]),some (.box [erI e]),some (.box [Ab.tk 6 ls]),some (.box [.str rest]),some (.box [.str [10]]),some (.box [.int .i64 1])]++(if ls=[] then [] else [some (.tok ls.length)])
theorem MZ (e:Er) (ls:List (List UInt8)) (rest:List UInt8):(hS e ls rest).length=if ls=[] then 6 else 7:=by unfold hS;split<;>rfl
theorem Yp (e:Er) (ls:List (List UInt8)) (rest:List UInt8):AR (hS e ls rest).length (hS e ls rest)=true:=by
 unfold hS
 by_cases h:ls=[]
 ·subst h;simp
 ·have:=Ab.tk_low (k:=6) (m:=7) (by decide) ls
  simp [h,this]
def RdQ (ls:List (List UInt8)) (rest f:List UInt8):AEx→List AV→AH→Prop:=fun e _ H =>(f=[]∧e = .exit 0∧H=hS none ls rest)∨(f≠[]∧C5 f≠0∧e = .ret∧H=hS (some ([(DS,ls.length)],C5 f)) ls rest)∨(f≠[]∧C5 f=0∧e = .normal∧(H=hS none (ls++[f]) rest∨H=hS none (ls++[f]) rest++[none]))
theorem Yq {B:Bs} {l:Nat} {ls:List (List UInt8)} {rest:List UInt8} (hB:B.H=hS none ls rest) (hG:An Ac B.g) {f:List UInt8} (hf:f.length<1000000) (ug:ls.length<100000000) :
  TrR (some l) zP B (fun _=>False) [] GM (mkT 34 [(2,.ptr 0 0),(3,.ptr 1 0),(4,.ptr 2 0),(5,.str f)]) (hS none ls rest) (RdQ ls rest f):=by
 have X:=(Bq [MX] Jv Ae)
 have hL:([MX].map (·.f)).Nodup:=show ([35]:List Nat).Nodup by decide
 have f1:=fun (H:AH)=>Ce hL MX (by simp) (x:=f) (H:=H) hf
 generalize oOf [MX]=O at X f1;have f1:∀H,O 35 [.str f] H=some (Bt (C5 f),H):=f1;refine TrR.go X hG [] (by kernel_rfl) ?_
 by_cases h0:f=[]
 ·subst h0
  unfold hS
  by_cases hl:ls=[]
  ·subst hl
   simp [GM,GL,Tryz.f21,RdQ,hS]
  ·simp [GM,GL,Tryz.f21,RdQ,hS,hl]
 ·have h0':(f==[])=false:=by rw [beq_eq_false_iff_ne];exact h0
  by_cases hc:C5 f=0
  ·rw [hc] at f1
   have vg:Bt 0 = .nilIface:=rfl;rw [vg] at f1;have e1:Ab.c f=[.str f]:=rfl;have e2:Ab.sz=1:=rfl
   by_cases hl:ls=[]
   ·subst hl
    have a1:=fun H ow fid=>JK Ab (P:=zP) (H:=H) (ow:=ow) (fid:=fid) J7 f
    rw [e1,e2] at a1;simp [GM,GL,Tryz.f21,hS,h0,h0',f1,OZ Sb,a1];exact .inr (.inr ⟨h0,hc,rfl,.inl (by simp [hS,C0])⟩)
   ·have a1:=fun H ow fid (h:AH.at H 6=some (.tok ls.length))=>JJ Ab (P:=zP) (H:=H) (ow:=ow) (fid:=fid) (k:=6) J7 ls f hl h (by omega)
    rw [e1,e2] at a1;simp [GM,GL,Tryz.f21,hS,h0,h0',f1,hl,OZ Sb,a1]
    exact .inr (.inr ⟨h0,hc,rfl,.inr (by
     unfold hS;rw [if_neg (by simp),List.length_append]
     rfl)⟩)
  ·have hz:Bt (C5 f)=AY [] (C5 f:Int):=W8 hc
   rw [hz] at f1;have hE:erI (some ([(DS,ls.length)],C5 f))=AY [(DS,(ls.length:Int))] (C5 f:Int):=rfl
   by_cases hl:ls=[]
   ·subst hl
    simp only [AY] at f1;simp [GM,GL,Tryz.f21,hS,h0,h0',f1];refine LpR.turns X hG [6,7] [(0,6),(1,6),(2,6),(3,6),(4,6),(5,6)] (by kernel_rfl) (by kernel_rfl) ?_;simp;exact .inr (.inl ⟨h0,hc,rfl,by simp [hS,DS];rfl⟩)
   ·simp only [AY] at f1
    simp [GM,GL,Tryz.f21,hS,h0,h0',f1,hl];refine LpR.turns X hG [6,7] [(0,6),(1,6),(2,6),(3,6),(4,6),(5,6)] (by kernel_rfl) (by kernel_rfl) ?_;have i1:=Hx Ab 6 hl;simp [i1];exact .inr (.inl ⟨h0,hc,rfl,by simp [hS,DS,hl];rfl⟩)
end Go.Proofs.YtffcldkblcmmiaaGreatDoor
namespace Go.Proofs.Fw
open Go.RowKit
structure CT (l:Nat) (g:Gh) (H:AH) (w:World) (g':Gh) (H':AH) (w':World):Prop where
 le:g.le g'
 hid:∀id,H.at id=some .hid→g'.M id=g.M id∧H'.at id=some .hid
 new:∀id e',g'.M id=some e'→(∃e,g.M id=some e∧e.block=e'.block)∨w.heap.size≤e'.block
 old:∀b,b≠l→b<w.heap.size→(∀id e ge,H.at id=some e→e ≠ .hid→g.M id=some ge→ge.block≠b)→w'.heap[b]? = w.heap[b]? ∧ ∀i,g'.G b i=g.G b i
 size:w.heap.size≤w'.heap.size
 os:w'.os=w.os
 tape:w'.tape=w.tape
 output:w'.output=w.output
section
variable {l:Nat} {g g1 g2:Gh} {H H1 H2:AH} {w w1 w2:World}
theorem CT.of (p:AK g H w g1 H1 w1):CT l g H w g1 H1 w1:=⟨p.le,p.hid,p.new,fun b _ hb hn=>p.old b hb hn,p.size,p.os,p.tape,p.output⟩
theorem CT.trans (R:Rel g H w) (p:CT l g H w g1 H1 w1) (q:CT l g1 H1 w1 g2 H2 w2):CT l g H w g2 H2 w2 where
 le:=Gh.le_trans p.le q.le
 hid:=fun id h=>by obtain ⟨h1,h2⟩:=p.hid id h;obtain ⟨h3,h4⟩:=q.hid id h2;exact ⟨h3.trans h1,h4⟩
 new:=fun id e h=>by
  rcases q.new id e h with ⟨e1,h1,hb⟩|h1
  ·rcases p.new id e1 h1 with ⟨e0,h0,uX⟩|h0
   ·exact .inl ⟨e0,h0,uX.trans hb⟩
   ·exact .inr (hb ▸ h0)
  ·exact .inr (Nat.le_trans p.size h1)
 old:=fun b vd hb hn=>by
  obtain ⟨h1,h2⟩:=p.old b vd hb hn
  have:=q.old b vd (Nat.lt_of_lt_of_le hb p.size) (fun id e ge he sU hM vT=>by
   rcases p.new id ge hM with ⟨e0,h0,uX⟩|h0
   ·cases hH:H.at id with
    |none=>rw [R.free id hH] at h0;cases h0
    |some e' =>
     by_cases hh:e' = .hid
     ·subst hh
      have:=(p.hid id hH).2;rw [he] at this;injection this with this;exact sU this
     ·exact hn id e' e0 hH hh h0 (uX.trans vT)
   ·omega)
  exact ⟨this.1.trans h1,fun i=>(this.2 i).trans (h2 i)⟩
 size:=Nat.le_trans p.size q.size
 os:=q.os.trans p.os
 tape:=q.tape.trans p.tape
 output:=q.output.trans p.output
theorem CT.put (g:Gh) (H:AH) (w:World) (l:Nat) (o:Obj):CT l g H w g H (w.putObj l o) :=⟨g.le_refl,fun _ h=>⟨rfl,h⟩,fun _ e h => .inl ⟨e,h,rfl⟩,fun b hb _ _=>⟨World.putObj_heap_other hb,fun _=>rfl⟩,by rw [World.putObj_size];exact Nat.le_refl _,rfl,rfl,rfl⟩
theorem CT.post (p:CT l g H w g1 H1 w1) (h:w.heap.size≤l∨(w1.heap[l]? = w.heap[l]? ∧ ∀i,g1.G l i=g.G l i)):AK g H w g1 H1 w1 :=
 ⟨p.le,p.hid,p.new,fun b hb hn=>by
  by_cases vd:b=l
  ·subst vd
   rcases h with h|h
   ·omega
   ·exact h
  ·exact p.old b vd hb hn,p.size,p.os,p.tape,p.output⟩
theorem Yr {w:World} {l:Nat} {r:Loop} (h:w.heap[l]? = some (.loop r)) (i:Nat):w.cell? ⟨l,i,none⟩=none:=by simp only [World.cell?,h]
theorem Ov (R:Rel g H w) {r:Loop} (h:w.heap[l]? = some (.loop r)) (i:Nat):g.G l i=none:=by
 cases hG:g.G l i with
 |none=>rfl
 |some v=>have:=R.imm l i v hG;rw [Yr h] at this;cases this
theorem Rel.putF (R:Rel g H w) {r:Loop} (h:w.heap[l]? = some (.loop r)) (hfr:∀id ge,g.M id=some ge→ge.block≠l) (o:Obj):Rel g H (w.putObj l o) where
 imm:=fun b i v hb=>by
  have sU:b≠l:=fun he=>by subst he;rw [Ov R h] at hb;cases hb
  exact (EH (World.putObj_heap_other sU)).trans (R.imm b i v hb)
 free:=R.free
 ent:=fun id e he sU=>by obtain ⟨ge,hM,hr⟩:=R.ent id e he sU;exact ⟨ge,hM,hr.keep g.le_refl (World.putObj_heap_other (hfr id ge hM)) (fun _=>rfl)⟩
 inj:=R.inj
 blk:=fun id e he=>by rw [World.putObj_size];exact R.blk id e he
theorem AK.foreign (R:Rel g H w) (p:AK g H w g1 H1 w1) {b:Nat} (hb:b<w.heap.size) (hfr:∀id ge,g.M id=some ge→ge.block≠b):w1.heap[b]? = w.heap[b]? ∧ ∀id ge,g1.M id=some ge→ge.block≠b :=
 ⟨(p.old b hb fun id e ge _ _ hM=>hfr id ge hM).1,fun id ge hM=>by
  rcases p.new id ge hM with ⟨e,h1,h2⟩|h1
  ·rw [←h2];exact hfr id e h1
  ·omega⟩
theorem CT.foreign (p:CT l g H w g1 H1 w1) {b:Nat} (hb:b<w.heap.size) (hfr:∀id ge,g.M id=some ge→ge.block≠b):∀id ge,g1.M id=some ge→ge.block≠b:=fun id ge hM=>by
  rcases p.new id ge hM with ⟨e,h1,h2⟩|h1
  ·rw [←h2];exact hfr id e h1
  ·omega
theorem Rel.congr {H':AH} (R:Rel g H w) (h:∀i,H'.at i=H.at i):Rel g H' w :=⟨R.imm,fun id hi=>R.free id (by rw [←h];exact hi),fun id e he sU=>R.ent id e (by rw [←h];exact he) sU,R.inj,R.blk⟩
theorem CT.congr {H':AH} (p:CT l g H w g1 H1 w1) (h:∀i,H'.at i=H1.at i):CT l g H w g1 H' w1 :=⟨p.le,fun id hi=>⟨(p.hid id hi).1,by rw [h];exact (p.hid id hi).2⟩,p.new,p.old,p.size,p.os,p.tape,p.output⟩
end
end Go.Proofs.Fw
namespace Go.Proofs.YtffcldkblcmmiaaGreatDoor
open Go.RowKit Go.Proofs.Fw
set_option maxRecDepth 100000
set_option maxHeartbeats 4000000
noncomputable def HS (fn:FuncId) (tm:Array Value) (D:Nat) (st:LoopState) (pe:Option Code):Loop:={state:=st,pending:=pe,fn,tmps:=tm,params := #[16],assign:=JP,body:=GM,defers:=D}
def RdR (ls:List (List UInt8)) (rest f:List UInt8) (b:Bool) (st:LoopState) (pe:Option Code) (H:AH):Prop :=
 (f=[]∧b=false∧st = .done∧pe=some (.exit 0)∧H=hS none ls rest)∨(f≠[]∧C5 f≠0∧b=false∧st = .done∧pe=some .ret∧H=hS (some ([(DS,ls.length)],C5 f)) ls rest) ∨
  (f≠[]∧C5 f=0∧b=true∧st = .ready∧pe=none∧H=hS none (ls++[f]) rest)
theorem Ys (e:Er) (ls:List (List UInt8)) (rest:List UInt8) (i:Nat):(hS e ls rest).at i=AH.at (hS e ls rest++[none]) i:=by
 rcases Nat.lt_or_ge i (hS e ls rest).length with h|h
 ·rw [GD h]
 ·rw [Cy h,HI h]
  generalize i-(hS e ls rest).length=j;cases j with
  |zero=>rfl
  |succ j=>rfl
theorem Sc {g:Gh} {ls:List (List UInt8)} {rest:List UInt8} {w:World} (R:Rel g (hS none ls rest) w) (hG:An Ac g) {l D:Nat} {fn:FuncId} {tm:Array Value}
  (hl:w.heap[l]? = some (.loop (HS fn tm D .ready none))) (hfr:∀id ge,g.M id=some ge→ge.block≠l) (hT:AB g (mkT 34 [(2,.ptr 0 0),(3,.ptr 1 0),(4,.ptr 2 0)]) tm.toList) {f:List UInt8} (hf:f.length<1000000) (ug:ls.length<100000000) :
  RoundIn (C9 none) 0 zP l fn (tm.setIfInBounds 16 (.string ⟨f.toArray⟩)) JP GM w fun e w'=>∃g' H' b st pe,e = .returned (.bool b)∧Rel g' H' w'∧CT l g (hS none ls rest) w g' H' w'∧w'.heap[l]? = some (.loop (HS fn tm D st pe))∧RdR ls rest f b st pe H':=by
 have sd:l<w.heap.size:=(Array.getElem?_eq_some_iff.1 hl).1
 have th:AB g (mkT 34 [(16,.str f),(2,.ptr 0 0),(3,.ptr 1 0),(4,.ptr 2 0)]) (tm.setIfInBounds 16 (.string ⟨f.toArray⟩)).toList:=by have:=hT.set 16 (a := .str f) (v := .string ⟨f.toArray⟩) (by simp [AA]);rw [Ic] at this;rw [Array.toList_setIfInBounds];exact this
 refine roundIn_of_wpIn (F:=C9 none) trivial ?_;rw [fo]
 -- the assignment
 have hA:TrR (some l) zP ⟨g,hS none ls rest,w,R⟩ (fun _=>False) [] JP (mkT 34 [(16,.str f),(2,.ptr 0 0),(3,.ptr 1 0),(4,.ptr 2 0)]) (hS none ls rest) (fun e t H=>e = .normal∧t=mkT 34 [(5,.str f),(16,.str f),(2,.ptr 0 0),(3,.ptr 1 0),(4,.ptr 2 0)]∧H=hS none ls rest):=by refine TrR.go CP hG [] (by kernel_rfl) ?_;simp [JP,GL,Tryz.f21]
 refine hA _ _ w ⟨g,R,AK.refl _ _ _,th,rfl⟩ ?_ (fun _ _ _ h=>h.elim);rintro ex t1 H1 a1 w1 ⟨rfl,rfl,rfl⟩ ⟨g1,R1,p1,tN,sr⟩;obtain ⟨tz,zAz⟩:=AK.foreign R p1 sd hfr;rw [hl] at tz;have zBz:l<w1.heap.size:=Nat.lt_of_lt_of_le sd p1.size;refine ⟨_,run_beginRound tz rfl,?_⟩;generalize z2:w1.putObj l (.loop {HS fn tm D .ready none with state := .busy})=w2;have R2:Rel g1 (hS none ls rest) w2:=by rw [←z2];exact R1.putF tz zAz _
 have se:w2.heap[l]? = some (.loop {HS fn tm D .ready none with state := .busy}):=by rw [←z2];exact World.putObj_heap_same zBz
 have q2:CT l g (hS none ls rest) w g1 (hS none ls rest) w2:=by rw [←z2];exact (CT.of p1).trans R (CT.put g1 _ w1 l _)
 have zB0:l<w2.heap.size:=(Array.getElem?_eq_some_iff.1 se).1
 have z3:AB g1 (mkT 34 [(2,.ptr 0 0),(3,.ptr 1 0),(4,.ptr 2 0),(5,.str f)]) a1.tmps.toList:=by
  have hh:∀p∈([(2,.ptr 0 0),(3,.ptr 1 0),(4,.ptr 2 0),(5,.str f)]:List (Nat × AV)),(([(5,.str f),(16,.str f),(2,.ptr 0 0),(3,.ptr 1 0),(4,.ptr 2 0)]:List (Nat × AV)).lookup p.1).getD .undef=p.2∧low 100 p.2=true:=by simp
  exact WkL.rep (m:=100) (WkL.mkT fun p hp => .same (hh p hp).1 (hh p hp).2) tN
 refine Yq (B:=⟨g1,hS none ls rest,w2,R2⟩) rfl (hG.mono p1.le) hf ug _ _ w2 ⟨g1,R2,AK.refl _ _ _,z3,sr⟩ ?_ (fun _ _ _ h=>h.elim);rintro ex t3 H3 a3 w3 hq ⟨g3,R3,p3,wJ,xO⟩;obtain ⟨sq,yU⟩:=AK.foreign R2 p3 zB0 zAz;rw [se] at sq;have z4:l<w3.heap.size:=(Array.getElem?_eq_some_iff.1 sq).1;have q3:CT l g (hS none ls rest) w g3 H3 w3:=q2.trans R (CT.of p3);rcases hq with ⟨h0,rfl,rfl⟩|⟨h0,hc,rfl,rfl⟩|⟨h0,hc,rfl,hH⟩
 ·exact ⟨_,_,run_endRound (some (.exit 0)) sq,g3,_,false,.done,some (.exit 0),rfl,R3.putF sq yU _,q3.trans R (CT.put _ _ _ _ _),World.putObj_heap_same z4,.inl ⟨h0,rfl,rfl,rfl,rfl⟩⟩
 ·exact ⟨_,_,run_endRound (some .ret) sq,g3,_,false,.done,some .ret,rfl,R3.putF sq yU _,q3.trans R (CT.put _ _ _ _ _),World.putObj_heap_same z4,.inr (.inl ⟨h0,hc,rfl,rfl,rfl,rfl⟩)⟩
 ·have su:∀i,AH.at (hS none (ls++[f]) rest) i=AH.at H3 i:=fun i=>by
   rcases hH with rfl|rfl
   ·rfl
   ·exact Ys _ _ _ i
  exact ⟨_,_,run_endRound none sq,g3,_,true,.ready,none,rfl,(R3.congr su).putF sq yU _,(q3.congr su).trans R (CT.put _ _ _ _ _),World.putObj_heap_same z4,.inr (.inr ⟨h0,hc,rfl,rfl,rfl,rfl⟩)⟩
theorem Sd {P:Program} {a:Act} {w:World} {o:Oper} {x y:Operand} {ts:Array TypeId} {l:Nat} {v:Value} {r:Loop} {K:Act→World→Prop} {Q:Exit→Act→World→Prop}
  (ho:o.op = .call {callee := .value x,args := #[y],argTypes:=ts}) (hx:a.eval x = .func (.yield l) #[] #[]) (hy:a.eval y=v) (hl:w.heap[l]? = some (.loop r)) (hp:r.params = #[16])
  (h:RoundIn (C9 none) 0 P l r.fn (r.tmps.setIfInBounds 16 v) r.assign r.body w fun e w'=>∃u,e = .returned u∧K (a.put o.dst u) w'):o.wpIn (C9 none) 0 P a w K Q:=by
 refine ⟨fun _ _=>trivial,?_⟩;have z5:Oper.semAt (C9 none).round a.eval o=execOp a.eval o:=Oper.semAt_eq _ _ _ (fun c hc=>by rw [ho] at hc;cases hc);rw [z5]
 have key:∀ρ:Operand→Value,ρ x = .func (.yield l) #[] #[]→(execOp ρ o).run P w = .ok (.round l r.fn (r.tmps.setIfInBounds 16 (ρ y)) r.assign r.body) w:=by
  intro ρ hx;have z6:=run_yield (P:=P) (args := #[ρ y]) hl (by rw [hp];rfl);rw [hp] at z6;have hz:((#[16]:Array Tmp).zip #[ρ y]).foldl (fun tmps (t,a)=>tmps.setIfInBounds t a) r.tmps=r.tmps.setIfInBounds 16 (ρ y):=by simp
  rw [hz] at z6;unfold execOp;rw [ho];simp only [resolve,hx];simp [go_sem,z6,invoke]
 have s7:=key a.eval hx;rw [hy] at s7;rw [s7,Oper.uponIn_round];refine ⟨(fun hh=>by cases hh),h.mono ?_⟩;rintro e w' ⟨u,rfl,hk⟩;exact hk
def SqR (s:List UInt8) (ls:List (List UInt8)) (st:LoopState) (pe:Option Code) (H:AH):Prop :=
 (st = .ready∧pe=none∧∃rest,H=hS none ls rest∧Ea [] s=(ls,none))∨(st = .done∧pe=some (.exit 0)∧∃rest,H=hS none ls rest∧Ea [] s=(ls,none)) ∨
  (st = .done∧pe=some .ret∧∃rest e,H=hS e ls rest∧Ea [] s=([],e))
theorem opR {P:Program} {E:Env} {O:Orc} (X:Cx O P E) {g:Gh} {H:AH} {w:World} {t:List AV} {a:Act} {o:Oper} {fid:Nat} {v:AV} {H1:AH} {K:Act→World→Prop} {Q:Exit→Act→World→Prop}
  (t7:KO o.op=true) (yH:Ap E o.op=false) (h:AU O P E (AC E t) H fid o=some (v,H1)) (R:Rel g H w) (hG:An E g) (hT:AB g t a.tmps.toList)
  (hK:∀g' u w',Rel g' H1 w'→AK g H w g' H1 w'→AB g' (AT t o.dst v) (a.put o.dst u).tmps.toList→K (a.put o.dst u) w'):o.wpIn (C9 none) 0 P a w K Q :=
 Pv t7 (PM X.sound X.meth R hG hT (fun hn=>by rw [yH] at hn;cases hn) h fun g' u w' R' p' hv=>hK g' u w' R' p' (HT (AB.mono p'.le _ _ hT) hv))
structure Yl (B:Bs) (l D:Nat) (fn:FuncId) (tm:Array Value):Prop where
 hl:B.w.heap[l]? = some (.loop (HS fn tm D .ready none))
 hfr:∀id ge,B.g.M id=some ge→ge.block≠l
 hT:AB B.g (mkT 34 [(2,.ptr 0 0),(3,.ptr 1 0),(4,.ptr 2 0)]) tm.toList
 hG:An Ac B.g
def YΩ (B:Bs) (l D:Nat) (fn:FuncId) (tm:Array Value) (s:List UInt8):World→Prop:=fun w'=>∃g' H' ls st pe,Rel g' H' w'∧CT l B.g B.H B.w g' H' w'∧w'.heap[l]? = some (.loop (HS fn tm D st pe))∧SqR s ls st pe H'
theorem Yl.lt {B:Bs} {l D:Nat} {fn:FuncId} {tm:Array Value} (Y:Yl B l D fn tm):l<B.w.heap.size:=(Array.getElem?_eq_some_iff.1 Y.hl).1
theorem Se {g:Gh} {t:List AV} {a:Act} {k l:Nat} (hT:AB g t a.tmps.toList) (h:t[k]? = some (.func (.yield l) [] [])):a.eval (.tmp k) = .func (.yield l) #[] #[]:=by
 obtain ⟨v,h1,h2⟩:=hT.get h;simp only [AA,AB] at h2;obtain ⟨fs,cs,rfl,rfl,rfl⟩:=h2
 show a.tmps.getD k undef=_
 rw [Array.getD_eq_getD_getElem?,←Array.getElem?_toList,h1];rfl
theorem Sf {g:Gh} {t:List AV} {a:Act} {k:Nat} {f:List UInt8} (hT:AB g t a.tmps.toList) (h:t[k]? = some (.str f)):a.eval (.tmp k) = .string ⟨f.toArray⟩:=by
 obtain ⟨v,h1,h2⟩:=hT.get h;simp only [AA] at h2;subst h2
 show a.tmps.getD k undef=_
 rw [Array.getD_eq_getD_getElem?,←Array.getElem?_toList,h1];rfl
theorem Yt {g:Gh} {t:List AV} {a:Act} {k:Nat} {b:Bool} (hT:AB g t a.tmps.toList) (h:t[k]? = some (.bool b)):a.eval (.tmp k) = .bool b:=by
 obtain ⟨v,h1,h2⟩:=hT.get h;simp only [AA] at h2;subst h2
 show a.tmps.getD k undef=_
 rw [Array.getD_eq_getD_getElem?,←Array.getElem?_toList,h1];rfl
theorem Yu {B:Bs} {l D:Nat} {fn:FuncId} {tm:Array Value} (Y:Yl B l D fn tm) {s:List UInt8} {ls:List (List UInt8)} {rest f:List UInt8} (hf:f.length<1000000) (ug:ls.length<100000000)
  {L:List (Nat × AV)} (h0:L.lookup 0=some (.func (.yield l) [] [])) (h8:L.lookup 8=some (.str f)) {id:Nat} {y1 y2 y3 y4 y5:TypeId} {p1 p2 p3 p4:String} {f1 f2 f3 f4:Array Edge} {ts:Array TypeId} {Q:AEx→List AV→AH→Prop}
  (hq:f≠[]→C5 f=0→Q .normal (mkT 52 ((42,.bool false)::(41,.bool true)::(40,.str f)::(39,.func (.yield l) [] [])::L)) (hS none (ls++[f]) rest)) (zB1:∀st pe H',RdR ls rest f false st pe H'→SqR s ls st pe H') :
  TrR none zP B (YΩ B l D fn tm s) [] (.seq (.region id #[⟨some 39,.move (.tmp 0),y1,p1,f1,none⟩,⟨some 40,.move (.tmp 8),y2,p2,f2,none⟩,⟨some 41,.call {callee := .value (.tmp 39),args := #[.tmp 40],argTypes:=ts},y3,p3,f3,none⟩,⟨some 42,.unOp .not y5 (.tmp 41),y4,p4,f4,none⟩] false) (.cond (.tmp 42) .ret .skip)) (mkT 52 L) (hS none ls rest) Q:=by
 intro Q' a w hs k ho;obtain ⟨g,R,p,hT,hd⟩:=hs;have sd:=Y.lt;obtain ⟨ss,z7⟩:=AK.foreign B.R p sd Y.hfr;rw [Y.hl] at ss;have hG:=Y.hG.mono p.le;refine wpIn_seq (wpIn_region ?_)
 show wpOpsIn _ _ _ _ _ [0,1,2,3] _ _
 have aev0:AC Ac (mkT 52 L) (.tmp 0) = .func (.yield l) [] []:=by simp [AC,JZ,h0]
 -- the two moves
 simp only [wpOpsIn];refine opR CP (fid:=0) (v := .func (.yield l) [] []) (H1:=hS none ls rest) rfl rfl (by simp [AU,aop,aev0,AQ]) R hG hT fun g1 u1 w1 R1 q1 th => ?_
 have th:AB g1 (mkT 52 ((39,.func (.yield l) [] [])::L)) (a.put (some 39) u1).tmps.toList:=by rw [←Ic];exact th
 have aev8:AC Ac (mkT 52 ((39,.func (.yield l) [] [])::L)) (.tmp 8) = .str f:=by simp [AC,JZ,h8,List.lookup]
 refine opR CP (fid:=0) (v := .str f) (H1:=hS none ls rest) rfl rfl (by simp [AU,aop,aev8,AQ]) R1 (hG.mono q1.le) th fun g2 u2 w2 R2 q2 tN => ?_
 have tN:AB g2 (mkT 52 ((40,.str f)::(39,.func (.yield l) [] [])::L)) ((a.put (some 39) u1).put (some 40) u2).tmps.toList:=by rw [←Ic];exact tN
 have sk:((a.put (some 39) u1).put (some 40) u2).defers=[]:=by rw [FF,FF];exact hd
 have p2:=AK.trans R q1 q2;obtain ⟨se,zJ⟩:=AK.foreign R p2 (Nat.lt_of_lt_of_le sd p.size) z7;rw [ss] at se;have pB:=AK.trans B.R p p2
 -- yield
 have e39:=Se (k:=39) (l:=l) tN (by simp [GS,List.lookup]);have e40:=Sf (k:=40) (f:=f) tN (by simp [GS,List.lookup]);refine Sd (a:=((a.put (some 39) u1).put (some 40) u2)) rfl e39 e40 se rfl ((Sc R2 (Y.hG.mono pB.le) se zJ (AB.mono pB.le _ _ Y.hT) hf ug).mono ?_);rintro e w3 ⟨g3,H3,b,st,pe,rfl,R3,q3,sq,hr⟩;refine ⟨_,rfl,?_⟩
 have z3:AB g3 (mkT 52 ((41,.bool b)::(40,.str f)::(39,.func (.yield l) [] [])::L)) (((a.put (some 39) u1).put (some 40) u2).put (some 41) (.bool b)).tmps.toList:=by rw [←Ic];exact HT (AB.mono q3.le _ _ tN) (dst:=some 41) (by simp [AA])
 have hG3:An Ac g3:=(Y.hG.mono pB.le).mono q3.le;have aev41:AC Ac (mkT 52 ((41,.bool b)::(40,.str f)::(39,.func (.yield l) [] [])::L)) (.tmp 41) = .bool b:=by simp [AC,JZ,List.lookup]
 refine opR CP (fid:=0) (v := .bool (!b)) (H1:=H3) rfl rfl (by simp [AU,aop,aev41,AQ,aun]) R3 hG3 z3 fun g4 u4 w4 R4 q4 wJ => ?_
 have wJ:AB g4 (mkT 52 ((42,.bool (!b))::(41,.bool b)::(40,.str f)::(39,.func (.yield l) [] [])::L)) ((((a.put (some 39) u1).put (some 40) u2).put (some 41) (.bool b)).put (some 42) u4).tmps.toList:=by rw [←Ic];exact wJ
 have un:((((a.put (some 39) u1).put (some 40) u2).put (some 41) (.bool b)).put (some 42) u4).defers=[]:=by rw [FF,FF];exact sk
 have yU:=q3.foreign (Nat.lt_of_lt_of_le (Nat.lt_of_lt_of_le sd p.size) p2.size) zJ;obtain ⟨xr,hfr4⟩:=AK.foreign R3 q4 (Array.getElem?_eq_some_iff.1 sq).1 yU;rw [sq] at xr;have e42:=Yt (k:=42) wJ (b := !b) (by simp [GS,List.lookup]);have qL:CT l B.g B.H B.w g4 H3 w4:=((CT.of pB).trans B.R q3).trans B.R (CT.of q4);cases b with
 |false =>refine wpIn_cond_true e42 (wpIn_ret (ho _ w4 un ⟨g4,H3,ls,st,pe,R4,qL,xr,zB1 st pe H3 hr⟩))
 |true =>
  have sx:f≠[]∧C5 f=0∧st = .ready∧pe=none∧H3=hS none (ls++[f]) rest:=by
   rcases hr with ⟨_,h,_⟩|⟨_,_,h,_⟩|⟨h1,h2,_,h3,h4,h5⟩
   ·cases h
   ·cases h
   ·exact ⟨h1,h2,h3,h4,h5⟩
  obtain ⟨sU,xt,rfl,rfl,rfl⟩:=sx;refine wpIn_cond_false e42 (wpIn_skip (k .normal _ _ _ w4 (hq sU xt) ⟨g4,R4,qL.post (.inr ⟨?_,fun i => ?_⟩),wJ,un⟩))
  ·rw [xr,Y.hl]
  ·rw [Ov R4 xr,Ov B.R Y.hl]
theorem Ma (e:Er) (ls:List (List UInt8)) (rest:List UInt8):AH.at (hS e ls rest) 3=some (.box [.str rest]):=rfl
theorem Mb (e:Er) (ls:List (List UInt8)) (rest:List UInt8):AH.at (hS e ls rest) 4=some (.box [.str [10]]):=rfl
theorem Ow (e:Er) (ls:List (List UInt8)) (rest:List UInt8):AH.at (hS e ls rest) 5=some (.box [.int .i64 1]):=rfl
theorem Yv (e:Er) (ls:List (List UInt8)) (rest r:List UInt8):(hS e ls rest).set 3 (some (.box [.str r]))=hS e ls r:=rfl
noncomputable abbrev sqB:Code:=At Tryz.f77
theorem Yw:sqB = .seq (Bi sqB) (.seq (Bi (Aj sqB)) (Aj (Aj sqB))):=by kernel_rfl
def sqT (l:Nat):List AV:=mkT 52 [(0,.func (.yield l) [] []),(1,.ptr 4 0),(2,.ptr 3 0),(3,.ptr 5 0)]
def SqJ (s:List UInt8) (l:Nat) (k:Nat) (t:List AV) (H:AH):Prop:=∃ls rest,k=rest.length∧t=sqT l∧H=hS none ls rest∧Ea ls rest=Ea [] s∧ls.length+rest.length≤s.length
def SqE (s:List UInt8) (l:Nat) (e:AEx) (t:List AV) (H:AH):Prop:=e = .normal∧∃ls rest L,t=mkT 52 L∧L.lookup 0=some (.func (.yield l) [] [])∧L.lookup 2=some (.ptr 3 0)∧H=hS none ls rest∧Lib.indexByte rest 10<0∧Ea ls rest=Ea [] s∧ls.length+rest.length≤s.length
theorem Yx {B:Bs} {l D:Nat} {fn:FuncId} {tm:Array Value} (Y:Yl B l D fn tm) {s:List UInt8} (hB:B.H=hS none [] s) (hs:s.length<1000000) :
  TrR none zP B (YΩ B l D fn tm s) [] (Bi (Aj sqB)) (sqT l) (hS none [] s) (SqE s l):=by
 have X:=Bq [MY] Jv Ae;have hL:([MY].map (·.f)).Nodup:=show ([79]:List Nat).Nodup by decide
 have f1:=fun (r:List UInt8) (hr:r.length<1000000) (H:AH)=>Ce hL MY (by simp) (x:=r) (H:=H) hr
 generalize oOf [MY]=O at X f1;have f1:∀(r:List UInt8) (hr:r.length<1000000) (H:AH),O 79 [.str r,.str [10]] H=some (.int .i64 (Lib.indexByte r 10),H):=f1;have ul:AI zP 79=true:=by kernel_rfl
 refine TrR.go X Y.hG [8] (by kernel_rfl) ?_;simp [-AH.at,sqB,Bi,Aj,Tryz.f77];have z8:B.H.length=6:=by rw [hB,MZ];rfl
 refine LpR.loopN X Y.hG [8] (by kernel_rfl) (SqJ s l) s.length (t':=sqT l) (H':=hS none [] s) AE.refl ⟨[],s,rfl,rfl,rfl,rfl,by simp⟩ ?_;rintro k t H ⟨ls,rest,rfl,rfl,rfl,wV,sZ⟩;have g1:=fun H=>f1 rest (by omega) H
 by_cases hi:Lib.indexByte rest 10<0
 ·simp [-AH.at,sqT,Ma,Mb,Ow,g1,ul,hi]
  exact ⟨rfl,ls,rest,_,rfl,rfl,rfl,rfl,hi,wV,sZ⟩
 ·obtain ⟨i,uZ⟩:∃i:Nat,Lib.indexByte rest 10=(i:Int):=⟨(Lib.indexByte rest 10).toNat,by omega⟩
  have tA:=(Ou rest [] i uZ).1;have hi3:¬(i:Int)<0:=by omega
  rw [uZ] at g1;have w1:IntKind.i64.wrap ((i:Int)+1)=(i:Int)+1:=AZ (by omega) (by omega);have q2:(i:Int)+1≤rest.length:=by omega
  have q3:((i:Int)+1).toNat=i+1:=by omega
  have q4:(0:Int)≤(i:Int)+1:=by omega
  simp [-AH.at,sqT,Ma,Mb,Ow,g1,ul,hi3,w1,q2,q3,q4];have xt:=Yn (ls:=ls) uZ;refine Yu Y (f:=rest.take (i+1)) (by rw [List.length_take];omega) (by omega) (by simp [List.lookup]) (by simp [List.lookup]) ?_ ?_
  ·intro sU hc
   rw [if_pos hc] at xt;have tz:(rest.drop (i+1)).length=rest.length-(i+1):=List.length_drop;simp [-AH.at,Ma,Mb,Ow,Yv,w1,q2,q3,q4];refine Nxt.mk (rest.drop (i+1)).length (by omega) (AE.mkK (hS none (ls++[rest.take (i+1)]) (rest.drop (i+1))).length (by rw [z8,MZ];split<;>omega) ?_ List.take_length (Yp _ _ _)) ⟨ls++[rest.take (i+1)],rest.drop (i+1),rfl,rfl,rfl,xt.symm.trans wV,by rw [List.length_append,List.length_singleton];omega⟩;have:6≤(hS none (ls++[rest.take (i+1)]) (rest.drop (i+1))).length:=by rw [MZ];split<;>omega
   simp [MZ]
  ·intro st pe H' hr
   have sU:rest.take (i+1)≠[]:=by intro h;have h2:=List.length_take (i:=i+1) (l:=rest);rw [h,List.length_nil] at h2;omega
   rcases hr with ⟨h,_⟩|⟨_,hc,_,rfl,rfl,rfl⟩|⟨_,_,h,_⟩
   ·exact absurd h sU
   ·rw [if_neg hc] at xt
    exact .inr (.inr ⟨rfl,rfl,rest,_,rfl,by rw [←wV,xt]⟩)
   ·cases h
theorem Yy {B:Bs} {l D:Nat} {fn:FuncId} {tm:Array Value} (Y:Yl B l D fn tm) {s:List UInt8} {ls:List (List UInt8)} {rest:List UInt8} (hs:s.length<1000000) (hi:Lib.indexByte rest 10<0) (wV:Ea ls rest=Ea [] s) (sZ:ls.length+rest.length≤s.length)
  {L:List (Nat × AV)} (h0:L.lookup 0=some (.func (.yield l) [] [])) (h2:L.lookup 2=some (.ptr 3 0)) {id:Nat} {y1 y2 y3:TypeId} {p1 p2 p3:String} {f1 f2 f3:Array Edge} {ts:Array TypeId} {Q':Exit→Act→World→Prop} {a:Act} {w:World}
  (z9:GW B [] (mkT 52 L) (hS none ls rest) a w) (ho:∀a' w',a'.defers=[]→YΩ B l D fn tm s w'→Q' .normal a' w') :
  (Code.region id #[⟨some 49,.move (.tmp 0),y1,p1,f1,none⟩,⟨some 50,.load 9 (.tmp 2),y2,p2,f2,none⟩,⟨some 51,.call {callee := .value (.tmp 49),args := #[.tmp 50],argTypes:=ts},y3,p3,f3,none⟩] false).wpIn (C9 none) 0 zP Q' a w:=by
 obtain ⟨g,R,p,hT,hd⟩:=z9;have sd:=Y.lt;obtain ⟨ss,z7⟩:=AK.foreign B.R p sd Y.hfr;rw [Y.hl] at ss;have hG:=Y.hG.mono p.le;refine wpIn_region ?_
 show wpOpsIn _ _ _ _ _ [0,1,2] _ _
 have aev0:AC Ac (mkT 52 L) (.tmp 0) = .func (.yield l) [] []:=by simp [AC,JZ,h0]
 simp only [wpOpsIn];refine opR CP (fid:=0) (v := .func (.yield l) [] []) (H1:=hS none ls rest) rfl rfl (by simp [AU,aop,aev0,AQ]) R hG hT fun g1 u1 w1 R1 q1 th => ?_
 have th:AB g1 (mkT 52 ((49,.func (.yield l) [] [])::L)) (a.put (some 49) u1).tmps.toList:=by rw [←Ic];exact th
 have aev2:AC Ac (mkT 52 ((49,.func (.yield l) [] [])::L)) (.tmp 2) = .ptr 3 0:=by simp [AC,JZ,h2,List.lookup]
 refine opR CP (fid:=0) (v := .str rest) (H1:=hS none ls rest) rfl rfl (by simp [-AH.at,AU,aop,aev2,AQ,Ma]) R1 (hG.mono q1.le) th fun g2 u2 w2 R2 q2 tN => ?_
 have tN:AB g2 (mkT 52 ((50,.str rest)::(49,.func (.yield l) [] [])::L)) ((a.put (some 49) u1).put (some 50) u2).tmps.toList:=by rw [←Ic];exact tN
 have sk:((a.put (some 49) u1).put (some 50) u2).defers=[]:=by rw [FF,FF];exact hd
 have p2:=AK.trans R q1 q2;obtain ⟨se,zJ⟩:=AK.foreign R p2 (Nat.lt_of_lt_of_le sd p.size) z7;rw [ss] at se;have pB:=AK.trans B.R p p2;have e49:=Se (k:=49) (l:=l) tN (by simp [GS,List.lookup]);have e50:=Sf (k:=50) (f:=rest) tN (by simp [GS,List.lookup]);refine Sd (a:=((a.put (some 49) u1).put (some 50) u2)) rfl e49 e50 se rfl ((Sc R2 (Y.hG.mono pB.le) se zJ (AB.mono pB.le _ _ Y.hT) (f:=rest) (by omega) (by omega)).mono ?_);rintro e w3 ⟨g3,H3,b,st,pe,rfl,R3,q3,sq,hr⟩;refine ⟨_,rfl,?_⟩;have hk:=Yo (ls:=ls) hi;refine ho _ w3 (by rw [FF];exact sk) ?_;have qL:CT l B.g B.H B.w g3 H3 w3:=(CT.of pB).trans B.R q3;rcases hr with ⟨h,_,rfl,rfl,rfl⟩|⟨h,hc,_,rfl,rfl,rfl⟩|⟨h,hc,_,rfl,rfl,rfl⟩
 ·rw [if_pos h] at hk
  exact ⟨g3,_,ls,_,_,R3,qL,sq,.inr (.inl ⟨rfl,rfl,rest,rfl,by rw [←wV,hk]⟩)⟩
 ·rw [if_neg h,if_neg hc] at hk
  exact ⟨g3,_,ls,_,_,R3,qL,sq,.inr (.inr ⟨rfl,rfl,rest,_,rfl,by rw [←wV,hk]⟩)⟩
 ·rw [if_neg h,if_pos hc] at hk
  exact ⟨g3,_,ls++[rest],_,_,R3,qL,sq,.inl ⟨rfl,rfl,rest,rfl,by rw [←wV,hk]⟩⟩
theorem Yz {B:Bs} {l D:Nat} {fn:FuncId} {tm:Array Value} (Y:Yl B l D fn tm) {s:List UInt8} (hB:B.H=hS none [] s) (hs:s.length<1000000) {cargs:List Value} (hA:AB B.g [.func (.yield l) [] [],.ptr 4 0,.ptr 3 0,.ptr 5 0] cargs) :
  CallsIn (C9 none) 0 zP 77 (List.toArray cargs) B.w fun e w'=>(∃v,e = .returned v)∧YΩ B l D fn tm s w':=by
 refine callsIn_of_wp Tryz.func77 (show (Tryz.f77).body=some sqB by kernel_rfl) trivial ?_
 have hT:AB B.g (mkT 52 (EL 0 [.func (.yield l) [] [],.ptr 4 0,.ptr 3 0,.ptr 5 0])) (List.toArray cargs++Array.replicate ((Tryz.f77).ntmps-(List.toArray cargs).size) undef).toList:=by refine AB.mkT_args (by simp) ?_;simp only [Array.toList_append,Array.toList_replicate,List.size_toArray,hA.length];exact hA.append (AB.replicate _ (by simp [AV.nothing,AA,AB,undef]))
 rw [Yw]
 have h1:TrR none zP B (YΩ B l D fn tm s) [] (Bi sqB) (mkT 52 (EL 0 [.func (.yield l) [] [],.ptr 4 0,.ptr 3 0,.ptr 5 0])) (hS none [] s) (fun e t H=>e = .normal∧H=hS none [] s∧∃L,t=mkT 52 L∧∀p∈([(0,.func (.yield l) [] []),(1,.ptr 4 0),(2,.ptr 3 0),(3,.ptr 5 0)]:List (Nat × AV)),(L.lookup p.1).getD .undef=p.2∧low 100 p.2=true):=by refine TrR.go CP Y.hG [] (by kernel_rfl) ?_;simp [-AH.at,sqB,Bi,Aj,Tryz.f77,Mb];exact ⟨_,rfl,by simp [List.lookup]⟩
 have z9:GW B [] (mkT 52 (EL 0 [.func (.yield l) [] [],.ptr 4 0,.ptr 3 0,.ptr 5 0])) (hS none [] s) {tmps:=List.toArray cargs++Array.replicate ((Tryz.f77).ntmps-(List.toArray cargs).size) undef,defers:=[]} B.w:=⟨B.g,hB ▸ B.R,by have:=AK.refl B.g B.H B.w;rw [hB] at this ⊢;exact this,hT,rfl⟩
 have zAA:∀a' w',a'.defers=[]→YΩ B l D fn tm s w'→∀e,(e = .ret∨e = .normal)→bodyPost zP Tryz.f77 (fun e w'=>(∃v,e = .returned v)∧YΩ B l D fn tm s w') e a' w':=by
  intro a' w' hd hΩ e he;rcases he with rfl|rfl
  all_goals
   exact ⟨hd,_,results_none rfl _ _ _,⟨_,rfl⟩,hΩ⟩
 refine wpIn_seq (h1 _ _ _ z9 ?_ (fun a' w' hd h=>zAA a' w' hd h .ret (.inl rfl)));rintro ex t1 H1 a1 w1 ⟨rfl,rfl,L,rfl,hL⟩ ⟨g1,R1,p1,th,sr⟩;have tN:AB g1 (sqT l) a1.tmps.toList:=WkL.rep (m:=100) (WkL.mkT fun p hp => .same (hL p hp).1 (hL p hp).2) th;refine wpIn_seq (Yx Y hB hs _ a1 w1 ⟨g1,R1,p1,tN,sr⟩ ?_ (fun a' w' hd h=>zAA a' w' hd h .ret (.inl rfl)));rintro ex t2 H2 a2 w2 ⟨rfl,ls,rest,L2,rfl,k0,k2,rfl,hi,wV,sZ⟩ zB2;exact Yy Y hs hi wV sZ k0 k2 zB2 (fun a' w' hd h=>zAA a' w' hd h .normal (.inr rfl))
end Go.Proofs.YtffcldkblcmmiaaGreatDoor
namespace Go.Proofs.Fw
open Go.RowKit
section
variable {l:Nat} {g g1:Gh} {H H1:AH} {w w1:World}
theorem Rel.allocF (R:Rel g H w) (o:Obj):Rel g H (w.alloc o) where
 imm:=fun b i v hb=>(EH (Below.heap_alloc w o b (R.lt hb))).trans (R.imm b i v hb)
 free:=R.free
 ent:=fun id e he sU=>by obtain ⟨ge,hM,hr⟩:=R.ent id e he sU;exact ⟨ge,hM,hr.keep g.le_refl (Below.heap_alloc w o _ (R.blk id ge hM)) (fun _=>rfl)⟩
 inj:=R.inj
 blk:=fun id e he=>by have:=R.blk id e he;simp;omega
theorem AK.allocF (g:Gh) (H:AH) (w:World) (o:Obj):AK g H w g H (w.alloc o) :=⟨g.le_refl,fun _ h=>⟨rfl,h⟩,fun _ e h => .inl ⟨e,h,rfl⟩,fun b hb _=>⟨Below.heap_alloc w o b hb,fun _=>rfl⟩,by simp,rfl,rfl,rfl⟩
theorem Y0 (R:Rel g H w) (h:∀i,w.cell? ⟨l,i,none⟩=none) (i:Nat):g.G l i=none:=by
 cases hG:g.G l i with
 |none=>rfl
 |some v=>have:=R.imm l i v hG;rw [h] at this;cases this
theorem Rel.putO (R:Rel g H w) (h:∀i,w.cell? ⟨l,i,none⟩=none) (hfr:∀id ge,g.M id=some ge→ge.block≠l) (o:Obj):Rel g H (w.putObj l o) where
 imm:=fun b i v hb=>by
  have sU:b≠l:=fun he=>by subst he;rw [Y0 R h] at hb;cases hb
  exact (EH (World.putObj_heap_other sU)).trans (R.imm b i v hb)
 free:=R.free
 ent:=fun id e he sU=>by obtain ⟨ge,hM,hr⟩:=R.ent id e he sU;exact ⟨ge,hM,hr.keep g.le_refl (World.putObj_heap_other (hfr id ge hM)) (fun _=>rfl)⟩
 inj:=R.inj
 blk:=fun id e he=>by rw [World.putObj_size];exact R.blk id e he
theorem Y1 {w:World} {l:Nat} {d:Option (List Deferred)} (h:w.heap[l]? = some (.deferred d)) (i:Nat):w.cell? ⟨l,i,none⟩=none:=by simp only [World.cell?,h]
theorem AK.putF (p:AK g H w g1 H1 w1) (h:w.heap.size≤l) (o:Obj):AK g H w g1 H1 (w1.putObj l o) :=
 ⟨p.le,p.hid,p.new,fun b hb hn=>by
  obtain ⟨h1,h2⟩:=p.old b hb hn
  exact ⟨(World.putObj_heap_other (by omega)).trans h1,h2⟩,by rw [World.putObj_size];exact p.size,p.os,p.tape,p.output⟩
end
end Go.Proofs.Fw
namespace Go.Proofs.YtffcldkblcmmiaaGreatDoor
open Go.RowKit Go.Proofs.Fw
set_option maxRecDepth 100000
set_option maxHeartbeats 4000000
@[simp] theorem pd (s:List UInt8) (c:Int):Ay zP 85 [(0,.str s),(2,.iface 83 (.int .i64 c))]=some (.agg [.str s,.int .i64 0,.iface 83 (.int .i64 c)]):=by kernel_rfl
theorem Y2 (s:List UInt8) (hs:s.length<1000000) (hl:65536<s.length) (H:AH):CS zP Ac 21 [.str s] H (.tup [Ab.av (CN s).1,erI (CN s).2]) H:=by
 have h1:CN s=([],some ([(J8,0)],4)):=by unfold CN;rw [if_pos hl]
 rw [h1];have hz:erI (some ([(J8,0)],4)) = .iface 75 (.vptr [.str J8,.int .i64 0,.iface 83 (.int .i64 4)] 0):=rfl;rw [hz];have hl':(65536:Int)<s.length:=by omega
 refine CS.tr0 Dg Tryz.func21 (by kernel_rfl) 0 (by simp [Tryz.f21]) (fun B hB hG => ?_) (by simp) (by simp) H;refine Tr.goD CP hG ?_;simp [Tryz.f21,hl',hl,J8]
theorem Y3 {g:Gh} {w:World} (R:Rel g [] w) {g8:Gh} {w8:World} {e:Er} {v0:AV} {ls:List (List UInt8)} {K:AH} (R8:Rel g8 (some (.box [v0])::some (.box [erI e])::K) w8) (p8:AK g [] w g8 (some (.box [v0])::some (.box [erI e])::K) w8)
  (hv:strip 0 v0=Ab.av ls) (u6:v0.one=true) {L:List (Nat × AV)} (h2:L.lookup 2=some (.ptr 0 0)) (h3:L.lookup 3=some (.ptr 1 0)) {tmps:Array Value} (hT:AB g8 (mkT 34 L) tmps.toList) :
  ∃v,(results Tryz.f21 tmps).run zP w8 = .ok v w8∧∃g' cv,Ending.returned v = .returned cv∧Rel g' [] w8∧AK g [] w g' [] w8∧AA g' (.tup [Ab.av ls,erI e]) cv:=by
 have wK:BE zP (some (.box [v0])::some (.box [erI e])::K) (mkT 34 L) Tryz.f21.results.toList=some [v0,erI e]:=by simp [Tryz.f21,JZ,h2,h3]
 obtain ⟨us,h5,h6⟩:=KF (P:=zP) R8 hT _ _ wK
 have sV:(results Tryz.f21 tmps).run zP w8 = .ok (if hs:(List.toArray us).size=1 then (List.toArray us)[0] else .tuple (List.toArray us)) w8:=by have e1:results Tryz.f21 tmps=(do let vs ←Tryz.f21.results.mapM (JW tmps);pure (if hs:vs.size=1 then vs[0] else .tuple vs)):=rfl;rw [e1,Array.mapM_eq_mapM_toList];simp only [Sem.run_bind,Sem.run_map,h6,Result.andThen_ok];rfl
 have sX:strip 0 (frz 0 (some (.box [v0])::some (.box [erI e])::K) 0 (BK [v0,erI e])) = .tup [Ab.av ls,erI e]:=by simp [BK,frz,strip,Cc,hv]
 obtain ⟨g2,k1,k2,k3⟩:=Rel.gc_end R R8 p8 (LL h5) 0 (by rw [List.length_nil,sX];simp [low,lowL]) (by simp);rw [List.length_nil,sX] at k3;rw [List.length_nil,List.take_zero] at k1 k2;exact ⟨_,sV,g2,_,rfl,k1,k2,k3⟩
end Go.Proofs.YtffcldkblcmmiaaGreatDoor
namespace Go.Proofs.Fw
open Go.RowKit
theorem Y4 {P:Program} {E:Env} {f0:FuncId} {a0:List AV} {H0:AH} {v0:AV} {H1:AH} {O:Orc} (h:CS P E f0 a0 H0 v0 H1) (hk:Cs H0 H1) (X:Cx O P E):Cx (orP f0 a0 H0 v0 H1 O) P E :=
 ⟨fun f args H v H' ho=>by
  unfold orP at ho
  split at ho
  ·rename_i hc
   obtain ⟨rfl,rfl,rfl⟩:=hc;injection ho with ho;simp only [Prod.mk.injEq] at ho;obtain ⟨rfl,rfl⟩:=ho;exact ⟨h,hk⟩
  ·exact X.sound f args H v H' ho,X.meth,X.mix⟩
theorem Y5 {P:Program} {i:FuncId} (hg:AI P i=true) (xs:Array Value) (w:World):(callFunc i xs).run P w = .ok (.enter i xs) w:=by
 unfold AI at hg;unfold callFunc;simp only [Sem.run_bind,run_program,Result.andThen_ok]
 split at hg
 ·rename_i fn yV
  simp only [Bool.and_eq_true,Bool.not_eq_true'] at hg;simp only [yV];rw [if_neg (by rw [hg.2];simp)];have:fn.body.isNone=false:=by cases hb:fn.body<;>simp_all
  rw [this];rfl
 ·cases hg
theorem Y6 {g:Gh} {t:List AV} {a:Act} {k:Nat} {f:FuncId} {caps:List AV} (hT:AB g t a.tmps.toList) (h:t[k]? = some (.func (.func f) [] caps)):∃cs,a.eval (.tmp k) = .func (.func f) #[] (List.toArray cs)∧AB g caps cs:=by
 obtain ⟨v,h1,h2⟩:=hT.get h;simp only [AA,AB] at h2;obtain ⟨fs,cs,rfl,rfl,h3⟩:=h2;refine ⟨cs,?_,h3⟩
 show a.tmps.getD k undef=_
 rw [Array.getD_eq_getD_getElem?,←Array.getElem?_toList,h1];rfl
end Go.Proofs.Fw
namespace Go.Proofs.YtffcldkblcmmiaaGreatDoor
open Go.RowKit Go.Proofs.Fw
set_option maxRecDepth 100000
set_option maxHeartbeats 4000000
noncomputable def lsB:Code:=At Tryz.f21
noncomputable def ls0:Code:=Bi lsB
noncomputable def ls1:Code:=Bi (Aj lsB)
noncomputable def ls3:Code:=Bi (Aj (Aj lsB))
noncomputable def ls4:Code:=Bi (Bi (Aj (Aj (Aj lsB))))
noncomputable def ls5:Code:=Aj (Aj (Aj (Aj lsB)))
theorem Y7:lsB = .seq ls0 (.seq ls1 (.seq ls3 (.seq (.seq ls4 (.block 0 (.rangeFunc (.tmp 15) #[16] JP GM))) ls5))):=by kernel_rfl
theorem Y8 {B:Bs} (hG:An Ac B.g) (s:List UInt8) (hl:s.length≤65536) {Q:Exit→Act→World→Prop} {a:Act} {w:World} (hs:GW B [] (mkT 34 [(0,.str s)]) [] a w)
  (hk:∀a' w',GW B [] (mkT 34 [(2,.ptr 0 0),(3,.ptr 1 0),(4,.ptr 2 0),(15,.func (.func 77) [] [.ptr 4 0,.ptr 3 0,.ptr 5 0])]) (hS none [] s) a' w' →
   (Code.block 0 (.rangeFunc (.tmp 15) #[16] JP GM)).wpIn (C9 none) 0 zP (Exit.then (ls5.wpIn (C9 none) 0 zP Q) Q) a' w'):lsB.wpIn (C9 none) 0 zP Q a w:=by
 have tz:¬(65536:Int)<s.length:=by omega
 have se:¬65536<s.length:=by omega
 rw [Y7]
 have t0:TrR none zP B (fun _=>False) [] ls0 (mkT 34 [(0,.str s)]) [] (fun e t H=>e = .normal∧t=mkT 34 [(3,.ptr 1 0),(2,.ptr 0 0),(0,.str s)]∧H=[some (.box [.nilSlice]),some (.box [.nilIface])]):=by refine TrR.go CP hG [] (by kernel_rfl) ?_;simp [ls0,lsB,Bi,Aj,Tryz.f21]
 refine wpIn_seq (t0 _ a w hs ?_ (fun _ _ _ h=>h.elim));rintro ex t1 H1 a1 w1 ⟨rfl,rfl,rfl⟩ uD
 have t1:TrR none zP B (fun _=>False) [] ls1 (mkT 34 [(3,.ptr 1 0),(2,.ptr 0 0),(0,.str s)]) [some (.box [.nilSlice]),some (.box [.nilIface])] (fun e t H=>e = .normal∧(∃L,t=mkT 34 L∧∀p∈([(3,.ptr 1 0),(2,.ptr 0 0),(0,.str s)]:List (Nat × AV)),(L.lookup p.1).getD .undef=p.2∧low 100 p.2=true)∧H=[some (.box [.nilSlice]),some (.box [.nilIface])]):=by refine TrR.go CP hG [] (by kernel_rfl) ?_;simp [ls1,lsB,Bi,Aj,Tryz.f21,tz,se];exact ⟨_,rfl,by simp [List.lookup]⟩
 refine wpIn_seq (t1 _ a1 w1 uD ?_ (fun _ _ _ h=>h.elim));rintro ex t2 H2 a2 w2 ⟨rfl,⟨L,rfl,hL⟩,rfl⟩ ⟨g2,R2,p2,tN,sk⟩;have zB3:AB g2 (mkT 34 [(3,.ptr 1 0),(2,.ptr 0 0),(0,.str s)]) a2.tmps.toList:=WkL.rep (m:=100) (WkL.mkT fun p hp => .same (hL p hp).1 (hL p hp).2) tN
 have t3:TrR none zP B (fun _=>False) [] ls3 (mkT 34 [(3,.ptr 1 0),(2,.ptr 0 0),(0,.str s)]) [some (.box [.nilSlice]),some (.box [.nilIface])] (fun e t H=>e = .normal∧t=mkT 34 [(4,.ptr 2 0),(3,.ptr 1 0),(2,.ptr 0 0),(0,.str s)]∧H=[some (.box [.nilSlice]),some (.box [.nilIface]),some (.box [.nilSlice])]):=by refine TrR.go CP hG [] (by kernel_rfl) ?_;simp [ls3,lsB,Bi,Aj,Tryz.f21]
 refine wpIn_seq (t3 _ a2 w2 ⟨g2,R2,p2,zB3,sk⟩ ?_ (fun _ _ _ h=>h.elim));rintro ex t3 H3 a3 w3 ⟨rfl,rfl,rfl⟩ vi
 have t4:TrR none zP B (fun _=>False) [] ls4 (mkT 34 [(4,.ptr 2 0),(3,.ptr 1 0),(2,.ptr 0 0),(0,.str s)]) [some (.box [.nilSlice]),some (.box [.nilIface]),some (.box [.nilSlice])] (fun e t H=>e = .normal∧(∃L,t=mkT 34 L∧∀p∈([(2,.ptr 0 0),(3,.ptr 1 0),(4,.ptr 2 0),(15,.func (.func 77) [] [.ptr 4 0,.ptr 3 0,.ptr 5 0])]:List (Nat × AV)),(L.lookup p.1).getD .undef=p.2∧low 100 p.2=true)∧H=hS none [] s):=by
  have X:=Y4 (Ym s [.nilSlice] [.nilIface] [.nilSlice]) ⟨by simp [FD],fun id hid h=>by
   simp only [List.length_cons,List.length_nil,Nat.zero_add,Nat.reduceAdd] at hid
   rcases (by omega:id=0∨id=1∨id=2) with rfl|rfl|rfl<;>cases h⟩ CP
  have hO:=Ev 34 [.str s,.str [10]] [some (.box [.nilSlice]),some (.box [.nilIface]),some (.box [.nilSlice])] (.func (.func 77) [] [.ptr 4 0,.ptr 3 0,.ptr 5 0]) ([some (.box [.nilSlice]),some (.box [.nilIface]),some (.box [.nilSlice])]++FD s) Bl;generalize orP 34 [.str s,.str [10]] [some (.box [.nilSlice]),some (.box [.nilIface]),some (.box [.nilSlice])] (.func (.func 77) [] [.ptr 4 0,.ptr 3 0,.ptr 5 0]) ([some (.box [.nilSlice]),some (.box [.nilIface]),some (.box [.nilSlice])]++FD s) Bl=O at X hO;refine TrR.go X hG [] (by kernel_rfl) ?_;simp [ls4,lsB,Bi,Aj,Tryz.f21,hO];exact ⟨⟨_,rfl,by simp [List.lookup]⟩,rfl⟩
 refine wpIn_seq (wpIn_seq (t4 _ a3 w3 vi ?_ (fun _ _ _ h=>h.elim)));rintro ex t4 H4 a4 w4 ⟨rfl,⟨L4,rfl,hL4⟩,rfl⟩ ⟨g4,R4,p4,wJ,un⟩;exact hk a4 w4 ⟨g4,R4,p4,WkL.rep (m:=100) (WkL.mkT fun p hp => .same (hL4 p hp).1 (hL4 p hp).2) wJ,un⟩
def LsE (g:Gh) (w:World) (s:List UInt8):Ending→World→Prop:=fun e w'=>∃g' cv,e = .returned cv∧Rel g' [] w'∧AK g [] w g' [] w'∧AA g' (.tup [Ab.av (CN s).1,erI (CN s).2]) cv
def LsQ (g:Gh) (w:World) (s:List UInt8):Exit→Act→World→Prop:=bodyPostM (C9 none) 0 zP Tryz.f21 (LsE g w s)
theorem Sg {g:Gh} {w:World} (R:Rel g [] w) {s:List UInt8} {g7:Gh} {w7:World} {e:Er} {v0:AV} {ls:List (List UInt8)} {K:AH} (R7:Rel g7 (some (.box [v0])::some (.box [erI e])::K) w7) (p7:AK g [] w g7 (some (.box [v0])::some (.box [erI e])::K) w7)
  (hv:strip 0 v0=Ab.av ls) (u6:v0.one=true) (hs:CN s=(ls,e)) {L:List (Nat × AV)} (h2:L.lookup 2=some (.ptr 0 0)) (h3:L.lookup 3=some (.ptr 1 0)) {a:Act} (hT:AB g7 (mkT 34 L) a.tmps.toList)
  {D:Nat} (hd:a.defers=[{target := .collected D,args := #[]}]) (hD:w7.heap[D]? = some (.deferred (some []))) (hfr:∀id ge,g7.M id=some ge→ge.block≠D) (hw:w.heap.size≤D):LsQ g w s .ret a w7:=by
 show LeavesInM _ _ _ _ _ _ a.defers .returning w7
 rw [hd];refine ⟨by simp,.inl ⟨_,_,rfl,run_takeDeferred hD,?_⟩⟩;obtain ⟨v,hr,g',cv,h1,h4,h5,h6⟩:=Y3 R (R7.putO (Y1 hD) hfr (.deferred none)) (p7.putF hw (.deferred none)) hv u6 h2 h3 hT;injection h1 with h1;subst h1;refine ⟨v,hr,g',v,rfl,h4,h5,?_⟩;rw [hs];exact h6
theorem Y9 {g:Gh} {w:World} (R:Rel g [] w) (hG:An Ac g) {s:List UInt8} (hl:s.length≤65536) {a:Act} {w4:World} (hs:GW ⟨g,[],w,R⟩ [] (mkT 34 [(2,.ptr 0 0),(3,.ptr 1 0),(4,.ptr 2 0),(15,.func (.func 77) [] [.ptr 4 0,.ptr 3 0,.ptr 5 0])]) (hS none [] s) a w4) :
  (Code.block 0 (.rangeFunc (.tmp 15) #[16] JP GM)).wpIn (C9 none) 0 Tryz.prog (Exit.then (ls5.wpIn (C9 none) 0 Tryz.prog (LsQ g w s)) (LsQ g w s)) a w4:=by
 obtain ⟨g4,R4,p4,wJ,un⟩:=hs;have p4:AK g [] w g4 (hS none [] s) w4:=p4;obtain ⟨cs,wK,vL⟩:=Y6 wJ (k:=15) (f:=77) (caps:=[.ptr 4 0,.ptr 3 0,.ptr 5 0]) (by simp [GS,List.lookup]);refine wpIn_block (wpIn_rangeFunc fun fn _ => ?_)
 have hT5:AB g4 (mkT 34 [(2,.ptr 0 0),(3,.ptr 1 0),(4,.ptr 2 0)]) a.tmps.toList:=by
  have hh:∀p∈([(2,.ptr 0 0),(3,.ptr 1 0),(4,.ptr 2 0)]:List (Nat × AV)),(([(2,.ptr 0 0),(3,.ptr 1 0),(4,.ptr 2 0),(15,.func (.func 77) [] [.ptr 4 0,.ptr 3 0,.ptr 5 0])]:List (Nat × AV)).lookup p.1).getD .undef=p.2∧low 100 p.2=true:=by simp
  exact WkL.rep (m:=100) (WkL.mkT fun p hp => .same (hh p hp).1 (hh p hp).2) wJ
 generalize hD:w4.heap.size=D;obtain ⟨w5,yW⟩:∃w5,(w4.alloc (.deferred (some []))).alloc (.loop (HS fn a.tmps D .ready none))=w5:=⟨_,rfl⟩
 have R5:Rel g4 (hS none [] s) w5:=by rw [←yW];exact (R4.allocF _).allocF _
 have p5:AK g4 (hS none [] s) w4 g4 (hS none [] s) w5:=by rw [←yW];exact AK.trans R4 (AK.allocF _ _ _ _) (AK.allocF _ _ _ _)
 have hl5:w5.heap[D+1]? = some (.loop (HS fn a.tmps D .ready none)):=by
  rw [←yW,←hD];have:=World.alloc_heap_new (w4.alloc (.deferred (some []))) (.loop (HS fn a.tmps w4.heap.size .ready none))
  rwa [World.size_alloc] at this
 have hD5:w5.heap[D]? = some (.deferred (some [])):=by rw [←yW,←hD];exact (Below.heap_alloc _ _ _ (by simp)).trans (World.alloc_heap_new w4 _)
 have hfr:∀id ge,g4.M id=some ge→ge.block<D:=fun id ge h=>by have:=R4.blk id ge h;omega
 have zB4:D+1<w5.heap.size:=(Array.getElem?_eq_some_iff.1 hl5).1;have Y:Yl ⟨g4,hS none [] s,w5,R5⟩ (D+1) D fn a.tmps:=⟨hl5,fun id ge h=>by have:=hfr id ge h;omega,hT5,hG.mono p4.le⟩
 refine ⟨D+1,[{target := .collected D,args := #[]}],w5,{target := .fn (.func 77) (List.toArray cs),args := #[.func (.yield (D+1)) #[] #[]]},w5,77,
  List.toArray (.func (.yield (D+1)) #[] #[]::cs),w5,?_,?_,fun _ _=>trivial,?_,(fun h=>by cases h),?_⟩
 ·rw [←yW,←hD];exact run_enterLoop_outer _ _ _ _ _
 ·simp only [resolve,wK]
  simp [go_sem]
 ·have hc:=Y5 (P:=Tryz.prog) (i:=77) (by kernel_rfl) (#[.func (.yield (D+1)) #[] #[]]++List.toArray cs) w5
  first
  |(simp [invoke];done)
  |(simpa [invoke] using hc)
 ·refine (Yz Y rfl (by omega) (cargs := .func (.yield (D+1)) #[] #[]::cs) ?_).mono ?_
  ·simp only [AB]
   exact ⟨_,_,rfl,by simp [AA,AB],vL⟩
  rintro e w6 ⟨⟨v,rfl⟩,g6,H6,ls,st,pe,R6,q6,hl6,hr⟩;have q6:CT (D+1) g4 (hS none [] s) w5 g6 H6 w6:=q6;have zB5:∀id ge,g6.M id=some ge→ge.block≠D+1:=q6.foreign zB4 (fun id ge h=>by have:=hfr id ge h;omega);have zA4:∀id ge,g6.M id=some ge→ge.block≠D:=q6.foreign (by omega) (fun id ge h=>by have:=hfr id ge h;omega);have sX:st ≠ .busy:=by rcases hr with ⟨rfl,_⟩|⟨rfl,_⟩|⟨rfl,_⟩<;>simp
  have zK:=run_endLoop (P:=Tryz.prog) hl6 sX;obtain ⟨w7,hw7⟩:∃w7,w6.putObj (D+1) (.loop {HS fn a.tmps D st pe with state := .exhausted})=w7:=⟨_,rfl⟩
  rw [hw7] at zK;have R7:Rel g6 H6 w7:=by rw [←hw7];exact R6.putF hl6 zB5 _
  have q7:CT (D+1) g4 (hS none [] s) w5 g6 H6 w7:=by rw [←hw7];exact q6.trans R5 (CT.put _ _ _ _ _)
  have hD7:w7.heap[D]? = some (.deferred (some [])):=((q7.old D (by omega) (by omega) (fun id e ge _ _ hM=>by have:=hfr id ge hM;omega)).1).trans hD5;have hwD:w.heap.size≤D:=by rw [←hD];exact p4.size
  have p7:AK g [] w g6 H6 w7:=((CT.of (l:=D+1) (AK.trans R p4 p5)).trans R q7).post (.inl (by omega));have hT6:AB g6 (mkT 34 [(2,.ptr 0 0),(3,.ptr 1 0),(4,.ptr 2 0)]) a.tmps.toList:=AB.mono q7.le _ _ hT5
  have go:∀rest,H6=hS none ls rest→Ea [] s=(ls,none)→ls5.wpIn (C9 none) 0 Tryz.prog (LsQ g w s) {a with defers:=[{target := .collected D,args := #[]}]++a.defers} w7:=by
   intro rest hH hc;subst hH
   have t5:TrR none Tryz.prog ⟨g6,hS none ls rest,w7,R7⟩ (fun _=>False) [{target := .collected D,args := #[]}] ls5 (mkT 34 [(2,.ptr 0 0),(3,.ptr 1 0),(4,.ptr 2 0)]) (hS none ls rest) (fun e t H=>e = .ret∧(∃L,t=mkT 34 L∧∀p∈([(2,.ptr 0 0),(3,.ptr 1 0)]:List (Nat × AV)),L.lookup p.1=some p.2)∧∃K,H=some (.box [Ab.tk 6 ls])::some (.box [erI none])::K):=by
    refine TrR.go CP (hG.mono p7.le) [] (by kernel_rfl) ?_;unfold hS
    by_cases ug:ls=[]
    ·subst ug
     simp [ls5,lsB,Bi,Aj,Tryz.f21];exact ⟨_,rfl,by simp [List.lookup]⟩
    ·simp [ls5,lsB,Bi,Aj,Tryz.f21,ug]
     exact ⟨_,rfl,by simp [List.lookup]⟩
   refine t5 _ _ w7 ⟨g6,R7,AK.refl _ _ _,hT6,by rw [un];rfl⟩ ?_ (fun _ _ _ h=>h.elim);rintro ex t8 H8 a8 w8 ⟨rfl,⟨L,rfl,hL⟩,K,rfl⟩ ⟨g8,R8,p8,hT8,hd8⟩;have p8:AK g6 (hS none ls rest) w7 g8 _ w8:=p8;have xP:=AK.foreign R7 p8 (Array.getElem?_eq_some_iff.1 hD7).1 zA4;exact Sg R R8 (AK.trans R p7 p8) (v0:=Ab.tk 6 ls) (ls:=ls) (Ab.tk_cut (by decide) ls) (Ab.tk_one 6 ls) (by rw [SZ s hl,hc]) (hL (2,.ptr 0 0) (by simp)) (hL (3,.ptr 1 0) (by simp)) hT8 hd8 (xP.1.trans hD7) xP.2 hwD
  refine ⟨pe,w7,zK,?_⟩;rcases hr with ⟨rfl,rfl,rest,hH,hc⟩|⟨rfl,rfl,rest,hH,hc⟩|⟨rfl,rfl,rest,e,hH,hc⟩
  ·exact go rest hH hc
  ·exact wpIn_exit (go rest hH hc)
  ·subst hH
   refine wpIn_ret ?_;exact Sg R R7 p7 (v0 := .nilSlice) (ls:=[]) rfl rfl (by rw [SZ s hl,hc]) (by simp [List.lookup]) (by simp [List.lookup]) hT6 (by rw [un];rfl) hD7 zA4 hwD
theorem ZA (s:List UInt8) (hl:s.length≤65536):CS zP Ac 21 [.str s] [] (.tup [Ab.av (CN s).1,erI (CN s).2]) []:=by
 intro g w cargs R hG hA;refine fq (n:=0) (callsIn_of_wp_marks Tryz.func21 (show (Tryz.f21).body=some lsB by kernel_rfl) trivial ?_)
 have hT:AB g (mkT 34 (EL 0 [.str s])) (List.toArray cargs++Array.replicate ((Tryz.f21).ntmps-(List.toArray cargs).size) undef).toList:=by refine AB.mkT_args (by simp) ?_;simp only [Array.toList_append,Array.toList_replicate,List.size_toArray,hA.length];exact hA.append (AB.replicate _ (by simp [AV.nothing,AA,AB,undef]))
 exact Y8 (B:=⟨g,[],w,R⟩) hG s hl ⟨g,R,AK.refl _ _ _,hT,rfl⟩ (fun a' w' h=>Y9 R hG hl h)
theorem ZB (s:List UInt8) (hs:s.length<1000000) (H:AH):CS zP Ac 21 [.str s] H (.tup [Ab.av (CN s).1,erI (CN s).2]) H:=by
 by_cases hl:s.length≤65536
 ·exact CS.frame (ZA s hl) Dg rfl H
 ·exact Y2 s hs (by omega) H
def GN (s:List UInt8):List Nd × List (List UInt8) × Er:=match CN s with
 |(_,some y)=>([],[],some y)
 |(ls,none)=>match ofW ls with
  |(_,some y)=>([],[],some y)
  |(l,none)=>(l,ls,none)
def Gv (x:List Nd × List (List UInt8) × Er):AV := .tup [ndE.av x.1,Ab.av x.2.1,erI x.2.2]
noncomputable def Mc:AF zP Ac:=AF.pure 21 (fun s:List UInt8=>s.length<1000000) (fun s=>[.str s]) (fun s => .tup [Ab.av (CN s).1,erI (CN s).2]) (fun s h H=>ZB s h H) (fun x y _ _ h=>by
 simp only [List.cons.injEq,AV.str.injEq,and_true] at h
 rw [h])
noncomputable def Md:AF zP Ac:=AF.pure 17 (fun ls:List (List UInt8)=>ls.length<1000000∧∀s∈ls,s.length<1000000) (fun ls=>[Ab.av ls]) (fun ls=>Gt (ofW ls)) (fun ls h H=>SR ls h.1 h.2 H) (fun x y _ _ h=>by
 simp only [List.cons.injEq,and_true] at h
 rw [Ab.av_inj h])
theorem ZC (s:List UInt8) (hs:s.length<900000) (H:AH):CS zP Ac 6 [.str s] H (Gv (GN s)) H:=by
 have hL:([Mc,Md,CQ fAs].map (·.f)).Nodup:=show ([21,17,22]:List Nat).Nodup by decide
 have X:=Bq [Mc,Md,CQ fAs] Jv Ae;have h0:s.length<1000000:=by omega
 have f1:=fun H=>Ce hL Mc (by simp) (x:=s) (H:=H) h0
 have f2:=fun (ls:List (List UInt8)) H (h1:ls.length<1000000∧∀s∈ls,s.length<1000000)=>Ce hL Md (by simp) (x:=ls) (H:=H) h1
 have f3:=fun (o:Option (List AV)) (H:AH)=>Ce hL (CQ fAs) (by simp) (x:=(o,0)) (H:=some (.box [.nilPtr])::H) ⟨.nilPtr,rfl,rfl⟩
 generalize oOf [Mc,Md,CQ fAs]=O at X f1 f2 f3;have f1:∀H,O 21 [.str s] H=some (.tup [Ab.av (CN s).1,erI (CN s).2],H):=f1;have f2:∀ls H,(ls.length<1000000∧∀s∈ls,s.length<1000000)→O 17 [Ab.av ls] H=some (Gt (ofW ls),H):=f2;have g3:O 22 [.nilIface,.iface 77 (.ptr 0 0)] [some (.box [.nilPtr])]=some (.bool false,[some (.box [.nilPtr])]):=f3 none [];have g4:∀cs,O 22 [.iface 75 (.vptr cs 0),.iface 77 (.ptr 0 0)] [some (.box [.nilPtr])]=some (.bool true,[some (.box [.vptr cs 0])]):=fun cs=>f3 (some cs) []
 have sw:=MT s hs;refine CS.tr0 Dg Tryz.func6 (by kernel_rfl) 0 (by simp [Tryz.f6]) (fun B hB hG => ?_) (by simp [Gv]) (by simp) H;refine Tr.goD X hG ?_;unfold GN;generalize CN s=q at *;obtain ⟨ls,e⟩:=q;simp only at f1 sw ⊢;cases e with
 |some y =>
  obtain ⟨l,c⟩:=y;cases l with
  |nil=>exact absurd rfl (sw.1 [] c rfl).1
  |cons p l =>have hz:erI (some (p::l,c)) = .iface 75 (.vptr [.str p.1,.int .i64 (p.2:Int),AY (CB l) c] 0):=rfl;rw [hz] at f1;simp [Tryz.f6,f1,g4,Gv];refine LpD.turns X hG [] [] ?_;simp [hz]
 |none =>
  obtain ⟨hn,hl⟩:=sw.2 rfl;have f2:=fun H=>f2 ls H ⟨hn,hl⟩
  simp only;generalize ofW ls=r at *;obtain ⟨l,e⟩:=r;simp only [Gt] at f2;cases e with
  |some y =>
   obtain ⟨l1,c⟩:=y;cases l1 with
   |nil =>have hz:erI (some ([],c)) = .iface 83 (.int .i64 c):=rfl;rw [hz] at f2;simp [Tryz.f6,f1,f2,g3,Gv,hz]
   |cons p l1 =>have hz:erI (some (p::l1,c)) = .iface 75 (.vptr [.str p.1,.int .i64 (p.2:Int),AY (CB l1) c] 0):=rfl;rw [hz] at f2;simp [Tryz.f6,f1,f2,g3,Gv,hz]
  |none=>simp [Tryz.f6,f1,f2,g3,Gv]
noncomputable def fAt:AF zP AG:=AF.pure 20 (fun _:List UInt8 × Int × Int=>True) (fun x=>[.str x.1,.int .i64 x.2.1,.int .i64 x.2.2]) (fun x => .agg [.slice .full 2 1 [.str x.1,.int .i64 x.2.1],.int .i64 x.2.2])
 (fun x _ H=>(AS.toF (AS.toX (AS.toN Nl)) _ _ _ _ _ (Ln x.1 x.2.1 x.2.2 H)).1) (fun x y _ _ h=>by
  obtain ⟨a,b,c⟩:=x;obtain ⟨a',b',c'⟩:=y;simp only [List.cons.injEq,AV.str.injEq,AV.int.injEq,true_and,and_true] at h;obtain ⟨rfl,rfl,rfl⟩:=h
  rfl)
noncomputable def Sh:AF zP AG:=AF.pure 8 (fun x:List (List UInt8 × Int) × Int × Own=>x.2.1≠0∧x.1.length<1000∧(x.2.2 = .unk∨x.2.2 = .full)) (fun x=>[AY x.1 x.2.1,.agg [.slice x.2.2 2 x.1.length (B3 x.1),.int .i64 x.2.1]]) (fun _ => .bool true)
 (fun x h H=>CS.toF (CS.toX (Qx x.1 x.2.1 h.1 h.2.1 x.2.2 h.2.2 H))) (fun x y _ _ h=>rfl)
def k7S:List UInt8:=[105,110,116,101,103,101,114,32,120,10,100,111,32,120,32,61,32,49,44,32,50,10,10,105,102,32,40,120,32,60,32,50,41,32,116,104,101,110,10,112,114,105,110,116,32,120,10,101,108,115,101,10,101,110,100,32,105,102,10,101,110,100,32,100,111,10]
def k7D:List UInt8:=[100,111,32,120,32,61,32,49,44,32,50,10]
def k7E:List UInt8:=[101,108,115,101,10]
def kn7:List Nd:=(GN k7S).1
def K8:List (List UInt8):=(GN k7S).2.1
theorem ZD:(GN k7S).2.2=none:=by kernel_rfl
theorem ZE:GN k7S=(kn7,K8,none):=by
 have:=ZD;unfold kn7 K8
 revert this
 generalize GN k7S=q;obtain ⟨a,b,c⟩:=q;rintro rfl;rfl
theorem Si:K8.length=8:=by kernel_rfl
theorem ZF:kn7.length=2:=by kernel_rfl
theorem K9:szL kn7=4:=by kernel_rfl
def JQ:List AV:=ndE.row kn7
theorem ZG:ndE.av kn7 = .slice .unk 34 2 JQ:=by have h:=ZF;unfold JQ;rw [ndE.av_ne (fun hh=>by rw [hh] at h;cases h),h];rfl
def Fu:Nd:=(kn7[1]?).getD nd0
theorem ZH:kn7[1]? = some Fu:=by kernel_rfl
theorem Ox (f:Nat) (hf:f<34):JQ[34+f]? = (ndC Fu)[f]? := ndE.row_cell ZH f hf
theorem ZI:Fu.end_=7:=by kernel_rfl
theorem ZJ:Fu.mid = -1:=by kernel_rfl
theorem ZK:Fu.body.length=1:=by kernel_rfl
def LA:Nd:=(Fu.body[0]?).getD nd0
theorem Sj:Fu.body[0]? = some LA:=by kernel_rfl
theorem ZL:LA.mid=5:=by kernel_rfl
theorem ZM:LA.end_=6:=by kernel_rfl
def JR:Nd:=(FA kn7 4).2
theorem ZN:(FA kn7 4).1=false:=by kernel_rfl
theorem ZO:JR.st.kind=9:=by kernel_rfl
theorem ZP:(ofW [k7D,k7E]).2=some ([(Cw,1)],12):=by kernel_rfl
theorem ZQ:(ofW [k7D]).2=some ([(Cw,0)],11):=by kernel_rfl
theorem ZR (x y:Int):HO (.int .i64 x) (.int .i64 y)=some (.int .i64 (max x y)):=by
 simp [HO]
 try omega
theorem ZS:AI zP 19=true:=by kernel_rfl
def knF (s:Nat × Int) (d:Int):Bool × Nat × Int:=(true,s.1+1,max s.2 d)
theorem ZT (n:Nd) (d:Int) (c:Nat) (hc:c<4611686018427387904) (m:Int) {H:AH} {a b:Nat} (uJ:a≠b) (ha:H.at a=some (.box [.int .i64 (c:Int)])) (hb:H.at b=some (.box [.int .i64 m])) :
  CS zP Ac 19 [.agg (ndC n),.int .i64 d,.ptr a 0,.ptr b 0] H (.bool true) ((H.set a (some (.box [.int .i64 ((c+1:Nat):Int)]))).set b (some (.box [.int .i64 (max m d)]))):=by
 have hl:=By n;have l2:=fun (l:List AV) (h:lowL 0 l=true)=>Ak (Nat.zero_le 2) l h
 have w1:IntKind.i64.wrap ((c:Int)+1)=((c+1:Nat):Int):=by rw [AZ (by omega) (by omega)];rfl
 have key:=CS.of_Tr (P:=zP) (E:=Ac) (f:=19) (c:=At Tryz.f19) (args:=[.agg (ndC n),.int .i64 d,.ptr 0 0,.ptr 1 0]) (H0:=[some (.box [.int .i64 (c:Int)]),some (.box [.int .i64 m])]) (H1:=[some (.box [.int .i64 ((c+1:Nat):Int)]),some (.box [.int .i64 (max m d)])])
  (v := .bool true) Tryz.func19 (by kernel_rfl) 0 (by simp [Tryz.f19]) (fun B hB hG=>by
   refine Tr.goW DB hG ?_
   simp [Tryz.f19,w1,-Int.natCast_add,ZR]) rfl (by simp [AR,Av])
 have:=CS.embed (fun i=>if i=0 then a else b) (k:=2) (H:=H) (H':=(H.set a (some (.box [.int .i64 ((c+1:Nat):Int)]))).set b (some (.box [.int .i64 (max m d)]))) key rfl rfl (by
  intro i j hi hj he;rcases (by omega:i=0∨i=1) with rfl|rfl<;>rcases (by omega:j=0∨j=1) with rfl|rfl<;>simp at he ⊢
  ·exact uJ he
  ·exact uJ he.symm) Dg (by simp [l2 _ hl]) rfl (by simp [AR,Av]) (by simp [AR,Av]) (by
  intro i hi;rcases (by omega:i=0∨i=1) with rfl|rfl
  ·rw [if_pos rfl,ha];rfl
  ·rw [if_neg (by decide),hb];rfl) (by
  intro i hi;rcases (by omega:i=0∨i=1) with rfl|rfl
  ·rw [if_pos rfl,Dx (fun h=>uJ h.symm),Hb ha];rfl
  ·rw [if_neg (by decide),Hb (by rw [Dx uJ];exact hb)];rfl) (by
  intro j hj;have h0:=hj 0 (by decide);have h1:=hj 1 (by decide);simp at h0 h1
  rw [Dx h1,Dx h0])
 simpa [AN,ren,BB _ _ hl] using this
def Sk (a b:Nat) (uJ:a≠b):Clo 19 (Nat × Int) where
 caps:=[.ptr a 0,.ptr b 0]
 ids:=fun s=>[(a,[.int .i64 (s.1:Int)]),(b,[.int .i64 s.2])]
 keys:=[a,b]
 key:=fun _=>rfl
 nodup:=by simp [uJ]
 inj:=fun s s' h=>by simp at h;obtain ⟨c,m⟩:=s;obtain ⟨c',m'⟩:=s';simp only at h;rw [h.2,show c=c' by omega]
 lowC:=fun s x hx=>by simp at hx;rcases hx with rfl|rfl<;>rfl
 Kp:=fun H=>a<H.length∧b<H.length
 kpA:=fun H K h=>by rw [List.length_append];omega
 kpW:=fun s H h=>by rw [Gu];exact h
 kpL:=fun H h=>⟨fun i hi=>by
  simp at hi;rcases hi with rfl|rfl
  ·exact h.1
  ·exact h.2,by simp [lowL,low,h.1,h.2]⟩
 ok:=fun j s=>s.1+j<4611686018427387904
 f:=fun s _ d=>knF s d
 okN:=fun j s n d h=>by have h:s.1+(j+1)<4611686018427387904:=h;show s.1+1+j<4611686018427387904;omega
 okM:=fun j s h=>by have h:s.1+(j+1)<4611686018427387904:=h;show s.1+j<4611686018427387904;omega
 cs:=fun j s n d H h hK sX vh hd=>ZT n d s.1 (by have h:s.1+(j+1)<4611686018427387904:=h;omega) s.2 uJ (sX (a,[.int .i64 (s.1:Int)]) (by simp)) (sX (b,[.int .i64 s.2]) (by simp))
def JS (ow:Own) (ls:List (List UInt8)):AV:=if ls=[] then .nilSlice else .slice ow 1 ls.length (Ab.row ls)
theorem ZU {ow ow':Own} {l m:List (List UInt8)} (h:JS ow l=JS ow' m):l=m:=by
 apply Ab.av_inj;unfold JS at h;unfold Enc.av
 by_cases h1:l=[]
 ·by_cases h2:m=[]
  ·rw [if_pos h1,if_pos h2]
  ·rw [if_pos h1,if_neg h2] at h;cases h
 ·by_cases h2:m=[]
  ·rw [if_neg h1,if_pos h2] at h;cases h
  ·rw [if_neg h1,if_neg h2] at h
   injection h with _ _ h3 h4;rw [if_neg h1,if_neg h2,h3,h4]
theorem ZV {g:Gh} {ow:Own} {ls:List (List UInt8)} {v:Value} (h:AA g (JS ow ls) v):AA g (Ab.av ls) v:=by
 unfold JS at h;unfold Enc.av
 by_cases h1:ls=[]
 ·rw [if_pos h1] at h ⊢;exact h
 ·rw [if_neg h1] at h ⊢;exact Ls g v h
noncomputable def Sl:AF zP Ac:=AF.pure 17 (fun x:Own × List (List UInt8)=>x.2.length<1000000∧∀s∈x.2,s.length<1000000) (fun x=>[JS x.1 x.2]) (fun x=>Gt (ofW x.2)) (fun x h H=>CS.weakA (SR x.2 h.1 h.2 H) (fun g cargs hr=>by
 simp only [AB] at hr ⊢;obtain ⟨v,vs,rfl,h1,h2⟩:=hr
 exact ⟨v,vs,rfl,ZV h1,h2⟩)) (fun x y _ _ h=>by
 simp only [List.cons.injEq,and_true] at h
 rw [ZU h])
noncomputable def Me:AF zP Ac:=AF.pure 6 (fun s:List UInt8=>s.length<900000) (fun s=>[.str s]) (fun s=>Gv (GN s)) (fun s h H=>ZC s h H) (fun x y _ _ h=>by
 simp only [List.cons.injEq,AV.str.injEq,and_true] at h
 rw [h])
noncomputable def Mf:AF zP Ac:=AF.pure 12 (fun x:List Nd × Int=>szL x.1<4611686018427387904) (fun x=>[ndE.av x.1,.int .i64 x.2]) (fun x => .tup [.agg (ndC (FA x.1 x.2).2),.bool (!(FA x.1 x.2).1)]) (fun x h H=>YY x.1 x.2 h H) (fun x y _ _ h=>by
 simp only [List.cons.injEq,AV.int.injEq,true_and,and_true] at h
 rw [ndE.av_inj h.1,h.2])
noncomputable def Mg:AF zP Ac:=AF.pure 15 (fun x:List Nd=>szL x<4611686018427387904) (fun x=>[ndE.av x]) (fun x => .int .i64 (szL x:Int)) (fun x h H=>YV x h H) (fun x y _ _ h=>by
 simp only [List.cons.injEq,and_true] at h
 rw [ndE.av_inj h])
noncomputable def Lk7:List (AF zP Ac):=[Me,Sl,Mf,Mg,CQ fAt,CQ Sh]
theorem J9:((Lk7).map (·.f)).Nodup:=show ([6,17,12,15,20,8]:List Nat).Nodup by decide
structure K7O (O:Orc):Prop where
 parse:∀(s:List UInt8) (H:AH),s.length<900000→O 6 [.str s] H=some (Gv (GN s),H)
 of:∀(ow:Own) (ls:List (List UInt8)) (H:AH),ls.length<1000000→(∀s∈ls,s.length<1000000)→O 17 [JS ow ls] H=some (Gt (ofW ls),H)
 find:∀(l:List Nd) (n:Int) (H:AH),szL l<4611686018427387904→O 12 [ndE.av l,.int .i64 n] H=some (.tup [.agg (ndC (FA l n).2),.bool (!(FA l n).1)],H)
 count:∀(l:List Nd) (H:AH),szL l<4611686018427387904→O 15 [ndE.av l] H=some (.int .i64 (szL l:Int),H)
 at_:∀(w:List UInt8) (p c:Int) (H:AH),O 20 [.str w,.int .i64 p,.int .i64 c] H=some (.agg [.slice .full 2 1 [.str w,.int .i64 p],.int .i64 c],H)
 tells:∀(l:List (List UInt8 × Int)) (c:Int) (ow:Own) (H:AH),c≠0→l.length<1000→(ow = .unk∨ow = .full)→O 8 [AY l c,.agg [.slice ow 2 l.length (B3 l),.int .i64 c]] H=some (.bool true,H)
theorem ZW:K7O (oOf Lk7):=⟨fun s H h=>Ce J9 Me (by simp [Lk7]) (x:=s) h,fun ow ls H h1 h2=>Ce J9 Sl (by simp [Lk7]) (x:=(ow,ls)) ⟨h1,h2⟩,
 fun l n H h=>Ce J9 Mf (by simp [Lk7]) (x:=(l,n)) h,fun l H h=>Ce J9 Mg (by simp [Lk7]) (x:=l) h,
 fun w p c H=>Ce J9 (CQ fAt) (by simp [Lk7]) (x:=(w,p,c)) trivial,fun l c ow H h1 h2 h3=>Ce J9 (CQ Sh) (by simp [Lk7]) (x:=(l,c,ow)) ⟨h1,h2,h3⟩⟩
theorem ZX:Cx (oOf Lk7) zP Ac:=Bq _ Jv Ae
theorem K7O.point {O:Orc} (h:K7O O) (a0:List AV) (H0:AH) (v0:AV) (H1:AH):K7O (orP 18 a0 H0 v0 H1 O) :=
 ⟨fun s H k=>(G2 (by decide) ..).trans (h.parse s H k),fun ow ls H k1 k2=>(G2 (by decide) ..).trans (h.of ow ls H k1 k2),fun l n H k=>(G2 (by decide) ..).trans (h.find l n H k),
  fun l H k=>(G2 (by decide) ..).trans (h.count l H k),fun w p c H=>(G2 (by decide) ..).trans (h.at_ w p c H),fun l c ow H k1 k2 k3=>(G2 (by decide) ..).trans (h.tells l c ow H k1 k2 k3)⟩
def k7H (c m:Int):AH:=[some (.box (ndC JR)),some (.box [.int .i64 c]),some (.box [.int .i64 m])]
theorem ZY:wkL (Sk 1 2 (by decide)).f kn7 0 (0,0)=(true,4,2):=by kernel_rfl
theorem ZZ:CS zP Ac 18 [ndE.av kn7,.func (.func 19) [] [.ptr 1 0,.ptr 2 0]] (k7H 0 0) (.bool true) (k7H 4 2):=by
 have h:=Ot (Sk 1 2 (by decide)) ZS (by decide) kn7 (0,0) (k7H 0 0) (by rw [K9];decide) (by show 0+szL kn7<_;rw [K9];decide) (by constructor<;>decide) (fun x hx=>by
  have hx:x∈([(1,[.int .i64 0]),(2,[.int .i64 0])]:List (Nat × List AV)):=hx;simp only [List.mem_cons,List.not_mem_nil,or_false] at hx
  rcases hx with rfl|rfl<;>rfl) (by simp [k7H,AR,Av,Ak (Nat.zero_le _) _ (By JR)])
 rw [ZY] at h;exact h
@[simp] theorem bsS2 (a b:List UInt8):Cr zP 25 2 [(0,.str a),(1,.str b)]=some (.slice .full 1 2 [.str a,.str b]):=by kernel_rfl
theorem Za (H:AH):CS zP Ac 4 [] H (.bool true) H:=by
 have X:=FL ZZ (ZX.toW (S:=[12]));have hW:=Ev 18 [ndE.av kn7,.func (.func 19) [] [.ptr 1 0,.ptr 2 0]] (k7H 0 0) (.bool true) (k7H 4 2) (oOf Lk7);have hO:=ZW.point [ndE.av kn7,.func (.func 19) [] [.ptr 1 0,.ptr 2 0]] (k7H 0 0) (.bool true) (k7H 4 2);generalize orP 18 [ndE.av kn7,.func (.func 19) [] [.ptr 1 0,.ptr 2 0]] (k7H 0 0) (.bool true) (k7H 4 2) (oOf Lk7)=O at X hW hO;have p1:=fun H=>hO.parse k7S H (by decide)
 rw [ZE] at p1;have o1:∀H,O 17 [.slice .full 1 2 [.str k7D,.str k7E]] H=some (.tup [ndE.av (ofW [k7D,k7E]).1,erI (ofW [k7D,k7E]).2],H):=fun H=>hO.of .full [k7D,k7E] H (by decide) (by decide)
 have o2:∀H,O 17 [.slice .full 1 1 [.str k7D]] H=some (.tup [ndE.av (ofW [k7D]).1,erI (ofW [k7D]).2],H):=fun H=>hO.of .full [k7D] H (by decide) (by decide)
 rw [ZP] at o1;rw [ZQ] at o2;generalize (ofW [k7D,k7E]).1=T1 at *;generalize (ofW [k7D]).1=T2 at *;have d1:=fun H=>hO.find kn7 4 H (by rw [K9];decide)
 have c1:=fun H=>hO.count kn7 H (by rw [K9];decide)
 rw [K9] at c1;have a1:=fun H=>hO.at_ Cw 1 12 H
 have a2:=fun H=>hO.at_ Cw 0 11 H
 have t1:∀H,O 8 [.iface 75 (.vptr [.str Cw,.int .i64 1,.iface 83 (.int .i64 12)] 0),.agg [.slice .full 2 1 [.str Cw,.int .i64 1],.int .i64 12]] H=some (.bool true,H):=fun H=>hO.tells [(Cw,1)] 12 .full H (by decide) (by decide) (.inr rfl)
 have t2:∀H,O 8 [.iface 75 (.vptr [.str Cw,.int .i64 0,.iface 83 (.int .i64 11)] 0),.agg [.slice .full 2 1 [.str Cw,.int .i64 0],.int .i64 11]] H=some (.bool true,H):=fun H=>hO.tells [(Cw,0)] 11 .full H (by decide) (by decide) (.inr rfl)
 rw [ZN] at d1;have hF:(FA kn7 4).2=JR:=rfl;rw [hF] at d1;have xm:alen zP 25 (Ab.av K8)=some (.int .i64 8):=by rw [Ab.alen Tryz.underlying25 K8,Si];rfl
 have g31:JQ[65]? = some (ndE.av Fu.body):=by rw [Ox 31 (by decide),Ch];rfl
 have g33:JQ[67]? = some (.int .i64 (-1)):=by rw [Ox 33 (by decide),Ch,←ZJ];rfl
 have g1:JQ[35]? = some (.int .i64 7):=by rw [Ox 1 (by decide),Ch,←ZI];rfl
 have hbv:ndE.av Fu.body = .slice .unk 34 1 (ndE.row Fu.body):=by have h:=ZK;rw [ndE.av_ne (fun hh=>by rw [hh] at h;cases h),h];rfl
 have q33:(ndE.row Fu.body)[33]? = some (.int .i64 5):=by
  have:=ndE.row_cell Sj 33 (by decide);rw [show ndE.sz=34 from rfl] at this;rw [show 33=0*34+33 from rfl,this,←ZL]
  show (ndC LA)[33]? = _
  rw [Ch];rfl
 have q1:(ndE.row Fu.body)[1]? = some (.int .i64 6):=by
  have:=ndE.row_cell Sj 1 (by decide);rw [show ndE.sz=34 from rfl] at this;rw [show 1=0*34+1 from rfl,this,←ZM]
  show (ndC LA)[1]? = _
  rw [Ch];rfl
 rw [hbv] at g31;generalize ndE.row Fu.body=R at *;simp only [Gv,ZG] at p1 d1 c1 hW;generalize JQ=C at *;have eF:=Ch JR;have kF:=ZO;simp only [k7H] at hW;generalize ndC JR=F at *;generalize JR=M at *;simp only [Sx.c,List.cons_append,List.nil_append,kF] at eF;subst eF;simp only [k7S,k7D,k7E,Cw,RK,CB,AY,List.map,B3,RJ] at p1 o1 o2 a1 a2 t1 t2;refine CS.tr0 Dg Tryz.func4 (by kernel_rfl) 0 (by simp [Tryz.f4]) (fun B hBs hG => ?_) rfl rfl H;refine Tr.goW X hG ?_;simp [Tryz.f4,p1,o1,o2,Si,g31,g33,g1,q33,q1,d1,hW,c1,a1,a2,t1,t2]
noncomputable def Sn:AF zP Ac:=AF.pure 4 (fun _:Unit=>True) (fun _=>[]) (fun _ => .bool true) (fun _ _ H=>Za H) (fun _ _ _ _ _=>rfl)
@[simp] theorem pf:AG.imm 59=false:=by decide
@[simp] theorem buCd6 (s:List UInt8) (a0 a1 a2 a3 b0 b1 b2 b3:AV):Ay zP 45 [(0,.str s),(1,.agg [a0,a1,a2,a3]),(2,.agg [b0,b1,b2,b3])]=some (.agg [.str s,a0,a1,a2,a3,b0,b1,b2,b3]):=by kernel_rfl
@[simp] theorem buSt6 (k st:Int) (s nm:List UInt8) (a0 a1 a2 a3 b0 b1 b2 b3 c0 c1 c2 c3 d0 d1 d2 d3 e0 e1 e2 e3 f0 f1 f2 f3:AV):Ay zP 47 [(0,.int .i64 k),(2,.agg [a0,a1,a2,a3]),(3,.agg [b0,b1,b2,b3]),(4,.agg [.str s,c0,c1,c2,c3,d0,d1,d2,d3]),(5,.str nm),(6,.agg [e0,e1,e2,e3]),(7,.agg [f0,f1,f2,f3]),(8,.int .i64 st)]
  = some (.agg [.int .i64 k,.nilSlice,a0,a1,a2,a3,b0,b1,b2,b3,.str s,c0,c1,c2,c3,d0,d1,d2,d3,.str nm,e0,e1,e2,e3,f0,f1,f2,f3,.int .i64 st]):=by kernel_rfl
@[simp high] theorem pg (l:List It):alen zP 52 (itE.av l)=some (.int .i64 l.length):=itE.alen Tryz.underlying52 l
@[simp high] theorem ph {l:List It} {i:Nat} (h:i<l.length):Au zP 52 (itE.av l) (.int .i64 (i:Int))=some (.vptr (itE.row l) (i*2)):=itE.aidx Tryz.underlying52 (by kernel_rfl) h
@[simp] theorem Zb (s:List UInt8) (ow:Own) (sz n:Nat) (cs:List AV):Ay zP 179 [(0,.str s),(1,.slice ow sz n cs)]=some (.agg [.str s,.slice ow sz n cs]):=by kernel_rfl
@[simp] theorem Zc (s:List UInt8):Ay zP 179 [(0,.str s),(1,.nilSlice)]=some (.agg [.str s,.nilSlice]):=by kernel_rfl
@[simp] theorem pi (s:List UInt8) (l:List Int):Ay zP 179 [(0,.str s),(1,Ad.av l)]=some (.agg [.str s,Ad.av l]):=by
 by_cases h:l=[]
 ·subst h;exact Zc s
 ·rw [Ad.av_ne h];exact Zb s _ _ _ _
def DT (x:Sx):Sx:=⟨x.kind,x.items,ofT x.to,ofT x.e,x.op,ofT x.ca,ofT x.cb,x.name,ofT x.lo,ofT x.hi,x.step⟩
structure SxT (x:Sx):Prop where
 to:okT x.to=true
 e:okT x.e=true
 ca:okT x.ca=true
 cb:okT x.cb=true
 lo:okT x.lo=true
 hi:okT x.hi=true
 items:x.items.length<4294967296
 dims:∀y∈x.items,y.dims.length<4294967296
def c6 (x:Sx) (v:AV):List AV:=[.int .i64 x.kind,v,.int .i64 (ofT x.to).k,.int .i64 (ofT x.to).n,.str (ofT x.to).s,(ofT x.to).ar,.int .i64 (ofT x.e).k,.int .i64 (ofT x.e).n,.str (ofT x.e).s,(ofT x.e).ar,.str x.op,
 .int .i64 (ofT x.ca).k,.int .i64 (ofT x.ca).n,.str (ofT x.ca).s,(ofT x.ca).ar,.int .i64 (ofT x.cb).k,.int .i64 (ofT x.cb).n,.str (ofT x.cb).s,(ofT x.cb).ar,.str x.name,.int .i64 (ofT x.lo).k,.int .i64 (ofT x.lo).n,.str (ofT x.lo).s,(ofT x.lo).ar,.int .i64 (ofT x.hi).k,.int .i64 (ofT x.hi).n,.str (ofT x.hi).s,(ofT x.hi).ar,.int .i64 x.step]
mutual
def toN:Nd→Nd
 |.mk l e s b c m => .mk l e (DT s) (Bg b) (Bg c) m
def Bg:List Nd→List Nd
 |[]=>[]
 |n::r=>toN n::Bg r
end
mutual
def okN:Nd→Prop
 |.mk _ _ s b c _=>SxT s∧Bz b∧Bz c
def Bz:List Nd→Prop
 |[]=>True
 |n::r=>okN n∧Bz r
end
theorem Oy:∀l,(Bg l).length=l.length
 |[]=>rfl
 |n::r=>by rw [Bg,List.length_cons,Oy r,List.length_cons]
theorem So:∀a b,Bg (a++b)=Bg a++Bg b
 |[],b=>rfl
 |n::a,b=>by rw [List.cons_append,Bg,Bg,So a b,List.cons_append]
theorem Oz:∀{l:List Nd},Bz l→∀n∈l,okN n
 |[],_,n,h=>by cases h
 |m::r,k,n,h=>by
  rw [Bz] at k;rcases List.mem_cons.1 h with rfl|h
  ·exact k.1
  ·exact Oz k.2 n h
theorem O0 {n:Nd} (h:okN n):SxT n.st∧Bz n.body∧Bz n.els:=by
 cases n with
 |mk l e s b c m=>rw [okN] at h;exact h
theorem LB:∀{l:List Nd},∀n∈l,szN n≤szL l
 |[],n,h=>by cases h
 |m::r,n,h=>by
  rw [szL];rcases List.mem_cons.1 h with rfl|h
  ·omega
  ·have:=LB n h;omega
theorem Sp (n:Nd):ndC (toN n) = .int .i64 n.line :: .int .i64 n.end_::((DT n.st).c++[ndE.av (Bg n.body),ndE.av (Bg n.els),.int .i64 n.mid]):=by
 rw [Ch];cases n with
 |mk l e s b c m=>rw [toN];rfl
@[simp high] theorem pj (l:List Nd):alen zP 30 (ndE.av l)=some (.int .i64 l.length):=ndE.alen Tryz.underlying30 l
@[simp high] theorem pk {l:List Nd} {i:Nat} (h:i<l.length):Au zP 30 (ndE.av l) (.int .i64 (i:Int))=some (.vptr (ndE.row l) (i*34)):=ndE.aidx Tryz.underlying30 (by kernel_rfl) h
@[simp] theorem pm:AG.imm 49=false:=by decide
@[simp] theorem goOfI:AI zP 46=true:=AP (by kernel_rfl)
@[simp] theorem goOf6:AI zP 28=true:=AP (by kernel_rfl)
@[simp] theorem goOfN:AI zP 14=true:=AP (by kernel_rfl)
@[simp] theorem goOf7:AI zP 10=true:=AP (by kernel_rfl)
@[simp] theorem goOf5:AI zP 47=true:=AP (by kernel_rfl)
theorem Sq (s:List UInt8) (l:List Int):Ay zP 131 [(0,.str s),(1,Ad.av l)]=some (.agg [.str s,Ad.av l]):=by
 by_cases h:l=[]
 ·subst h;kernel_rfl
 ·rw [Ad.av_ne h];kernel_rfl
@[simp high] theorem pn (l:List It):alen zP 40 (itE.av l)=some (.int .i64 l.length):=itE.alen Tryz.underlying40 l
@[simp high] theorem po {l:List It} {i:Nat} (h:i<l.length):Au zP 40 (itE.av l) (.int .i64 (i:Int))=some (.vptr (itE.row l) (i*2)):=itE.aidx Tryz.underlying40 (by kernel_rfl) h
def OiI (l:List It) (k:Nat) (tt:List AV) (H:AH):Prop:=∃i,i+k=l.length∧tt=mkT 26 [(0,itE.av l),(3,itE.tk 0 (l.take i)),(4,.int .i64 (i:Int))]∧H=[AW (l.take i)]
theorem Zd (l:List It) (hl:l.length<4294967296) (H:AH):CS zP AG 46 [itE.av l] H (itE.av l) H:=by
 refine CS.tr0 BL Tryz.func46 (by kernel_rfl) 0 (by simp [Tryz.f46]) (fun B hB hG => ?_) (by simp) (by simp) H;refine Tr.goD DX hG ?_;simp [Tryz.f46]
 refine LpD.loopN DX hG (OiI l) l.length (t':=mkT 26 [(0,itE.av l),(3,itE.tk 0 (l.take 0)),(4,.int .i64 ((0:Nat):Int))]) (H':=[AW (l.take 0)])
  (AE.mkV 1000 (fun i=>i) 1 (by simp [hB]) (by simp) (by simp) rfl (by
   intro i hi;obtain rfl:i=0:=by omega
   simp [AH.at]) (by simp) (by simp [ren,itE.av_ren])) ⟨0,by omega,rfl,rfl⟩ ?_
 rintro k tt H ⟨i,sa,rfl,rfl⟩;cases k with
 |zero =>
  obtain rfl:i=l.length:=by omega
  rw [List.take_length];have tA:=itE.tk_cut (show ¬0<0 by omega) l;simp [Bj,tA]
 |succ k =>
  have hi:i<l.length:=by omega
  have hi':(i:Int)<l.length:=by omega
  obtain ⟨y,hy⟩:∃y,l[i]? = some y:=⟨_,List.getElem?_eq_getElem hi⟩
  have g0:(itE.row l)[i*2+0]? = some (.str y.name):=itE.row_cell hy 0 (by decide);have g1:(itE.row l)[i*2+1]? = some (Ad.av y.dims):=itE.row_cell hy 1 (by decide);simp only [Nat.add_zero] at g0;have sy:l.take (i+1)=l.take i++[y]:=by rw [List.take_add_one,hy,Option.toList_some]
  have xQ:(l.take i).length=i:=by rw [List.length_take];omega
  have w1:IntKind.i64.wrap ((i:Int)+1)=((i+1:Nat):Int):=by rw [AZ (by omega) (by omega)];omega
  have hI:∀{t H},AE B t H (mkT 26 [(0,itE.av l),(3,itE.tk 0 (l.take i++[y])),(4,.int .i64 ((i+1:Nat):Int))]) [AW (l.take i++[y])]→Nxt B (OiI l) (k+1) t H :=fun h=>Nxt.mk k (by omega) h ⟨i+1,by omega,by rw [sy],by rw [sy]⟩
  generalize l.take i=out at *;have e1:itE.c y=[.str y.name,Ad.av y.dims]:=rfl;have e2:itE.sz=2:=rfl
  by_cases h0:out=[]
  ·subst h0
   have a1:=fun H ow fid=>JK itE (P:=zP) (H:=H) (ow:=ow) (fid:=fid) K3 y
   rw [e1,e2] at a1;simp [hi',-Int.natCast_add];refine LpD.turns DX hG [13] [] ?_;simp [hi,g0,g1,a1,w1,Sq,-Int.natCast_add]
   refine hI (AE.mkV 1000 (fun i=>if i=0 then 1 else i) 1 (by simp [hB]) (by intro i j hi hj h;omega) (by simp [hB]) rfl (by
    intro i hi;obtain rfl:i=0:=by omega
    simp [AH.at,AW,AJ]) (by simp [AW]) (by simp [ren,itE.tk_ren,itE.tk_low,itE.av_ren,itE.tk_strip]))
  ·have a1:=fun H ow fid (h:AH.at H 0=some (.tok out.length))=>JJ itE (P:=zP) (H:=H) (ow:=ow) (fid:=fid) (k:=0) K3 out y h0 h (by omega)
   rw [e1,e2] at a1;have tc:AW out=some (.tok out.length):=C0 h0;rw [tc];have i1:=Hx itE 0 h0;simp [hi',-Int.natCast_add];refine LpD.turns DX hG [13] [] ?_;simp [hi,g0,g1,a1,w1,i1,Sq,-Int.natCast_add];exact hI (AE.mkK 1 (by simp [hB]) (by simp [itE.tk_low]) (by simp [AW]) (by simp [AW]))
noncomputable def KA:AF zP AG:=AF.pure 46 (fun l:List It=>l.length<4294967296) (fun l=>[itE.av l]) (fun l=>itE.av l) (fun l h H=>Zd l h H) (fun x y _ _ h=>by
 simp only [List.cons.injEq,and_true] at h
 rw [itE.av_inj h])
noncomputable def KB:AF zP AG:=AF.pure 47 (fun t:Tn=>okT t=true) (fun t=>[.agg (tC t)]) (fun t => .agg (tC (ofT t))) (fun t h H=>CS.toF (V9 t h H)) (fun x y _ _ h=>by
 simp only [List.cons.injEq,AV.agg.injEq,and_true] at h
 rw [Ks x y h])
@[simp] theorem buRc8 (s:List UInt8) (a0 a1 a2 a3 b0 b1 b2 b3:AV):Ay zP 57 [(0,.str s),(1,.agg [a0,a1,a2,a3]),(2,.agg [b0,b1,b2,b3])]=some (.agg [.str s,a0,a1,a2,a3,b0,b1,b2,b3]):=by kernel_rfl
theorem Ze (k st:Int) (s nm:List UInt8) (l:List It) (a0 a1 a2 a3 b0 b1 b2 b3 c0 c1 c2 c3 d0 d1 d2 d3 e0 e1 e2 e3 f0 f1 f2 f3:AV):Ay zP 59 [(0,.int .i64 k),(1,itE.av l),(2,.agg [a0,a1,a2,a3]),(3,.agg [b0,b1,b2,b3]),(4,.agg [.str s,c0,c1,c2,c3,d0,d1,d2,d3]),(5,.str nm),(6,.agg [e0,e1,e2,e3]),(7,.agg [f0,f1,f2,f3]),(8,.int .i64 st)]
  = some (.agg [.int .i64 k,itE.av l,a0,a1,a2,a3,b0,b1,b2,b3,.str s,c0,c1,c2,c3,d0,d1,d2,d3,.str nm,e0,e1,e2,e3,f0,f1,f2,f3,.int .i64 st]):=by
 by_cases h:l=[]
 ·subst h;kernel_rfl
 ·rw [itE.av_ne h];kernel_rfl
theorem Zf (x:Sx) (hx:SxT x) (H:AH):CS zP AG 28 [.agg x.c] H (.agg (DT x).c) H:=by
 have hL:([KA,KB].map (·.f)).Nodup:=show ([46,47]:List Nat).Nodup by decide
 have X:=Bq [KA,KB] Bw Ae;have f0:=fun H=>CV hL (show KA∈[KA,KB] by simp) x.items hx.items H
 have f1:=fun t (h:okT t=true) H=>CV hL (show KB∈[KA,KB] by simp) t h H
 have h1:=f1 _ hx.to;have h2:=f1 _ hx.e;have h3:=f1 _ hx.ca;have h4:=f1 _ hx.cb;have h5:=f1 _ hx.lo;have h6:=f1 _ hx.hi;generalize oOf [KA,KB]=O at X f0 h1 h2 h3 h4 h5 h6;simp only [CY] at h1 h2 h3 h4 h5 h6;refine CS.tr0 BL Tryz.func28 (by kernel_rfl) 0 (by simp [Tryz.f28]) (fun B hB hG => ?_) (by simp [Sx.c_low]) (by simp [Sx.c_low]) H;refine Tr.goD X hG ?_;simp [Tryz.f28,Sx.c];refine LpD.turns X hG [4,7,10,17,21,27,30,34] [(0,4),(0,7),(0,10),(0,17),(0,21),(0,27),(0,30),(1,4),(1,7),(1,10),(1,17),(1,21),(1,27),(1,30),(4,5),(4,6),(4,8),(4,9),(4,11),(4,12),(4,13),(4,14),(4,15),(4,16),(4,18),(4,19),(4,20),(4,23),(4,24),(4,25),(4,26),(4,28),(4,29),(4,31),(4,32),(7,8),(7,9),(7,11),(7,12),(7,13),(7,14),(7,15),(7,16),(7,18),(7,19),(7,20),(7,23),(7,24),(7,25),(7,26),(7,28),(7,29),(7,31),(7,32),(10,11),(10,12),(10,13),(10,14),(10,15),(10,16),(10,18),(10,19),(10,20),(10,23),(10,24),(10,25),(10,26),(10,28),(10,29),(10,31),(10,32),(11,17),(11,21),(11,27),(11,30),(12,17),(12,21),(12,27),(12,30),(13,17),(13,21),(13,27),(13,30),(17,18),(17,19),(17,20),(17,23),(17,24),(17,25),(17,26),(17,28),(17,29),(17,31),(17,32),(21,23),(21,24),(21,25),(21,26),(21,28),(21,29),(21,31),(21,32),(22,27),(22,30),(23,27),(23,30),(24,27),(24,30),(27,28),(27,29),(27,31),(27,32),(30,31),(30,32)] ?_;simp [f0,h1,h2,h3,h4,h5,h6,Ze,DT,Sx.c]
noncomputable def Ss:AF zP AG:=AF.pure 28 (fun x:Sx=>SxT x) (fun x=>[.agg x.c]) (fun x => .agg (DT x).c) (fun x h H=>Zf x h H) (fun x y _ _ h=>by
 simp only [List.cons.injEq,AV.agg.injEq,and_true] at h
 rw [sxE.inj x y h])
theorem Zg (a b z:Int) (c0 c1 c2 c3 c4 c5 c6 c7 c8 c9 c10 c11 c12 c13 c14 c15 c16 c17 c18 c19 c20 c21 c22 c23 c24 c25 c26 c27 c28:AV) (l m:List Nd):Ay zP 61 [(0,.int .i64 a),(1,.int .i64 b),(2,.agg [c0,c1,c2,c3,c4,c5,c6,c7,c8,c9,c10,c11,c12,c13,c14,c15,c16,c17,c18,c19,c20,c21,c22,c23,c24,c25,c26,c27,c28]),(3,ndE.av l),(4,ndE.av m),(5,.int .i64 z)]=some (.agg [.int .i64 a,.int .i64 b,c0,c1,c2,c3,c4,c5,c6,c7,c8,c9,c10,c11,c12,c13,c14,c15,c16,c17,c18,c19,c20,c21,c22,c23,c24,c25,c26,c27,c28,ndE.av l,ndE.av m,.int .i64 z]):=by
 by_cases h:l=[]
 ·by_cases k:m=[]
  ·subst h;subst k;kernel_rfl
  ·subst h;rw [ndE.av_ne k];kernel_rfl
 ·by_cases k:m=[]
  ·subst k;rw [ndE.av_ne h];kernel_rfl
  ·rw [ndE.av_ne h,ndE.av_ne k];kernel_rfl
theorem Su (n:Nd) (hn:SxT n.st) (hb:∀H,CS zP AG 10 [ndE.av n.body] H (ndE.av (Bg n.body)) H) (he:∀H,CS zP AG 10 [ndE.av n.els] H (ndE.av (Bg n.els)) H) (H:AH) :
  CS zP AG 14 [.agg (ndC n)] H (.agg (ndC (toN n))) H:=by
 have hL:([Ss,AF.pure 10 (fun l:List Nd=>l=n.body∨l=n.els) (fun l=>[ndE.av l]) (fun l=>ndE.av (Bg l)) (fun l h H=>by
  rcases h with rfl|rfl
  ·exact hb H
  ·exact he H) (fun x y _ _ h=>by
  simp only [List.cons.injEq,and_true] at h
  rw [ndE.av_inj h])].map (·.f)).Nodup:=show ([28,10]:List Nat).Nodup by decide
 have X:=Bq [Ss,AF.pure 10 (fun l:List Nd=>l=n.body∨l=n.els) (fun l=>[ndE.av l]) (fun l=>ndE.av (Bg l)) (fun l h H=>by
  rcases h with rfl|rfl
  ·exact hb H
  ·exact he H) (fun x y _ _ h=>by
  simp only [List.cons.injEq,and_true] at h
  rw [ndE.av_inj h])] Bw Ae
 have h1:=fun H=>CV hL List.mem_cons_self n.st hn H
 have h2:=fun H=>CV hL (List.mem_cons_of_mem _ List.mem_cons_self) n.body (.inl rfl) H
 have h3:=fun H=>CV hL (List.mem_cons_of_mem _ List.mem_cons_self) n.els (.inr rfl) H
 generalize oOf _=O at X h1 h2 h3;clear hL;have eN:=Ch n;have eT:=Sp n;simp only [Sx.c,List.cons_append,List.nil_append] at eN eT h1;have lT:=By (toN n);refine CS.tr0 BL Tryz.func14 (by kernel_rfl) 0 (by simp [Tryz.f14]) (fun B hB hG => ?_) (by simp [lT]) (by simp [By]) H;rw [eN,eT];refine Tr.goD X hG ?_;simp [Tryz.f14];refine LpD.turns X hG [6,9,12,16] [(0,6),(0,9),(0,12),(1,6),(1,9),(1,12),(2,6),(2,9),(2,12),(3,6),(3,9),(3,12),(6,7),(6,8),(6,10),(6,11),(6,13),(6,14),(9,10),(9,11),(9,13),(9,14),(12,13),(12,14)] ?_;simp [h1,h2,h3,Zg]
@[simp high] theorem pp (l:List Nd):alen zP 24 (ndE.av l)=some (.int .i64 l.length):=ndE.alen Tryz.underlying24 l
@[simp high] theorem pq {l:List Nd} {i:Nat} (h:i<l.length):Au zP 24 (ndE.av l) (.int .i64 (i:Int))=some (.vptr (ndE.row l) (i*34)):=ndE.aidx Tryz.underlying24 (by kernel_rfl) h
def Sv (l:List Nd) (k:Nat) (tt:List AV) (H:AH):Prop:=∃i,i+k=l.length∧tt=mkT 20 [(0,ndE.av l),(3,ndE.tk 0 (Bg (l.take i))),(4,.int .i64 (i:Int))]∧H=[AW (Bg (l.take i))]
theorem LC:∀(m:Nat) (l:List Nd),szL l<m→szL l<1000000000→Bz l→∀H,CS zP AG 10 [ndE.av l] H (ndE.av (Bg l)) H
 |0,l,hm,_,_,H=>absurd hm (Nat.not_lt_zero _)
 |m+1,l,hm,hz,sw,H=>by
  have tj:∀n∈l,∀H,CS zP AG 14 [.agg (ndC n)] H (.agg (ndC (toN n))) H:=fun n hn H=>by have sj:=LB n hn;rw [IY] at sj;obtain ⟨o1,o2,o3⟩:=O0 (Oz sw n hn);exact Su n o1 (fun H=>LC m n.body (by omega) (by omega) o2 H) (fun H=>LC m n.els (by omega) (by omega) o3 H) H
  have hL:([AF.pure 14 (fun n:Nd=>n∈l) (fun n=>[.agg (ndC n)]) (fun n => .agg (ndC (toN n))) tj (fun x y _ _ h=>by
   simp only [List.cons.injEq,AV.agg.injEq,and_true] at h
   rw [Ju _ _ h])].map (·.f)).Nodup:=show ([14]:List Nat).Nodup by decide
  have X:=Bq [AF.pure 14 (fun n:Nd=>n∈l) (fun n=>[.agg (ndC n)]) (fun n => .agg (ndC (toN n))) tj (fun x y _ _ h=>by
   simp only [List.cons.injEq,AV.agg.injEq,and_true] at h
   rw [Ju _ _ h])] Bw Ae
  have f1:=fun (n:Nd) (h:n∈l) H=>CV hL List.mem_cons_self n h H
  generalize oOf _=O at X f1;clear hL;refine CS.tr0 BL Tryz.func10 (by kernel_rfl) 0 (by simp [Tryz.f10]) (fun B hB hG => ?_) (by simp) (by simp) H;refine Tr.goD X hG ?_;simp [Tryz.f10];have hlz:=JM l
  refine LpD.loopN X hG (Sv l) l.length (t':=mkT 20 [(0,ndE.av l),(3,ndE.tk 0 (Bg (l.take 0))),(4,.int .i64 ((0:Nat):Int))]) (H':=[AW (Bg (l.take 0))])
   (AE.mkV 1000 (fun i=>i) 1 (by simp [hB]) (by simp) (by simp) rfl (by
    intro i hi;obtain rfl:i=0:=by omega
    simp [AH.at,Bg]) (by simp [Bg]) (by simp [ren,Bg,ndE.av_ren])) ⟨0,by omega,rfl,rfl⟩ ?_
  rintro k tt H ⟨i,sa,rfl,rfl⟩;cases k with
  |zero =>
   obtain rfl:i=l.length:=by omega
   rw [List.take_length];have tA:=ndE.tk_cut (show ¬0<0 by omega) (Bg l);simp [Bj,tA]
  |succ k =>
   have hi:i<l.length:=by omega
   have hi':(i:Int)<l.length:=by omega
   obtain ⟨n,hn⟩:∃n,l[i]? = some n:=⟨_,List.getElem?_eq_getElem hi⟩
   have vj:=List.mem_of_getElem? hn;have h1:=fun H=>f1 n vj H
   obtain ⟨tM,tJ⟩:=ndE.row_at l i hn;have tM:((ndE.row l).drop (i*34)).take 34=ndC n:=tM;have tJ:i*34+34≤(ndE.row l).length:=tJ;have w1:IntKind.i64.wrap ((i:Int)+1)=((i+1:Nat):Int):=by rw [AZ (by omega) (by omega)];omega
   have sy:Bg (l.take (i+1))=Bg (l.take i)++[toN n]:=by rw [List.take_add_one,hn,Option.toList_some,So];rfl
   have xQ:(Bg (l.take i)).length=i:=by rw [Oy,List.length_take];omega
   have hI:∀{t H},AE B t H (mkT 20 [(0,ndE.av l),(3,ndE.tk 0 (Bg (l.take i)++[toN n])),(4,.int .i64 ((i+1:Nat):Int))]) [AW (Bg (l.take i)++[toN n])]→Nxt B (Sv l) (k+1) t H :=fun h=>Nxt.mk k (by omega) h ⟨i+1,by omega,by rw [sy],by rw [sy]⟩
   generalize Bg (l.take i)=out at *;have eT:=Sp n;simp only [Sx.c,List.cons_append,List.nil_append] at eT;rw [eT] at h1;have e2:ndE.sz=34:=rfl;have e1:ndE.c (toN n)=ndC (toN n):=rfl;rw [eT] at e1;have a0:=fun H ow fid=>JK ndE (P:=zP) (H:=H) (ow:=ow) (fid:=fid) OV (toN n)
   have aN:=fun (h0:out≠[]) H ow fid (h:AH.at H 0=some (.tok out.length))=>JJ ndE (P:=zP) (H:=H) (ow:=ow) (fid:=fid) (k:=0) OV out (toN n) h0 h (by omega)
   rw [e1,e2] at a0;simp only [e1,e2] at aN
   by_cases h0:out=[]
   ·subst h0
    simp [hi,hi',tM,tJ,h1,a0,w1,-Int.natCast_add]
    refine hI (AE.mkV 1000 (fun i=>if i=0 then 1 else i) 1 (by simp [hB]) (by intro i j hi hj h;omega) (by simp [hB]) rfl (by
     intro i hi;obtain rfl:i=0:=by omega
     simp [AH.at,AW,AJ]) (by simp [AW]) (by simp [ren,ndE.tk_ren,ndE.tk_strip,ndE.tk_low,ndE.av_ren]))
   ·have aN:=aN h0
    have tc:AW out=some (.tok out.length):=C0 h0;rw [tc];have i1:=Hx ndE 0 h0;simp [hi,hi',tM,tJ,h1,aN,w1,i1,-Int.natCast_add];exact hI (AE.mkK 1 (by simp [hB]) (by simp [ndE.tk_low]) (by simp [AW]) (by simp [AW]))
@[simp] theorem goSm6:AI zP 26=true:=AP (by kernel_rfl)
@[simp] theorem goSm7:AI zP 9=true:=AP (by kernel_rfl)
@[simp] theorem goSmE:AI zP 45=true:=AP (by kernel_rfl)
@[simp] theorem goSmL:AI zP 11=true:=AP (by kernel_rfl)
def SlI (l:List (List UInt8)) (k:Nat) (tt:List AV) (H:AH):Prop:=∃i,i+k=l.length∧tt=mkT 26 [(0,Ab.av l),(1,Ab.av l),(5,.int .i64 (i:Int))]∧H=[]
@[simp high] theorem pr (l:List (List UInt8)):alen zP 25 (Ab.av l)=some (.int .i64 l.length):=Ab.alen Tryz.underlying25 l
@[simp high] theorem pu {l:List (List UInt8)} {i:Nat} (h:i<l.length):Au zP 25 (Ab.av l) (.int .i64 (i:Int))=some (.vptr (Ab.row l) (i*1)):=Ab.aidx Tryz.underlying25 (by kernel_rfl) h
theorem Zh (l:List (List UInt8)) (hl:l.length<4294967296) (H:AH):CS zP AG 11 [Ab.av l,Ab.av l] H (.bool true) H:=by
 refine CS.tr0 BL Tryz.func11 (by kernel_rfl) 0 (by simp [Tryz.f11]) (fun B hB hG => ?_) (by simp) (by simp) H;refine Tr.goD DX hG ?_;simp [Tryz.f11];refine LpD.loopN DX hG (SlI l) l.length (t':=mkT 26 [(0,Ab.av l),(1,Ab.av l),(5,.int .i64 ((0:Nat):Int))]) (H':=[]) (AE.mk0 hB (by simp)) ⟨0,by omega,rfl,rfl⟩ ?_;rintro k tt H ⟨i,sa,rfl,rfl⟩;cases k with
 |zero =>
  obtain rfl:i=l.length:=by omega
  simp [Bj]
 |succ k =>
  have hi:i<l.length:=by omega
  have hi':(i:Int)<l.length:=by omega
  obtain ⟨y,hy⟩:∃y,l[i]? = some y:=⟨_,List.getElem?_eq_getElem hi⟩
  have g0:(Ab.row l)[i*1+0]? = some (.str y):=Ab.row_cell hy 0 (by decide);simp only [Nat.add_zero,Nat.mul_one] at g0;have w1:IntKind.i64.wrap ((i:Int)+1)=((i+1:Nat):Int):=by rw [AZ (by omega) (by omega)];omega
  simp [hi',-Int.natCast_add];refine LpD.turns DX hG [] [] ?_;simp [hi,g0,w1,-Int.natCast_add];exact Nxt.mk k (by omega) (AE.mk0 hB (by simp)) ⟨i+1,by omega,rfl,rfl⟩
noncomputable def LD:AF zP AG:=AF.pure 45 (fun t:Tn=>okT t=true) (fun t=>[.agg (tC (ofT t)),.agg (tC t)]) (fun _ => .bool true) (fun t h H=>by
 have:=CS.toF (V6 (ofT t) t (Qw t h) H)
 rwa [Qv] at this) (fun _ _ _ _ _=>rfl)
def S6H (x:Sx):AH:=[some (.box (DT x).c),some (.box x.c)]
def S6I (x:Sx) (k:Nat) (tt:List AV) (H:AH):Prop:=∃i,i+k=x.items.length∧tt=mkT 155 [(2,.ptr 0 0),(3,.ptr 1 0),(5,.int .i64 (i:Int))]∧H=S6H x
def S6J (x:Sx) (i:Nat) (d:List Int) (k:Nat) (tt:List AV) (H:AH):Prop:=∃j,j+k=d.length∧tt=mkT 155 [(2,.ptr 0 0),(3,.ptr 1 0),(5,.int .i64 (i:Int)),(6,.int .i64 (j:Int))]∧H=S6H x
@[simp high] theorem pv (l:List Int):alen zP 129 (Ad.av l)=some (.int .i64 l.length):=Ad.alen Tryz.underlying129 l
@[simp high] theorem pw {l:List Int} {i:Nat} (h:i<l.length):Au zP 129 (Ad.av l) (.int .i64 (i:Int))=some (.vptr (Ad.row l) (i*1)):=Ad.aidx Tryz.underlying129 (by kernel_rfl) h
theorem Zi (x:Sx) (hx:SxT x) (H:AH):CS zP AG 26 [.agg (DT x).c,.agg x.c] H (.bool true) H:=by
 have hL:([LD].map (·.f)).Nodup:=show ([45]:List Nat).Nodup by decide
 have X:=Bq [LD] Bw Ae;have f1:=fun t (h:okT t=true) H=>CV hL (show LD∈[LD] by simp) t h H
 have h1:=f1 _ hx.to;have h2:=f1 _ hx.e;have h3:=f1 _ hx.ca;have h4:=f1 _ hx.cb;have h5:=f1 _ hx.lo;have h6:=f1 _ hx.hi;generalize oOf [LD]=O at X h1 h2 h3 h4 h5 h6;simp only [CY] at h1 h2 h3 h4 h5 h6;refine CS.tr0 BL Tryz.func26 (by kernel_rfl) 0 (by simp [Tryz.f26]) (fun B hB hG => ?_) (by simp) (by simp [Sx.c_low]) H;refine Tr.goD X hG ?_;simp [Tryz.f26,Sx.c,DT]
 refine LpD.loopN X hG (S6I x) x.items.length (t':=mkT 155 [(2,.ptr 0 0),(3,.ptr 1 0),(5,.int .i64 ((0:Nat):Int))]) (H':=S6H x)
  (AE.mkK 2 (by simp [hB]) (by simp) (by simp [S6H,Sx.c,DT]) (by simp [S6H,Sx.c,DT])) ⟨0,by omega,rfl,rfl⟩ ?_
 rintro k tt H ⟨i,sa,rfl,rfl⟩;cases k with
 |zero =>
  obtain rfl:i=x.items.length:=by omega
  simp [S6H,Sx.c,DT,Bj,h1,h2,h3,h4,h5,h6]
 |succ k =>
  have hb:=hx.items;have hi:i<x.items.length:=by omega
  have hi':(i:Int)<x.items.length:=by omega
  obtain ⟨y,hy⟩:∃y,x.items[i]? = some y:=⟨_,List.getElem?_eq_getElem hi⟩
  have hyd:=hx.dims y (List.mem_of_getElem? hy);have g0:(itE.row x.items)[i*2+0]? = some (.str y.name):=itE.row_cell hy 0 (by decide);have g1:(itE.row x.items)[i*2+1]? = some (Ad.av y.dims):=itE.row_cell hy 1 (by decide);simp only [Nat.add_zero] at g0;have w1:IntKind.i64.wrap ((i:Int)+1)=((i+1:Nat):Int):=by rw [AZ (by omega) (by omega)];omega
  simp [S6H,Sx.c,DT,hi',-Int.natCast_add];refine LpD.turns X hG [] [] ?_;simp [hi,g0,g1,-Int.natCast_add]
  refine LpD.loopN X hG (S6J x i y.dims) y.dims.length (t':=mkT 155 [(2,.ptr 0 0),(3,.ptr 1 0),(5,.int .i64 (i:Int)),(6,.int .i64 ((0:Nat):Int))]) (H':=S6H x)
   (AE.mkK 2 (by simp [hB]) (by simp) (by simp [S6H,Sx.c,DT]) (by simp [S6H,Sx.c,DT])) ⟨0,by omega,rfl,rfl⟩ ?_
  rintro k2 tt H ⟨j,vN,rfl,rfl⟩;cases k2 with
  |zero =>
   obtain rfl:j=y.dims.length:=by omega
   simp [S6H,Sx.c,DT,Bj,hi,g0,g1,w1,-Int.natCast_add];exact Nxt.mk k (by omega) (AE.mkK 2 (by simp [hB]) (by simp) (by simp [S6H,Sx.c,DT]) (by simp [S6H,Sx.c,DT])) ⟨i+1,by omega,rfl,rfl⟩
  |succ k2 =>
   have hj:j<y.dims.length:=by omega
   have hj':(j:Int)<y.dims.length:=by omega
   obtain ⟨z,hz⟩:∃z,y.dims[j]? = some z:=⟨_,List.getElem?_eq_getElem hj⟩
   have cz:(Ad.row y.dims)[j]? = some (.int .i64 z):=by have:=Ad.row_cell hz 0 (by decide);rw [Ny,Nat.mul_one,Nat.add_zero] at this;exact this
   have w2:IntKind.i64.wrap ((j:Int)+1)=((j+1:Nat):Int):=by rw [AZ (by omega) (by omega)];omega
   simp [S6H,Sx.c,DT,hi,g0,g1,hj',-Int.natCast_add];refine LpD.turns X hG [] [] ?_;simp [hi,g0,g1,hj,cz,w2,-Int.natCast_add];exact Nxt.mk k2 (by omega) (AE.mkK 2 (by simp [hB]) (by simp) (by simp [S6H,Sx.c,DT]) (by simp [S6H,Sx.c,DT])) ⟨j+1,by omega,rfl,rfl⟩
noncomputable def Sw:AF zP AG:=AF.pure 26 (fun x:Sx=>SxT x) (fun x=>[.agg (DT x).c,.agg x.c]) (fun _ => .bool true) (fun x h H=>Zi x h H) (fun _ _ _ _ _=>rfl)
theorem O1 {l:List Nd} {i:Nat} {n:Nd} (h:l[i]? = some n):(ndE.row l)[i*34]? = some (.int .i64 n.line)∧(ndE.row l)[i*34+1]? = some (.int .i64 n.end_)∧((ndE.row l).drop (i*34+2)).take 29=n.st.c∧i*34+2+29≤(ndE.row l).length ∧
  (ndE.row l)[i*34+31]? = some (ndE.av n.body)∧(ndE.row l)[i*34+32]? = some (ndE.av n.els)∧(ndE.row l)[i*34+33]? = some (.int .i64 n.mid):=by
 have g:∀j,j<34→(ndE.row l)[i*34+j]? = (ndC n)[j]? := fun j hj=>ndE.row_cell h j hj
 obtain ⟨tM,tJ⟩:=ndE.row_at l i h;have tM:((ndE.row l).drop (i*34)).take 34=ndC n:=tM;have tJ:i*34+34≤(ndE.row l).length:=tJ;have eN:=Ch n;refine ⟨?_,?_,?_,by omega,?_,?_,?_⟩
 ·have:=g 0 (by decide);rw [Nat.add_zero] at this;rw [this,eN];rfl
 ·rw [g 1 (by decide),eN];rfl
 ·have h2:(((ndE.row l).drop (i*34)).take 34).drop 2=(ndC n).drop 2:=by rw [tM]
  rw [List.drop_take,List.drop_drop] at h2;have h3:=congrArg (List.take 29) h2;rw [List.take_take,show min 29 (34-2)=29 by decide] at h3;rw [h3,eN];rfl
 ·rw [g 31 (by decide),eN];rfl
 ·rw [g 32 (by decide),eN];rfl
 ·rw [g 33 (by decide),eN];rfl
theorem Zj (n:Nd):(toN n).line=n.line∧(toN n).end_=n.end_∧(toN n).st=DT n.st∧(toN n).body=Bg n.body∧(toN n).els=Bg n.els∧(toN n).mid=n.mid:=by
 cases n with
 |mk l e s b c m=>rw [toN];exact ⟨rfl,rfl,rfl,rfl,rfl,rfl⟩
theorem Sy:∀{l:List Nd} {i:Nat} {n:Nd},l[i]? = some n→(Bg l)[i]? = some (toN n)
 |[],i,n,h=>by simp at h
 |m::l,0,n,h=>by simp only [List.getElem?_cons_zero,Option.some.injEq] at h;subst h;rw [Bg];rfl
 |m::l,i+1,n,h=>by rw [List.getElem?_cons_succ] at h;rw [Bg,List.getElem?_cons_succ];exact Sy h
def S7I (l:List Nd) (k:Nat) (tt:List AV) (H:AH):Prop:=∃i,i+k=l.length∧tt=mkT 96 [(0,ndE.av (Bg l)),(1,ndE.av l),(5,.int .i64 (i:Int))]∧H=[]
theorem Mh:∀(m:Nat) (l:List Nd),szL l<m→szL l<1000000000→Bz l→∀H,CS zP AG 9 [ndE.av (Bg l),ndE.av l] H (.bool true) H
 |0,l,hm,_,_,H=>absurd hm (Nat.not_lt_zero _)
 |m+1,l,hm,hz,sw,H=>by
  have hL:([Sw,AF.pure 9 (fun l:List Nd=>szL l<m∧szL l<1000000000∧Bz l) (fun l=>[ndE.av (Bg l),ndE.av l]) (fun _ => .bool true) (fun l h H=>Mh m l h.1 h.2.1 h.2.2 H) (fun _ _ _ _ _=>rfl)].map (·.f)).Nodup:=show ([26,9]:List Nat).Nodup by decide
  have X:=Bq [Sw,AF.pure 9 (fun l:List Nd=>szL l<m∧szL l<1000000000∧Bz l) (fun l=>[ndE.av (Bg l),ndE.av l]) (fun _ => .bool true) (fun l h H=>Mh m l h.1 h.2.1 h.2.2 H) (fun _ _ _ _ _=>rfl)] Bw Ae;have f1:=fun (x:Sx) H (h:SxT x)=>CV hL List.mem_cons_self x h H
  have f2:=fun (l:List Nd) H (h:szL l<m∧szL l<1000000000∧Bz l)=>CV hL (List.mem_cons_of_mem _ List.mem_cons_self) l h H
  generalize oOf _=O at X f1 f2;clear hL;refine CS.tr0 BL Tryz.func9 (by kernel_rfl) 0 (by simp [Tryz.f9]) (fun B hB hG => ?_) (by simp) (by simp) H;refine Tr.goD X hG ?_;have hln:=Oy l;simp [Tryz.f9,hln];have hlz:=JM l;refine LpD.loopN X hG (S7I l) l.length (t':=mkT 96 [(0,ndE.av (Bg l)),(1,ndE.av l),(5,.int .i64 ((0:Nat):Int))]) (H':=[]) (AE.mk0 hB (by simp)) ⟨0,by omega,rfl,rfl⟩ ?_;rintro k tt H ⟨i,sa,rfl,rfl⟩;cases k with
  |zero =>
   obtain rfl:i=l.length:=by omega
   simp [Bj,hln]
  |succ k =>
   have hi:i<l.length:=by omega
   have uZ:i<(Bg l).length:=by omega
   have hi':(i:Int)<l.length:=by omega
   obtain ⟨n,hn⟩:∃n,l[i]? = some n:=⟨_,List.getElem?_eq_getElem hi⟩
   have vj:=List.mem_of_getElem? hn;obtain ⟨o1,o2,o3⟩:=O0 (Oz sw n vj);have sj:=LB n vj;rw [IY] at sj;have h1:=fun H=>f1 n.st H o1
   have h2:=fun H=>f2 n.body H ⟨by omega,by omega,o2⟩
   have h3:=fun H=>f2 n.els H ⟨by omega,by omega,o3⟩
   obtain ⟨a1,a2,a3,a4,a5,a6,a7⟩:=O1 hn;obtain ⟨b1,b2,b3,b4,b5,b6,b7⟩:=O1 (Sy hn);obtain ⟨t1,t2,t3,t4,t5,t6⟩:=Zj n;rw [t1] at b1;rw [t2] at b2;rw [t3] at b3;rw [t4] at b5;rw [t5] at b6;rw [t6] at b7;have w1:IntKind.i64.wrap ((i:Int)+1)=((i+1:Nat):Int):=by rw [AZ (by omega) (by omega)];omega
   simp [hln,hi',-Int.natCast_add];refine LpD.turns X hG [48,62,76] [] ?_;have i1:=If _ (Sx.c_low n.st);have i2:=If _ (Sx.c_low (DT n.st));simp [i1,i2,hi,uZ,a1,a2,a3,a4,a5,a6,a7,b1,b2,b3,b4,b5,b6,b7,h1,h2,h3,w1,-Int.natCast_add];exact Nxt.mk k (by omega) (AE.mk0 hB (by simp)) ⟨i+1,by omega,rfl,rfl⟩
@[simp] theorem goRfd:AI zP 13=true:=AP (by kernel_rfl)
@[simp] theorem px:AG.imm 61=false:=by decide
mutual
def rfN (a:Int):Nd→Option Nd
 |.mk l e s b c m=>if l=a then some (.mk l e s b c m) else (rfL a b).or (rfL a c)
def rfL (a:Int):List Nd→Option Nd
 |[]=>none
 |n::r=>(rfN a n).or (rfL a r)
end
theorem Zk (a:Int) (n:Nd):rfN a n=if n.line=a then some n else (rfL a n.body).or (rfL a n.els):=by
 cases n with
 |mk l e s b c m=>rw [rfN];rfl
def fdG (a:Int) (s n:Nd) (_:Int):Bool × Nd:=fdF a s n
mutual
theorem Zl (a:Int):∀(n:Nd) (d:Int) (s:Nd),wkN (fdG a) n d s=(!(rfN a n).isSome,(rfN a n).getD s)
 |.mk l e x b c m,d,s=>by
  rw [wkN,rfN];have h1:fdG a s (.mk l e x b c m) d=(decide (l≠a),if l=a then .mk l e x b c m else s):=rfl;rw [h1]
  by_cases hl:l=a
  ·simp [hl]
  ·simp only [hl,ne_eq,not_false_eq_true,decide_true,if_true,if_false]
   rw [Mi a b,Mi a c];cases rfL a b with
   |none=>simp
   |some y=>simp
theorem Mi (a:Int):∀(l:List Nd) (d:Int) (s:Nd),wkL (fdG a) l d s=(!(rfL a l).isSome,(rfL a l).getD s)
 |[],d,s=>by rw [wkL,rfL];rfl
 |n::r,d,s=>by
  rw [wkL,rfL,Zl a n,Mi a r];cases rfN a n with
  |none=>simp
  |some y=>simp
end
theorem Zm (l:List Nd) (a:Int):FA l a=(!(rfL a l).isSome,(rfL a l).getD nd0):=Mi a l 0 nd0
theorem Zn:Ay zP 61 []=some (.agg (ndC nd0)):=by kernel_rfl
theorem Zo (a:Int) {l:List Nd} {i:Nat} {n:Nd} (h:l[i]? = some n):rfL a (l.drop i)=(rfN a n).or (rfL a (l.drop (i+1))):=by obtain ⟨hi,hn⟩:=List.getElem?_eq_some_iff.1 h;rw [List.drop_eq_getElem_cons hi,hn,rfL]
def FE (o:Option Nd):AV := .tup [.agg (ndC (o.getD nd0)),.bool o.isSome]
def RfI (l:List Nd) (a:Int) (k:Nat) (tt:List AV) (H:AH):Prop:=∃i,i+k=l.length∧rfL a l=rfL a (l.drop i)∧tt=mkT 51 [(0,ndE.av l),(1,.int .i64 a),(4,.ptr 0 0),(6,.int .i64 (i:Int))]∧H=[some (.box (ndC nd0))]
theorem O2 (a:Int):∀(m:Nat) (l:List Nd),szL l<m→szL l<1000000000→∀H,CS zP AG 13 [ndE.av l,.int .i64 a] H (FE (rfL a l)) H
 |0,l,hm,_,H=>absurd hm (Nat.not_lt_zero _)
 |m+1,l,hm,hz,H=>by
  have hL:([AF.pure 13 (fun l:List Nd=>szL l<m∧szL l<1000000000) (fun l=>[ndE.av l,.int .i64 a]) (fun l=>FE (rfL a l)) (fun l h H=>O2 a m l h.1 h.2 H) (fun x y _ _ h=>by
   simp only [List.cons.injEq,and_true] at h
   rw [ndE.av_inj h])].map (·.f)).Nodup:=show ([13]:List Nat).Nodup by decide
  have X:=Bq [AF.pure 13 (fun l:List Nd=>szL l<m∧szL l<1000000000) (fun l=>[ndE.av l,.int .i64 a]) (fun l=>FE (rfL a l)) (fun l h H=>O2 a m l h.1 h.2 H) (fun x y _ _ h=>by
   simp only [List.cons.injEq,and_true] at h
   rw [ndE.av_inj h])] Bw Ae
  have f2:=fun (l:List Nd) H (h:szL l<m∧szL l<1000000000)=>CV hL List.mem_cons_self l h H
  generalize oOf _=O at X f2;clear hL;have e0:=Ch nd0;simp only [Sx.c,List.cons_append,List.nil_append] at e0;simp [show nd0.line=0 from rfl,show nd0.end_=0 from rfl,show nd0.st=sx0 from rfl,show nd0.body=[] from rfl,show nd0.els=[] from rfl,show nd0.mid=0 from rfl,sx0] at e0;have lo:=fun n=>By n
  refine CS.tr0 BL Tryz.func13 (by kernel_rfl) 0 (by simp [Tryz.f13]) (fun B hB hG => ?_) (by simp [FE,lo]) (by simp) H;refine Tr.goD X hG ?_;simp [Tryz.f13];have hlz:=JM l;refine LpD.loopN X hG (RfI l a) l.length (t':=mkT 51 [(0,ndE.av l),(1,.int .i64 a),(4,.ptr 0 0),(6,.int .i64 ((0:Nat):Int))]) (H':=[some (.box (ndC nd0))]) (AE.mkK 1 (by simp [hB]) (by simp) (by simp [e0]) (by simp [e0])) ⟨0,by omega,rfl,rfl,rfl⟩ ?_;rintro k tt H ⟨i,sa,ua,rfl,rfl⟩;cases k with
  |zero =>
   obtain rfl:i=l.length:=by omega
   rw [List.drop_length,rfL] at ua;rw [ua];have b0:=Zn;rw [e0] at b0;simp [Bj,FE,e0,b0]
  |succ k =>
   have hi:i<l.length:=by omega
   have hi':(i:Int)<l.length:=by omega
   obtain ⟨n,hn⟩:∃n,l[i]? = some n:=⟨_,List.getElem?_eq_getElem hi⟩
   have vj:=List.mem_of_getElem? hn;have sj:=LB n vj;rw [IY] at sj;have h2:=fun H=>f2 n.body H ⟨by omega,by omega⟩
   have h3:=fun H=>f2 n.els H ⟨by omega,by omega⟩
   obtain ⟨a1,a2,a3,a4,a5,a6,a7⟩:=O1 hn;obtain ⟨tM,tJ⟩:=ndE.row_at l i hn;have tM:((ndE.row l).drop (i*34)).take 34=ndC n:=tM;have tJ:i*34+34≤(ndE.row l).length:=tJ;have w1:IntKind.i64.wrap ((i:Int)+1)=((i+1:Nat):Int):=by rw [AZ (by omega) (by omega)];omega
   rw [Zo a hn,Zk] at ua
   by_cases hl:n.line=a
   ·rw [if_pos hl] at ua
    simp only [Option.some_or] at ua;rw [ua];have eN:=Ch n;simp only [Sx.c,List.cons_append,List.nil_append] at eN;rw [eN] at tM;simp [hi,hi',a1,hl,tM,tJ,FE,e0,eN]
   ·rw [if_neg hl] at ua
    cases hb:rfL a n.body with
    |some y =>rw [hb] at ua h2;simp only [Option.some_or] at ua;rw [ua];have eN:=Ch y;simp only [Sx.c,List.cons_append,List.nil_append] at eN;simp only [FE,Option.getD_some,Option.isSome_some,eN] at h2;simp [hi,hi',a1,hl,a5,h2,FE,e0,eN]
    |none =>
     rw [hb] at ua h2;simp only [Option.none_or] at ua;simp only [FE,Option.getD_none,Option.isSome_none,e0] at h2;cases he:rfL a n.els with
     |some y =>rw [he] at ua h3;simp only [Option.some_or] at ua;rw [ua];have eN:=Ch y;simp only [Sx.c,List.cons_append,List.nil_append] at eN;simp only [FE,Option.getD_some,Option.isSome_some,eN] at h3;simp [hi,hi',a1,hl,a5,a6,h2,h3,FE,e0,eN]
     |none =>rw [he] at ua h3;simp only [Option.none_or] at ua;simp only [FE,Option.getD_none,Option.isSome_none,e0] at h3;simp [hi,hi',a1,hl,a5,a6,h2,h3,e0,w1,-Int.natCast_add];exact Nxt.mk k (by omega) (AE.mkK 1 (by simp [hB]) (by simp) (by simp [e0]) (by simp [e0])) ⟨i+1,by omega,ua,rfl,rfl⟩
end Go.Proofs.YtffcldkblcmmiaaGreatDoor
