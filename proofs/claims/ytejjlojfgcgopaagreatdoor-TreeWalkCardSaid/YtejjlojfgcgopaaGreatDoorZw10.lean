/- The program's trees: Of, its loop. .. The document's trees: their lines rise; how deep they go; wh -/
import Derived.Test.YtejjlojfgcgopaaGreatDoorZw9
import Derived.Shelf.Strconv.Itoa2
import Derived.Shelf.Strconv.Itoa1
import Derived.Lib.ItoaMem
set_option linter.unusedSimpArgs false
set_option linter.unusedVariables false
namespace Go.Proofs.YtejjlojfgcgopaaGreatDoor
open Go.RowKit Go.Proofs.Fw
set_option maxRecDepth 100000
set_option maxHeartbeats 4000000
def HD (ls:List (List UInt8)) (i:Nat):List AV:=mkT 59 [(0,Am.av ls),(2,.nilSlice),(3,.nilIface),(4,.ptr 0 0),(11,Am.av ls),(12,.int .i64 (ls.length:Int)),(13,.int .i64 (i:Int))]
def RQ (ls:List (List UInt8)) (k:Nat) (t:List AV) (H:AH):Prop:=∃i s,i+k=ls.length∧t=HD ls i∧H=bdH s∧s.ok i∧s.fs.length≤8∧s.lin∧ofL (ls.drop i) i s=ofW ls
def Gd (x:List Nd × Er):AV := .tup [ndE.av x.1,erI x.2]
theorem RR {B:Bs} (hB:B.H=[]) (ls:List (List UInt8)) {t:List AV} {H:AH} {k i:Nat} {s:Bd} (hk:(i+1)+k=ls.length) (hs:s.ok (i+1)) (hd:s.fs.length≤8) (hl:s.lin) (he:ofL (ls.drop (i+1)) (i+1) s=ofW ls)
  (h:AF B t H (HD ls (i+1)) (bdH s)):Nxt B (RQ ls) (k+1) t H:=Nxt.mk k (by omega) h ⟨i+1,s,hk,rfl,rfl,hs,hd,hl,he⟩
@[simp] theorem buBd0:A3 zP 185 []=some (.agg [.nilSlice,.nilPtr,.int .i64 0,.bool false]):=by kernel_rfl
theorem W8 (s:Bd):AH.at (bdH s) 0=some (.box (Bd.c s)):=rfl
theorem RS (ls:List (List UInt8)) (rn:ls.length<1000000) (hl:∀s∈ls,s.length<1000000) (H:AH):CS zP AY 48 [Am.av ls] H (Gd (ofW ls)) H:=by
 have hL:([(DJ Nl),(DJ Nk)].map (·.f)).Nodup:=show ([16,84]:List Nat).Nodup by decide
 have X:=(Bv [(DJ Nl),(DJ Nk)] Jb Af).toW (S:=[16]);have f1:=fun (s:List UInt8) (H:AH) (h:s.length<1000000)=>DL hL (DJ Nl) (by simp) (x:=s) (H:=H) h
 have f2:=fun (p:Int) (l:List (List UInt8 × Int)) (c:Int) (H:AH)=>DL hL (DJ Nk) (by simp) (x:=(p,l,c)) (H:=H) trivial
 generalize oOf [(DJ Nl),(DJ Nk)]=O at X f1 f2;have f1:∀(s:List UInt8) (H:AH) (h:s.length<1000000),O 16 [.str s] H=some (G8 (KH (B8 s)),H):=f1;have f2:∀(p:Int) (l:List (List UInt8 × Int)) (c:Int) (H:AH),O 84 [.int .i64 p,AZ l c] H=some (AZ ((DH,p)::l) c,H):=f2;refine CS.tr0 DQ Tryz.func48 (by kernel_rfl) 0 (by simp [Tryz.f48]) (fun B hB hG => ?_) (by simp [Gd]) (by simp) H;refine Tr.goW X hG (by kernel_rfl) ?_;simp [Tryz.f48];refine LpD.loopW [16] hG (by kernel_rfl) (RQ ls) ls.length (t':=HD ls 0) (H':=bdH bd0) ?_ ⟨0,bd0,by omega,rfl,rfl,⟨Nat.zero_le _,fun _ hf=>absurd hf List.not_mem_nil⟩,by decide,fun _ hf=>absurd hf List.not_mem_nil,rfl⟩ ?_
 ·refine AF.mkV 1000 (fun i=>i) 2 (by simp [hB]) (fun i j _ _ h=>h) (fun i _=>rfl) rfl ?_ ?_ ?_
  ·intro i hi
   rcases (by omega:i=0∨i=1) with rfl|rfl
   ·simp [bdH,bd0,Bd.c,Jg,AI,AM,ren]
   ·simp [bdH,bd0]
  ·simp [bdH,bd0,Bd.c,Jg,frH]
  ·simp [HD,ren,Enc.av_ren]
 rintro k t H ⟨i,s,px,rfl,rfl,hs,hd,xP,he⟩;cases k with
 | zero =>
  refine ⟨O,X,?_⟩;obtain rfl:i=ls.length:=by omega
  rw [List.drop_length,ofL] at he;rw [←he];have c0:=W8 s;have vd:AP (bdH s).length (bdH s)=true:=Ef _ _ (by rw [BT];exact Nat.le_refl _);obtain ⟨l,fs,o⟩:=s;cases fs with
  | nil =>simp only [Bd.c,Jg,List.length_nil] at c0;have qV:=ndE.tk_cut (k:=1) (n:=0) (by decide) l;simp [HD,bdH,Bd.c,Jg,Gd,qV]
  | cons f r =>
   have cF:=F3 l f r o [];rw [List.append_nil] at cF;simp only [Fr.c,Fr.pre,Sx.c,List.cons_append,List.nil_append] at cF;simp only [Bd.c,Jf,List.length_cons] at c0;have f2:=fun H=>f2 f.line [] 11 H
   generalize bdH ⟨l,f::r,o⟩=H at *;simp only [AZ] at f2;have qG:((f.line.toNat:Nat):Int)=f.line:=Int.toNat_of_nonneg (xP f List.mem_cons_self);have hz:erI (some ([(DH,f.line.toNat)],11))=AZ [(DH,f.line)] 11:=by simp [VG,CO,qG]
   simp [-AH.at,HD,c0,cF,f2,Gd,hz,AZ]
 | succ k =>
  have hi:i<ls.length:=by omega
  obtain ⟨b,hb⟩:∃b,ls[i]? = some b:=⟨_,List.getElem?_eq_getElem hi⟩
  have su:=hl b (List.mem_of_getElem? hb);have g0:(Am.row ls)[i*1+0]? = some (.str b):=Am.row_cell hb 0 (by decide);simp only [Nat.mul_one,Nat.add_zero] at g0
  have rL:ls.drop i=b::ls.drop (i+1):=by rw [List.drop_eq_getElem_cons hi];rw [List.getElem?_eq_getElem hi] at hb;injection hb with hb;rw [hb]
  rw [rL,ofL] at he;have g1:=fun H=>f1 b H su
  have pz:0<(bdH s).length:=by rw [BT];omega
  have vd:AP (bdH s).length (bdH s)=true:=Ef _ _ (by rw [BT];exact Nat.le_refl _);have hi':(i:Int)<ls.length:=by omega
  have w1:IntKind.i64.wrap ((i:Int)+1)=((i+1:Nat):Int):=by rw [Ab (by omega) (by omega)];rfl
  have sw:IntKind.i64.wrap ((i:Int)+1)=(i:Int)+1:=Ab (by omega) (by omega);generalize hp:KH (B8 b)=p at *;obtain ⟨m,er⟩:=p;simp only [G8] at g1;cases er with
  | some y =>
   refine ⟨O,X,?_⟩;simp only at he;rw [←he]
   have g2:∀H,O 84 [.int .i64 (i:Int),erI (some y)] H=some (erI (some ((DH,i)::y.1,y.2)),H):=fun H=>by obtain ⟨l,c⟩:=y;exact f2 i (CO l) c H
   generalize m.x=x at *;generalize bdH s=H at *;simp only [Sx.c] at g1;simp [-AH.at,HD,hi,hi',g0,g1,g2,DI,Db,Gd]
  | none =>
   simp only at he;have hk:m.x.kind=(m.kind:Int):=rfl
   by_cases h0:m.kind=0
   ·rw [if_pos h0] at he
    refine ⟨O,X,?_⟩;rw [h0] at hk;generalize m.x=x at *;have qO:=fun {t H}=>RR (t:=t) (H:=H) hB ls (k:=k) (by omega) (Bd.ok_mono (Nat.le_succ i) hs) hd xP he
    generalize rQ:bdH s=H at *;simp only [Sx.c] at g1;simp [-AH.at,HD,hi,hi',g0,g1,DI,Db,hk,sw];refine qO (AF.mkK H.length (by simp [hB]) ?_ (List.take_left' rfl) vd);simp [pz]
   ·rw [if_neg h0] at he
    have sN:¬m.x.kind=0:=by rw [hk];omega
    obtain ⟨Y,ya,pv,qB⟩:=ll s m.x (i:Int) hs (by omega) hd;have qM:low 0 (Bl (s.add m.x i).2)=true:=by unfold Bl;split<;>rfl
    have qF:=CS.behind1 (some (.box m.x.c)) ya pv (by simp [Sx.c_low,Ah (Nat.zero_le _) _ (Sx.c_low m.x),low,pz]) qM vd qB;have qU:=Vg (bdH s).length (some (.box m.x.c)) (bdH (s.add m.x i).1++Y) pv;have hs':=Bd.add_ok hs m.x i;have hd':=Bd.add_len hd m.x i;have hl':=Bd.add_lin xP m.x (Int.natCast_nonneg i);generalize Io (bdH s).length (some (.box m.x.c)) (bdH (s.add m.x i).1++Y)=H3 at qF qU;have X':=Ep qF X;have hO:=EV 83 [.ptr 0 0,.agg m.x.c,.int .i64 (i:Int)] (bdH s++[some (.box m.x.c)]) (Bl (s.add m.x i).2) H3 O;have g1:∀H,orP 83 [.ptr 0 0,.agg m.x.c,.int .i64 (i:Int)] (bdH s++[some (.box m.x.c)]) (Bl (s.add m.x i).2) H3 O 16 [.str b] H=some (.tup [.agg m.x.c,.nilIface],H):=fun H=>by rw [Eo (by decide)];exact g1 H
    have g2:∀l c H,orP 83 [.ptr 0 0,.agg m.x.c,.int .i64 (i:Int)] (bdH s++[some (.box m.x.c)]) (Bl (s.add m.x i).2) H3 O 84 [.int .i64 (i:Int),AZ l c] H=some (AZ ((DH,(i:Int))::l) c,H):=fun l c H=>by rw [Eo (by decide)];exact f2 i l c H
    refine ⟨_,X',?_⟩;generalize orP 83 [.ptr 0 0,.agg m.x.c,.int .i64 (i:Int)] (bdH s++[some (.box m.x.c)]) (Bl (s.add m.x i).2) H3 O=O' at hO g1 g2;clear X' qF ya f1 f2 hp;generalize hq:s.add m.x i=q at *;obtain ⟨s',c⟩:=q;simp only at he hO hs' hd' hl' qU qB pv;have xQ:0<(bdH s').length:=by rw [BT];omega
    by_cases hc:c=0
    ·rw [if_pos hc] at he
     subst hc;have qO:=fun {t H}=>RR (t:=t) (H:=H) hB ls (k:=k) (by omega) hs' hd' hl' he
     have hHs:AP (bdH s').length (bdH s')=true:=Ef _ _ (by rw [BT];exact Nat.le_refl _);have sx:Bl 0 = .nilIface:=rfl;rw [sx] at hO;have zg:psB (bdH s).length 0=0:=if_pos pz;generalize bdH s=H at *;simp only [Sx.c] at g1 hO;simp [-AH.at,HD,hi,hi',g0,g1,hO,DI,Db,sN,sw];refine qO (AF.mkV 1000 (psB H.length) (bdH s').length (by simp [hB]) (fun a b _ _ h=>Vf _ a b h) (fun a ha=>by rw [hB] at ha;simp at ha) rfl ?_ hHs ?_)
     ·intro a ha
      rw [qU a,Fa ha]
     ·simp [xQ,zg,ren,Enc.av_ren,strip]
    ·rw [if_neg hc] at he
     rw [←he];rw [Vh hc] at hO;have g2:=fun H=>g2 [] c H
     have hz:erI (some ([(DH,i)],c))=AZ [(DH,(i:Int))] (c:Int):=rfl;have pp:∀H:AH,aeq zP 33 (AZ [] (c:Int)) .nilIface=some false:=fun _=>by simp [AZ]
     generalize bdH s=H at *;simp only [Sx.c] at g1 hO;simp only [AZ] at g2 hO hz;simp [-AH.at,HD,hi,hi',g0,g1,hO,DI,Db,sN,sw,Gd,hz,g2]
def wrB (ids:List (Nat × List AV)) (H:AH):AH:=ids.foldl (fun H x=>H.set x.1 (some (.box x.2))) H
theorem GA:∀(ids:List (Nat × List AV)) (H:AH),(wrB ids H).length=H.length
 | [],H=>rfl
 | x::r,H=>by unfold wrB;rw [List.foldl_cons];exact (GA r _).trans (List.length_set ..)
theorem Kh (x:Nat × List AV) (r:List (Nat × List AV)) (H:AH):wrB (x::r) H=wrB r (H.set x.1 (some (.box x.2))):=rfl
theorem RT:∀(ids:List (Nat × List AV)) (H K:AH),(∀x∈ids,x.1<H.length)→wrB ids (H++K)=wrB ids H++K
 | [],H,K,_=>rfl
 | x::r,H,K,h=>by rw [Kh,Kh,List.set_append_left _ _ (h x List.mem_cons_self)];exact RT r _ K fun y hy=>by rw [List.length_set];exact h y (List.mem_cons_of_mem _ hy)
theorem IM:∀(ids:List (Nat × List AV)) (H:AH) (j:Nat),(∀x∈ids,x.1≠j)→AH.at (wrB ids H) j=H.at j
 | [],_,_,_=>rfl
 | x::r,H,j,h=>by rw [Kh,IM r _ j fun y hy=>h y (List.mem_cons_of_mem _ hy),CZ (h x List.mem_cons_self)]
theorem Lw:∀(ids:List (Nat × List AV)) (H:AH),(ids.map (·.1)).Nodup→(∀x∈ids,x.1<H.length)→∀x∈ids,AH.at (wrB ids H) x.1=some (.box x.2)
 | [],_,_,_,x,hx=>by cases hx
 | y::r,H,hn,hl,x,hx=>by
  rw [List.map_cons,List.nodup_cons] at hn;rw [Kh];rcases List.mem_cons.1 hx with rfl|hx
  ·rw [IM r _ _ (fun z hz he=>hn.1 (by rw [←he];exact List.mem_map_of_mem hz)),AH.at_set,if_pos ⟨rfl,hl x List.mem_cons_self⟩]
  ·exact Lw r _ hn.2 (fun z hz=>by rw [List.length_set];exact hl z (List.mem_cons_of_mem _ hz)) x hx
theorem OJ:∀(ids:List (Nat × List AV)) (H:AH) (n:Nat),AP n H=true→(∀x∈ids,lowL n x.2=true)→AP n (wrB ids H)=true
 | [],_,_,h,_=>h
 | x::r,H,n,h,hc=>by
  rw [Kh];refine OJ r _ n ?_ fun y hy=>hc y (List.mem_cons_of_mem _ hy)
  have hx:=hc x List.mem_cons_self;clear hc;generalize x.1=i
  induction H generalizing i with
  | nil=>exact h
  | cons e H ih =>
   simp only [AP,Bool.and_eq_true] at h;cases i with
   | zero=>simp only [List.set_cons_zero,AP,Aq,hx,h.2];rfl
   | succ i=>simp only [List.set_cons_succ,AP,h.1,ih h.2 i];rfl
structure Clo (fc:FuncId) (σ:Type) where
 caps:List AV
 ids:σ→List (Nat × List AV)
 keys:List Nat
 key:∀s,(ids s).map (·.1)=keys
 nodup:keys.Nodup
 inj:∀s s',ids s=ids s'→s=s'
 lowC:∀s,∀x∈ids s,lowL 0 x.2=true
 Kp:AH→Prop
 kpA:∀H K,Kp H→Kp (H++K)
 kpW:∀s H,Kp H→Kp (wrB (ids s) H)
 kpL:∀H,Kp H→(∀i∈keys,i<H.length)∧lowL H.length caps=true
 ok:Nat→σ→Prop
 f:σ→Nd→Int→Bool × σ
 okN:∀j s n d,ok (j+1) s→ok j (f s n d).2
 okM:∀j s,ok (j+1) s→ok j s
 cs:∀j s n d H,ok (j+1) s→Kp H→(∀x∈ids s,H.at x.1=some (.box x.2))→0≤d→d<4611686018427387904→CS zP AY fc (.agg (ndC n) :: .int .i64 d::caps) H (.bool (f s n d).1) (wrB (ids (f s n d).2) H)
section
variable {fc:FuncId} {σ:Type}
theorem Clo.okL (C:Clo fc σ) {i j:Nat} (h:i≤j) {s:σ} (k:C.ok j s):C.ok i s:=by
 induction h with
 | refl=>exact k
 | step _ ih=>exact ih (C.okM _ _ k)
theorem Clo.wr_at (C:Clo fc σ) (s:σ) {H:AH} (h:C.Kp H):∀x∈C.ids s,AH.at (wrB (C.ids s) H) x.1=some (.box x.2) :=Lw _ _ (by rw [C.key];exact C.nodup) fun x hx=>(C.kpL H h).1 _ (by rw [←C.key s];exact List.mem_map_of_mem hx)
theorem Clo.wr_lt (C:Clo fc σ) (s:σ) {H:AH} (h:C.Kp H):∀x∈C.ids s,x.1<H.length:=fun x hx=>(C.kpL H h).1 _ (by rw [←C.key s];exact List.mem_map_of_mem hx)
theorem W9 {L L':List (Nat × List AV)} (hk:L.map (·.1)=L'.map (·.1)) (hn:(L.map (·.1)).Nodup) {H:AH} (h:∀x∈L,H.at x.1=some (.box x.2)) (h':∀x∈L',H.at x.1=some (.box x.2)):L=L':=by
 induction L generalizing L' with
 | nil=>cases L' with
  | nil=>rfl
  | cons y r=>simp at hk
 | cons x r ih=>cases L' with
  | nil=>simp at hk
  | cons y r' =>simp only [List.map_cons,List.cons.injEq] at hk;rw [List.map_cons,List.nodup_cons] at hn;have h1:=h x List.mem_cons_self;have h2:=h' y List.mem_cons_self;rw [←hk.1,h1] at h2;simp only [Option.some.injEq,Ent.box.injEq] at h2;rw [ih hk.2 hn.2 (fun z hz=>h z (List.mem_cons_of_mem _ hz)) (fun z hz=>h' z (List.mem_cons_of_mem _ hz))];obtain ⟨a,b⟩:=x;obtain ⟨c,d⟩:=y;simp only at hk h2;rw [hk.1,h2]
theorem Clo.wr_inj (C:Clo fc σ) {s s':σ} {H:AH} (h:C.Kp H) (he:wrB (C.ids s) H=wrB (C.ids s') H):s=s':=by refine C.inj _ _ (W9 (H:=wrB (C.ids s) H) (by rw [C.key,C.key]) (by rw [C.key];exact C.nodup) (C.wr_at s h) ?_);rw [he];exact C.wr_at s' h
theorem XA {L L':List (Nat × List AV)} (hk:L.map (·.1)=L'.map (·.1)) (hn:(L.map (·.1)).Nodup) (H:AH) (hl:∀x∈L,x.1<H.length):wrB L' (wrB L H)=wrB L' H:=by
 apply AH.ext_at
 ·rw [GA,GA,GA]
 ·intro j
  by_cases hj:∃x∈L',x.1=j
  ·obtain ⟨x,hx,rfl⟩:=hj
   have hl':∀y∈L',y.1<H.length:=fun y hy=>by
    have:y.1∈L.map (·.1):=by rw [hk];exact List.mem_map_of_mem hy
    obtain ⟨z,hz,he⟩:=List.mem_map.1 this;rw [←he];exact hl z hz
   rw [Lw L' _ (by rw [←hk];exact hn) (fun y hy=>by rw [GA];exact hl' y hy) x hx,Lw L' _ (by rw [←hk];exact hn) hl' x hx]
  ·have h1:∀x∈L',x.1≠j:=fun x hx he=>hj ⟨x,hx,he⟩
   have h2:∀x∈L,x.1≠j:=fun x hx he=>by
    have:x.1∈L'.map (·.1):=by rw [←hk];exact List.mem_map_of_mem hx
    obtain ⟨z,hz,qT⟩:=List.mem_map.1 this;exact h1 z hz (qT.trans he)
   rw [IM _ _ _ h1,IM _ _ _ h2,IM _ _ _ h1]
theorem Clo.wr_wr (C:Clo fc σ) (s s':σ) {H:AH} (h:C.Kp H):wrB (C.ids s') (wrB (C.ids s) H)=wrB (C.ids s') H:=XA (by rw [C.key,C.key]) (by rw [C.key];exact C.nodup) H (C.wr_lt s h)
mutual
def wkN (f:σ→Nd→Int→Bool × σ):Nd→Int→σ→Bool × σ
 | .mk l e x b c m,d,s =>
  if (f s (.mk l e x b c m) d).1=true then
   (if (wkL f b (d+1) (f s (.mk l e x b c m) d).2).1=true then wkL f c (d+1) (wkL f b (d+1) (f s (.mk l e x b c m) d).2).2
    else (false,(wkL f b (d+1) (f s (.mk l e x b c m) d).2).2))
  else (false,(f s (.mk l e x b c m) d).2)
def wkL (f:σ→Nd→Int→Bool × σ):List Nd→Int→σ→Bool × σ
 | [],_,s=>(true,s)
 | n::r,d,s=>if (wkN f n d s).1=true then wkL f r d (wkN f n d s).2 else (false,(wkN f n d s).2)
end
mutual
def szN:Nd→Nat
 | .mk _ _ _ b c _=>1+szL b+szL c
def szL:List Nd→Nat
 | []=>0
 | n::r=>szN n+szL r
end
theorem Ki (n:Nd):szN n=1+szL n.body+szL n.els:=by cases n;rw [szN];rfl
theorem XB (f:σ→Nd→Int→Bool × σ) (n:Nd) (d:Int) (s:σ):wkN f n d s =
  if (f s n d).1=true then
   (if (wkL f n.body (d+1) (f s n d).2).1=true then wkL f n.els (d+1) (wkL f n.body (d+1) (f s n d).2).2
    else (false,(wkL f n.body (d+1) (f s n d).2).2))
  else (false,(f s n d).2):=by cases n;rw [wkN];rfl
theorem Kj:∀l:List Nd,l.length≤szL l
 | []=>Nat.zero_le _
 | n::r=>by have:=Kj r;rw [szL,Ki,List.length_cons];omega
theorem RU:∀{l:List Nd} {i:Nat} {n:Nd},l[i]? = some n→szN n+szL (l.drop (i+1))≤szL l
 | [],i,n,h=>by simp at h
 | m::l,0,n,h=>by simp only [List.getElem?_cons_zero,Option.some.injEq] at h;subst h;rw [szL];simp
 | m::l,i+1,n,h=>by simp only [List.getElem?_cons_succ] at h;have:=RU h;rw [szL];simp only [List.drop_succ_cons];omega
mutual
theorem Clo.okWn (C:Clo fc σ):∀(n:Nd) (d:Int) (s:σ) (j:Nat),C.ok (szN n+j) s→C.ok j (wkN C.f n d s).2
 | .mk l e x b c m,d,s,j,h=>by
  rw [szN] at h;rw [wkN];have h1:=C.okN (szL b+szL c+j) s (.mk l e x b c m) d (C.okL (by omega) h)
  split
  ·have h2:=C.okWl b (d+1) _ (szL c+j) (C.okL (by omega) h1)
   split
   ·exact C.okWl c (d+1) _ j h2
   ·exact C.okL (by omega) h2
  ·exact C.okL (by omega) h1
theorem Clo.okWl (C:Clo fc σ):∀(l:List Nd) (d:Int) (s:σ) (j:Nat),C.ok (szL l+j) s→C.ok j (wkL C.f l d s).2
 | [],d,s,j,h=>by rw [szL] at h;rw [wkL];exact C.okL (by omega) h
 | n::r,d,s,j,h=>by
  rw [szL] at h;rw [wkL];have h1:=C.okWn n d s (szL r+j) (C.okL (by omega) h)
  split
  ·exact C.okWl r d _ j h1
  ·exact C.okL (by omega) h1
end
end
@[simp high] theorem nQ (l:List Nd):alen zP 76 (ndE.av l)=some (.int .i64 l.length):=ndE.alen Tryz.underlying76 l
@[simp high] theorem nR {l:List Nd} {i:Nat} (h:i<l.length):Av zP 76 (ndE.av l) (.int .i64 (i:Int))=some (.vptr (ndE.row l) (i*34)):=ndE.aidx Tryz.underlying76 (by kernel_rfl) h
section
variable {fc:FuncId} {σ:Type}
def wkT (l:List Nd) (d:Int) (fv:AV) (i:Nat):List AV:=mkT 39 [(0,ndE.av l),(1,.int .i64 d),(2,fv),(6,.bool false),(9,ndE.av l),(10,.int .i64 (l.length:Int)),(11,.int .i64 (i:Int))]
def WkI (C:Clo fc σ) (l:List Nd) (d:Int) (s0:σ) (H0:AH) (k:Nat) (t:List AV) (H:AH):Prop :=∃i s,i+k=l.length∧t=wkT l d (.func (.func fc) [] C.caps) i∧H=wrB (C.ids s) H0∧C.ok (szL (l.drop i)) s∧wkL C.f (l.drop i) d s=wkL C.f l d s0
theorem OK (C:Clo fc σ) (sY:AE zP fc=true) (u0:fc≠82):∀(N:Nat) (l:List Nd) (d:Int) (s:σ) (H:AH),szL l<N→0≤d→d+szL l<4611686018427387904→C.ok (szL l) s→C.Kp H→(∀x∈C.ids s,H.at x.1=some (.box x.2))→AP H.length H=true →
  CS zP AY 82 [ndE.av l,.int .i64 d,.func (.func fc) [] C.caps] H (.bool (wkL C.f l d s).1) (wrB (C.ids (wkL C.f l d s).2) H)
 | 0,_,_,_,_,h,_,_,_,_,_,_=>absurd h (Nat.not_lt_zero _)
 | N+1,l,d,s0,H0,hN,tP,hd,qR,hK,pu,qB=>by
  have qM:=(C.kpL H0 hK).2;have vg:∀s,AP H0.length (wrB (C.ids s) H0)=true:=fun s=>OJ _ _ _ qB fun x hx=>Ah (Nat.zero_le _) _ (C.lowC s x hx)
  have uG:∀s,(wrB (C.ids s) H0).length=H0.length:=fun s=>GA _ _
  have sw:wrB (C.ids s0) H0=H0:=by
   apply AH.ext_at (GA _ _);intro j
   by_cases hj:∃x∈C.ids s0,x.1=j
   ·obtain ⟨x,hx,rfl⟩:=hj
    rw [C.wr_at s0 hK x hx,pu x hx]
   ·exact IM _ _ _ fun x hx he=>hj ⟨x,hx,he⟩
  refine CS.of_Tr (c:=Ar Tryz.f82) (H0:=H0) (H1:=wrB (C.ids (wkL C.f l d s0).2) H0) Tryz.func82 (by kernel_rfl) 0 (by simp [Tryz.f82]) (fun B hB hG => ?_) rfl (vg _);have qG:∀m,H0.length≤m→low m (.func (.func fc) [] C.caps)=true:=fun m hm=>by simp only [low,lowL,Ah hm _ qM];rfl
  generalize vh:AV.func (.func fc) [] C.caps=fv at *;refine Tr.goW Cv hG (by kernel_rfl) ?_;simp [-AH.at,Tryz.f82];refine LpD.loopW [] hG (by kernel_rfl) (WkI C l d s0 H0) l.length (t':=wkT l d fv 0) (H':=H0) (AF.mkK H0.length (by rw [hB];exact Nat.le_refl _) (by simp [qG]) (by simp) qB) ⟨0,s0,by omega,by rw [vh],sw.symm,qR,rfl⟩ ?_;rintro k t H ⟨i,s,px,rfl,rfl,xR,tc⟩;rw [vh];cases k with
  | zero =>
   obtain rfl:i=l.length:=by omega
   rw [List.drop_length,wkL] at tc;refine ⟨Bk,Cv,?_⟩;rw [←tc];have hl:=uG s;generalize wrB (C.ids s) H0=H at *;simp [-AH.at,wkT];rw [←hl,List.take_length]
  | succ k =>
   have hi:i<l.length:=by omega
   have hi':(i:Int)<l.length:=by omega
   obtain ⟨n,hn⟩:∃n,l[i]? = some n:=⟨_,List.getElem?_eq_getElem hi⟩
   have rL:l.drop i=n::l.drop (i+1):=by rw [List.drop_eq_getElem_cons hi];rw [List.getElem?_eq_getElem hi] at hn;injection hn with hn;rw [hn]
   have qC:=RU hn;have hszn:=Ki n;rw [rL,szL] at xR;rw [rL,wkL,XB] at tc;have sw:IntKind.i64.wrap ((i:Int)+1)=(i:Int)+1:=Ab (by have:=Kj l;omega) (by have:=Kj l;omega);have xS:IntKind.i64.wrap (d+1)=d+1:=Ab (by omega) (by omega);obtain ⟨rR,rW⟩:=ndE.row_at l i hn;have rR:((ndE.row l).drop (i*34)).take 34=ndC n:=rR;have rW:i*34+34≤(ndE.row l).length:=rW;obtain ⟨bx,xU⟩:∃bx:Option Ent,bx=some (.box (ndC n)):=⟨_,rfl⟩
   have su:Aq (H0.length+1) bx=true:=by rw [xU];exact Ah (Nat.zero_le _) _ (Br n)
   have wY:∀s,C.Kp (wrB (C.ids s) H0++[bx]):=fun s=>C.kpA _ _ (C.kpW s _ hK)
   have uW:∀s,∀x∈C.ids s,AH.at (wrB (C.ids s) H0++[bx]) x.1=some (.box x.2):=fun s x hx=>by rw [Fa (by rw [uG];exact C.wr_lt s hK x hx)];exact C.wr_at s hK x hx
   have xV:∀s,AP (wrB (C.ids s) H0++[bx]).length (wrB (C.ids s) H0++[bx])=true:=fun s=>by rw [List.length_append,uG,IB,Lg (Nat.le_add_right _ _) (vg s)];simp only [AP,List.length_cons,List.length_nil,Nat.zero_add,su,Bool.and_true,Bool.true_and]
   have wZ:∀s s',wrB (C.ids s') (wrB (C.ids s) H0++[bx])=wrB (C.ids s') H0++[bx]:=fun s s'=>by rw [RT _ _ _ (fun x hx=>by rw [uG];exact C.wr_lt s' hK x hx),C.wr_wr s s' hK]
   have ok1:=C.okN (szL n.body+szL n.els+szL (l.drop (i+1))) s n d (C.okL (by omega) xR);have h1:=C.cs _ s n d (wrB (C.ids s) H0++[bx]) (C.okL (Nat.le_refl _) (C.okL (by omega) xR:C.ok (szL n.body+szL n.els+szL (l.drop (i+1))+1) s)) (wY s) (uW s) tP (by omega);generalize C.f s n d=r1 at *;obtain ⟨b1,s1⟩:=r1;rw [wZ] at h1;simp only at ok1 h1 tc;have ok2:=C.okWl n.body (d+1) s1 (szL n.els+szL (l.drop (i+1))) (C.okL (by omega) ok1);have h2:=OK C sY u0 N n.body (d+1) s1 (wrB (C.ids s1) H0++[bx]) (by omega) (by omega) (by omega) (C.okL (by omega) ok1) (wY s1) (uW s1) (xV s1)
   have rh:∀s2,wkL C.f n.body (d+1) s1=wkL C.f n.els (d+1) s2∨¬(n.body=n.els∧s1=s2):=fun s2=>by
    by_cases h:n.body=n.els∧s1=s2
    ·rw [h.1,h.2];exact .inl rfl
    ·exact .inr h
   generalize wkL C.f n.body (d+1) s1=r2 at *;obtain ⟨b2,s2⟩:=r2;rw [wZ] at h2;simp only at ok2 h2 tc;have ok3:=C.okWl n.els (d+1) s2 (szL (l.drop (i+1))) ok2;have h3:=OK C sY u0 N n.els (d+1) s2 (wrB (C.ids s2) H0++[bx]) (by omega) (by omega) (by omega) (C.okL (by omega) ok2) (wY s2) (uW s2) (xV s2);have rh:=rh s2;generalize wkL C.f n.els (d+1) s2=r3 at *;obtain ⟨b3,s3⟩:=r3;rw [wZ] at h3;simp only at ok3 h3 tc;rw [vh] at h2 h3;have X:=Ep (S:=[]) h3 (Ep h2 (Ep h1 Cv));have o3:=EV 82 [ndE.av n.els,.int .i64 (d+1),fv] (wrB (C.ids s2) H0++[bx]) (.bool b3) (wrB (C.ids s3) H0++[bx]) (orP 82 [ndE.av n.body,.int .i64 (d+1),fv] (wrB (C.ids s1) H0++[bx]) (.bool b2) (wrB (C.ids s2) H0++[bx]) (orP fc (.agg (ndC n) :: .int .i64 d::C.caps) (wrB (C.ids s) H0++[bx]) (.bool b1) (wrB (C.ids s1) H0++[bx]) Bk))
   have o2:orP 82 [ndE.av n.els,.int .i64 (d+1),fv] (wrB (C.ids s2) H0++[bx]) (.bool b3) (wrB (C.ids s3) H0++[bx]) (orP 82 [ndE.av n.body,.int .i64 (d+1),fv] (wrB (C.ids s1) H0++[bx]) (.bool b2) (wrB (C.ids s2) H0++[bx]) (orP fc (.agg (ndC n) :: .int .i64 d::C.caps) (wrB (C.ids s) H0++[bx]) (.bool b1) (wrB (C.ids s1) H0++[bx]) Bk))
     82 [ndE.av n.body,.int .i64 (d+1),fv] (wrB (C.ids s1) H0++[bx])=some (.bool b2,wrB (C.ids s2) H0++[bx]):=by
    rcases rh with he|pp
    ·by_cases hc:n.body=n.els∧s1=s2
     ·simp only [Prod.mk.injEq] at he
      rw [hc.1,hc.2,EV,he.1,he.2]
     ·unfold orP
      rw [if_neg,if_pos ⟨rfl,rfl,rfl⟩];rintro ⟨_,ha,hH⟩;simp only [List.cons.injEq,and_true] at ha;exact hc ⟨ndE.av_inj ha,C.wr_inj hK (List.append_cancel_right hH)⟩
    ·unfold orP
     rw [if_neg,if_pos ⟨rfl,rfl,rfl⟩];rintro ⟨_,ha,hH⟩;simp only [List.cons.injEq,and_true] at ha;exact pp ⟨ndE.av_inj ha,C.wr_inj hK (List.append_cancel_right hH)⟩
   have o1:orP 82 [ndE.av n.els,.int .i64 (d+1),fv] (wrB (C.ids s2) H0++[bx]) (.bool b3) (wrB (C.ids s3) H0++[bx]) (orP 82 [ndE.av n.body,.int .i64 (d+1),fv] (wrB (C.ids s1) H0++[bx]) (.bool b2) (wrB (C.ids s2) H0++[bx]) (orP fc (.agg (ndC n) :: .int .i64 d::C.caps) (wrB (C.ids s) H0++[bx]) (.bool b1) (wrB (C.ids s1) H0++[bx]) Bk))
     fc (.agg (ndC n) :: .int .i64 d::C.caps) (wrB (C.ids s) H0++[bx])=some (.bool b1,wrB (C.ids s1) H0++[bx]):=by
    rw [Eo u0,Eo u0,EV]
   refine ⟨_,X,?_⟩;generalize orP 82 [ndE.av n.els,.int .i64 (d+1),fv] (wrB (C.ids s2) H0++[bx]) (.bool b3) (wrB (C.ids s3) H0++[bx]) (orP 82 [ndE.av n.body,.int .i64 (d+1),fv] (wrB (C.ids s1) H0++[bx]) (.bool b2) (wrB (C.ids s2) H0++[bx]) (orP fc (.agg (ndC n) :: .int .i64 d::C.caps) (wrB (C.ids s) H0++[bx]) (.bool b1) (wrB (C.ids s1) H0++[bx]) Bk))=O at o1 o2 o3;clear X h1 h2 h3 rh;have qK:=uG s;have qz:=uG s1;have p6:=uG s2;have qI:=uG s3;have qP:=vg s1;have qN:=vg s2;have hr3:=vg s3;have qO:∀{t H},wkL C.f (l.drop (i+1)) d s3=wkL C.f l d s0→AF B t H (wkT l d fv (i+1)) (wrB (C.ids s3) H0)→Nxt B (WkI C l d s0 H0) (k+1) t H:=fun he hL=>Nxt.mk k (by omega) hL ⟨i+1,s3,by omega,by rw [vh],rfl,ok3,he⟩
   have zh:=tc;rw [←tc];have xW:=C9 n;simp only [Sx.c,List.cons_append,List.nil_append] at xW;rw [xU,xW] at o1 o2 o3;rw [xW] at rR;clear su wY uW xV wZ xU tc;generalize wrB (C.ids s) H0=H at *;generalize e1:wrB (C.ids s1) H0=H1 at *;generalize e2:wrB (C.ids s2) H0=H2 at *;generalize e3:wrB (C.ids s3) H0=H3 at *;rw [←qK] at qz p6 qI;have a1:=fun e B=>DI H1 e B
   have a2:=fun e B=>DI H2 e B
   rw [qz] at a1;rw [p6] at a2;have t1:∀B,(H1++B).take H0.length=H1:=fun B=>List.take_left' (qz.trans qK)
   have t2:∀B,(H2++B).take H0.length=H2:=fun B=>List.take_left' (p6.trans qK)
   have t3:∀B,(H3++B).take H0.length=H3:=fun B=>List.take_left' (qI.trans qK)
   subst vh;cases b1 with
   | false=>simp [-AH.at,wkT,hi,hi',rR,rW,sY,o1,DI,Db,a1,a2,t1,e1]
   | true =>
    cases b2 with
    | false=>simp [-AH.at,wkT,hi,hi',rR,rW,sY,xS,o1,o2,DI,Db,a1,a2,t2,e2]
    | true =>
     cases b3 with
     | false=>simp [-AH.at,wkT,hi,hi',rR,rW,sY,xS,o1,o2,o3,DI,Db,a1,a2,t3,e3]
     | true =>
      simp [-AH.at,wkT,hi,hi',rR,rW,sY,xS,o1,o2,o3,DI,Db,a1,a2,sw];refine qO ?_ ?_
      ·simpa using zh
      ·exact AF.mkK H0.length (by rw [hB];exact Nat.le_refl _) (by simp [qM]) (t3 _) hr3
end
end Go.Proofs.YtejjlojfgcgopaaGreatDoor
namespace Go.Proofs.YtejjlojfgcgopaaGreatDoor.Tf
open Go.RowKit Go.Proofs.Fw
set_option maxRecDepth 100000
theorem zz0:AE zP 10=true∧AE zP 11=true∧AE zP 12=true∧AE zP 13=true∧AE zP 14=true∧AE zP 22=true∧AE zP 26=true∧AE zP 29=true∧AE zP 36=true∧AE zP 37=true∧AE zP 38=true∧AE zP 39=true∧AE zP 42=true∧AE zP 43=true∧AE zP 45=true:=by and_intros<;>kernel_rfl
theorem go47:AE zP 47=true:=by kernel_rfl
theorem zz1:AE zP 74=true∧AE zP 78=true∧AE zP 79=true∧AE zP 125=true∧AE zP 126=true∧AE zP 170=true∧AE zP 198=true∧AE zP 200=true:=by and_intros<;>kernel_rfl
attribute [simp] zz0 go47 zz1
end Go.Proofs.YtejjlojfgcgopaaGreatDoor.Tf
namespace Go.Proofs.YtejjlojfgcgopaaGreatDoor
open Go.RowKit Go.Proofs.Fw
set_option maxRecDepth 100000
set_option maxHeartbeats 4000000
@[simp] theorem nS:AY.imm 3=false:=by decide
@[simp] theorem nT:AY.imm 9=false:=by decide
theorem XC:AE zP 81=true:=by kernel_rfl
theorem XD:AE zP 80=true:=by kernel_rfl
section
variable {fc:FuncId} {σ:Type}
theorem Lx (C:Clo fc σ) (sY:AE zP fc=true) (u0:fc≠82) (l:List Nd) (s:σ) (H:AH) (qC:szL l<4611686018427387904) (qR:C.ok (szL l) s) (hK:C.Kp H) (pu:∀x∈C.ids s,H.at x.1=some (.box x.2)) (qB:AP H.length H=true) :
  CS zP AY 46 [ndE.av l,.func (.func fc) [] C.caps] H (.bool (wkL C.f l 0 s).1) (wrB (C.ids (wkL C.f l 0 s).2) H):=by
 have h:=OK C sY u0 (szL l+1) l 0 s H (Nat.lt_succ_self _) (Int.le_refl _) (by omega) qR hK pu qB;have qM:=(C.kpL H hK).2;have qz:=OJ (C.ids (wkL C.f l 0 s).2) _ _ qB fun x hx=>Ah (Nat.zero_le _) _ (C.lowC _ x hx)
 have p6:=GA (C.ids (wkL C.f l 0 s).2) H;generalize wrB (C.ids (wkL C.f l 0 s).2) H=H1 at *;generalize (wkL C.f l 0 s).1=b at *;have X:=Ep (S:=[]) h Cv;have hO:=EV 82 [ndE.av l,.int .i64 0,.func (.func fc) [] C.caps] H (.bool b) H1 Bk;generalize orP 82 [ndE.av l,.int .i64 0,.func (.func fc) [] C.caps] H (.bool b) H1 Bk=O at X hO;refine CS.of_Tr (c:=Ar Tryz.f46) (H0:=H) (H1:=H1) Tryz.func46 (by kernel_rfl) 0 (by simp [Tryz.f46]) (fun B hB hG => ?_) rfl qz;refine Tr.goW X hG (by kernel_rfl) ?_;simp [-AH.at,Tryz.f46,hO];rw [←p6,List.take_length]
end
theorem XE (n:Nd) (d:Int) (c:Nat) (hc:c<4611686018427387904) {H:AH} {b:Nat} (hH:H.at b=some (.box [.int .i64 (c:Int)])) :
  CS zP AY 81 [.agg (ndC n),.int .i64 d,.ptr b 0] H (.bool true) (H.set b (some (.box [.int .i64 ((c+1:Nat):Int)]))):=by
 have w1:IntKind.i64.wrap ((c:Int)+1)=((c+1:Nat):Int):=by rw [Ab (by omega) (by omega)];rfl
 have hl:=Br n
 have:=CS.rd1 (cs:=[.int .i64 (c:Int)]) (cs':=[.int .i64 ((c+1:Nat):Int)]) (args:=[.agg (ndC n),.int .i64 d,.ptr 0 0]) (v := .bool true) DQ Tryz.func81 (by kernel_rfl) 0 (by simp [Tryz.f81]) (fun B hB hG=>by
  refine Tr.goW Cv hG (by kernel_rfl) ?_
  simp [Tryz.f81,w1,-Int.natCast_add]) (by simp [lowL,low,Ah (Nat.zero_le 1) _ hl]) rfl rfl rfl hH
 simpa [AM,ren,BA _ _ hl] using this
def I4 (b:Nat):Clo 81 Nat where
 caps:=[.ptr b 0]
 ids:=fun c=>[(b,[.int .i64 (c:Int)])]
 keys:=[b]
 key:=fun _=>rfl
 nodup:=by simp
 inj:=fun s s' h=>by simp at h;omega
 lowC:=fun s x hx=>by simp at hx;subst hx;rfl
 Kp:=fun H=>b<H.length
 kpA:=fun H K h=>by rw [List.length_append];omega
 kpW:=fun s H h=>by rw [GA];exact h
 kpL:=fun H h=>⟨fun i hi=>by simp at hi;subst hi;exact h,by simp [lowL,low,h]⟩
 ok:=fun j c=>c+j<4611686018427387904
 f:=fun c _ _=>(true,c+1)
 okN:=fun j s n d h=>by have h:s+(j+1)<4611686018427387904:=h;show s+1+j<4611686018427387904;omega
 okM:=fun j s h=>by have h:s+(j+1)<4611686018427387904:=h;show s+j<4611686018427387904;omega
 cs:=fun j s n d H h hK pu tP hd=>XE n d s (by have h:s+(j+1)<4611686018427387904:=h;omega) (pu (b,[.int .i64 (s:Int)]) (by simp))
mutual
theorem cntN (b:Nat):∀(n:Nd) (d:Int) (c:Nat),wkN (I4 b).f n d c=(true,c+szN n)
 | .mk l e x bo el m,d,c=>by
  rw [wkN,szN];have h1:∀c n d,(I4 b).f c n d=(true,c+1):=fun _ _ _=>rfl
  simp only [h1,if_true];rw [Ly b bo (d+1) (c+1)];simp only [if_true];rw [Ly b el (d+1)]
  congr 1;omega
theorem Ly (b:Nat):∀(l:List Nd) (d:Int) (c:Nat),wkL (I4 b).f l d c=(true,c+szL l)
 | [],d,c=>by rw [wkL,szL];rfl
 | n::r,d,c=>by
  rw [wkL,cntN b n d c];simp only [if_true];rw [Ly b r d,szL]
  congr 1;omega
end
theorem XF (l:List Nd) (qC:szL l<4611686018427387904) (H:AH):CS zP AY 44 [ndE.av l] H (.int .i64 (szL l:Int)) H:=by
 have h:=Lx (I4 0) XC (by decide) l 0 [some (.box [.int .i64 0])] qC (by show 0+szL l<_;omega) (by show 0<[some (Ent.box [AV.int IntKind.i64 0])].length;decide) (fun x hx=>by
  rcases List.mem_singleton.1 hx with rfl
  rfl) rfl
 rw [Ly] at h;have he:wrB ((I4 0).ids (0+szL l)) [some (.box [.int .i64 0])]=[some (.box [.int .i64 (szL l:Int)])]:=by simp [I4,wrB]
 rw [he] at h;have hc:(I4 0).caps=[.ptr 0 0]:=rfl;rw [hc] at h;have X:=Ep (S:=[]) h Cv;have hO:=EV 46 [ndE.av l,.func (.func 81) [] [.ptr 0 0]] [some (.box [.int .i64 0])] (.bool true) [some (.box [.int .i64 (szL l:Int)])] Bk;generalize orP 46 [ndE.av l,.func (.func 81) [] [.ptr 0 0]] [some (.box [.int .i64 0])] (.bool true) [some (.box [.int .i64 (szL l:Int)])] Bk=O at X hO;refine CS.tr0 DQ Tryz.func44 (by kernel_rfl) 0 (by simp [Tryz.f44]) (fun B hB hG => ?_) (by simp) (by simp) H;refine Tr.goW X hG (by kernel_rfl) ?_;simp [Tryz.f44,hO]
def sx0:Sx:=⟨0,[],t0,t0,[],t0,t0,[],t0,t0,0⟩
def nd0:Nd := .mk 0 0 sx0 [] [] 0
def fdF (at_:Int) (s n:Nd):Bool × Nd:=(decide (n.line≠at_),if n.line=at_ then n else s)
theorem XG (at_:Int) (s n:Nd) (d:Int) {H:AH} {a b:Nat} (rg:a≠b) (ha:H.at a=some (.box [.int .i64 at_])) (hb:H.at b=some (.box (ndC s))) :
  CS zP AY 80 [.agg (ndC n),.int .i64 d,.ptr a 0,.ptr b 0] H (.bool (fdF at_ s n).1) (H.set b (some (.box (ndC (fdF at_ s n).2)))):=by
 have hl:=Br n;have rn:=Br s;have xX:=Br (fdF at_ s n).2;have l2:=fun (l:List AV) (h:lowL 0 l=true)=>Ah (Nat.zero_le 2) l h
 have key:=CS.of_Tr (P:=zP) (E:=AY) (f:=80) (c:=Ar Tryz.f80) (args:=[.agg (ndC n),.int .i64 d,.ptr 0 0,.ptr 1 0]) (H0:=[some (.box [.int .i64 at_]),some (.box (ndC s))]) (H1:=[some (.box [.int .i64 at_]),some (.box (ndC (fdF at_ s n).2))])
  (v := .bool (fdF at_ s n).1) Tryz.func80 (by kernel_rfl) 0 (by simp [Tryz.f80]) (fun B hB hG=>by
   refine Tr.goW Cv hG (by kernel_rfl) ?_;have e1:=C9 n;have e2:=C9 s;simp only [Sx.c,List.cons_append,List.nil_append] at e1 e2
   by_cases h:n.line=at_
   ·have h1:fdF at_ s n=(false,n):=by simp [fdF,h]
    rw [h1,e1,e2];simp [Tryz.f80,h]
   ·have h1:fdF at_ s n=(true,s):=by simp [fdF,h]
    rw [h1,e1,e2]
    simp [Tryz.f80,h]) rfl (by simp [AP,Aq,l2 _ xX])
 have:=CS.embed (fun i=>if i=0 then a else b) (k:=2) (H:=H) (H':=H.set b (some (.box (ndC (fdF at_ s n).2)))) key rfl rfl (by
  intro i j hi hj he;rcases (by omega:i=0∨i=1) with rfl|rfl<;>rcases (by omega:j=0∨j=1) with rfl|rfl<;>simp at he ⊢
  ·exact rg he
  ·exact rg he.symm) DQ (by simp [l2 _ hl]) rfl (by simp [AP,Aq,l2 _ rn]) (by simp [AP,Aq,l2 _ xX]) (by
  intro i hi;rcases (by omega:i=0∨i=1) with rfl|rfl
  ·rw [if_pos rfl,ha];rfl
  ·rw [if_neg (by decide),hb];simp [AH.at,AI,BA _ _ rn]) (by
  intro i hi;rcases (by omega:i=0∨i=1) with rfl|rfl
  ·rw [if_pos rfl,CZ (fun h=>rg h.symm),ha];rfl
  ·rw [if_neg (by decide),Fs hb];simp [AH.at,AI,BA _ _ xX]) (by
  intro j hj;have h1:=hj 1 (by decide);simp at h1
  exact CZ h1)
 simpa [AM,ren,BA _ _ hl] using this
def Kk (at_:Int) (a b:Nat) (rg:a≠b):Clo 80 Nd where
 caps:=[.ptr a 0,.ptr b 0]
 ids:=fun s=>[(b,ndC s)]
 keys:=[b]
 key:=fun _=>rfl
 nodup:=by simp
 inj:=fun s s' h=>by simp only [List.cons.injEq,Prod.mk.injEq,true_and,and_true] at h;exact NW _ _ h
 lowC:=fun s x hx=>by rcases List.mem_singleton.1 hx with rfl;exact Br s
 Kp:=fun H=>b<H.length∧H.at a=some (.box [.int .i64 at_])
 kpA:=fun H K h=>⟨by rw [List.length_append];omega,by rw [Fa (DK h.2)];exact h.2⟩
 kpW:=fun s H h=>⟨by rw [GA];exact h.1,by
  rw [IM _ _ _ (fun x hx=>by
   rcases List.mem_singleton.1 hx with rfl
   exact fun h=>rg h.symm)]
  exact h.2⟩
 kpL:=fun H h=>⟨fun i hi=>by simp at hi;subst hi;exact h.1,by simp [lowL,low,h.1,DK h.2]⟩
 ok:=fun _ _=>True
 f:=fun s n _=>fdF at_ s n
 okN:=fun _ _ _ _ _=>trivial
 okM:=fun _ _ _=>trivial
 cs:=fun j s n d H h hK pu tP hd=>XG at_ s n d rg hK.2 (pu (b,ndC s) (by simp))
def GB (l:List Nd) (at_:Int):Bool × Nd:=wkL (fun s n _=>fdF at_ s n) l 0 nd0
theorem XH:Ae zP 104=some (.agg (ndC nd0)):=by kernel_rfl
theorem XI (l:List Nd) (at_:Int) (qC:szL l<4611686018427387904) (H:AH):CS zP AY 41 [ndE.av l,.int .i64 at_] H (.tup [.agg (ndC (GB l at_).2),.bool (!(GB l at_).1)]) H:=by
 have h:=Lx (Kk at_ 0 2 (by decide)) XD (by decide) l nd0 [some (.box [.int .i64 at_]),some (.box (ndC nd0)),some (.box (ndC nd0))] qC trivial ⟨by simp,rfl⟩ (fun x hx=>by
  rcases List.mem_singleton.1 hx with rfl
  rfl) (by kernel_rfl)
 have he:wrB ((Kk at_ 0 2 (by decide)).ids (wkL (Kk at_ 0 2 (by decide)).f l 0 nd0).2) [some (.box [.int .i64 at_]),some (.box (ndC nd0)),some (.box (ndC nd0))]=[some (.box [.int .i64 at_]),some (.box (ndC nd0)),some (.box (ndC (GB l at_).2))]:=rfl;rw [he] at h;have hb:(wkL (Kk at_ 0 2 (by decide)).f l 0 nd0).1=(GB l at_).1:=rfl;rw [hb] at h;have hc:(Kk at_ 0 2 (by decide)).caps=[.ptr 0 0,.ptr 2 0]:=rfl;rw [hc] at h;generalize GB l at_=r at *;obtain ⟨b,s⟩:=r;simp only at h ⊢;have X:=Ep (S:=[]) h Cv;have hO:=EV 46 [ndE.av l,.func (.func 80) [] [.ptr 0 0,.ptr 2 0]] [some (.box [.int .i64 at_]),some (.box (ndC nd0)),some (.box (ndC nd0))] (.bool b) [some (.box [.int .i64 at_]),some (.box (ndC nd0)),some (.box (ndC s))] Bk;generalize orP 46 [ndE.av l,.func (.func 80) [] [.ptr 0 0,.ptr 2 0]] [some (.box [.int .i64 at_]),some (.box (ndC nd0)),some (.box (ndC nd0))] (.bool b) [some (.box [.int .i64 at_]),some (.box (ndC nd0)),some (.box (ndC s))] Bk=O at X hO;have e1:=C9 s;have rn:=Br s;have e0:=C9 nd0;simp only [Sx.c,List.cons_append,List.nil_append] at e1 e0;refine CS.tr0 DQ Tryz.func41 (by kernel_rfl) 0 (by simp [Tryz.f41]) (fun B hB hG => ?_) (by simp [rn]) (by simp) H;rw [e1] at hO ⊢;have hz:Ae zP 104=some (.agg (ndC nd0)):=XH;rw [e0] at hO hz;simp [show nd0.line=0 from rfl,show nd0.end_=0 from rfl,show nd0.st=sx0 from rfl,show nd0.body=[] from rfl,show nd0.els=[] from rfl,show nd0.mid=0 from rfl,sx0] at hO;refine Tr.goW X hG (by kernel_rfl) ?_;simp [Tryz.f41,hO]
def Ei (acc:List UInt8):List UInt8→List (List UInt8)
 | []=>if acc=[] then [] else [acc]
 | c::r=>if c=10 then (acc++[c])::Ei [] r else Ei (acc++[c]) r
def E3 (s:List UInt8):List (List UInt8):=Ei [] s
theorem XJ {s:List UInt8} {a i:Nat} (h:a≤i) (hi:i<s.length):(s.take (i+1)).drop a=(s.take i).drop a++[s[i]]:=by rw [List.take_add_one,List.getElem?_eq_getElem hi,Option.toList_some,List.drop_append_of_le_length (by rw [List.length_take];omega)]
theorem XK (s:List UInt8) (i:Nat):(s.take i).drop i=[]:=List.drop_of_length_le (by rw [List.length_take];omega)
theorem Jn:Bu zP 23 1=true:=by kernel_rfl
def LnI (s:List UInt8) (k:Nat) (t:List AV) (H:AH):Prop:=∃(i a:Nat) (out:List (List UInt8)),i+k=s.length∧a≤i∧out.length≤i∧out++Ei ((s.take i).drop a) (s.drop i)=E3 s ∧
 t=mkT 37 [(0,.str s),(3,Am.tk 0 out),(4,.int .i64 (a:Int)),(5,.int .i64 (i:Int))]∧H=[AW out]
theorem XL (s:List UInt8) (hs:s.length<1000000) (H:AH):CS zP AJ 107 [.str s] H (Am.av (E3 s)) H:=by
 refine CS.tr0 BY Tryz.func107 (by kernel_rfl) 0 (by simp [Tryz.f107]) (fun B hB hG => ?_) (by simp) (by simp) H;refine Tr.goD FF hG (by kernel_rfl) ?_;simp [Tryz.f107]
 refine LpD.loopN FF hG (by kernel_rfl) (LnI s) s.length (t':=mkT 37 [(0,.str s),(3,Am.tk 0 []),(4,.int .i64 0),(5,.int .i64 0)]) (H':=[none])
  (AF.mkV 100 (fun i=>i) 1 (by simp [hB]) (by simp) (by simp) rfl (by
   intro i hi;obtain rfl:i=0:=by omega
   simp [AH.at]) (by simp) (by simp [ren])) ⟨0,0,[],by omega,by omega,by simp,rfl,rfl,by simp⟩ ?_
 rintro k t H ⟨i,a,out,px,ha,ho,rE,rfl,rfl⟩;have qV:=Am.tk_cut (show ¬0<0 by omega) out
 by_cases hi:i<s.length
 ·obtain ⟨k,rfl⟩:∃j,k=j+1:=⟨k-1,by omega⟩
  have hi':(i:Int)<s.length:=by omega
  have w1:IntKind.i64.wrap ((i:Int)+1)=(i:Int)+1:=Ab (by omega) (by omega);have q1:(a:Int)≤(i:Int)+1:=by omega
  have q2:(i:Int)+1≤s.length:=by omega
  have q3:((i:Int)+1).toNat=i+1:=by omega
  rw [List.drop_eq_getElem_cons hi,Ei] at rE;have xY:=XJ ha hi;have tL:=XK s (i+1)
  by_cases hc:s[i]=10
  ·have tQ:s[i].toNat=10:=by rw [hc];rfl
   have wg:(s[i].toNat:Int)=10:=by omega
   rw [if_pos hc] at rE
   have hI:LnI s k (mkT 37 [(0,.str s),(3,Am.tk 0 (out++[(s.take i).drop a++[s[i]]])),(4,.int .i64 ((i+1:Nat):Int)),(5,.int .i64 ((i+1:Nat):Int))]) [AW (out++[(s.take i).drop a++[s[i]]])] :=⟨i+1,i+1,out++[(s.take i).drop a++[s[i]]],by omega,Nat.le_refl _,by rw [List.length_append,List.length_singleton];omega,by rw [tL,List.append_assoc];exact rE,rfl,rfl⟩
   generalize hx:(s.take i).drop a++[s[i]]=x at *;have e1:Am.c x=[.str x]:=rfl;have e2:Am.sz=1:=rfl
   by_cases h0:out=[]
   ·subst h0
    have a1:=fun H ow fid=>I3 Am (P:=zP) (H:=H) (ow:=ow) (fid:=fid) Jn x
    rw [e1,e2] at a1;simp only [List.nil_append] at hI;simp [hi,hi',tQ,wg,w1,q1,q2,q3,xY,a1]
    refine Nxt.mk k (by omega) (AF.mkV 100 (fun i=>if i=0 then 1 else i) 1 (by simp [hB]) (by intro i j hi hj h;omega) (by simp [hB]) rfl (by
     intro i hi;obtain rfl:i=0:=by omega
     simp [AH.at,AW,AI]) (by simp [AW]) (by simp [ren,Am.tk_ren,Am.tk_strip,Am.tk_low])) hI
   ·have a1:=fun H ow fid (h:AH.at H 0=some (.tok out.length))=>I2 Am (P:=zP) (H:=H) (ow:=ow) (fid:=fid) (k:=0) Jn out x h0 h (by omega)
    rw [e1,e2] at a1;have qp:AW out=some (.tok out.length):=Cs h0;rw [qp];simp [hi,hi',tQ,wg,w1,q1,q2,q3,xY,a1];exact Nxt.mk k (by omega) (AF.mkK 1 (by simp [hB]) (by simp [Am.tk_low]) (by simp [AW]) (by simp [AW])) hI
  ·have tQ:¬s[i].toNat=10:=fun h=>hc (UInt8.toNat_inj.1 (by rw [h];rfl))
   have wg:¬(s[i].toNat:Int)=10:=by omega
   rw [if_neg hc,←xY] at rE;have hI:LnI s k (mkT 37 [(0,.str s),(3,Am.tk 0 out),(4,.int .i64 (a:Int)),(5,.int .i64 ((i+1:Nat):Int))]) [AW out]:=⟨i+1,a,out,by omega,by omega,by omega,rE,rfl,rfl⟩
   simp [hi,hi',tQ,wg,w1];exact Nxt.mk k (by omega) (AF.mkK 1 (by simp [hB]) (by simp [Am.tk_low]) (by simp) (GJ 1 out)) hI
 ·obtain rfl:i=s.length:=by omega
  rw [List.drop_of_length_le (Nat.le_refl _),List.take_of_length_le (Nat.le_refl _),Ei] at rE
  by_cases h1:a<s.length
  ·have h1':(a:Int)<s.length:=by omega
   have q1:(a:Int)≤s.length:=by omega
   have pp:¬s.drop a=[]:=fun h=>by have:=congrArg List.length h;rw [List.length_drop] at this;simp at this;omega
   rw [if_neg pp] at rE;generalize hx:s.drop a=x at *;have e1:Am.c x=[.str x]:=rfl;have e2:Am.sz=1:=rfl
   by_cases h0:out=[]
   ·subst h0
    have a1:=fun H ow fid=>I3 Am (P:=zP) (H:=H) (ow:=ow) (fid:=fid) Jn x
    rw [e1,e2] at a1;have xZ:=Am.tk_cut (show ¬1<0 by omega) [x];simp [h1,h1',q1,hx,a1,xZ,←rE]
   ·have a1:=fun H ow fid (h:AH.at H 0=some (.tok out.length))=>I2 Am (P:=zP) (H:=H) (ow:=ow) (fid:=fid) (k:=0) Jn out x h0 h (by omega)
    rw [e1,e2] at a1;have qp:AW out=some (.tok out.length):=Cs h0;have xZ:=Am.tk_cut (show ¬0<0 by omega) (out++[x]);rw [qp];simp [h1,h1',q1,hx,a1,xZ,←rE]
  ·have h1':¬(a:Int)<s.length:=by omega
   have zi:s.drop a=[]:=List.drop_of_length_le (by omega);rw [if_pos zi,List.append_nil] at rE;simp [h1,h1',qV,←rE]
def E4 (c:UInt8):Bool:=(decide (c.toNat<32) || decide (126<c.toNat)) && !decide (c.toNat=9) && !decide (c.toNat=10)
def D6:Nat→List (List UInt8)→Er
 | _,[]=>none
 | i,l::r=>if 200<l.length then some ([(DR,i)],4) else if l.any E4 then some ([(DR,i)],3) else D6 (i+1) r
def Jo:List UInt8:=[116,101,120,116]
def CW (s:List UInt8):List (List UInt8) × Er:=if 65536<s.length then ([],some ([(Jo,0)],4)) else
 match D6 0 (E3 s) with
 | some y=>([],some y)
 | none=>(E3 s,none)
def Kl (s:List UInt8):List Nd × List (List UInt8) × Er:=match CW s with
 | (_,some y)=>([],[],some y)
 | (ls,none)=>match Fi ls with
  | (_,some y)=>([],[],some y)
  | (t,none)=>(t,ls,none)
theorem Lz:∀(s acc:List UInt8),(Ei acc s).length≤s.length+1
 | [],acc=>by rw [Ei];split<;>simp
 | c::r,acc=>by
  rw [Ei]
  split
  ·have:=Lz r []
   simp only [List.length_cons];omega
  ·have:=Lz r (acc++[c])
   simp only [List.length_cons];omega
noncomputable def L0:AG zP AJ:=AG.pure 24 (fun _:List UInt8 × Int × Int=>True) (fun x=>[.str x.1,.int .i64 x.2.1,.int .i64 x.2.2]) (fun x => .agg [.slice .full 2 1 [.str x.1,.int .i64 x.2.1],.int .i64 x.2.2])
 (fun x _ H=>(Qq.1 _ _ _ _ _ (LQ x.1 x.2.1 x.2.2 H)).1) (fun x y _ _ h=>by
  simp only [List.cons.injEq,AV.str.injEq,AV.int.injEq,true_and,and_true] at h
  rw [h.1,h.2.1,h.2.2])
noncomputable def L3:AG zP AJ:=AG.pure 107 (fun s:List UInt8=>s.length<1000000) (fun s=>[.str s]) (fun s=>Am.av (E3 s)) (fun s h H=>XL s h H) (fun x y _ _ h=>by
 simp only [List.cons.injEq,AV.str.injEq,and_true] at h
 rw [h])
def spT (ls:List (List UInt8)) (i:Nat):List AV:=mkT 61 [(3,.ptr 0 0),(4,Am.av ls),(5,.int .i64 (i:Int))]
def spH:AH:=[some (.box [.nilSlice,.int .i64 0])]
def SpI (ls:List (List UInt8)) (k:Nat) (t:List AV) (H:AH):Prop:=∃i,i+k=ls.length∧D6 i (ls.drop i)=D6 0 ls∧t=spT ls i∧H=spH
def SqI (ls:List (List UInt8)) (l:List UInt8) (i:Nat) (k:Nat) (t:List AV) (H:AH):Prop:=∃j,j+k=l.length∧l.any E4=(l.drop j).any E4∧t=mkT 61 [(3,.ptr 0 0),(4,Am.av ls),(5,.int .i64 (i:Int)),(6,.int .i64 (j:Int))]∧H=spH
theorem XM (s:List UInt8) (hs:s.length<1000000) (H:AH):CS zP AJ 72 [.str s] H (.tup [Am.av (CW s).1,erA (CW s).2]) H:=by
 have hL:([L3,L0].map (·.f)).Nodup:=show ([107,24]:List Nat).Nodup by decide
 have X:=Bv [L3,L0] Bz Af;have f1:=fun H=>Cr hL (show L3∈_ by simp) s hs H
 have f2:=fun w p e H=>Cr hL (show L0∈_ by simp) (w,p,e) trivial H
 simp only at f1 f2;generalize oOf [L3,L0]=O at X f1 f2;refine CS.tr0 BY Tryz.func72 (by kernel_rfl) 0 (by simp [Tryz.f72]) (fun B hB hG => ?_) (by simp) (by simp) H;refine Tr.goD X hG (by kernel_rfl) ?_;have qZ:=Lz s [];have qZ:(E3 s).length≤s.length+1:=qZ;unfold CW
 by_cases h1:65536<s.length
 ·have h1':(65536:Int)<s.length:=by omega
  simp [Tryz.f72,h1,h1',f2,erP,erC,CO,B0,Jo]
 have h1':¬(65536:Int)<s.length:=by omega
 rw [if_neg h1];simp [Tryz.f72,h1,h1',f1];generalize E3 s=ls at *;refine LpD.loopN X hG (by kernel_rfl) (SpI ls) ls.length (t':=spT ls 0) (H':=spH) (AF.mkK 1 (by simp [hB]) (by simp) (by simp [spH]) (by simp [spH])) ⟨0,by omega,rfl,rfl,rfl⟩ ?_;rintro k t H ⟨i,px,sk,rfl,rfl⟩
 by_cases hi:i<ls.length
 ·obtain ⟨k,rfl⟩:∃j,k=j+1:=⟨k-1,by omega⟩
  have hi':(i:Int)<ls.length:=by omega
  obtain ⟨l,hl⟩:∃l,ls[i]? = some l:=⟨_,List.getElem?_eq_getElem hi⟩
  have g0:(Am.row ls)[i*1+0]? = some (.str l):=Am.row_cell hl 0 (by decide);simp only [Nat.mul_one,Nat.add_zero] at g0
  have hd:ls.drop i=l::ls.drop (i+1):=by rw [List.drop_eq_getElem_cons hi];rw [List.getElem?_eq_getElem hi] at hl;injection hl with hl;rw [hl]
  rw [hd,D6] at sk;have wi:IntKind.i64.wrap ((i:Int)+1)=(i:Int)+1:=Ab (by omega) (by omega)
  by_cases h2:200<l.length
  ·have h2':(200:Int)<l.length:=by omega
   rw [if_pos h2] at sk;rw [←sk];simp [spT,spH,hi,hi',g0,h2,h2',f2,erP,erC,CO,B0,DR]
  ·have h2':¬(200:Int)<l.length:=by omega
   rw [if_neg h2] at sk;simp [spT,spH,hi,hi',g0,h2,h2'];refine LpD.loopN X hG (by kernel_rfl) (SqI ls l i) l.length (t':=mkT 61 [(3,.ptr 0 0),(4,Am.av ls),(5,.int .i64 (i:Int)),(6,.int .i64 0)]) (H':=spH) (AF.mkK 1 (by simp [hB]) (by simp) (by simp [spH]) (by simp [spH])) ⟨0,by omega,rfl,rfl,rfl⟩ ?_;rintro k' t H ⟨j,sl,sZ,rfl,rfl⟩
   by_cases hj:j<l.length
   ·obtain ⟨k',rfl⟩:∃j,k'=j+1:=⟨k'-1,by omega⟩
    have hj':(j:Int)<l.length:=by omega
    have wj:IntKind.i64.wrap ((j:Int)+1)=(j:Int)+1:=Ab (by omega) (by omega);rw [List.drop_eq_getElem_cons hj,List.any_cons] at sZ;have p9:=(l[j]).toNat_lt;cases hb:E4 l[j] with
    | true =>
     rw [hb,Bool.true_or] at sZ;rw [sZ] at sk;simp only [if_true] at sk;rw [←sk]
     have sx:(l[j].toNat<32∨126<l[j].toNat)∧l[j].toNat≠9∧l[j].toNat≠10:=by simp [E4] at hb;exact ⟨hb.1.1,hb.1.2,hb.2⟩
     by_cases hq:l[j].toNat<32
     ·have hA:l[j].toNat<32:=by omega
      have hA':(l[j].toNat:Int)<32:=by omega
      have qh:¬126<l[j].toNat:=by omega
      have sa:¬(126:Int)<l[j].toNat:=by omega
      have h9:¬l[j].toNat=9:=by omega
      have h9':¬(l[j].toNat:Int)=9:=by omega
      have ry:((l[j].toNat:Int)==9)=false:=by rw [beq_eq_false_iff_ne];omega
      have qs:¬l[j].toNat=10:=by omega
      have sO:¬(l[j].toNat:Int)=10:=by omega
      have sP:((l[j].toNat:Int)==10)=false:=by rw [beq_eq_false_iff_ne];omega
      simp [spH,hi,hi',g0,hj,hj',hA,hA',qh,sa,h9,h9',ry,qs,sO,sP,f2,erP,erC,CO,B0,DR]
     ·have hA:¬l[j].toNat<32:=by omega
      have hA':¬(l[j].toNat:Int)<32:=by omega
      have qh:126<l[j].toNat:=by omega
      have sa:(126:Int)<l[j].toNat:=by omega
      have h9:¬l[j].toNat=9:=by omega
      have h9':¬(l[j].toNat:Int)=9:=by omega
      have ry:((l[j].toNat:Int)==9)=false:=by rw [beq_eq_false_iff_ne];omega
      have qs:¬l[j].toNat=10:=by omega
      have sO:¬(l[j].toNat:Int)=10:=by omega
      have sP:((l[j].toNat:Int)==10)=false:=by rw [beq_eq_false_iff_ne];omega
      simp [spH,hi,hi',g0,hj,hj',hA,hA',qh,sa,h9,h9',ry,qs,sO,sP,f2,erP,erC,CO,B0,DR]
    | false =>
     rw [hb,Bool.false_or] at sZ;have hI:SqI ls l i k' (mkT 61 [(3,.ptr 0 0),(4,Am.av ls),(5,.int .i64 (i:Int)),(6,.int .i64 ((j+1:Nat):Int))]) spH:=⟨j+1,by omega,sZ,rfl,rfl⟩
     have sx:l[j].toNat=9∨l[j].toNat=10∨(¬l[j].toNat<32∧¬126<l[j].toNat):=by simp [E4] at hb;omega
     rcases sx with hq|hq|hq
     ·have hA:l[j].toNat<32:=by omega
      have hA':(l[j].toNat:Int)<32:=by omega
      have qh:¬126<l[j].toNat:=by omega
      have sa:¬(126:Int)<l[j].toNat:=by omega
      have h9:l[j].toNat=9:=by omega
      have h9':(l[j].toNat:Int)=9:=by omega
      have ry:((l[j].toNat:Int)==9)=true:=by rw [beq_iff_eq];omega
      have qs:¬l[j].toNat=10:=by omega
      have sO:¬(l[j].toNat:Int)=10:=by omega
      have sP:((l[j].toNat:Int)==10)=false:=by rw [beq_eq_false_iff_ne];omega
      simp [spH,hi,hi',g0,hj,hj',hA,hA',qh,sa,h9,h9',ry,qs,sO,sP,wj];exact Nxt.mk k' (by omega) (AF.mkK 1 (by simp [hB]) (by simp) (by simp [spH]) (by simp [spH])) hI
     ·have hA:l[j].toNat<32:=by omega
      have hA':(l[j].toNat:Int)<32:=by omega
      have qh:¬126<l[j].toNat:=by omega
      have sa:¬(126:Int)<l[j].toNat:=by omega
      have h9:¬l[j].toNat=9:=by omega
      have h9':¬(l[j].toNat:Int)=9:=by omega
      have ry:((l[j].toNat:Int)==9)=false:=by rw [beq_eq_false_iff_ne];omega
      have qs:l[j].toNat=10:=by omega
      have sO:(l[j].toNat:Int)=10:=by omega
      have sP:((l[j].toNat:Int)==10)=true:=by rw [beq_iff_eq];omega
      simp [spH,hi,hi',g0,hj,hj',hA,hA',qh,sa,h9,h9',ry,qs,sO,sP,wj];exact Nxt.mk k' (by omega) (AF.mkK 1 (by simp [hB]) (by simp) (by simp [spH]) (by simp [spH])) hI
     ·have hA:¬l[j].toNat<32:=by omega
      have hA':¬(l[j].toNat:Int)<32:=by omega
      have qh:¬126<l[j].toNat:=by omega
      have sa:¬(126:Int)<l[j].toNat:=by omega
      have h9:¬l[j].toNat=9:=by omega
      have h9':¬(l[j].toNat:Int)=9:=by omega
      have ry:((l[j].toNat:Int)==9)=false:=by rw [beq_eq_false_iff_ne];omega
      have qs:¬l[j].toNat=10:=by omega
      have sO:¬(l[j].toNat:Int)=10:=by omega
      have sP:((l[j].toNat:Int)==10)=false:=by rw [beq_eq_false_iff_ne];omega
      simp [spH,hi,hi',g0,hj,hj',hA,hA',qh,sa,h9,h9',ry,qs,sO,sP,wj];exact Nxt.mk k' (by omega) (AF.mkK 1 (by simp [hB]) (by simp) (by simp [spH]) (by simp [spH])) hI
   ·have hj':¬(j:Int)<l.length:=by omega
    have xa:l.any E4=false:=by rw [sZ,List.drop_of_length_le (by omega)];rfl
    rw [xa] at sk;simp only [Bool.false_eq_true,if_false] at sk;have hI:SpI ls k (spT ls (i+1)) spH:=⟨i+1,by omega,sk,rfl,rfl⟩
    simp [spH,hi,hi',g0,hj,hj',wi];exact Nxt.mk k (by omega) (AF.mkK 1 (by simp [hB]) (by simp) (by simp [spH]) (by simp [spH])) hI
 ·have hi':¬(i:Int)<ls.length:=by omega
  rw [List.drop_of_length_le (by omega),D6] at sk;rw [←sk];simp [spT,spH,hi,hi',A1,A2]
theorem RV:∀(ls:List (List UInt8)) (i:Nat),D6 i ls=none→∀l∈ls,l.length≤200
 | [],_,_,_,hm=>by cases hm
 | x::ls,i,h,l,hm=>by
  rw [D6] at h
  split at h
  ·cases h
  ·rename_i h1
   split at h
   ·cases h
   ·rcases List.mem_cons.1 hm with rfl|hm
    ·omega
    ·exact RV ls (i+1) h l hm
theorem RW:∀(ls:List (List UInt8)) (i:Nat),AO (D6 i ls)
 | [],_=>Bp
 | x::ls,i=>by
  rw [D6]
  split
  ·exact G1 (by simp) (by decide)
  ·split
   ·exact G1 (by simp) (by decide)
   ·exact RW ls (i+1)
theorem OL (s:List UInt8) (hs:s.length<900000):AO (CW s).2∧((CW s).2=none→(CW s).1.length<1000000∧∀l∈(CW s).1,l.length<1000000):=by
 unfold CW
 split
 ·exact ⟨G1 (by simp) (by decide),fun h=>by cases h⟩
 ·have h1:=RW (E3 s) 0
  have h2:=RV (E3 s) 0;have h3:(E3 s).length≤s.length+1:=Lz s [];generalize D6 0 (E3 s)=e at *;cases e with
  | none=>exact ⟨Bp,fun _=>⟨by simp only;omega,fun l hl=>by have:=h2 rfl l hl;omega⟩⟩
  | some y=>exact ⟨h1,fun h=>by cases h⟩
theorem RX {ls:List (List UInt8)} (h:ls.length<1000000):AO (Fi ls).2:=by
 unfold Fi;have h1:=((Jh (Q3 h) 8).goes 0 0 ⟨0,none,false⟩).ok Bp;simp only
 split
 ·rename_i hb
  rw [hb] at h1;exact h1
 ·exact Bp
noncomputable def L5:AG zP AJ:=AG.pure 72 (fun s:List UInt8=>s.length<1000000) (fun s=>[.str s]) (fun s => .tup [Am.av (CW s).1,erA (CW s).2]) (fun s h H=>XM s h H) (fun x y _ _ h=>by
 simp only [List.cons.injEq,AV.str.injEq,and_true] at h
 rw [h])
noncomputable def L6:AG zP AJ:=AG.pure 35 (fun ls:List (List UInt8)=>ls.length<1000000∧∀s∈ls,s.length<1000000) (fun ls=>[Am.av ls]) (fun ls=>Jm (Fi ls)) (fun ls h H=>W7 ls h.1 h.2 H) (fun x y _ _ h=>by
 simp only [List.cons.injEq,and_true] at h
 rw [Am.av_inj h])
def Ge (x:List Nd × List (List UInt8) × Er):AV := .tup [ndE.av x.1,Am.av x.2.1,erA x.2.2]
theorem XN (s:List UInt8) (hs:s.length<900000) (H:AH):CS zP AJ 27 [.str s] H (Ge (Kl s)) H:=by
 have hL:([L5,L6].map (·.f)).Nodup:=show ([72,35]:List Nat).Nodup by decide
 have X:=Bv [L5,L6] Bz Af;have f1:=fun H=>Cr hL (show L5∈_ by simp) s (by omega) H
 have f2:=fun (ls:List (List UInt8)) (h:ls.length<1000000∧∀s∈ls,s.length<1000000) H=>Cr hL (show L6∈_ by simp) ls h H
 generalize oOf [L5,L6]=O at X f1 f2;refine CS.tr0 BY Tryz.func27 (by kernel_rfl) 0 (by simp [Tryz.f27]) (fun B hB hG => ?_) (by simp [Ge]) (by simp) H;refine Tr.goD X hG (by kernel_rfl) ?_;have qR:=OL s hs;unfold Kl;generalize CW s=p at *;obtain ⟨ls,e⟩:=p;simp only at qR f1 ⊢;obtain ⟨he,hn⟩:=qR;cases e with
 | some y =>
  have qc:¬erC (some y)=0:=fun h=>by have:=(EI he).1 h;cases this
  simp at f1;simp [Tryz.f27,f1,qc];refine LpD.turns X hG [3] [] (by kernel_rfl) ?_;simp [Ge]
 | none =>
  have hn:=hn rfl;have g2:=fun H=>f2 ls hn H
  have u6:=RX hn.1;simp only [Jm] at g2
  try simp only
  generalize Fi ls=q at *;obtain ⟨nd,e2⟩:=q;simp only at g2 u6 ⊢;simp [A1,A2] at f1;cases e2 with
  | some y =>
   have qc:¬erC (some y)=0:=fun h=>by have:=(EI u6).1 h;cases this
   simp at g2;simp [Tryz.f27,f1,g2,qc];refine LpD.turns X hG [3] [] (by kernel_rfl) ?_;simp [Ge]
  | none =>simp [A1,A2] at g2;simp [Tryz.f27,f1,g2,Ge,A1,A2]
def Cy (l:List UInt8):Nat:=if 200<l.length then 4 else if l.any E4 then 3 else 0
theorem XO {s:List UInt8} {i:Nat} (h:i<s.length):(Dd s)[i]? = some (.int .u8 (s[i].toNat:Int)):=by unfold Dd;rw [List.getElem?_map,List.getElem?_eq_getElem h];rfl
def ckT (l:List UInt8) (i:Nat):List AV:=mkT 32 [(2,.nilIface),(10,.slice .unk 1 l.length (Dd l)),(11,.int .i64 (l.length:Int)),(12,.int .i64 (i:Int))]
def CkI (l:List UInt8) (k:Nat) (t:List AV) (H:AH):Prop:=∃i,i+k=l.length∧l.any E4=(l.drop i).any E4∧t=ckT l i∧H=[]
theorem L7 (l:List UInt8):lowL 0 (Dd l)=true:=by
 unfold Dd
 induction l with
 | nil=>rfl
 | cons c l ih=>simp only [List.map_cons,lowL,ih];rfl
theorem XP (l:List UInt8) (hl:l.length<1000000) (H:AH):CS zP AY 126 [.str l] H (Bl (Cy l)) H:=by
 refine CS.tr0 DQ Tryz.func126 (by kernel_rfl) 0 (by simp [Tryz.f126]) (fun B hB hG => ?_) (by unfold Bl;split<;>rfl) (by simp) H;refine Tr.goW Cv hG (by kernel_rfl) ?_;unfold Cy
 by_cases h2:200<l.length
 ·have h2':(200:Int)<l.length:=by omega
  rw [if_pos h2];simp [Tryz.f126,h2,h2',Bl]
 ·have h2':¬(200:Int)<l.length:=by omega
  have h3:l.length≤9223372036854775807:=by omega
  rw [if_neg h2];generalize si:Bl (if l.any E4=true then 3 else 0)=cv;simp [Tryz.f126,h2,h2',h3];refine LpD.loopW [] hG (by kernel_rfl) (CkI l) l.length (t':=ckT l 0) (H':=[]) (AF.mk0 hB (by simp [L7])) ⟨0,by omega,rfl,rfl,rfl⟩ ?_;rintro k t H ⟨j,sl,sZ,rfl,rfl⟩;refine ⟨Bk,Cv,?_⟩
  by_cases hj:j<l.length
  ·obtain ⟨k,rfl⟩:∃j,k=j+1:=⟨k-1,by omega⟩
   have hj':(j:Int)<l.length:=by omega
   have wj:IntKind.i64.wrap ((j:Int)+1)=(j:Int)+1:=Ab (by omega) (by omega);have qU:=XO hj;rw [List.drop_eq_getElem_cons hj,List.any_cons] at sZ;have p9:=(l[j]).toNat_lt;cases hb:E4 l[j] with
   | true =>
    rw [hb,Bool.true_or] at sZ;rw [sZ] at si;subst si
    have sx:(l[j].toNat<32∨126<l[j].toNat)∧l[j].toNat≠9∧l[j].toNat≠10:=by simp [E4] at hb;exact ⟨hb.1.1,hb.1.2,hb.2⟩
    have h9':¬(l[j].toNat:Int)=9:=by omega
    have ry:((l[j].toNat:Int)==9)=false:=by rw [beq_eq_false_iff_ne];omega
    have h9:=sx.2.1;have qs:=sx.2.2;have sO:¬(l[j].toNat:Int)=10:=by omega
    have sP:((l[j].toNat:Int)==10)=false:=by rw [beq_eq_false_iff_ne];omega
    by_cases hq:l[j].toNat<32
    ·have hA':(l[j].toNat:Int)<32:=by omega
     simp [ckT,hj,hj',qU,hq,hA',h9,h9',ry,qs,sO,sP,Bl]
    ·have hA':¬(l[j].toNat:Int)<32:=by omega
     have qh:126<l[j].toNat:=by omega
     have sa:(126:Int)<l[j].toNat:=by omega
     simp [ckT,hj,hj',qU,hq,hA',qh,sa,h9,h9',ry,qs,sO,sP,Bl]
   | false =>
    rw [hb,Bool.false_or] at sZ;have hI:CkI l k (ckT l (j+1)) []:=⟨j+1,by omega,sZ,rfl,rfl⟩
    have sx:l[j].toNat=9∨l[j].toNat=10∨(¬l[j].toNat<32∧¬126<l[j].toNat):=by simp [E4] at hb;omega
    have fin:∀{L:List (Nat × AV)},AF B (mkT 32 L) [] (ckT l (j+1)) []→Nxt B (CkI l) (k+1) (mkT 32 L) []:=fun h=>Nxt.mk k (by omega) h hI
    rcases sx with hq|hq|hq
    ·have hA:l[j].toNat<32:=by omega
     have hA':(l[j].toNat:Int)<32:=by omega
     have ry:((l[j].toNat:Int)==9)=true:=by rw [beq_iff_eq];omega
     have h9':(l[j].toNat:Int)=9:=by omega
     simp [ckT,hj,hj',qU,hA,hA',hq,h9',ry,wj];exact fin (AF.mk0 hB (by simp [L7]))
    ·have hA:l[j].toNat<32:=by omega
     have hA':(l[j].toNat:Int)<32:=by omega
     have h9:¬l[j].toNat=9:=by omega
     have h9':¬(l[j].toNat:Int)=9:=by omega
     have ry:((l[j].toNat:Int)==9)=false:=by rw [beq_eq_false_iff_ne];omega
     have sP:((l[j].toNat:Int)==10)=true:=by rw [beq_iff_eq];omega
     have sO:(l[j].toNat:Int)=10:=by omega
     simp [ckT,hj,hj',qU,hA,hA',h9,h9',ry,hq,sO,sP,wj];exact fin (AF.mk0 hB (by simp [L7]))
    ·have hA:=hq.1
     have hA':¬(l[j].toNat:Int)<32:=by omega
     have qh:=hq.2;have sa:¬(126:Int)<l[j].toNat:=by omega
     simp [ckT,hj,hj',qU,hA,hA',qh,sa,wj];exact fin (AF.mk0 hB (by simp [L7]))
  ·have hj':¬(j:Int)<l.length:=by omega
   have xa:l.any E4=false:=by rw [sZ,List.drop_of_length_le (by omega)];rfl
   rw [xa] at si;subst si;simp [ckT,hj,hj',Bl]
noncomputable def L8:AG zP AY:=AG.pure 126 (fun l:List UInt8=>l.length<1000000) (fun l=>[.str l]) (fun l=>Bl (Cy l)) (fun l h H=>XP l h H) (fun x y _ _ h=>by
 simp only [List.cons.injEq,AV.str.injEq,and_true] at h
 rw [h])
theorem XQ (s:List UInt8) (c:Int) (H:AH):CS zP AY 130 [.str s,.int .u8 c] H (.int .i64 (Lib.indexByte s c.toNat.toUInt8)) H:=by
 refine CS.of_calls fun g w cargs hA => ?_
 simp only [AB,AA] at hA;obtain ⟨_,_,rfl,rfl,_,_,rfl,rfl,rfl⟩:=hA;refine (TU _ c w).mono ?_;rintro e w' ⟨rfl,rfl⟩;exact ⟨_,rfl,fun g=>by simp [AA],rfl⟩
theorem XR (s:List UInt8) (hs:s.length<1000000) (H:AH):CS zP AY 217 [.str s,.str [10]] H (.int .i64 (Lib.indexByte s 10)) H:=by
 have X:=Ep (S:=[]) (XQ s 10 []) Cv;have hO:=EV 130 [.str s,.int .u8 10] [] (.int .i64 (Lib.indexByte s (10:Int).toNat.toUInt8)) [] Bk;have hc:(10:Int).toNat.toUInt8=10:=rfl;rw [hc] at hO X;generalize orP 130 [.str s,.int .u8 10] [] (.int .i64 (Lib.indexByte s 10)) [] Bk=O at X hO;refine CS.tr0 DQ Tryz.func217 (by kernel_rfl) 0 (by simp [Tryz.f217]) (fun B hB hG => ?_) rfl (by simp) H;refine Tr.goW X hG (by kernel_rfl) ?_
 by_cases h:s=[10]
 ·subst h
  have:Lib.indexByte [10] 10=0:=rfl;rw [this] at hO ⊢;simp [Tryz.f217,hO]
 ·have h1:([10]==s)=false:=by rw [beq_eq_false_iff_ne];exact fun e=>h e.symm
  have h2:¬[10]=s:=fun e=>h e.symm
  simp [Tryz.f217,hO,h,h1,h2]
theorem XS (s:List UInt8) (hs:s.length<1000000) (H:AH):CS zP AY 200 [.str s,.str [10]] H (.int .i64 (Lib.indexByte s 10)) H:=by
 have X:=Ep (S:=[]) (XR s hs []) Cv;have hO:=EV 217 [.str s,.str [10]] [] (.int .i64 (Lib.indexByte s 10)) [] Bk;generalize orP 217 [.str s,.str [10]] [] (.int .i64 (Lib.indexByte s 10)) [] Bk=O at X hO;refine CS.tr0 DQ Tryz.func200 (by kernel_rfl) 0 (by simp [Tryz.f200]) (fun B hB hG => ?_) rfl (by simp) H;refine Tr.goW X hG (by kernel_rfl) ?_;have sY:AE zP 217=true:=by kernel_rfl
 simp [Tryz.f200,hO,sY]
noncomputable def L9:AG zP AY:=AG.pure 200 (fun s:List UInt8=>s.length<1000000) (fun s=>[.str s,.str [10]]) (fun s => .int .i64 (Lib.indexByte s 10)) (fun s h H=>XS s h H) (fun x y _ _ h=>by
 simp only [List.cons.injEq,AV.str.injEq,and_true] at h
 rw [h])
def I5:AV := .func (.func 198) [] [.ptr 1 0,.ptr 0 0,.ptr 2 0]
def E5 (s:List UInt8):AH:=[some (.box [.str s]),some (.box [.str [10]]),some (.box [.int .i64 1])]
theorem XT (s:List UInt8):CS zP AY 170 [.str s,.str [10],.int .i64 1] [] I5 (E5 s):=by refine CS.of_TrN (c:=Ar Tryz.f170) (H0:=[]) (H1:=E5 s) 3 (by simp) Tryz.func170 (by kernel_rfl) 0 (by simp [Tryz.f170]) (fun B hB hG => ?_) rfl rfl;refine Tr.goW Cv hG (by kernel_rfl) ?_;simp [Tryz.f170,I5,E5]
theorem XU (s:List UInt8):CS zP AY 125 [.str s,.str [10]] [] I5 (E5 s):=by have X:=Ep (S:=[]) (XT s) Cv;have hO:=EV 170 [.str s,.str [10],.int .i64 1] [] I5 (E5 s) Bk;generalize orP 170 [.str s,.str [10],.int .i64 1] [] I5 (E5 s) Bk=O at X hO;refine CS.of_TrN (c:=Ar Tryz.f125) (H0:=[]) (H1:=E5 s) 3 (by simp) Tryz.func125 (by kernel_rfl) 0 (by simp [Tryz.f125]) (fun B hB hG => ?_) rfl rfl;refine Tr.goW X hG (by kernel_rfl) ?_;simp only [I5,E5] at hO;simp [Tryz.f125,hO,I5,E5]
theorem XV (s:List UInt8) (a b c:List AV):CS zP AY 125 [.str s,.str [10]] [some (.box a),some (.box b),some (.box c)] (.func (.func 198) [] [.ptr 4 0,.ptr 3 0,.ptr 5 0]) ([some (.box a),some (.box b),some (.box c)]++E5 s):=by
 have:=CS.grow (k:=0) (n:=3) (fun i=>i+3) (H:=[some (.box a),some (.box b),some (.box c)]) (H':=[some (.box a),some (.box b),some (.box c)]++E5 s) (XU s) rfl rfl (by omega) (fun i j _ _ h=>by omega) DQ rfl rfl rfl rfl (fun i hi=>by omega)
  (fun i h1 h2=>Cp (by simp)) (by
   intro i hi
   rcases (by omega:i=0∨i=1∨i=2) with rfl|rfl|rfl<;>rfl) (by
   intro j hj;have h0:=hj 0 (by decide);have h1:=hj 1 (by decide);have h2:=hj 2 (by decide);rcases (by omega:j=0∨j=1∨j=2∨6≤j) with rfl|rfl|rfl|h
   ·rfl
   ·rfl
   ·rfl
   ·rw [Cp (by simp [E5];omega),Cp (by simp;omega)])
 exact this
theorem RY (c:UInt8) (s:List UInt8):Lib.indexByte (c::s) 10=if c=10 then 0 else if Lib.indexByte s 10<0 then -1 else Lib.indexByte s 10+1:=by
 have tY:=Lib.indexByte_ge s 10;rw [Lib.indexByte]
 by_cases hc:c=10
 ·rw [if_pos hc,if_pos (by simpa using hc)]
 ·rw [if_neg hc,if_neg (by simpa using hc)]
  by_cases h:Lib.indexByte s 10 = -1
  ·rw [if_pos (by simpa using h),if_pos (by omega)]
  ·rw [if_neg (by simpa using h),if_neg (by omega)]
theorem OM:∀(s acc:List UInt8) (i:Nat),Lib.indexByte s 10=(i:Int)→i<s.length∧Ei acc s=(acc++s.take (i+1))::Ei [] (s.drop (i+1))
 | [],acc,i,h=>by have h1:Lib.indexByte [] 10 = -1:=rfl;omega
 | c::s,acc,i,h=>by
  rw [RY] at h;rw [Ei]
  by_cases hc:c=10
  ·rw [if_pos hc] at h
   obtain rfl:i=0:=by omega
   rw [if_pos hc];simp
  ·rw [if_neg hc] at h
   rw [if_neg hc]
   split at h
   ·omega
   ·obtain ⟨j,rfl⟩:∃j,i=j+1:=⟨i-1,by omega⟩
    obtain ⟨h1,h2⟩:=OM s (acc++[c]) j (by omega);rw [h2];refine ⟨by simp only [List.length_cons];omega,?_⟩;simp
theorem RZ:∀(s acc:List UInt8),Lib.indexByte s 10<0→Ei acc s=if acc++s=[] then [] else [acc++s]
 | [],acc,_=>by rw [Ei];simp
 | c::s,acc,h=>by
  rw [RY] at h;rw [Ei]
  by_cases hc:c=10
  ·rw [if_pos hc] at h;omega
  ·rw [if_neg hc] at h
   rw [if_neg hc];rw [RZ s (acc++[c]) (by split at h<;>omega)];simp
def EQ (ls:List (List UInt8)) (rest:List UInt8):List (List UInt8) × Er:=match D6 ls.length (E3 rest) with
 | some y=>([],some y)
 | none=>(ls++E3 rest,none)
theorem Ra (s:List UInt8) (h:s.length≤65536):CW s=EQ [] s:=by unfold CW EQ;rw [if_neg (by omega)];rfl
theorem Rb (i:Nat) (l:List UInt8) (r:List (List UInt8)):D6 i (l::r)=if Cy l=0 then D6 (i+1) r else some ([(DR,i)],Cy l):=by
 rw [D6];unfold Cy
 split
 ·rfl
 ·split
  ·rfl
  ·rfl
theorem XW {ls:List (List UInt8)} {s:List UInt8} {i:Nat} (h:Lib.indexByte s 10=(i:Int)):EQ ls s=if Cy (s.take (i+1))=0 then EQ (ls++[s.take (i+1)]) (s.drop (i+1)) else ([],some ([(DR,ls.length)],Cy (s.take (i+1)))):=by
 have h1:=(OM s [] i h).2;unfold EQ E3;rw [h1,List.nil_append,Rb]
 by_cases hc:Cy (s.take (i+1))=0
 ·rw [if_pos hc,if_pos hc,List.length_append,List.length_singleton]
  cases D6 (ls.length+1) (Ei [] (s.drop (i+1))) with
  | some y=>rfl
  | none=>simp
 ·rw [if_neg hc,if_neg hc]
theorem XX {ls:List (List UInt8)} {s:List UInt8} (h:Lib.indexByte s 10<0):EQ ls s=if s=[] then (ls,none) else if Cy s=0 then (ls++[s],none) else ([],some ([(DR,ls.length)],Cy s)):=by
 have h1:=RZ s [] h;rw [List.nil_append] at h1;unfold EQ E3;rw [h1]
 by_cases hs:s=[]
 ·rw [if_pos hs,if_pos hs]
  simp [D6]
 ·rw [if_neg hs,if_neg hs,Rb]
  by_cases hc:Cy s=0
  ·rw [if_pos hc,if_pos hc]
   simp [D6]
  ·rw [if_neg hc,if_neg hc]
@[simp] theorem nU:AY.imm 156=true:=by decide
@[simp] theorem nV (w:List UInt8) (p c:Int):A3 zP 156 [(0,.str w),(1,.int .i64 p),(2,.iface 134 (.int .i64 c))]=some (.agg [.str w,.int .i64 p,.iface 134 (.int .i64 c)]):=by kernel_rfl
@[simp high] theorem nW (k:Nat) (l:List (List UInt8)):alen zP 23 (Am.tk k l)=some (.int .i64 l.length):=Am.tk_len Tryz.underlying23 k l
@[simp] theorem Rc:AY.soft 23=false:=by decide
def GC:Code→Option (Code × Code)
 | .rangeFunc _ _ a b=>some (a,b)
 | .seq a b=>(match GC a with
  | some x=>some x
  | none=>GC b)
 | .block _ c=>GC c
 | _=>none
noncomputable def I6:Code:=((GC (Ar Tryz.f79)).getD (.skip,.skip)).1
noncomputable def GD:Code:=((GC (Ar Tryz.f79)).getD (.skip,.skip)).2
def hS (e:Er) (ls:List (List UInt8)) (rest:List UInt8):AH:=[some (.box [.nilSlice]),some (.box [erI e]),some (.box [Am.tk 6 ls]),some (.box [.str rest]),some (.box [.str [10]]),some (.box [.int .i64 1])]++(if ls=[] then [] else [some (.tok ls.length)])
theorem MA (e:Er) (ls:List (List UInt8)) (rest:List UInt8):(hS e ls rest).length=if ls=[] then 6 else 7:=by unfold hS;split<;>rfl
theorem XY (e:Er) (ls:List (List UInt8)) (rest:List UInt8):AP (hS e ls rest).length (hS e ls rest)=true:=by
 unfold hS
 by_cases h:ls=[]
 ·subst h;simp
 ·have:=Am.tk_low (k:=6) (m:=7) (by decide) ls
  simp [h,this]
def RdQ (ls:List (List UInt8)) (rest f:List UInt8):AEx→List AV→AH→Prop:=fun e _ H =>(f=[]∧e = .exit 0∧H=hS none ls rest)∨(f≠[]∧Cy f≠0∧e = .ret∧H=hS (some ([(DR,ls.length)],Cy f)) ls rest)∨(f≠[]∧Cy f=0∧e = .normal∧(H=hS none (ls++[f]) rest∨H=hS none (ls++[f]) rest++[none]))
theorem XZ {B:Bs} {l:Nat} {ls:List (List UInt8)} {rest:List UInt8} (hB:B.H=hS none ls rest) (hG:An AY B.g) {f:List UInt8} (hf:f.length<1000000) (rn:ls.length<100000000) :
  TrR (some l) zP B (fun _=>False) [] GD (mkT 34 [(2,.ptr 0 0),(3,.ptr 1 0),(4,.ptr 2 0),(5,.str f)]) (hS none ls rest) (RdQ ls rest f):=by
 have X:=(Bv [L8] Jb Af)
 have hL:([L8].map (·.f)).Nodup:=show ([126]:List Nat).Nodup by decide
 have f1:=fun (H:AH)=>DL hL L8 (by simp) (x:=f) (H:=H) hf
 generalize oOf [L8]=O at X f1;have f1:∀H,O 126 [.str f] H=some (Bl (Cy f),H):=f1;refine TrR.go X hG [] (by kernel_rfl) ?_
 by_cases h0:f=[]
 ·subst h0
  unfold hS
  by_cases hl:ls=[]
  ·subst hl
   simp [GD,GC,Tryz.f79,RdQ,hS]
  ·simp [GD,GC,Tryz.f79,RdQ,hS,hl]
 ·have h0':(f==[])=false:=by rw [beq_eq_false_iff_ne];exact h0
  by_cases hc:Cy f=0
  ·rw [hc] at f1
   have sx:Bl 0 = .nilIface:=rfl;rw [sx] at f1;have e1:Am.c f=[.str f]:=rfl;have e2:Am.sz=1:=rfl
   by_cases hl:ls=[]
   ·subst hl
    have a1:=fun H ow fid=>I3 Am (P:=zP) (H:=H) (ow:=ow) (fid:=fid) Jn f
    rw [e1,e2] at a1;simp [GD,GC,Tryz.f79,hS,h0,h0',f1,N5 Rc,a1];exact .inr (.inr ⟨h0,hc,rfl,.inl (by simp [hS,Cs])⟩)
   ·have a1:=fun H ow fid (h:AH.at H 6=some (.tok ls.length))=>I2 Am (P:=zP) (H:=H) (ow:=ow) (fid:=fid) (k:=6) Jn ls f hl h (by omega)
    rw [e1,e2] at a1;simp [GD,GC,Tryz.f79,hS,h0,h0',f1,hl,N5 Rc,a1]
    exact .inr (.inr ⟨h0,hc,rfl,.inr (by
     unfold hS;rw [if_neg (by simp),List.length_append]
     rfl)⟩)
  ·have hz:Bl (Cy f)=AZ [] (Cy f:Int):=Vh hc
   rw [hz] at f1;have hE:erI (some ([(DR,ls.length)],Cy f))=AZ [(DR,(ls.length:Int))] (Cy f:Int):=rfl
   by_cases hl:ls=[]
   ·subst hl
    simp only [AZ] at f1;simp [GD,GC,Tryz.f79,hS,h0,h0',f1];refine LpR.turns X hG [6,7] [(0,6),(1,6),(2,6),(3,6),(4,6),(5,6)] (by kernel_rfl) (by kernel_rfl) ?_;simp;exact .inr (.inl ⟨h0,hc,rfl,by simp [hS,DR];rfl⟩)
   ·simp only [AZ] at f1
    simp [GD,GC,Tryz.f79,hS,h0,h0',f1,hl];refine LpR.turns X hG [6,7] [(0,6),(1,6),(2,6),(3,6),(4,6),(5,6)] (by kernel_rfl) (by kernel_rfl) ?_;have i1:=Hi Am 6 hl;simp [i1];exact .inr (.inl ⟨h0,hc,rfl,by simp [hS,DR,hl];rfl⟩)
end Go.Proofs.YtejjlojfgcgopaaGreatDoor
namespace Go.Proofs.Fw
open Go.RowKit
structure CI (l:Nat) (g:Gh) (H:AH) (w:World) (g':Gh) (H':AH) (w':World):Prop where
 le:g.le g'
 hid:∀id,H.at id=some .hid→g'.M id=g.M id∧H'.at id=some .hid
 new:∀id e',g'.M id=some e'→(∃e,g.M id=some e∧e.block=e'.block)∨w.heap.size≤e'.block
 old:∀b,b≠l→b<w.heap.size→(∀id e ge,H.at id=some e→e ≠ .hid→g.M id=some ge→ge.block≠b)→w'.heap[b]? = w.heap[b]? ∧ ∀i,g'.G b i=g.G b i
 size:w.heap.size≤w'.heap.size
 os:w'.os=w.os
 tape:w'.tape=w.tape
 output:w'.output=w.output
section
variable {l:Nat} {g g1 g2:Gh} {H H1 H2:AH} {w w1 w2:World}
theorem CI.of (p:AK g H w g1 H1 w1):CI l g H w g1 H1 w1:=⟨p.le,p.hid,p.new,fun b _ hb hn=>p.old b hb hn,p.size,p.os,p.tape,p.output⟩
theorem CI.trans (R:Rel g H w) (p:CI l g H w g1 H1 w1) (q:CI l g1 H1 w1 g2 H2 w2):CI l g H w g2 H2 w2 where
 le:=Gh.le_trans p.le q.le
 hid:=fun id h=>by obtain ⟨h1,h2⟩:=p.hid id h;obtain ⟨h3,h4⟩:=q.hid id h2;exact ⟨h3.trans h1,h4⟩
 new:=fun id e h=>by
  rcases q.new id e h with ⟨e1,h1,hb⟩|h1
  ·rcases p.new id e1 h1 with ⟨e0,h0,re⟩|h0
   ·exact .inl ⟨e0,h0,re.trans hb⟩
   ·exact .inr (hb ▸ h0)
  ·exact .inr (Nat.le_trans p.size h1)
 old:=fun b su hb hn=>by
  obtain ⟨h1,h2⟩:=p.old b su hb hn
  have:=q.old b su (Nat.lt_of_lt_of_le hb p.size) (fun id e ge he pp hM sh=>by
   rcases p.new id ge hM with ⟨e0,h0,re⟩|h0
   ·cases hH:H.at id with
    | none=>rw [R.free id hH] at h0;cases h0
    | some e' =>
     by_cases hh:e' = .hid
     ·subst hh
      have:=(p.hid id hH).2;rw [he] at this;injection this with this;exact pp this
     ·exact hn id e' e0 hH hh h0 (re.trans sh)
   ·omega)
  exact ⟨this.1.trans h1,fun i=>(this.2 i).trans (h2 i)⟩
 size:=Nat.le_trans p.size q.size
 os:=q.os.trans p.os
 tape:=q.tape.trans p.tape
 output:=q.output.trans p.output
theorem CI.put (g:Gh) (H:AH) (w:World) (l:Nat) (o:Obj):CI l g H w g H (w.putObj l o) :=⟨g.le_refl,fun _ h=>⟨rfl,h⟩,fun _ e h => .inl ⟨e,h,rfl⟩,fun b hb _ _=>⟨World.putObj_heap_other hb,fun _=>rfl⟩,by rw [World.putObj_size];exact Nat.le_refl _,rfl,rfl,rfl⟩
theorem CI.post (p:CI l g H w g1 H1 w1) (h:w.heap.size≤l∨(w1.heap[l]? = w.heap[l]? ∧ ∀i,g1.G l i=g.G l i)):AK g H w g1 H1 w1 :=
 ⟨p.le,p.hid,p.new,fun b hb hn=>by
  by_cases su:b=l
  ·subst su
   rcases h with h|h
   ·omega
   ·exact h
  ·exact p.old b su hb hn,p.size,p.os,p.tape,p.output⟩
theorem Xa {w:World} {l:Nat} {r:Loop} (h:w.heap[l]? = some (.loop r)) (i:Nat):w.cell? ⟨l,i,none⟩=none:=by simp only [World.cell?,h]
theorem ON (R:Rel g H w) {r:Loop} (h:w.heap[l]? = some (.loop r)) (i:Nat):g.G l i=none:=by
 cases hG:g.G l i with
 | none=>rfl
 | some v=>have:=R.imm l i v hG;rw [Xa h] at this;cases this
theorem Rel.putF (R:Rel g H w) {r:Loop} (h:w.heap[l]? = some (.loop r)) (hfr:∀id ge,g.M id=some ge→ge.block≠l) (o:Obj):Rel g H (w.putObj l o) where
 imm:=fun b i v hb=>by
  have pp:b≠l:=fun he=>by subst he;rw [ON R h] at hb;cases hb
  exact (D4 (World.putObj_heap_other pp)).trans (R.imm b i v hb)
 free:=R.free
 ent:=fun id e he pp=>by obtain ⟨ge,hM,hr⟩:=R.ent id e he pp;exact ⟨ge,hM,hr.keep g.le_refl (World.putObj_heap_other (hfr id ge hM)) (fun _=>rfl)⟩
 inj:=R.inj
 blk:=fun id e he=>by rw [World.putObj_size];exact R.blk id e he
theorem AK.foreign (R:Rel g H w) (p:AK g H w g1 H1 w1) {b:Nat} (hb:b<w.heap.size) (hfr:∀id ge,g.M id=some ge→ge.block≠b):w1.heap[b]? = w.heap[b]? ∧ ∀id ge,g1.M id=some ge→ge.block≠b :=
 ⟨(p.old b hb fun id e ge _ _ hM=>hfr id ge hM).1,fun id ge hM=>by
  rcases p.new id ge hM with ⟨e,h1,h2⟩|h1
  ·rw [←h2];exact hfr id e h1
  ·omega⟩
theorem CI.foreign (p:CI l g H w g1 H1 w1) {b:Nat} (hb:b<w.heap.size) (hfr:∀id ge,g.M id=some ge→ge.block≠b):∀id ge,g1.M id=some ge→ge.block≠b:=fun id ge hM=>by
  rcases p.new id ge hM with ⟨e,h1,h2⟩|h1
  ·rw [←h2];exact hfr id e h1
  ·omega
theorem Rel.congr {H':AH} (R:Rel g H w) (h:∀i,H'.at i=H.at i):Rel g H' w :=⟨R.imm,fun id hi=>R.free id (by rw [←h];exact hi),fun id e he pp=>R.ent id e (by rw [←h];exact he) pp,R.inj,R.blk⟩
theorem CI.congr {H':AH} (p:CI l g H w g1 H1 w1) (h:∀i,H'.at i=H1.at i):CI l g H w g1 H' w1 :=⟨p.le,fun id hi=>⟨(p.hid id hi).1,by rw [h];exact (p.hid id hi).2⟩,p.new,p.old,p.size,p.os,p.tape,p.output⟩
end
end Go.Proofs.Fw
namespace Go.Proofs.YtejjlojfgcgopaaGreatDoor
open Go.RowKit Go.Proofs.Fw
set_option maxRecDepth 100000
set_option maxHeartbeats 4000000
noncomputable def HE (fn:FuncId) (tm:Array Value) (D:Nat) (st:LoopState) (pe:Option Code):Loop:={state:=st,pending:=pe,fn,tmps:=tm,params := #[16],assign:=I6,body:=GD,defers:=D}
def RdR (ls:List (List UInt8)) (rest f:List UInt8) (b:Bool) (st:LoopState) (pe:Option Code) (H:AH):Prop :=
 (f=[]∧b=false∧st = .done∧pe=some (.exit 0)∧H=hS none ls rest)∨(f≠[]∧Cy f≠0∧b=false∧st = .done∧pe=some .ret∧H=hS (some ([(DR,ls.length)],Cy f)) ls rest) ∨
  (f≠[]∧Cy f=0∧b=true∧st = .ready∧pe=none∧H=hS none (ls++[f]) rest)
theorem Xb (e:Er) (ls:List (List UInt8)) (rest:List UInt8) (i:Nat):(hS e ls rest).at i=AH.at (hS e ls rest++[none]) i:=by
 rcases Nat.lt_or_ge i (hS e ls rest).length with h|h
 ·rw [Fa h]
 ·rw [Cp h,G4 h]
  generalize i-(hS e ls rest).length=j;cases j with
  | zero=>rfl
  | succ j=>rfl
theorem Re {g:Gh} {ls:List (List UInt8)} {rest:List UInt8} {w:World} (R:Rel g (hS none ls rest) w) (hG:An AY g) {l D:Nat} {fn:FuncId} {tm:Array Value}
  (hl:w.heap[l]? = some (.loop (HE fn tm D .ready none))) (hfr:∀id ge,g.M id=some ge→ge.block≠l) (hT:AB g (mkT 34 [(2,.ptr 0 0),(3,.ptr 1 0),(4,.ptr 2 0)]) tm.toList) {f:List UInt8} (hf:f.length<1000000) (rn:ls.length<100000000) :
  RoundIn (C1 none) 0 zP l fn (tm.setIfInBounds 16 (.string ⟨f.toArray⟩)) I6 GD w fun e w'=>∃g' H' b st pe,e = .returned (.bool b)∧Rel g' H' w'∧CI l g (hS none ls rest) w g' H' w'∧w'.heap[l]? = some (.loop (HE fn tm D st pe))∧RdR ls rest f b st pe H':=by
 have p9:l<w.heap.size:=(Array.getElem?_eq_some_iff.1 hl).1
 have qt:AB g (mkT 34 [(16,.str f),(2,.ptr 0 0),(3,.ptr 1 0),(4,.ptr 2 0)]) (tm.setIfInBounds 16 (.string ⟨f.toArray⟩)).toList:=by have:=hT.set 16 (a := .str f) (v := .string ⟨f.toArray⟩) (by simp [AA]);rw [yIO] at this;rw [Array.toList_setIfInBounds];exact this
 refine roundIn_of_wpIn (F:=C1 none) trivial ?_;rw [dO]
 -- the assignment
 have hA:TrR (some l) zP ⟨g,hS none ls rest,w,R⟩ (fun _=>False) [] I6 (mkT 34 [(16,.str f),(2,.ptr 0 0),(3,.ptr 1 0),(4,.ptr 2 0)]) (hS none ls rest) (fun e t H=>e = .normal∧t=mkT 34 [(5,.str f),(16,.str f),(2,.ptr 0 0),(3,.ptr 1 0),(4,.ptr 2 0)]∧H=hS none ls rest):=by refine TrR.go CG hG [] (by kernel_rfl) ?_;simp [I6,GC,Tryz.f79]
 refine hA _ _ w ⟨g,R,AK.refl _ _ _,qt,rfl⟩ ?_ (fun _ _ _ h=>h.elim);rintro ex t1 H1 a1 w1 ⟨rfl,rfl,rfl⟩ ⟨g1,R1,p1,qd,qJ⟩;obtain ⟨qz,yb⟩:=AK.foreign R p1 p9 hfr;rw [hl] at qz;have zj:l<w1.heap.size:=Nat.lt_of_lt_of_le p9 p1.size;refine ⟨_,run_beginRound qz rfl,?_⟩;generalize xb:w1.putObj l (.loop {HE fn tm D .ready none with state := .busy})=w2;have R2:Rel g1 (hS none ls rest) w2:=by rw [←xb];exact R1.putF qz yb _
 have p6:w2.heap[l]? = some (.loop {HE fn tm D .ready none with state := .busy}):=by rw [←xb];exact World.putObj_heap_same zj
 have q2:CI l g (hS none ls rest) w g1 (hS none ls rest) w2:=by rw [←xb];exact (CI.of p1).trans R (CI.put g1 _ w1 l _)
 have zk:l<w2.heap.size:=(Array.getElem?_eq_some_iff.1 p6).1
 have xc:AB g1 (mkT 34 [(2,.ptr 0 0),(3,.ptr 1 0),(4,.ptr 2 0),(5,.str f)]) a1.tmps.toList:=by
  have hh:∀p∈([(2,.ptr 0 0),(3,.ptr 1 0),(4,.ptr 2 0),(5,.str f)]:List (Nat × AV)),(([(5,.str f),(16,.str f),(2,.ptr 0 0),(3,.ptr 1 0),(4,.ptr 2 0)]:List (Nat × AV)).lookup p.1).getD .undef=p.2∧low 100 p.2=true:=by simp
  exact WkL.rep (m:=100) (WkL.mkT fun p hp => .same (hh p hp).1 (hh p hp).2) qd
 refine XZ (B:=⟨g1,hS none ls rest,w2,R2⟩) rfl (hG.mono p1.le) hf rn _ _ w2 ⟨g1,R2,AK.refl _ _ _,xc,qJ⟩ ?_ (fun _ _ _ h=>h.elim);rintro ex t3 H3 a3 w3 hq ⟨g3,R3,p3,tS,uX⟩;obtain ⟨qI,vi⟩:=AK.foreign R2 p3 zk yb;rw [p6] at qI;have xd:l<w3.heap.size:=(Array.getElem?_eq_some_iff.1 qI).1;have q3:CI l g (hS none ls rest) w g3 H3 w3:=q2.trans R (CI.of p3);rcases hq with ⟨h0,rfl,rfl⟩|⟨h0,hc,rfl,rfl⟩|⟨h0,hc,rfl,hH⟩
 ·exact ⟨_,_,run_endRound (some (.exit 0)) qI,g3,_,false,.done,some (.exit 0),rfl,R3.putF qI vi _,q3.trans R (CI.put _ _ _ _ _),World.putObj_heap_same xd,.inl ⟨h0,rfl,rfl,rfl,rfl⟩⟩
 ·exact ⟨_,_,run_endRound (some .ret) qI,g3,_,false,.done,some .ret,rfl,R3.putF qI vi _,q3.trans R (CI.put _ _ _ _ _),World.putObj_heap_same xd,.inr (.inl ⟨h0,hc,rfl,rfl,rfl,rfl⟩)⟩
 ·have qU:∀i,AH.at (hS none (ls++[f]) rest) i=AH.at H3 i:=fun i=>by
   rcases hH with rfl|rfl
   ·rfl
   ·exact Xb _ _ _ i
  exact ⟨_,_,run_endRound none qI,g3,_,true,.ready,none,rfl,(R3.congr qU).putF qI vi _,(q3.congr qU).trans R (CI.put _ _ _ _ _),World.putObj_heap_same xd,.inr (.inr ⟨h0,hc,rfl,rfl,rfl,rfl⟩)⟩
theorem Rf {P:Program} {a:Act} {w:World} {o:Oper} {x y:Operand} {ts:Array TypeId} {l:Nat} {v:Value} {r:Loop} {K:Act→World→Prop} {Q:Exit→Act→World→Prop}
  (ho:o.op = .call {callee := .value x,args := #[y],argTypes:=ts}) (hx:a.eval x = .func (.yield l) #[] #[]) (hy:a.eval y=v) (hl:w.heap[l]? = some (.loop r)) (hp:r.params = #[16])
  (h:RoundIn (C1 none) 0 P l r.fn (r.tmps.setIfInBounds 16 v) r.assign r.body w fun e w'=>∃u,e = .returned u∧K (a.put o.dst u) w'):o.wpIn (C1 none) 0 P a w K Q:=by
 refine ⟨fun _ _=>trivial,?_⟩;have xe:Oper.semAt (C1 none).round a.eval o=execOp a.eval o:=Oper.semAt_eq _ _ _ (fun c hc=>by rw [ho] at hc;cases hc);rw [xe]
 have key:∀ρ:Operand→Value,ρ x = .func (.yield l) #[] #[]→(execOp ρ o).run P w = .ok (.round l r.fn (r.tmps.setIfInBounds 16 (ρ y)) r.assign r.body) w:=by
  intro ρ hx;have xf:=run_yield (P:=P) (args := #[ρ y]) hl (by rw [hp];rfl);rw [hp] at xf;have hz:((#[16]:Array Tmp).zip #[ρ y]).foldl (fun tmps (t,a)=>tmps.setIfInBounds t a) r.tmps=r.tmps.setIfInBounds 16 (ρ y):=by simp
  rw [hz] at xf;unfold execOp;rw [ho];simp only [resolve,hx];simp [go_sem,xf,invoke]
 have qQ:=key a.eval hx;rw [hy] at qQ;rw [qQ,Oper.uponIn_round];refine ⟨(fun hh=>by cases hh),h.mono ?_⟩;rintro e w' ⟨u,rfl,hk⟩;exact hk
def SqR (s:List UInt8) (ls:List (List UInt8)) (st:LoopState) (pe:Option Code) (H:AH):Prop :=
 (st = .ready∧pe=none∧∃rest,H=hS none ls rest∧EQ [] s=(ls,none))∨(st = .done∧pe=some (.exit 0)∧∃rest,H=hS none ls rest∧EQ [] s=(ls,none)) ∨
  (st = .done∧pe=some .ret∧∃rest e,H=hS e ls rest∧EQ [] s=([],e))
theorem opR {P:Program} {E:Env} {O:Orc} (X:Cx O P E) {g:Gh} {H:AH} {w:World} {t:List AV} {a:Act} {o:Oper} {fid:Nat} {v:AV} {H1:AH} {K:Act→World→Prop} {Q:Exit→Act→World→Prop}
  (q8:J4 o.op=true) (vU:Ao E o.op=false) (h:AU O P E (AC E t) H fid o=some (v,H1)) (R:Rel g H w) (hG:An E g) (hT:AB g t a.tmps.toList)
  (hK:∀g' u w',Rel g' H1 w'→AK g H w g' H1 w'→AB g' (AT t o.dst v) (a.put o.dst u).tmps.toList→K (a.put o.dst u) w'):o.wpIn (C1 none) 0 P a w K Q :=
 PE q8 (Oc X.sound X.meth R hG hT (fun hn=>by rw [vU] at hn;cases hn) h fun g' u w' R' p' hv=>hK g' u w' R' p' (HF (AB.mono p'.le _ _ hT) hv))
structure Yl (B:Bs) (l D:Nat) (fn:FuncId) (tm:Array Value):Prop where
 hl:B.w.heap[l]? = some (.loop (HE fn tm D .ready none))
 hfr:∀id ge,B.g.M id=some ge→ge.block≠l
 hT:AB B.g (mkT 34 [(2,.ptr 0 0),(3,.ptr 1 0),(4,.ptr 2 0)]) tm.toList
 hG:An AY B.g
def YΩ (B:Bs) (l D:Nat) (fn:FuncId) (tm:Array Value) (s:List UInt8):World→Prop:=fun w'=>∃g' H' ls st pe,Rel g' H' w'∧CI l B.g B.H B.w g' H' w'∧w'.heap[l]? = some (.loop (HE fn tm D st pe))∧SqR s ls st pe H'
theorem Yl.lt {B:Bs} {l D:Nat} {fn:FuncId} {tm:Array Value} (Y:Yl B l D fn tm):l<B.w.heap.size:=(Array.getElem?_eq_some_iff.1 Y.hl).1
theorem Rg {g:Gh} {t:List AV} {a:Act} {k l:Nat} (hT:AB g t a.tmps.toList) (h:t[k]? = some (.func (.yield l) [] [])):a.eval (.tmp k) = .func (.yield l) #[] #[]:=by
 obtain ⟨v,h1,h2⟩:=hT.get h;simp only [AA,AB] at h2;obtain ⟨fs,cs,rfl,rfl,rfl⟩:=h2
 show a.tmps.getD k undef=_
 rw [Array.getD_eq_getD_getElem?,←Array.getElem?_toList,h1];rfl
theorem Rh {g:Gh} {t:List AV} {a:Act} {k:Nat} {f:List UInt8} (hT:AB g t a.tmps.toList) (h:t[k]? = some (.str f)):a.eval (.tmp k) = .string ⟨f.toArray⟩:=by
 obtain ⟨v,h1,h2⟩:=hT.get h;simp only [AA] at h2;subst h2
 show a.tmps.getD k undef=_
 rw [Array.getD_eq_getD_getElem?,←Array.getElem?_toList,h1];rfl
theorem Xc {g:Gh} {t:List AV} {a:Act} {k:Nat} {b:Bool} (hT:AB g t a.tmps.toList) (h:t[k]? = some (.bool b)):a.eval (.tmp k) = .bool b:=by
 obtain ⟨v,h1,h2⟩:=hT.get h;simp only [AA] at h2;subst h2
 show a.tmps.getD k undef=_
 rw [Array.getD_eq_getD_getElem?,←Array.getElem?_toList,h1];rfl
theorem Xd {B:Bs} {l D:Nat} {fn:FuncId} {tm:Array Value} (Y:Yl B l D fn tm) {s:List UInt8} {ls:List (List UInt8)} {rest f:List UInt8} (hf:f.length<1000000) (rn:ls.length<100000000)
  {L:List (Nat × AV)} (h0:L.lookup 0=some (.func (.yield l) [] [])) (h8:L.lookup 8=some (.str f)) {id:Nat} {y1 y2 y3 y4 y5:TypeId} {p1 p2 p3 p4:String} {f1 f2 f3 f4:Array Edge} {ts:Array TypeId} {Q:AEx→List AV→AH→Prop}
  (hq:f≠[]→Cy f=0→Q .normal (mkT 52 ((42,.bool false)::(41,.bool true)::(40,.str f)::(39,.func (.yield l) [] [])::L)) (hS none (ls++[f]) rest)) (zl:∀st pe H',RdR ls rest f false st pe H'→SqR s ls st pe H') :
  TrR none zP B (YΩ B l D fn tm s) [] (.seq (.region id #[⟨some 39,.move (.tmp 0),y1,p1,f1,none⟩,⟨some 40,.move (.tmp 8),y2,p2,f2,none⟩,⟨some 41,.call {callee := .value (.tmp 39),args := #[.tmp 40],argTypes:=ts},y3,p3,f3,none⟩,⟨some 42,.unOp .not y5 (.tmp 41),y4,p4,f4,none⟩] false) (.cond (.tmp 42) .ret .skip)) (mkT 52 L) (hS none ls rest) Q:=by
 intro Q' a w hs k ho;obtain ⟨g,R,p,hT,hd⟩:=hs;have p9:=Y.lt;obtain ⟨qK,xg⟩:=AK.foreign B.R p p9 Y.hfr;rw [Y.hl] at qK;have hG:=Y.hG.mono p.le;refine wpIn_seq (wpIn_region ?_)
 show wpOpsIn _ _ _ _ _ [0,1,2,3] _ _
 have aev0:AC AY (mkT 52 L) (.tmp 0) = .func (.yield l) [] []:=by simp [AC,JF,h0]
 -- the two moves
 simp only [wpOpsIn];refine opR CG (fid:=0) (v := .func (.yield l) [] []) (H1:=hS none ls rest) rfl rfl (by simp [AU,aop,aev0,AQ]) R hG hT fun g1 u1 w1 R1 q1 qt => ?_
 have qt:AB g1 (mkT 52 ((39,.func (.yield l) [] [])::L)) (a.put (some 39) u1).tmps.toList:=by rw [←yIO];exact qt
 have aev8:AC AY (mkT 52 ((39,.func (.yield l) [] [])::L)) (.tmp 8) = .str f:=by simp [AC,JF,h8,List.lookup]
 refine opR CG (fid:=0) (v := .str f) (H1:=hS none ls rest) rfl rfl (by simp [AU,aop,aev8,AQ]) R1 (hG.mono q1.le) qt fun g2 u2 w2 R2 q2 qd => ?_
 have qd:AB g2 (mkT 52 ((40,.str f)::(39,.func (.yield l) [] [])::L)) ((a.put (some 39) u1).put (some 40) u2).tmps.toList:=by rw [←yIO];exact qd
 have qD:((a.put (some 39) u1).put (some 40) u2).defers=[]:=by rw [E6,E6];exact hd
 have p2:=AK.trans R q1 q2;obtain ⟨p6,wh⟩:=AK.foreign R p2 (Nat.lt_of_lt_of_le p9 p.size) xg;rw [qK] at p6;have pB:=AK.trans B.R p p2
 -- yield
 have e39:=Rg (k:=39) (l:=l) qd (by simp [GH,List.lookup]);have e40:=Rh (k:=40) (f:=f) qd (by simp [GH,List.lookup]);refine Rf (a:=((a.put (some 39) u1).put (some 40) u2)) rfl e39 e40 p6 rfl ((Re R2 (Y.hG.mono pB.le) p6 wh (AB.mono pB.le _ _ Y.hT) hf rn).mono ?_);rintro e w3 ⟨g3,H3,b,st,pe,rfl,R3,q3,qI,hr⟩;refine ⟨_,rfl,?_⟩
 have xc:AB g3 (mkT 52 ((41,.bool b)::(40,.str f)::(39,.func (.yield l) [] [])::L)) (((a.put (some 39) u1).put (some 40) u2).put (some 41) (.bool b)).tmps.toList:=by rw [←yIO];exact HF (AB.mono q3.le _ _ qd) (dst:=some 41) (by simp [AA])
 have hG3:An AY g3:=(Y.hG.mono pB.le).mono q3.le;have aev41:AC AY (mkT 52 ((41,.bool b)::(40,.str f)::(39,.func (.yield l) [] [])::L)) (.tmp 41) = .bool b:=by simp [AC,JF,List.lookup]
 refine opR CG (fid:=0) (v := .bool (!b)) (H1:=H3) rfl rfl (by simp [AU,aop,aev41,AQ,aun]) R3 hG3 xc fun g4 u4 w4 R4 q4 tS => ?_
 have tS:AB g4 (mkT 52 ((42,.bool (!b))::(41,.bool b)::(40,.str f)::(39,.func (.yield l) [] [])::L)) ((((a.put (some 39) u1).put (some 40) u2).put (some 41) (.bool b)).put (some 42) u4).tmps.toList:=by rw [←yIO];exact tS
 have rz:((((a.put (some 39) u1).put (some 40) u2).put (some 41) (.bool b)).put (some 42) u4).defers=[]:=by rw [E6,E6];exact qD
 have vi:=q3.foreign (Nat.lt_of_lt_of_le (Nat.lt_of_lt_of_le p9 p.size) p2.size) wh;obtain ⟨u9,hfr4⟩:=AK.foreign R3 q4 (Array.getElem?_eq_some_iff.1 qI).1 vi;rw [qI] at u9;have e42:=Xc (k:=42) tS (b := !b) (by simp [GH,List.lookup]);have qL:CI l B.g B.H B.w g4 H3 w4:=((CI.of pB).trans B.R q3).trans B.R (CI.of q4);cases b with
 | false =>refine wpIn_cond_true e42 (wpIn_ret (ho _ w4 rz ⟨g4,H3,ls,st,pe,R4,qL,u9,zl st pe H3 hr⟩))
 | true =>
  have qN:f≠[]∧Cy f=0∧st = .ready∧pe=none∧H3=hS none (ls++[f]) rest:=by
   rcases hr with ⟨_,h,_⟩|⟨_,_,h,_⟩|⟨h1,h2,_,h3,h4,h5⟩
   ·cases h
   ·cases h
   ·exact ⟨h1,h2,h3,h4,h5⟩
  obtain ⟨pp,vA,rfl,rfl,rfl⟩:=qN;refine wpIn_cond_false e42 (wpIn_skip (k .normal _ _ _ w4 (hq pp vA) ⟨g4,R4,qL.post (.inr ⟨?_,fun i => ?_⟩),tS,rz⟩))
  ·rw [u9,Y.hl]
  ·rw [ON R4 u9,ON B.R Y.hl]
theorem MB (e:Er) (ls:List (List UInt8)) (rest:List UInt8):AH.at (hS e ls rest) 3=some (.box [.str rest]):=rfl
theorem MC (e:Er) (ls:List (List UInt8)) (rest:List UInt8):AH.at (hS e ls rest) 4=some (.box [.str [10]]):=rfl
theorem OO (e:Er) (ls:List (List UInt8)) (rest:List UInt8):AH.at (hS e ls rest) 5=some (.box [.int .i64 1]):=rfl
theorem Xe (e:Er) (ls:List (List UInt8)) (rest r:List UInt8):(hS e ls rest).set 3 (some (.box [.str r]))=hS e ls r:=rfl
noncomputable abbrev sqB:Code:=Ar Tryz.f198
theorem Xf:sqB = .seq (Bh sqB) (.seq (Bh (Aj sqB)) (Aj (Aj sqB))):=by kernel_rfl
def sqT (l:Nat):List AV:=mkT 52 [(0,.func (.yield l) [] []),(1,.ptr 4 0),(2,.ptr 3 0),(3,.ptr 5 0)]
def SqJ (s:List UInt8) (l:Nat) (k:Nat) (t:List AV) (H:AH):Prop:=∃ls rest,k=rest.length∧t=sqT l∧H=hS none ls rest∧EQ ls rest=EQ [] s∧ls.length+rest.length≤s.length
def SqE (s:List UInt8) (l:Nat) (e:AEx) (t:List AV) (H:AH):Prop:=e = .normal∧∃ls rest L,t=mkT 52 L∧L.lookup 0=some (.func (.yield l) [] [])∧L.lookup 2=some (.ptr 3 0)∧H=hS none ls rest∧Lib.indexByte rest 10<0∧EQ ls rest=EQ [] s∧ls.length+rest.length≤s.length
theorem Xg {B:Bs} {l D:Nat} {fn:FuncId} {tm:Array Value} (Y:Yl B l D fn tm) {s:List UInt8} (hB:B.H=hS none [] s) (hs:s.length<1000000) :
  TrR none zP B (YΩ B l D fn tm s) [] (Bh (Aj sqB)) (sqT l) (hS none [] s) (SqE s l):=by
 have X:=Bv [L9] Jb Af;have hL:([L9].map (·.f)).Nodup:=show ([200]:List Nat).Nodup by decide
 have f1:=fun (r:List UInt8) (hr:r.length<1000000) (H:AH)=>DL hL L9 (by simp) (x:=r) (H:=H) hr
 generalize oOf [L9]=O at X f1;have f1:∀(r:List UInt8) (hr:r.length<1000000) (H:AH),O 200 [.str r,.str [10]] H=some (.int .i64 (Lib.indexByte r 10),H):=f1;have sY:AE zP 200=true:=by kernel_rfl
 refine TrR.go X Y.hG [8] (by kernel_rfl) ?_;simp [-AH.at,sqB,Bh,Aj,Tryz.f198];have hBl:B.H.length=6:=by rw [hB,MA];rfl
 refine LpR.loopN X Y.hG [8] (by kernel_rfl) (SqJ s l) s.length (t':=sqT l) (H':=hS none [] s) AF.refl ⟨[],s,rfl,rfl,rfl,rfl,by simp⟩ ?_;rintro k t H ⟨ls,rest,rfl,rfl,rfl,td,pw⟩;have g1:=fun H=>f1 rest (by omega) H
 by_cases hi:Lib.indexByte rest 10<0
 ·simp [-AH.at,sqT,MB,MC,OO,g1,sY,hi]
  exact ⟨rfl,ls,rest,_,rfl,rfl,rfl,rfl,hi,td,pw⟩
 ·obtain ⟨i,uH⟩:∃i:Nat,Lib.indexByte rest 10=(i:Int):=⟨(Lib.indexByte rest 10).toNat,by omega⟩
  have qV:=(OM rest [] i uH).1;have hi3:¬(i:Int)<0:=by omega
  rw [uH] at g1;have w1:IntKind.i64.wrap ((i:Int)+1)=(i:Int)+1:=Ab (by omega) (by omega);have q2:(i:Int)+1≤rest.length:=by omega
  have q3:((i:Int)+1).toNat=i+1:=by omega
  have q4:(0:Int)≤(i:Int)+1:=by omega
  simp [-AH.at,sqT,MB,MC,OO,g1,sY,hi3,w1,q2,q3,q4];have vA:=XW (ls:=ls) uH;refine Xd Y (f:=rest.take (i+1)) (by rw [List.length_take];omega) (by omega) (by simp [List.lookup]) (by simp [List.lookup]) ?_ ?_
  ·intro pp hc
   rw [if_pos hc] at vA;have qz:(rest.drop (i+1)).length=rest.length-(i+1):=List.length_drop;simp [-AH.at,MB,MC,OO,Xe,w1,q2,q3,q4];refine Nxt.mk (rest.drop (i+1)).length (by omega) (AF.mkK (hS none (ls++[rest.take (i+1)]) (rest.drop (i+1))).length (by rw [hBl,MA];split<;>omega) ?_ List.take_length (XY _ _ _)) ⟨ls++[rest.take (i+1)],rest.drop (i+1),rfl,rfl,rfl,vA.symm.trans td,by rw [List.length_append,List.length_singleton];omega⟩;have:6≤(hS none (ls++[rest.take (i+1)]) (rest.drop (i+1))).length:=by rw [MA];split<;>omega
   simp [MA]
  ·intro st pe H' hr
   have pp:rest.take (i+1)≠[]:=by intro h;have h2:=List.length_take (i:=i+1) (l:=rest);rw [h,List.length_nil] at h2;omega
   rcases hr with ⟨h,_⟩|⟨_,hc,_,rfl,rfl,rfl⟩|⟨_,_,h,_⟩
   ·exact absurd h pp
   ·rw [if_neg hc] at vA
    exact .inr (.inr ⟨rfl,rfl,rest,_,rfl,by rw [←td,vA]⟩)
   ·cases h
theorem Xh {B:Bs} {l D:Nat} {fn:FuncId} {tm:Array Value} (Y:Yl B l D fn tm) {s:List UInt8} {ls:List (List UInt8)} {rest:List UInt8} (hs:s.length<1000000) (hi:Lib.indexByte rest 10<0) (td:EQ ls rest=EQ [] s) (pw:ls.length+rest.length≤s.length)
  {L:List (Nat × AV)} (h0:L.lookup 0=some (.func (.yield l) [] [])) (h2:L.lookup 2=some (.ptr 3 0)) {id:Nat} {y1 y2 y3:TypeId} {p1 p2 p3:String} {f1 f2 f3:Array Edge} {ts:Array TypeId} {Q':Exit→Act→World→Prop} {a:Act} {w:World}
  (xh:GL B [] (mkT 52 L) (hS none ls rest) a w) (ho:∀a' w',a'.defers=[]→YΩ B l D fn tm s w'→Q' .normal a' w') :
  (Code.region id #[⟨some 49,.move (.tmp 0),y1,p1,f1,none⟩,⟨some 50,.load 9 (.tmp 2),y2,p2,f2,none⟩,⟨some 51,.call {callee := .value (.tmp 49),args := #[.tmp 50],argTypes:=ts},y3,p3,f3,none⟩] false).wpIn (C1 none) 0 zP Q' a w:=by
 obtain ⟨g,R,p,hT,hd⟩:=xh;have p9:=Y.lt;obtain ⟨qK,xg⟩:=AK.foreign B.R p p9 Y.hfr;rw [Y.hl] at qK;have hG:=Y.hG.mono p.le;refine wpIn_region ?_
 show wpOpsIn _ _ _ _ _ [0,1,2] _ _
 have aev0:AC AY (mkT 52 L) (.tmp 0) = .func (.yield l) [] []:=by simp [AC,JF,h0]
 simp only [wpOpsIn];refine opR CG (fid:=0) (v := .func (.yield l) [] []) (H1:=hS none ls rest) rfl rfl (by simp [AU,aop,aev0,AQ]) R hG hT fun g1 u1 w1 R1 q1 qt => ?_
 have qt:AB g1 (mkT 52 ((49,.func (.yield l) [] [])::L)) (a.put (some 49) u1).tmps.toList:=by rw [←yIO];exact qt
 have aev2:AC AY (mkT 52 ((49,.func (.yield l) [] [])::L)) (.tmp 2) = .ptr 3 0:=by simp [AC,JF,h2,List.lookup]
 refine opR CG (fid:=0) (v := .str rest) (H1:=hS none ls rest) rfl rfl (by simp [-AH.at,AU,aop,aev2,AQ,MB]) R1 (hG.mono q1.le) qt fun g2 u2 w2 R2 q2 qd => ?_
 have qd:AB g2 (mkT 52 ((50,.str rest)::(49,.func (.yield l) [] [])::L)) ((a.put (some 49) u1).put (some 50) u2).tmps.toList:=by rw [←yIO];exact qd
 have qD:((a.put (some 49) u1).put (some 50) u2).defers=[]:=by rw [E6,E6];exact hd
 have p2:=AK.trans R q1 q2;obtain ⟨p6,wh⟩:=AK.foreign R p2 (Nat.lt_of_lt_of_le p9 p.size) xg;rw [qK] at p6;have pB:=AK.trans B.R p p2;have e49:=Rg (k:=49) (l:=l) qd (by simp [GH,List.lookup]);have e50:=Rh (k:=50) (f:=rest) qd (by simp [GH,List.lookup]);refine Rf (a:=((a.put (some 49) u1).put (some 50) u2)) rfl e49 e50 p6 rfl ((Re R2 (Y.hG.mono pB.le) p6 wh (AB.mono pB.le _ _ Y.hT) (f:=rest) (by omega) (by omega)).mono ?_);rintro e w3 ⟨g3,H3,b,st,pe,rfl,R3,q3,qI,hr⟩;refine ⟨_,rfl,?_⟩;have hk:=XX (ls:=ls) hi;refine ho _ w3 (by rw [E6];exact qD) ?_;have qL:CI l B.g B.H B.w g3 H3 w3:=(CI.of pB).trans B.R q3;rcases hr with ⟨h,_,rfl,rfl,rfl⟩|⟨h,hc,_,rfl,rfl,rfl⟩|⟨h,hc,_,rfl,rfl,rfl⟩
 ·rw [if_pos h] at hk
  exact ⟨g3,_,ls,_,_,R3,qL,qI,.inr (.inl ⟨rfl,rfl,rest,rfl,by rw [←td,hk]⟩)⟩
 ·rw [if_neg h,if_neg hc] at hk
  exact ⟨g3,_,ls,_,_,R3,qL,qI,.inr (.inr ⟨rfl,rfl,rest,_,rfl,by rw [←td,hk]⟩)⟩
 ·rw [if_neg h,if_pos hc] at hk
  exact ⟨g3,_,ls++[rest],_,_,R3,qL,qI,.inl ⟨rfl,rfl,rest,rfl,by rw [←td,hk]⟩⟩
theorem Xi {B:Bs} {l D:Nat} {fn:FuncId} {tm:Array Value} (Y:Yl B l D fn tm) {s:List UInt8} (hB:B.H=hS none [] s) (hs:s.length<1000000) {cargs:List Value} (hA:AB B.g [.func (.yield l) [] [],.ptr 4 0,.ptr 3 0,.ptr 5 0] cargs) :
  CallsIn (C1 none) 0 zP 198 (List.toArray cargs) B.w fun e w'=>(∃v,e = .returned v)∧YΩ B l D fn tm s w':=by
 refine callsIn_of_wp Tryz.func198 (show (Tryz.f198).body=some sqB by kernel_rfl) trivial ?_
 have hT:AB B.g (mkT 52 (D8 0 [.func (.yield l) [] [],.ptr 4 0,.ptr 3 0,.ptr 5 0])) (List.toArray cargs++Array.replicate ((Tryz.f198).ntmps-(List.toArray cargs).size) undef).toList:=by refine AB.mkT_args (by simp) ?_;simp only [Array.toList_append,Array.toList_replicate,List.size_toArray,hA.length];exact hA.append (AB.replicate _ (by simp [AV.nothing,AA,AB,undef]))
 rw [Xf]
 have h1:TrR none zP B (YΩ B l D fn tm s) [] (Bh sqB) (mkT 52 (D8 0 [.func (.yield l) [] [],.ptr 4 0,.ptr 3 0,.ptr 5 0])) (hS none [] s) (fun e t H=>e = .normal∧H=hS none [] s∧∃L,t=mkT 52 L∧∀p∈([(0,.func (.yield l) [] []),(1,.ptr 4 0),(2,.ptr 3 0),(3,.ptr 5 0)]:List (Nat × AV)),(L.lookup p.1).getD .undef=p.2∧low 100 p.2=true):=by refine TrR.go CG Y.hG [] (by kernel_rfl) ?_;simp [-AH.at,sqB,Bh,Aj,Tryz.f198,MC];exact ⟨_,rfl,by simp [List.lookup]⟩
 have xh:GL B [] (mkT 52 (D8 0 [.func (.yield l) [] [],.ptr 4 0,.ptr 3 0,.ptr 5 0])) (hS none [] s) {tmps:=List.toArray cargs++Array.replicate ((Tryz.f198).ntmps-(List.toArray cargs).size) undef,defers:=[]} B.w:=⟨B.g,hB ▸ B.R,by have:=AK.refl B.g B.H B.w;rw [hB] at this ⊢;exact this,hT,rfl⟩
 have xi:∀a' w',a'.defers=[]→YΩ B l D fn tm s w'→∀e,(e = .ret∨e = .normal)→bodyPost zP Tryz.f198 (fun e w'=>(∃v,e = .returned v)∧YΩ B l D fn tm s w') e a' w':=by
  intro a' w' hd hΩ e he;rcases he with rfl|rfl
  all_goals
   exact ⟨hd,_,results_none rfl _ _ _,⟨_,rfl⟩,hΩ⟩
 refine wpIn_seq (h1 _ _ _ xh ?_ (fun a' w' hd h=>xi a' w' hd h .ret (.inl rfl)));rintro ex t1 H1 a1 w1 ⟨rfl,rfl,L,rfl,hL⟩ ⟨g1,R1,p1,qt,qJ⟩;have qd:AB g1 (sqT l) a1.tmps.toList:=WkL.rep (m:=100) (WkL.mkT fun p hp => .same (hL p hp).1 (hL p hp).2) qt;refine wpIn_seq (Xg Y hB hs _ a1 w1 ⟨g1,R1,p1,qd,qJ⟩ ?_ (fun a' w' hd h=>xi a' w' hd h .ret (.inl rfl)));rintro ex t2 H2 a2 w2 ⟨rfl,ls,rest,L2,rfl,k0,k2,rfl,hi,td,pw⟩ zm;exact Xh Y hs hi td pw k0 k2 zm (fun a' w' hd h=>xi a' w' hd h .normal (.inr rfl))
end Go.Proofs.YtejjlojfgcgopaaGreatDoor
namespace Go.Proofs.Fw
open Go.RowKit
section
variable {l:Nat} {g g1:Gh} {H H1:AH} {w w1:World}
theorem Rel.allocF (R:Rel g H w) (o:Obj):Rel g H (w.alloc o) where
 imm:=fun b i v hb=>(D4 (Below.heap_alloc w o b (R.lt hb))).trans (R.imm b i v hb)
 free:=R.free
 ent:=fun id e he pp=>by obtain ⟨ge,hM,hr⟩:=R.ent id e he pp;exact ⟨ge,hM,hr.keep g.le_refl (Below.heap_alloc w o _ (R.blk id ge hM)) (fun _=>rfl)⟩
 inj:=R.inj
 blk:=fun id e he=>by have:=R.blk id e he;simp;omega
theorem AK.allocF (g:Gh) (H:AH) (w:World) (o:Obj):AK g H w g H (w.alloc o) :=⟨g.le_refl,fun _ h=>⟨rfl,h⟩,fun _ e h => .inl ⟨e,h,rfl⟩,fun b hb _=>⟨Below.heap_alloc w o b hb,fun _=>rfl⟩,by simp,rfl,rfl,rfl⟩
theorem Xj (R:Rel g H w) (h:∀i,w.cell? ⟨l,i,none⟩=none) (i:Nat):g.G l i=none:=by
 cases hG:g.G l i with
 | none=>rfl
 | some v=>have:=R.imm l i v hG;rw [h] at this;cases this
theorem Rel.putO (R:Rel g H w) (h:∀i,w.cell? ⟨l,i,none⟩=none) (hfr:∀id ge,g.M id=some ge→ge.block≠l) (o:Obj):Rel g H (w.putObj l o) where
 imm:=fun b i v hb=>by
  have pp:b≠l:=fun he=>by subst he;rw [Xj R h] at hb;cases hb
  exact (D4 (World.putObj_heap_other pp)).trans (R.imm b i v hb)
 free:=R.free
 ent:=fun id e he pp=>by obtain ⟨ge,hM,hr⟩:=R.ent id e he pp;exact ⟨ge,hM,hr.keep g.le_refl (World.putObj_heap_other (hfr id ge hM)) (fun _=>rfl)⟩
 inj:=R.inj
 blk:=fun id e he=>by rw [World.putObj_size];exact R.blk id e he
theorem Xk {w:World} {l:Nat} {d:Option (List Deferred)} (h:w.heap[l]? = some (.deferred d)) (i:Nat):w.cell? ⟨l,i,none⟩=none:=by simp only [World.cell?,h]
theorem AK.putF (p:AK g H w g1 H1 w1) (h:w.heap.size≤l) (o:Obj):AK g H w g1 H1 (w1.putObj l o) :=
 ⟨p.le,p.hid,p.new,fun b hb hn=>by
  obtain ⟨h1,h2⟩:=p.old b hb hn
  exact ⟨(World.putObj_heap_other (by omega)).trans h1,h2⟩,by rw [World.putObj_size];exact p.size,p.os,p.tape,p.output⟩
end
end Go.Proofs.Fw
namespace Go.Proofs.YtejjlojfgcgopaaGreatDoor
open Go.RowKit Go.Proofs.Fw
set_option maxRecDepth 100000
set_option maxHeartbeats 4000000
@[simp] theorem nX (s:List UInt8) (c:Int):A3 zP 156 [(0,.str s),(2,.iface 134 (.int .i64 c))]=some (.agg [.str s,.int .i64 0,.iface 134 (.int .i64 c)]):=by kernel_rfl
theorem Xl (s:List UInt8) (hs:s.length<1000000) (hl:65536<s.length) (H:AH):CS zP AY 79 [.str s] H (.tup [Am.av (CW s).1,erI (CW s).2]) H:=by
 have h1:CW s=([],some ([(Jo,0)],4)):=by unfold CW;rw [if_pos hl]
 rw [h1];have hz:erI (some ([(Jo,0)],4)) = .iface 152 (.vptr [.str Jo,.int .i64 0,.iface 134 (.int .i64 4)] 0):=rfl;rw [hz];have hl':(65536:Int)<s.length:=by omega
 refine CS.tr0 DQ Tryz.func79 (by kernel_rfl) 0 (by simp [Tryz.f79]) (fun B hB hG => ?_) (by simp) (by simp) H;refine Tr.goD CG hG (by kernel_rfl) ?_;simp [Tryz.f79,hl',hl,Jo]
theorem Xm {g:Gh} {w:World} (R:Rel g [] w) {g8:Gh} {w8:World} {e:Er} {v0:AV} {ls:List (List UInt8)} {K:AH} (R8:Rel g8 (some (.box [v0])::some (.box [erI e])::K) w8) (p8:AK g [] w g8 (some (.box [v0])::some (.box [erI e])::K) w8)
  (hv:strip 0 v0=Am.av ls) (sJ:v0.one=true) {L:List (Nat × AV)} (h2:L.lookup 2=some (.ptr 0 0)) (h3:L.lookup 3=some (.ptr 1 0)) {tmps:Array Value} (hT:AB g8 (mkT 34 L) tmps.toList) :
  ∃v,(results Tryz.f79 tmps).run zP w8 = .ok v w8∧∃g' cv,Ending.returned v = .returned cv∧Rel g' [] w8∧AK g [] w g' [] w8∧AA g' (.tup [Am.av ls,erI e]) cv:=by
 have tT:BE zP (some (.box [v0])::some (.box [erI e])::K) (mkT 34 L) Tryz.f79.results.toList=some [v0,erI e]:=by simp [Tryz.f79,JF,h2,h3]
 obtain ⟨us,h5,h6⟩:=Ju (P:=zP) R8 hT _ _ tT
 have pq:(results Tryz.f79 tmps).run zP w8 = .ok (if hs:(List.toArray us).size=1 then (List.toArray us)[0] else .tuple (List.toArray us)) w8:=by have e1:results Tryz.f79 tmps=(do let vs ←Tryz.f79.results.mapM (JC tmps);pure (if hs:vs.size=1 then vs[0] else .tuple vs)):=rfl;rw [e1,Array.mapM_eq_mapM_toList];simp only [Sem.run_bind,Sem.run_map,h6,Result.andThen_ok];rfl
 have pu:strip 0 (frz 0 (some (.box [v0])::some (.box [erI e])::K) 0 (BK [v0,erI e])) = .tup [Am.av ls,erI e]:=by simp [BK,frz,strip,CX,hv]
 obtain ⟨g2,k1,k2,k3⟩:=Rel.gc_end R R8 p8 (Kz h5) 0 (by rw [List.length_nil,pu];simp [low,lowL]) (by simp);rw [List.length_nil,pu] at k3;rw [List.length_nil,List.take_zero] at k1 k2;exact ⟨_,pq,g2,_,rfl,k1,k2,k3⟩
end Go.Proofs.YtejjlojfgcgopaaGreatDoor
namespace Go.Proofs.Fw
open Go.RowKit
theorem Xn {P:Program} {E:Env} {f0:FuncId} {a0:List AV} {H0:AH} {v0:AV} {H1:AH} {O:Orc} (h:CS P E f0 a0 H0 v0 H1) (hk:Ci H0 H1) (X:Cx O P E):Cx (orP f0 a0 H0 v0 H1 O) P E :=
 ⟨fun f args H v H' ho=>by
  unfold orP at ho
  split at ho
  ·rename_i hc
   obtain ⟨rfl,rfl,rfl⟩:=hc;injection ho with ho;simp only [Prod.mk.injEq] at ho;obtain ⟨rfl,rfl⟩:=ho;exact ⟨h,hk⟩
  ·exact X.sound f args H v H' ho,X.meth,X.mix⟩
theorem Xo {P:Program} {i:FuncId} (hg:AE P i=true) (xs:Array Value) (w:World):(callFunc i xs).run P w = .ok (.enter i xs) w:=by
 unfold AE at hg;unfold callFunc;simp only [Sem.run_bind,run_program,Result.andThen_ok]
 split at hg
 ·rename_i fn vj
  simp only [Bool.and_eq_true,Bool.not_eq_true'] at hg;simp only [vj];rw [if_neg (by rw [hg.2];simp)];have:fn.body.isNone=false:=by cases hb:fn.body<;>simp_all
  rw [this];rfl
 ·cases hg
theorem Xp {g:Gh} {t:List AV} {a:Act} {k:Nat} {f:FuncId} {caps:List AV} (hT:AB g t a.tmps.toList) (h:t[k]? = some (.func (.func f) [] caps)):∃cs,a.eval (.tmp k) = .func (.func f) #[] (List.toArray cs)∧AB g caps cs:=by
 obtain ⟨v,h1,h2⟩:=hT.get h;simp only [AA,AB] at h2;obtain ⟨fs,cs,rfl,rfl,h3⟩:=h2;refine ⟨cs,?_,h3⟩
 show a.tmps.getD k undef=_
 rw [Array.getD_eq_getD_getElem?,←Array.getElem?_toList,h1];rfl
end Go.Proofs.Fw
namespace Go.Proofs.YtejjlojfgcgopaaGreatDoor
open Go.RowKit Go.Proofs.Fw
set_option maxRecDepth 100000
set_option maxHeartbeats 4000000
noncomputable def lsB:Code:=Ar Tryz.f79
noncomputable def ls0:Code:=Bh lsB
noncomputable def ls1:Code:=Bh (Aj lsB)
noncomputable def ls3:Code:=Bh (Aj (Aj lsB))
noncomputable def ls4:Code:=Bh (Bh (Aj (Aj (Aj lsB))))
noncomputable def ls5:Code:=Aj (Aj (Aj (Aj lsB)))
theorem Xq:lsB = .seq ls0 (.seq ls1 (.seq ls3 (.seq (.seq ls4 (.block 0 (.rangeFunc (.tmp 15) #[16] I6 GD))) ls5))):=by kernel_rfl
theorem Xr {B:Bs} (hG:An AY B.g) (s:List UInt8) (hl:s.length≤65536) {Q:Exit→Act→World→Prop} {a:Act} {w:World} (hs:GL B [] (mkT 34 [(0,.str s)]) [] a w)
  (hk:∀a' w',GL B [] (mkT 34 [(2,.ptr 0 0),(3,.ptr 1 0),(4,.ptr 2 0),(15,.func (.func 198) [] [.ptr 4 0,.ptr 3 0,.ptr 5 0])]) (hS none [] s) a' w' →
   (Code.block 0 (.rangeFunc (.tmp 15) #[16] I6 GD)).wpIn (C1 none) 0 zP (Exit.then (ls5.wpIn (C1 none) 0 zP Q) Q) a' w'):lsB.wpIn (C1 none) 0 zP Q a w:=by
 have qz:¬(65536:Int)<s.length:=by omega
 have p6:¬65536<s.length:=by omega
 rw [Xq]
 have t0:TrR none zP B (fun _=>False) [] ls0 (mkT 34 [(0,.str s)]) [] (fun e t H=>e = .normal∧t=mkT 34 [(3,.ptr 1 0),(2,.ptr 0 0),(0,.str s)]∧H=[some (.box [.nilSlice]),some (.box [.nilIface])]):=by refine TrR.go CG hG [] (by kernel_rfl) ?_;simp [ls0,lsB,Bh,Aj,Tryz.f79]
 refine wpIn_seq (t0 _ a w hs ?_ (fun _ _ _ h=>h.elim));rintro ex t1 H1 a1 w1 ⟨rfl,rfl,rfl⟩ rF
 have t1:TrR none zP B (fun _=>False) [] ls1 (mkT 34 [(3,.ptr 1 0),(2,.ptr 0 0),(0,.str s)]) [some (.box [.nilSlice]),some (.box [.nilIface])] (fun e t H=>e = .normal∧(∃L,t=mkT 34 L∧∀p∈([(3,.ptr 1 0),(2,.ptr 0 0),(0,.str s)]:List (Nat × AV)),(L.lookup p.1).getD .undef=p.2∧low 100 p.2=true)∧H=[some (.box [.nilSlice]),some (.box [.nilIface])]):=by refine TrR.go CG hG [] (by kernel_rfl) ?_;simp [ls1,lsB,Bh,Aj,Tryz.f79,qz,p6];exact ⟨_,rfl,by simp [List.lookup]⟩
 refine wpIn_seq (t1 _ a1 w1 rF ?_ (fun _ _ _ h=>h.elim));rintro ex t2 H2 a2 w2 ⟨rfl,⟨L,rfl,hL⟩,rfl⟩ ⟨g2,R2,p2,qd,qD⟩;have zn:AB g2 (mkT 34 [(3,.ptr 1 0),(2,.ptr 0 0),(0,.str s)]) a2.tmps.toList:=WkL.rep (m:=100) (WkL.mkT fun p hp => .same (hL p hp).1 (hL p hp).2) qd
 have t3:TrR none zP B (fun _=>False) [] ls3 (mkT 34 [(3,.ptr 1 0),(2,.ptr 0 0),(0,.str s)]) [some (.box [.nilSlice]),some (.box [.nilIface])] (fun e t H=>e = .normal∧t=mkT 34 [(4,.ptr 2 0),(3,.ptr 1 0),(2,.ptr 0 0),(0,.str s)]∧H=[some (.box [.nilSlice]),some (.box [.nilIface]),some (.box [.nilSlice])]):=by refine TrR.go CG hG [] (by kernel_rfl) ?_;simp [ls3,lsB,Bh,Aj,Tryz.f79]
 refine wpIn_seq (t3 _ a2 w2 ⟨g2,R2,p2,zn,qD⟩ ?_ (fun _ _ _ h=>h.elim));rintro ex t3 H3 a3 w3 ⟨rfl,rfl,rfl⟩ sy
 have t4:TrR none zP B (fun _=>False) [] ls4 (mkT 34 [(4,.ptr 2 0),(3,.ptr 1 0),(2,.ptr 0 0),(0,.str s)]) [some (.box [.nilSlice]),some (.box [.nilIface]),some (.box [.nilSlice])] (fun e t H=>e = .normal∧(∃L,t=mkT 34 L∧∀p∈([(2,.ptr 0 0),(3,.ptr 1 0),(4,.ptr 2 0),(15,.func (.func 198) [] [.ptr 4 0,.ptr 3 0,.ptr 5 0])]:List (Nat × AV)),(L.lookup p.1).getD .undef=p.2∧low 100 p.2=true)∧H=hS none [] s):=by
  have X:=Xn (XV s [.nilSlice] [.nilIface] [.nilSlice]) ⟨by simp [E5],fun id hid h=>by
   simp only [List.length_cons,List.length_nil,Nat.zero_add,Nat.reduceAdd] at hid
   rcases (by omega:id=0∨id=1∨id=2) with rfl|rfl|rfl<;>cases h⟩ CG
  have hO:=EV 125 [.str s,.str [10]] [some (.box [.nilSlice]),some (.box [.nilIface]),some (.box [.nilSlice])] (.func (.func 198) [] [.ptr 4 0,.ptr 3 0,.ptr 5 0]) ([some (.box [.nilSlice]),some (.box [.nilIface]),some (.box [.nilSlice])]++E5 s) Bk;generalize orP 125 [.str s,.str [10]] [some (.box [.nilSlice]),some (.box [.nilIface]),some (.box [.nilSlice])] (.func (.func 198) [] [.ptr 4 0,.ptr 3 0,.ptr 5 0]) ([some (.box [.nilSlice]),some (.box [.nilIface]),some (.box [.nilSlice])]++E5 s) Bk=O at X hO;refine TrR.go X hG [] (by kernel_rfl) ?_;simp [ls4,lsB,Bh,Aj,Tryz.f79,hO];exact ⟨⟨_,rfl,by simp [List.lookup]⟩,rfl⟩
 refine wpIn_seq (wpIn_seq (t4 _ a3 w3 sy ?_ (fun _ _ _ h=>h.elim)));rintro ex t4 H4 a4 w4 ⟨rfl,⟨L4,rfl,yc⟩,rfl⟩ ⟨g4,R4,p4,tS,rz⟩;exact hk a4 w4 ⟨g4,R4,p4,WkL.rep (m:=100) (WkL.mkT fun p hp => .same (yc p hp).1 (yc p hp).2) tS,rz⟩
def LsE (g:Gh) (w:World) (s:List UInt8):Ending→World→Prop:=fun e w'=>∃g' cv,e = .returned cv∧Rel g' [] w'∧AK g [] w g' [] w'∧AA g' (.tup [Am.av (CW s).1,erI (CW s).2]) cv
def LsQ (g:Gh) (w:World) (s:List UInt8):Exit→Act→World→Prop:=bodyPostM (C1 none) 0 zP Tryz.f79 (LsE g w s)
theorem Ri {g:Gh} {w:World} (R:Rel g [] w) {s:List UInt8} {g7:Gh} {w7:World} {e:Er} {v0:AV} {ls:List (List UInt8)} {K:AH} (R7:Rel g7 (some (.box [v0])::some (.box [erI e])::K) w7) (p7:AK g [] w g7 (some (.box [v0])::some (.box [erI e])::K) w7)
  (hv:strip 0 v0=Am.av ls) (sJ:v0.one=true) (hs:CW s=(ls,e)) {L:List (Nat × AV)} (h2:L.lookup 2=some (.ptr 0 0)) (h3:L.lookup 3=some (.ptr 1 0)) {a:Act} (hT:AB g7 (mkT 34 L) a.tmps.toList)
  {D:Nat} (hd:a.defers=[{target := .collected D,args := #[]}]) (hD:w7.heap[D]? = some (.deferred (some []))) (hfr:∀id ge,g7.M id=some ge→ge.block≠D) (hw:w.heap.size≤D):LsQ g w s .ret a w7:=by
 show LeavesInM _ _ _ _ _ _ a.defers .returning w7
 rw [hd];refine ⟨by simp,.inl ⟨_,_,rfl,run_takeDeferred hD,?_⟩⟩;obtain ⟨v,hr,g',cv,h1,h4,h5,h6⟩:=Xm R (R7.putO (Xk hD) hfr (.deferred none)) (p7.putF hw (.deferred none)) hv sJ h2 h3 hT;injection h1 with h1;subst h1;refine ⟨v,hr,g',v,rfl,h4,h5,?_⟩;rw [hs];exact h6
theorem Xs {g:Gh} {w:World} (R:Rel g [] w) (hG:An AY g) {s:List UInt8} (hl:s.length≤65536) {a:Act} {w4:World} (hs:GL ⟨g,[],w,R⟩ [] (mkT 34 [(2,.ptr 0 0),(3,.ptr 1 0),(4,.ptr 2 0),(15,.func (.func 198) [] [.ptr 4 0,.ptr 3 0,.ptr 5 0])]) (hS none [] s) a w4) :
  (Code.block 0 (.rangeFunc (.tmp 15) #[16] I6 GD)).wpIn (C1 none) 0 Tryz.prog (Exit.then (ls5.wpIn (C1 none) 0 Tryz.prog (LsQ g w s)) (LsQ g w s)) a w4:=by
 obtain ⟨g4,R4,p4,tS,rz⟩:=hs;have p4:AK g [] w g4 (hS none [] s) w4:=p4;obtain ⟨cs,tT,sV⟩:=Xp tS (k:=15) (f:=198) (caps:=[.ptr 4 0,.ptr 3 0,.ptr 5 0]) (by simp [GH,List.lookup]);refine wpIn_block (wpIn_rangeFunc fun fn _ => ?_)
 have yd:AB g4 (mkT 34 [(2,.ptr 0 0),(3,.ptr 1 0),(4,.ptr 2 0)]) a.tmps.toList:=by
  have hh:∀p∈([(2,.ptr 0 0),(3,.ptr 1 0),(4,.ptr 2 0)]:List (Nat × AV)),(([(2,.ptr 0 0),(3,.ptr 1 0),(4,.ptr 2 0),(15,.func (.func 198) [] [.ptr 4 0,.ptr 3 0,.ptr 5 0])]:List (Nat × AV)).lookup p.1).getD .undef=p.2∧low 100 p.2=true:=by simp
  exact WkL.rep (m:=100) (WkL.mkT fun p hp => .same (hh p hp).1 (hh p hp).2) tS
 generalize hD:w4.heap.size=D;obtain ⟨w5,vk⟩:∃w5,(w4.alloc (.deferred (some []))).alloc (.loop (HE fn a.tmps D .ready none))=w5:=⟨_,rfl⟩
 have R5:Rel g4 (hS none [] s) w5:=by rw [←vk];exact (R4.allocF _).allocF _
 have p5:AK g4 (hS none [] s) w4 g4 (hS none [] s) w5:=by rw [←vk];exact AK.trans R4 (AK.allocF _ _ _ _) (AK.allocF _ _ _ _)
 have ye:w5.heap[D+1]? = some (.loop (HE fn a.tmps D .ready none)):=by
  rw [←vk,←hD];have:=World.alloc_heap_new (w4.alloc (.deferred (some []))) (.loop (HE fn a.tmps w4.heap.size .ready none))
  rwa [World.size_alloc] at this
 have hD5:w5.heap[D]? = some (.deferred (some [])):=by rw [←vk,←hD];exact (Below.heap_alloc _ _ _ (by simp)).trans (World.alloc_heap_new w4 _)
 have hfr:∀id ge,g4.M id=some ge→ge.block<D:=fun id ge h=>by have:=R4.blk id ge h;omega
 have zo:D+1<w5.heap.size:=(Array.getElem?_eq_some_iff.1 ye).1;have Y:Yl ⟨g4,hS none [] s,w5,R5⟩ (D+1) D fn a.tmps:=⟨ye,fun id ge h=>by have:=hfr id ge h;omega,yd,hG.mono p4.le⟩
 refine ⟨D+1,[{target := .collected D,args := #[]}],w5,{target := .fn (.func 198) (List.toArray cs),args := #[.func (.yield (D+1)) #[] #[]]},w5,198,
  List.toArray (.func (.yield (D+1)) #[] #[]::cs),w5,?_,?_,fun _ _=>trivial,?_,(fun h=>by cases h),?_⟩
 ·rw [←vk,←hD];exact run_enterLoop_outer _ _ _ _ _
 ·simp only [resolve,tT]
  simp [go_sem]
 ·have hc:=Xo (P:=Tryz.prog) (i:=198) (by kernel_rfl) (#[.func (.yield (D+1)) #[] #[]]++List.toArray cs) w5
  first
  | (simp [invoke];done)
  | (simpa [invoke] using hc)
 ·refine (Xi Y rfl (by omega) (cargs := .func (.yield (D+1)) #[] #[]::cs) ?_).mono ?_
  ·simp only [AB]
   exact ⟨_,_,rfl,by simp [AA,AB],sV⟩
  rintro e w6 ⟨⟨v,rfl⟩,g6,H6,ls,st,pe,R6,q6,yf,hr⟩;have q6:CI (D+1) g4 (hS none [] s) w5 g6 H6 w6:=q6;have zp:∀id ge,g6.M id=some ge→ge.block≠D+1:=q6.foreign zo (fun id ge h=>by have:=hfr id ge h;omega);have yg:∀id ge,g6.M id=some ge→ge.block≠D:=q6.foreign (by omega) (fun id ge h=>by have:=hfr id ge h;omega);have pu:st ≠ .busy:=by rcases hr with ⟨rfl,_⟩|⟨rfl,_⟩|⟨rfl,_⟩<;>simp
  have yh:=run_endLoop (P:=Tryz.prog) yf pu;obtain ⟨w7,xj⟩:∃w7,w6.putObj (D+1) (.loop {HE fn a.tmps D st pe with state := .exhausted})=w7:=⟨_,rfl⟩
  rw [xj] at yh;have R7:Rel g6 H6 w7:=by rw [←xj];exact R6.putF yf zp _
  have q7:CI (D+1) g4 (hS none [] s) w5 g6 H6 w7:=by rw [←xj];exact q6.trans R5 (CI.put _ _ _ _ _)
  have xk:w7.heap[D]? = some (.deferred (some [])):=((q7.old D (by omega) (by omega) (fun id e ge _ _ hM=>by have:=hfr id ge hM;omega)).1).trans hD5;have yi:w.heap.size≤D:=by rw [←hD];exact p4.size
  have p7:AK g [] w g6 H6 w7:=((CI.of (l:=D+1) (AK.trans R p4 p5)).trans R q7).post (.inl (by omega));have yj:AB g6 (mkT 34 [(2,.ptr 0 0),(3,.ptr 1 0),(4,.ptr 2 0)]) a.tmps.toList:=AB.mono q7.le _ _ yd
  have go:∀rest,H6=hS none ls rest→EQ [] s=(ls,none)→ls5.wpIn (C1 none) 0 Tryz.prog (LsQ g w s) {a with defers:=[{target := .collected D,args := #[]}]++a.defers} w7:=by
   intro rest hH hc;subst hH
   have t5:TrR none Tryz.prog ⟨g6,hS none ls rest,w7,R7⟩ (fun _=>False) [{target := .collected D,args := #[]}] ls5 (mkT 34 [(2,.ptr 0 0),(3,.ptr 1 0),(4,.ptr 2 0)]) (hS none ls rest) (fun e t H=>e = .ret∧(∃L,t=mkT 34 L∧∀p∈([(2,.ptr 0 0),(3,.ptr 1 0)]:List (Nat × AV)),L.lookup p.1=some p.2)∧∃K,H=some (.box [Am.tk 6 ls])::some (.box [erI none])::K):=by
    refine TrR.go CG (hG.mono p7.le) [] (by kernel_rfl) ?_;unfold hS
    by_cases rn:ls=[]
    ·subst rn
     simp [ls5,lsB,Bh,Aj,Tryz.f79];exact ⟨_,rfl,by simp [List.lookup]⟩
    ·simp [ls5,lsB,Bh,Aj,Tryz.f79,rn]
     exact ⟨_,rfl,by simp [List.lookup]⟩
   refine t5 _ _ w7 ⟨g6,R7,AK.refl _ _ _,yj,by rw [rz];rfl⟩ ?_ (fun _ _ _ h=>h.elim);rintro ex t8 H8 a8 w8 ⟨rfl,⟨L,rfl,hL⟩,K,rfl⟩ ⟨g8,R8,p8,hT8,hd8⟩;have p8:AK g6 (hS none ls rest) w7 g8 _ w8:=p8;have uY:=AK.foreign R7 p8 (Array.getElem?_eq_some_iff.1 xk).1 yg;exact Ri R R8 (AK.trans R p7 p8) (v0:=Am.tk 6 ls) (ls:=ls) (Am.tk_cut (by decide) ls) (Am.tk_one 6 ls) (by rw [Ra s hl,hc]) (hL (2,.ptr 0 0) (by simp)) (hL (3,.ptr 1 0) (by simp)) hT8 hd8 (uY.1.trans xk) uY.2 yi
  refine ⟨pe,w7,yh,?_⟩;rcases hr with ⟨rfl,rfl,rest,hH,hc⟩|⟨rfl,rfl,rest,hH,hc⟩|⟨rfl,rfl,rest,e,hH,hc⟩
  ·exact go rest hH hc
  ·exact wpIn_exit (go rest hH hc)
  ·subst hH
   refine wpIn_ret ?_;exact Ri R R7 p7 (v0 := .nilSlice) (ls:=[]) rfl rfl (by rw [Ra s hl,hc]) (by simp [List.lookup]) (by simp [List.lookup]) yj (by rw [rz];rfl) xk yg yi
theorem Xt (s:List UInt8) (hl:s.length≤65536):CS zP AY 79 [.str s] [] (.tup [Am.av (CW s).1,erI (CW s).2]) []:=by
 intro g w cargs R hG hA;refine dQ (n:=0) (callsIn_of_wp_marks Tryz.func79 (show (Tryz.f79).body=some lsB by kernel_rfl) trivial ?_)
 have hT:AB g (mkT 34 (D8 0 [.str s])) (List.toArray cargs++Array.replicate ((Tryz.f79).ntmps-(List.toArray cargs).size) undef).toList:=by refine AB.mkT_args (by simp) ?_;simp only [Array.toList_append,Array.toList_replicate,List.size_toArray,hA.length];exact hA.append (AB.replicate _ (by simp [AV.nothing,AA,AB,undef]))
 exact Xr (B:=⟨g,[],w,R⟩) hG s hl ⟨g,R,AK.refl _ _ _,hT,rfl⟩ (fun a' w' h=>Xs R hG hl h)
theorem Xu (s:List UInt8) (hs:s.length<1000000) (H:AH):CS zP AY 79 [.str s] H (.tup [Am.av (CW s).1,erI (CW s).2]) H:=by
 by_cases hl:s.length≤65536
 ·exact CS.frame (Xt s hl) DQ rfl H
 ·exact Xl s hs (by omega) H
def Hj (s:List UInt8):List Nd × List (List UInt8) × Er:=match CW s with
 | (_,some y)=>([],[],some y)
 | (ls,none)=>match ofW ls with
  | (_,some y)=>([],[],some y)
  | (l,none)=>(l,ls,none)
def Hk (x:List Nd × List (List UInt8) × Er):AV := .tup [ndE.av x.1,Am.av x.2.1,erI x.2.2]
noncomputable def MD:AG zP AY:=AG.pure 79 (fun s:List UInt8=>s.length<1000000) (fun s=>[.str s]) (fun s => .tup [Am.av (CW s).1,erI (CW s).2]) (fun s h H=>Xu s h H) (fun x y _ _ h=>by
 simp only [List.cons.injEq,AV.str.injEq,and_true] at h
 rw [h])
noncomputable def ME:AG zP AY:=AG.pure 48 (fun ls:List (List UInt8)=>ls.length<1000000∧∀s∈ls,s.length<1000000) (fun ls=>[Am.av ls]) (fun ls=>Gd (ofW ls)) (fun ls h H=>RS ls h.1 h.2 H) (fun x y _ _ h=>by
 simp only [List.cons.injEq,and_true] at h
 rw [Am.av_inj h])
theorem Xv (s:List UInt8) (hs:s.length<900000) (H:AH):CS zP AY 37 [.str s] H (Hk (Hj s)) H:=by
 have hL:([MD,ME,DJ fAs].map (·.f)).Nodup:=show ([79,48,71]:List Nat).Nodup by decide
 have X:=Bv [MD,ME,DJ fAs] Jb Af;have h0:s.length<1000000:=by omega
 have f1:=fun H=>DL hL MD (by simp) (x:=s) (H:=H) h0
 have f2:=fun (ls:List (List UInt8)) H (h1:ls.length<1000000∧∀s∈ls,s.length<1000000)=>DL hL ME (by simp) (x:=ls) (H:=H) h1
 have f3:=fun (o:Option (List AV)) (H:AH)=>DL hL (DJ fAs) (by simp) (x:=(o,0)) (H:=some (.box [.nilPtr])::H) ⟨.nilPtr,rfl,rfl⟩
 generalize oOf [MD,ME,DJ fAs]=O at X f1 f2 f3;have f1:∀H,O 79 [.str s] H=some (.tup [Am.av (CW s).1,erI (CW s).2],H):=f1;have f2:∀ls H,(ls.length<1000000∧∀s∈ls,s.length<1000000)→O 48 [Am.av ls] H=some (Gd (ofW ls),H):=f2;have g3:O 71 [.nilIface,.iface 154 (.ptr 0 0)] [some (.box [.nilPtr])]=some (.bool false,[some (.box [.nilPtr])]):=f3 none [];have g4:∀cs,O 71 [.iface 152 (.vptr cs 0),.iface 154 (.ptr 0 0)] [some (.box [.nilPtr])]=some (.bool true,[some (.box [.vptr cs 0])]):=fun cs=>f3 (some cs) []
 have qR:=OL s hs;refine CS.tr0 DQ Tryz.func37 (by kernel_rfl) 0 (by simp [Tryz.f37]) (fun B hB hG => ?_) (by simp [Hk]) (by simp) H;refine Tr.goD X hG (by kernel_rfl) ?_;unfold Hj;generalize CW s=q at *;obtain ⟨ls,e⟩:=q;simp only at f1 qR ⊢;cases e with
 | some y =>
  obtain ⟨l,c⟩:=y;cases l with
  | nil=>exact absurd rfl (qR.1 [] c rfl).1
  | cons p l =>have hz:erI (some (p::l,c)) = .iface 152 (.vptr [.str p.1,.int .i64 (p.2:Int),AZ (CO l) c] 0):=rfl;rw [hz] at f1;simp [Tryz.f37,f1,g4,Hk];refine LpD.turns X hG [] [] (by kernel_rfl) ?_;simp [hz]
 | none =>
  obtain ⟨hn,hl⟩:=qR.2 rfl;have f2:=fun H=>f2 ls H ⟨hn,hl⟩
  simp only;generalize ofW ls=r at *;obtain ⟨l,e⟩:=r;simp only [Gd] at f2;cases e with
  | some y =>
   obtain ⟨l1,c⟩:=y;cases l1 with
   | nil =>have hz:erI (some ([],c)) = .iface 134 (.int .i64 c):=rfl;rw [hz] at f2;simp [Tryz.f37,f1,f2,g3,Hk,hz]
   | cons p l1 =>have hz:erI (some (p::l1,c)) = .iface 152 (.vptr [.str p.1,.int .i64 (p.2:Int),AZ (CO l1) c] 0):=rfl;rw [hz] at f2;simp [Tryz.f37,f1,f2,g3,Hk,hz]
  | none=>simp [Tryz.f37,f1,f2,g3,Hk]
noncomputable def fAt:AG zP AJ:=AG.pure 24 (fun _:List UInt8 × Int × Int=>True) (fun x=>[.str x.1,.int .i64 x.2.1,.int .i64 x.2.2]) (fun x => .agg [.slice .full 2 1 [.str x.1,.int .i64 x.2.1],.int .i64 x.2.2])
 (fun x _ H=>(AS.toF (AS.toX (AS.toN NF)) _ _ _ _ _ (LQ x.1 x.2.1 x.2.2 H)).1) (fun x y _ _ h=>by
  obtain ⟨a,b,c⟩:=x;obtain ⟨a',b',c'⟩:=y;simp only [List.cons.injEq,AV.str.injEq,AV.int.injEq,true_and,and_true] at h;obtain ⟨rfl,rfl,rfl⟩:=h
  rfl)
noncomputable def Rj:AG zP AJ:=AG.pure 23 (fun x:List (List UInt8 × Int) × Int × Own=>x.2.1≠0∧x.1.length<1000∧(x.2.2 = .unk∨x.2.2 = .full)) (fun x=>[AZ x.1 x.2.1,.agg [.slice x.2.2 2 x.1.length (B0 x.1),.int .i64 x.2.1]]) (fun _ => .bool true)
 (fun x h H=>CS.toF (CS.toX (js x.1 x.2.1 h.1 h.2.1 x.2.2 h.2.2 H))) (fun x y _ _ h=>rfl)
def k7S:List UInt8:=[105,110,116,101,103,101,114,32,120,10,100,111,32,120,32,61,32,49,44,32,50,10,10,105,102,32,40,120,32,60,32,50,41,32,116,104,101,110,10,112,114,105,110,116,32,120,10,101,108,115,101,10,101,110,100,32,105,102,10,101,110,100,32,100,111,10]
def k7D:List UInt8:=[100,111,32,120,32,61,32,49,44,32,50,10]
def k7E:List UInt8:=[101,108,115,101,10]
def kn7:List Nd:=(Hj k7S).1
def Km:List (List UInt8):=(Hj k7S).2.1
theorem Xw:(Hj k7S).2.2=none:=by kernel_rfl
theorem Xx:Hj k7S=(kn7,Km,none):=by
 have:=Xw;unfold kn7 Km
 revert this
 generalize Hj k7S=q;obtain ⟨a,b,c⟩:=q;rintro rfl;rfl
theorem Rk:Km.length=8:=by kernel_rfl
theorem Xy:kn7.length=2:=by kernel_rfl
theorem Kn:szL kn7=4:=by kernel_rfl
def I7:List AV:=ndE.row kn7
theorem Xz:ndE.av kn7 = .slice .unk 34 2 I7:=by have h:=Xy;unfold I7;rw [ndE.av_ne (fun hh=>by rw [hh] at h;cases h),h];rfl
def Fj:Nd:=(kn7[1]?).getD nd0
theorem X1:kn7[1]? = some Fj:=by kernel_rfl
theorem OP (f:Nat) (hf:f<34):I7[34+f]? = (ndC Fj)[f]? := ndE.row_cell X1 f hf
theorem X2:Fj.end_=7:=by kernel_rfl
theorem X3:Fj.mid = -1:=by kernel_rfl
theorem X4:Fj.body.length=1:=by kernel_rfl
def Ko:Nd:=(Fj.body[0]?).getD nd0
theorem Rl:Fj.body[0]? = some Ko:=by kernel_rfl
theorem X5:Ko.mid=5:=by kernel_rfl
theorem X6:Ko.end_=6:=by kernel_rfl
def I8:Nd:=(GB kn7 4).2
theorem X7:(GB kn7 4).1=false:=by kernel_rfl
theorem X8:I8.st.kind=9:=by kernel_rfl
theorem X9:(ofW [k7D,k7E]).2=some ([(DH,1)],12):=by kernel_rfl
theorem YA:(ofW [k7D]).2=some ([(DH,0)],11):=by kernel_rfl
theorem YB (x y:Int):HB (.int .i64 x) (.int .i64 y)=some (.int .i64 (max x y)):=by
 simp [HB]
 try omega
theorem YC:AE zP 78=true:=by kernel_rfl
def knF (s:Nat × Int) (d:Int):Bool × Nat × Int:=(true,s.1+1,max s.2 d)
theorem YD (n:Nd) (d:Int) (c:Nat) (hc:c<4611686018427387904) (m:Int) {H:AH} {a b:Nat} (rg:a≠b) (ha:H.at a=some (.box [.int .i64 (c:Int)])) (hb:H.at b=some (.box [.int .i64 m])) :
  CS zP AY 78 [.agg (ndC n),.int .i64 d,.ptr a 0,.ptr b 0] H (.bool true) ((H.set a (some (.box [.int .i64 ((c+1:Nat):Int)]))).set b (some (.box [.int .i64 (max m d)]))):=by
 have hl:=Br n;have l2:=fun (l:List AV) (h:lowL 0 l=true)=>Ah (Nat.zero_le 2) l h
 have w1:IntKind.i64.wrap ((c:Int)+1)=((c+1:Nat):Int):=by rw [Ab (by omega) (by omega)];rfl
 have key:=CS.of_Tr (P:=zP) (E:=AY) (f:=78) (c:=Ar Tryz.f78) (args:=[.agg (ndC n),.int .i64 d,.ptr 0 0,.ptr 1 0]) (H0:=[some (.box [.int .i64 (c:Int)]),some (.box [.int .i64 m])]) (H1:=[some (.box [.int .i64 ((c+1:Nat):Int)]),some (.box [.int .i64 (max m d)])])
  (v := .bool true) Tryz.func78 (by kernel_rfl) 0 (by simp [Tryz.f78]) (fun B hB hG=>by
   refine Tr.goW Cv hG (by kernel_rfl) ?_
   simp [Tryz.f78,w1,-Int.natCast_add,YB]) rfl (by simp [AP,Aq])
 have:=CS.embed (fun i=>if i=0 then a else b) (k:=2) (H:=H) (H':=(H.set a (some (.box [.int .i64 ((c+1:Nat):Int)]))).set b (some (.box [.int .i64 (max m d)]))) key rfl rfl (by
  intro i j hi hj he;rcases (by omega:i=0∨i=1) with rfl|rfl<;>rcases (by omega:j=0∨j=1) with rfl|rfl<;>simp at he ⊢
  ·exact rg he
  ·exact rg he.symm) DQ (by simp [l2 _ hl]) rfl (by simp [AP,Aq]) (by simp [AP,Aq]) (by
  intro i hi;rcases (by omega:i=0∨i=1) with rfl|rfl
  ·rw [if_pos rfl,ha];rfl
  ·rw [if_neg (by decide),hb];rfl) (by
  intro i hi;rcases (by omega:i=0∨i=1) with rfl|rfl
  ·rw [if_pos rfl,CZ (fun h=>rg h.symm),Fs ha];rfl
  ·rw [if_neg (by decide),Fs (by rw [CZ rg];exact hb)];rfl) (by
  intro j hj;have h0:=hj 0 (by decide);have h1:=hj 1 (by decide);simp at h0 h1
  rw [CZ h1,CZ h0])
 simpa [AM,ren,BA _ _ hl] using this
def Rn (a b:Nat) (rg:a≠b):Clo 78 (Nat × Int) where
 caps:=[.ptr a 0,.ptr b 0]
 ids:=fun s=>[(a,[.int .i64 (s.1:Int)]),(b,[.int .i64 s.2])]
 keys:=[a,b]
 key:=fun _=>rfl
 nodup:=by simp [rg]
 inj:=fun s s' h=>by simp at h;obtain ⟨c,m⟩:=s;obtain ⟨c',m'⟩:=s';simp only at h;rw [h.2,show c=c' by omega]
 lowC:=fun s x hx=>by simp at hx;rcases hx with rfl|rfl<;>rfl
 Kp:=fun H=>a<H.length∧b<H.length
 kpA:=fun H K h=>by rw [List.length_append];omega
 kpW:=fun s H h=>by rw [GA];exact h
 kpL:=fun H h=>⟨fun i hi=>by
  simp at hi;rcases hi with rfl|rfl
  ·exact h.1
  ·exact h.2,by simp [lowL,low,h.1,h.2]⟩
 ok:=fun j s=>s.1+j<4611686018427387904
 f:=fun s _ d=>knF s d
 okN:=fun j s n d h=>by have h:s.1+(j+1)<4611686018427387904:=h;show s.1+1+j<4611686018427387904;omega
 okM:=fun j s h=>by have h:s.1+(j+1)<4611686018427387904:=h;show s.1+j<4611686018427387904;omega
 cs:=fun j s n d H h hK pu tP hd=>YD n d s.1 (by have h:s.1+(j+1)<4611686018427387904:=h;omega) s.2 rg (pu (a,[.int .i64 (s.1:Int)]) (by simp)) (pu (b,[.int .i64 s.2]) (by simp))
def I9 (ow:Own) (ls:List (List UInt8)):AV:=if ls=[] then .nilSlice else .slice ow 1 ls.length (Am.row ls)
theorem YE {ow ow':Own} {l m:List (List UInt8)} (h:I9 ow l=I9 ow' m):l=m:=by
 apply Am.av_inj;unfold I9 at h;unfold Enc.av
 by_cases h1:l=[]
 ·by_cases h2:m=[]
  ·rw [if_pos h1,if_pos h2]
  ·rw [if_pos h1,if_neg h2] at h;cases h
 ·by_cases h2:m=[]
  ·rw [if_neg h1,if_pos h2] at h;cases h
  ·rw [if_neg h1,if_neg h2] at h
   injection h with _ _ h3 h4;rw [if_neg h1,if_neg h2,h3,h4]
theorem YF {g:Gh} {ow:Own} {ls:List (List UInt8)} {v:Value} (h:AA g (I9 ow ls) v):AA g (Am.av ls) v:=by
 unfold I9 at h;unfold Enc.av
 by_cases h1:ls=[]
 ·rw [if_pos h1] at h ⊢;exact h
 ·rw [if_neg h1] at h ⊢;exact NJ g v h
noncomputable def Ro:AG zP AY:=AG.pure 48 (fun x:Own × List (List UInt8)=>x.2.length<1000000∧∀s∈x.2,s.length<1000000) (fun x=>[I9 x.1 x.2]) (fun x=>Gd (ofW x.2)) (fun x h H=>CS.weakA (RS x.2 h.1 h.2 H) (fun g cargs hr=>by
 simp only [AB] at hr ⊢;obtain ⟨v,vs,rfl,h1,h2⟩:=hr
 exact ⟨v,vs,rfl,YF h1,h2⟩)) (fun x y _ _ h=>by
 simp only [List.cons.injEq,and_true] at h
 rw [YE h])
noncomputable def Rp:AG zP AY:=AG.pure 37 (fun s:List UInt8=>s.length<900000) (fun s=>[.str s]) (fun s=>Hk (Hj s)) (fun s h H=>Xv s h H) (fun x y _ _ h=>by
 simp only [List.cons.injEq,AV.str.injEq,and_true] at h
 rw [h])
noncomputable def Rq:AG zP AY:=AG.pure 41 (fun x:List Nd × Int=>szL x.1<4611686018427387904) (fun x=>[ndE.av x.1,.int .i64 x.2]) (fun x => .tup [.agg (ndC (GB x.1 x.2).2),.bool (!(GB x.1 x.2).1)]) (fun x h H=>XI x.1 x.2 h H) (fun x y _ _ h=>by
 simp only [List.cons.injEq,AV.int.injEq,true_and,and_true] at h
 rw [ndE.av_inj h.1,h.2])
noncomputable def Rr:AG zP AY:=AG.pure 44 (fun x:List Nd=>szL x<4611686018427387904) (fun x=>[ndE.av x]) (fun x => .int .i64 (szL x:Int)) (fun x h H=>XF x h H) (fun x y _ _ h=>by
 simp only [List.cons.injEq,and_true] at h
 rw [ndE.av_inj h])
noncomputable def Lk7:List (AG zP AY):=[Rp,Ro,Rq,Rr,DJ fAt,DJ Rj]
theorem Jp:((Lk7).map (·.f)).Nodup:=show ([37,48,41,44,24,23]:List Nat).Nodup by decide
structure K7O (O:Orc):Prop where
 parse:∀(s:List UInt8) (H:AH),s.length<900000→O 37 [.str s] H=some (Hk (Hj s),H)
 of:∀(ow:Own) (ls:List (List UInt8)) (H:AH),ls.length<1000000→(∀s∈ls,s.length<1000000)→O 48 [I9 ow ls] H=some (Gd (ofW ls),H)
 find:∀(l:List Nd) (n:Int) (H:AH),szL l<4611686018427387904→O 41 [ndE.av l,.int .i64 n] H=some (.tup [.agg (ndC (GB l n).2),.bool (!(GB l n).1)],H)
 count:∀(l:List Nd) (H:AH),szL l<4611686018427387904→O 44 [ndE.av l] H=some (.int .i64 (szL l:Int),H)
 at_:∀(w:List UInt8) (p c:Int) (H:AH),O 24 [.str w,.int .i64 p,.int .i64 c] H=some (.agg [.slice .full 2 1 [.str w,.int .i64 p],.int .i64 c],H)
 tells:∀(l:List (List UInt8 × Int)) (c:Int) (ow:Own) (H:AH),c≠0→l.length<1000→(ow = .unk∨ow = .full)→O 23 [AZ l c,.agg [.slice ow 2 l.length (B0 l),.int .i64 c]] H=some (.bool true,H)
theorem YG:K7O (oOf Lk7):=⟨fun s H h=>DL Jp Rp (by simp [Lk7]) (x:=s) h,fun ow ls H h1 h2=>DL Jp Ro (by simp [Lk7]) (x:=(ow,ls)) ⟨h1,h2⟩,
 fun l n H h=>DL Jp Rq (by simp [Lk7]) (x:=(l,n)) h,fun l H h=>DL Jp Rr (by simp [Lk7]) (x:=l) h,
 fun w p c H=>DL Jp (DJ fAt) (by simp [Lk7]) (x:=(w,p,c)) trivial,fun l c ow H h1 h2 h3=>DL Jp (DJ Rj) (by simp [Lk7]) (x:=(l,c,ow)) ⟨h1,h2,h3⟩⟩
theorem YH:Cx (oOf Lk7) zP AY:=Bv _ Jb Af
theorem K7O.point {O:Orc} (h:K7O O) (a0:List AV) (H0:AH) (v0:AV) (H1:AH):K7O (orP 46 a0 H0 v0 H1 O) :=
 ⟨fun s H k=>(Eo (by decide) ..).trans (h.parse s H k),fun ow ls H k1 k2=>(Eo (by decide) ..).trans (h.of ow ls H k1 k2),fun l n H k=>(Eo (by decide) ..).trans (h.find l n H k),
  fun l H k=>(Eo (by decide) ..).trans (h.count l H k),fun w p c H=>(Eo (by decide) ..).trans (h.at_ w p c H),fun l c ow H k1 k2 k3=>(Eo (by decide) ..).trans (h.tells l c ow H k1 k2 k3)⟩
def k7H (c m:Int):AH:=[some (.box (ndC I8)),some (.box [.int .i64 c]),some (.box [.int .i64 m])]
theorem YI:wkL (Rn 1 2 (by decide)).f kn7 0 (0,0)=(true,4,2):=by kernel_rfl
theorem YJ:CS zP AY 46 [ndE.av kn7,.func (.func 78) [] [.ptr 1 0,.ptr 2 0]] (k7H 0 0) (.bool true) (k7H 4 2):=by
 have h:=Lx (Rn 1 2 (by decide)) YC (by decide) kn7 (0,0) (k7H 0 0) (by rw [Kn];decide) (by show 0+szL kn7<_;rw [Kn];decide) (by constructor<;>decide) (fun x hx=>by
  have hx:x∈([(1,[.int .i64 0]),(2,[.int .i64 0])]:List (Nat × List AV)):=hx;simp only [List.mem_cons,List.not_mem_nil,or_false] at hx
  rcases hx with rfl|rfl<;>rfl) (by simp [k7H,AP,Aq,Ah (Nat.zero_le _) _ (Br I8)])
 rw [YI] at h;exact h
@[simp] theorem bsS2 (a b:List UInt8):Ch zP 23 2 [(0,.str a),(1,.str b)]=some (.slice .full 1 2 [.str a,.str b]):=by kernel_rfl
theorem YK (H:AH):CS zP AY 36 [] H (.bool true) H:=by
 have X:=Ep YJ (YH.toW (S:=[41]));have hW:=EV 46 [ndE.av kn7,.func (.func 78) [] [.ptr 1 0,.ptr 2 0]] (k7H 0 0) (.bool true) (k7H 4 2) (oOf Lk7);have hO:=YG.point [ndE.av kn7,.func (.func 78) [] [.ptr 1 0,.ptr 2 0]] (k7H 0 0) (.bool true) (k7H 4 2);generalize orP 46 [ndE.av kn7,.func (.func 78) [] [.ptr 1 0,.ptr 2 0]] (k7H 0 0) (.bool true) (k7H 4 2) (oOf Lk7)=O at X hW hO;have p1:=fun H=>hO.parse k7S H (by decide)
 rw [Xx] at p1;have o1:∀H,O 48 [.slice .full 1 2 [.str k7D,.str k7E]] H=some (.tup [ndE.av (ofW [k7D,k7E]).1,erI (ofW [k7D,k7E]).2],H):=fun H=>hO.of .full [k7D,k7E] H (by decide) (by decide)
 have o2:∀H,O 48 [.slice .full 1 1 [.str k7D]] H=some (.tup [ndE.av (ofW [k7D]).1,erI (ofW [k7D]).2],H):=fun H=>hO.of .full [k7D] H (by decide) (by decide)
 rw [X9] at o1;rw [YA] at o2;generalize (ofW [k7D,k7E]).1=T1 at *;generalize (ofW [k7D]).1=T2 at *;have d1:=fun H=>hO.find kn7 4 H (by rw [Kn];decide)
 have c1:=fun H=>hO.count kn7 H (by rw [Kn];decide)
 rw [Kn] at c1;have a1:=fun H=>hO.at_ DH 1 12 H
 have a2:=fun H=>hO.at_ DH 0 11 H
 have t1:∀H,O 23 [.iface 152 (.vptr [.str DH,.int .i64 1,.iface 134 (.int .i64 12)] 0),.agg [.slice .full 2 1 [.str DH,.int .i64 1],.int .i64 12]] H=some (.bool true,H):=fun H=>hO.tells [(DH,1)] 12 .full H (by decide) (by decide) (.inr rfl)
 have t2:∀H,O 23 [.iface 152 (.vptr [.str DH,.int .i64 0,.iface 134 (.int .i64 11)] 0),.agg [.slice .full 2 1 [.str DH,.int .i64 0],.int .i64 11]] H=some (.bool true,H):=fun H=>hO.tells [(DH,0)] 11 .full H (by decide) (by decide) (.inr rfl)
 rw [X7] at d1;have hF:(GB kn7 4).2=I8:=rfl;rw [hF] at d1;have uw:alen zP 23 (Am.av Km)=some (.int .i64 8):=by rw [Am.alen Tryz.underlying23 Km,Rk];rfl
 have g31:I7[65]? = some (ndE.av Fj.body):=by rw [OP 31 (by decide),C9];rfl
 have g33:I7[67]? = some (.int .i64 (-1)):=by rw [OP 33 (by decide),C9,←X3];rfl
 have g1:I7[35]? = some (.int .i64 7):=by rw [OP 1 (by decide),C9,←X2];rfl
 have hbv:ndE.av Fj.body = .slice .unk 34 1 (ndE.row Fj.body):=by have h:=X4;rw [ndE.av_ne (fun hh=>by rw [hh] at h;cases h),h];rfl
 have q33:(ndE.row Fj.body)[33]? = some (.int .i64 5):=by
  have:=ndE.row_cell Rl 33 (by decide);rw [show ndE.sz=34 from rfl] at this;rw [show 33=0*34+33 from rfl,this,←X5]
  show (ndC Ko)[33]? = _
  rw [C9];rfl
 have q1:(ndE.row Fj.body)[1]? = some (.int .i64 6):=by
  have:=ndE.row_cell Rl 1 (by decide);rw [show ndE.sz=34 from rfl] at this;rw [show 1=0*34+1 from rfl,this,←X6]
  show (ndC Ko)[1]? = _
  rw [C9];rfl
 rw [hbv] at g31;generalize ndE.row Fj.body=R at *;simp only [Hk,Xz] at p1 d1 c1 hW;generalize I7=C at *;have eF:=C9 I8;have kF:=X8;simp only [k7H] at hW;generalize ndC I8=F at *;generalize I8=M at *;simp only [Sx.c,List.cons_append,List.nil_append,kF] at eF;subst eF;simp only [k7S,k7D,k7E,DH,VG,CO,AZ,List.map,B0,QZ] at p1 o1 o2 a1 a2 t1 t2;refine CS.tr0 DQ Tryz.func36 (by kernel_rfl) 0 (by simp [Tryz.f36]) (fun B hBs hG => ?_) rfl rfl H;refine Tr.goW X hG (by kernel_rfl) ?_;simp [Tryz.f36,p1,o1,o2,Rk,g31,g33,g1,q33,q1,d1,hW,c1,a1,a2,t1,t2]
noncomputable def Rs:AG zP AY:=AG.pure 36 (fun _:Unit=>True) (fun _=>[]) (fun _ => .bool true) (fun _ _ H=>YK H) (fun _ _ _ _ _=>rfl)
@[simp] theorem goTo5:AE zP 109=true:=AR (by kernel_rfl)
@[simp] theorem buT3p (k n:Int) (s:List UInt8):A3 zP 27 [(0,.int .i64 k),(1,.int .i64 n),(2,.str s)]=some (.agg [.int .i64 k,.int .i64 n,.str s,.nilSlice]):=by kernel_rfl
theorem Rt:Bu zP 25 4=true:=by kernel_rfl
def ToI5 (t:Tn) (k:Nat) (tt:List AV) (H:AH):Prop :=
 ∃i,i+k=t.kids.length∧tt=mkT 31 [(1,.vptr (tC t) 0),(2,.ptr 0 0),(3,.ptr 1 0),(4,.int .i64 ((i:Nat):Int))] ∧
  H=some (.box [.int .i64 0,.int .i64 0,.str [],.nilSlice])::some (.box [.int .i64 t.k,.int .i64 t.n,.str t.s,G0 2 (EH (t.kids.take i))])::(if i=0 then [] else [some (.tok i)])
theorem Ru (t:Tn) (ht:okT t=true) (H:AH):CS zP AJ 109 [.agg (tC t)] H (.agg (tC (ofT t))) H:=by
 have X:Cx (oTn 109 (fun a=>a∈t.kids) (fun a => .agg (tC (ofT a)))) zP AJ:=⟨jl fun a rg H=>Ru a (ji ht rg) H,Bz,Af⟩
 have qU:=fun (a:Tn) (h:a∈t.kids) H=>jk (f0:=109) (S:=fun a=>a∈t.kids) (out:=fun a => .agg (tC (ofT a))) (t:=a) h H
 generalize hO:oTn 109 (fun a=>a∈t.kids) (fun a => .agg (tC (ofT a)))=O at X qU;clear hO;have pw:=jh ht;rw [jm];refine CS.tr0 BY Tryz.func109 (by kernel_rfl) 0 (by simp [Tryz.f109]) (fun B hB hG => ?_) (by split<;>simp [KU]) (by simp) H;refine Tr.goD X hG (by kernel_rfl) ?_;simp [Tryz.f109]
 refine LpD.loopN X hG (by kernel_rfl) (ToI5 t) t.kids.length (t':=mkT 31 [(1,.vptr (tC t) 0),(2,.ptr 0 0),(3,.ptr 1 0),(4,.int .i64 ((0:Nat):Int))])
  (H':=[some (.box [.int .i64 0,.int .i64 0,.str [],.nilSlice]),some (.box [.int .i64 t.k,.int .i64 t.n,.str t.s,.nilSlice])])
  (AF.mkK 2 (by simp [hB]) (by simp) (by simp) (by simp)) ⟨0,by omega,rfl,rfl⟩ ?_
 rintro k tt H ⟨i,px,rfl,rfl⟩;cases k with
 | zero =>
  obtain rfl:i=t.kids.length:=by omega
  rw [List.take_length]
  by_cases h0:t.kids=[]
  ·simp [h0,Bt,G0,EH]
  ·have h1:¬EH t.kids=[]:=fun h=>h0 (by have:=LZ t.kids;rw [h] at this;exact List.eq_nil_of_length_eq_zero this.symm)
   simp [h0,Bt,G0,h1,LZ,KU]
 | succ k =>
  have hi:i<t.kids.length:=by omega
  have hi':(i:Int)<t.kids.length:=by omega
  obtain ⟨a,ha⟩:∃a,t.kids[i]? = some a:=⟨_,List.getElem?_eq_getElem hi⟩
  obtain ⟨ca1,ca2⟩:=Us t.kids i ha;have hm:a∈t.kids:=List.mem_of_getElem? ha
  have qS:EH (t.kids.take (i+1))=EH (t.kids.take i)++[ofT a]:=by rw [List.take_add_one,ha,Option.toList_some,Uv];rfl
  have uZ:(EH (t.kids.take i)).length=i:=by rw [LZ,List.length_take];omega
  have w1:IntKind.i64.wrap ((i:Int)+1)=(i:Int)+1:=Ab (by omega) (by omega);have hc:=fun H=>qU a hm H
  simp only [CT] at hc ca1;simp [hi'];generalize hl:EH (t.kids.take i)=l at *
  have s5:(l=[]∧(if i=0 then [] else [some (Ent.tok i)])=[])∨(¬l=[]∧(if i=0 then [] else [some (Ent.tok i)])=[some (Ent.tok i)]):=by
   by_cases h0:i=0
   ·exact .inl ⟨List.eq_nil_of_length_eq_zero (by omega),if_pos h0⟩
   ·exact .inr ⟨fun h=>by rw [h] at uZ;simp at uZ;omega,if_neg h0⟩
  generalize (if i=0 then [] else [some (Ent.tok i)])=Tk at *;refine LpD.turns X hG [7,9,11] [(0,7),(1,7)] (by kernel_rfl) ?_;rcases s5 with ⟨qK,rfl⟩|⟨qK,rfl⟩
  ·subst qK
   have hi0:i=0:=by simpa using uZ.symm
   have py:=fun H=>GI (P:=zP) (t:=25) (sz:=4) (m:=1) (H:=H) (fid:=2) (ow := .full) (ys:=tC (ofT a)) Rt (by decide) (by decide) (by simp)
   simp only [CT] at py;simp [hi,ca1,ca2,hc,G0,py,w1]
   refine Nxt.mk k (by omega) (AF.mkK 3 (l':=[(1,.vptr (tC t) 0),(2,.ptr 0 0),(3,.ptr 1 0),(4,.int .i64 ((i+1:Nat):Int))])
    (H':=[some (.box [.int .i64 0,.int .i64 0,.str [],.nilSlice]),some (.box [.int .i64 t.k,.int .i64 t.n,.str t.s,G0 2 [ofT a]]),some (.tok (i+1))]) (by simp [hB]) (by simp) (by simp [G0,tsC,hi0]) (by simp [G0,tsC])) ⟨i+1,by omega,rfl,by rw [qS];rfl⟩
  ·have py:=fun H (h:AH.at H 2=some (.tok i))=>Em (P:=zP) (t:=25) (sz:=4) (m:=1) (H:=H) (fid:=3) (ow := .full) (xs:=tsC l) (ys:=tC (ofT a)) Rt h (by decide) (by omega) (by simp)
   simp only [CT] at py;simp [hi,ca1,ca2,hc,G0,qK,uZ,py,w1]
   refine Nxt.mk k (by omega) (AF.mkK 3 (l':=[(1,.vptr (tC t) 0),(2,.ptr 0 0),(3,.ptr 1 0),(4,.int .i64 ((i+1:Nat):Int))])
    (H':=[some (.box [.int .i64 0,.int .i64 0,.str [],.nilSlice]),some (.box [.int .i64 t.k,.int .i64 t.n,.str t.s,G0 2 (l++[ofT a])]),some (.tok (i+1))]) (by simp [hB]) (by simp) (by simp [G0,tsC,QC,uZ]) (by simp [G0,tsC,QC,Ah (Nat.zero_le 3) _ (KU l)])) ⟨i+1,by omega,rfl,by rw [qS];rfl⟩
termination_by SizeOf.sizeOf t
decreasing_by exact jj rg
@[simp] theorem nY:AJ.imm 46=false:=by decide
@[simp] theorem buCd6 (s:List UInt8) (a0 a1 a2 a3 b0 b1 b2 b3:AV):A3 zP 29 [(0,.str s),(1,.agg [a0,a1,a2,a3]),(2,.agg [b0,b1,b2,b3])]=some (.agg [.str s,a0,a1,a2,a3,b0,b1,b2,b3]):=by kernel_rfl
@[simp] theorem buSt6 (k st:Int) (s nm:List UInt8) (a0 a1 a2 a3 b0 b1 b2 b3 c0 c1 c2 c3 d0 d1 d2 d3 e0 e1 e2 e3 f0 f1 f2 f3:AV):A3 zP 31 [(0,.int .i64 k),(2,.agg [a0,a1,a2,a3]),(3,.agg [b0,b1,b2,b3]),(4,.agg [.str s,c0,c1,c2,c3,d0,d1,d2,d3]),(5,.str nm),(6,.agg [e0,e1,e2,e3]),(7,.agg [f0,f1,f2,f3]),(8,.int .i64 st)]
  = some (.agg [.int .i64 k,.nilSlice,a0,a1,a2,a3,b0,b1,b2,b3,.str s,c0,c1,c2,c3,d0,d1,d2,d3,.str nm,e0,e1,e2,e3,f0,f1,f2,f3,.int .i64 st]):=by kernel_rfl
@[simp high] theorem nZ (l:List It):alen zP 39 (itE.av l)=some (.int .i64 l.length):=itE.alen Tryz.underlying39 l
@[simp high] theorem na {l:List It} {i:Nat} (h:i<l.length):Av zP 39 (itE.av l) (.int .i64 (i:Int))=some (.vptr (itE.row l) (i*2)):=itE.aidx Tryz.underlying39 (by kernel_rfl) h
theorem Jq (φ:Nat→Nat) (t:Tn):ren φ t.ar=t.ar:=FN φ _ (by
 have:=QD t;simp only [CT,lowL,low,Bool.true_and,Bool.and_true] at this
 exact this)
@[simp] theorem YL (s:List UInt8) (ow:Own) (sz n:Nat) (cs:List AV):A3 zP 121 [(0,.str s),(1,.slice ow sz n cs)]=some (.agg [.str s,.slice ow sz n cs]):=by kernel_rfl
@[simp] theorem YM (s:List UInt8):A3 zP 121 [(0,.str s),(1,.nilSlice)]=some (.agg [.str s,.nilSlice]):=by kernel_rfl
@[simp] theorem ne (s:List UInt8) (l:List Int):A3 zP 121 [(0,.str s),(1,Ak.av l)]=some (.agg [.str s,Ak.av l]):=by
 by_cases h:l=[]
 ·subst h;exact YM s
 ·rw [Ak.av_ne h];exact YL s _ _ _ _
def Kq (x:Sx):Sx:=⟨x.kind,x.items,ofT x.to,ofT x.e,x.op,ofT x.ca,ofT x.cb,x.name,ofT x.lo,ofT x.hi,x.step⟩
structure SxT (x:Sx):Prop where
 to:okT x.to=true
 e:okT x.e=true
 ca:okT x.ca=true
 cb:okT x.cb=true
 lo:okT x.lo=true
 hi:okT x.hi=true
 items:x.items.length<4294967296
 dims:∀y∈x.items,y.dims.length<4294967296
noncomputable def Kr:AG zP AJ:=AG.pure 109 (fun t:Tn=>okT t=true) (fun t=>[.agg (tC t)]) (fun t => .agg (tC (ofT t))) (fun t h H=>Ru t h H) (fun x y _ _ h=>by
 simp only [List.cons.injEq,AV.agg.injEq,and_true] at h
 rw [NN x y h])
def c6 (x:Sx) (v:AV):List AV:=[.int .i64 x.kind,v,.int .i64 (ofT x.to).k,.int .i64 (ofT x.to).n,.str (ofT x.to).s,(ofT x.to).ar,.int .i64 (ofT x.e).k,.int .i64 (ofT x.e).n,.str (ofT x.e).s,(ofT x.e).ar,.str x.op,
 .int .i64 (ofT x.ca).k,.int .i64 (ofT x.ca).n,.str (ofT x.ca).s,(ofT x.ca).ar,.int .i64 (ofT x.cb).k,.int .i64 (ofT x.cb).n,.str (ofT x.cb).s,(ofT x.cb).ar,.str x.name,.int .i64 (ofT x.lo).k,.int .i64 (ofT x.lo).n,.str (ofT x.lo).s,(ofT x.lo).ar,.int .i64 (ofT x.hi).k,.int .i64 (ofT x.hi).n,.str (ofT x.hi).s,(ofT x.hi).ar,.int .i64 x.step]
def Rv (x:Sx) (k:Nat) (tt:List AV) (H:AH):Prop:=∃i,i+k=x.items.length∧tt=mkT 62 [(1,.ptr 0 0),(2,.ptr 1 0),(3,.ptr 2 0),(4,.int .i64 (i:Int))] ∧
 H=[some (.box x.c),some (.box (Sx.c ⟨0,[],t0,t0,[],t0,t0,[],t0,t0,0⟩)),some (.box (c6 x (itE.tk 3 (x.items.take i)))),AW (x.items.take i)]
theorem YN (x:Sx) (hx:SxT x) (H:AH):CS zP AJ 74 [.agg x.c] H (.agg (Kq x).c) H:=by
 have hL:([Kr].map (·.f)).Nodup:=show ([109]:List Nat).Nodup by decide
 have X:=Bv [Kr] Bz Af;have f1:=fun t (h:okT t=true) H=>Cr hL (show Kr∈[Kr] by simp) t h H
 have h1:=f1 _ hx.to;have h2:=f1 _ hx.e;have h3:=f1 _ hx.ca;have h4:=f1 _ hx.cb;have h5:=f1 _ hx.lo;have h6:=f1 _ hx.hi;generalize oOf [Kr]=O at X h1 h2 h3 h4 h5 h6;simp only [CT] at h1 h2 h3 h4 h5 h6;refine CS.tr0 BY Tryz.func74 (by kernel_rfl) 0 (by simp [Tryz.f74]) (fun B hB hG => ?_) (by simp [Sx.c_low]) (by simp [Sx.c_low]) H;refine Tr.goD X hG (by kernel_rfl) ?_;simp [Tryz.f74,Sx.c];refine LpD.turns X hG [4,7,14,18,24,27,31,32] [(0,4),(0,7),(0,14),(0,18),(0,24),(0,27),(0,31),(1,4),(1,7),(1,14),(1,18),(1,24),(1,27),(1,31),(2,31),(3,31),(4,5),(4,6),(4,8),(4,9),(4,10),(4,11),(4,12),(4,13),(4,15),(4,16),(4,17),(4,20),(4,21),(4,22),(4,23),(4,25),(4,26),(4,28),(4,29),(4,31),(5,31),(6,31),(7,8),(7,9),(7,10),(7,11),(7,12),(7,13),(7,15),(7,16),(7,17),(7,20),(7,21),(7,22),(7,23),(7,25),(7,26),(7,28),(7,29),(7,31),(8,14),(8,18),(8,24),(8,27),(8,31),(9,14),(9,18),(9,24),(9,27),(9,31),(10,14),(10,18),(10,24),(10,27),(10,31),(11,31),(12,31),(13,31),(14,15),(14,16),(14,17),(14,20),(14,21),(14,22),(14,23),(14,25),(14,26),(14,28),(14,29),(14,31),(15,31),(16,31),(17,31),(18,20),(18,21),(18,22),(18,23),(18,25),(18,26),(18,28),(18,29),(18,31),(19,24),(19,27),(19,31),(20,24),(20,27),(20,31),(21,24),(21,27),(21,31),(22,31),(23,31),(24,25),(24,26),(24,28),(24,29),(24,31),(25,31),(26,31),(27,28),(27,29),(27,31),(28,31),(29,31),(30,31)] (by kernel_rfl) ?_;simp [h1,h2,h3,h4,h5,h6]
 refine LpD.loopN X hG (by kernel_rfl) (Rv x) x.items.length (t':=mkT 62 [(1,.ptr 0 0),(2,.ptr 1 0),(3,.ptr 2 0),(4,.int .i64 ((0:Nat):Int))])
  (H':=[some (.box x.c),some (.box (Sx.c ⟨0,[],t0,t0,[],t0,t0,[],t0,t0,0⟩)),some (.box (c6 x (itE.tk 3 (x.items.take 0)))),AW (x.items.take 0)])
  (AF.mkV 1000 (fun i=>i) 4 (by simp [hB]) (by simp) (by simp) rfl (by
   intro i hi;rcases (by omega:i=0∨i=1∨i=2∨i=3) with rfl|rfl|rfl|rfl
   ·simp [AH.at,AI,AM,ren,Sx.c,itE.av_ren,Jq]
   ·simp [AH.at,AI,AM,ren,Sx.c,itE.av_ren,Jq]
   ·simp [AH.at,AI,AM,ren,c6,Jq]
   ·simp [AH.at]) (by simp [Sx.c,c6]) (by simp [ren])) ⟨0,by omega,rfl,rfl⟩ ?_
 rintro k tt H ⟨i,px,rfl,rfl⟩;cases k with
 | zero =>
  obtain rfl:i=x.items.length:=by omega
  rw [List.take_length];have qV:=itE.tk_cut (show ¬3<0 by omega) x.items;simp [Sx.c,c6,Bt,Kq,qV]
 | succ k =>
  have hb:=hx.items;have hi:i<x.items.length:=by omega
  have hi':(i:Int)<x.items.length:=by omega
  obtain ⟨y,hy⟩:∃y,x.items[i]? = some y:=⟨_,List.getElem?_eq_getElem hi⟩
  have g0:(itE.row x.items)[i*2+0]? = some (.str y.name):=itE.row_cell hy 0 (by decide);have g1:(itE.row x.items)[i*2+1]? = some (Ak.av y.dims):=itE.row_cell hy 1 (by decide);simp only [Nat.add_zero] at g0;have qS:x.items.take (i+1)=x.items.take i++[y]:=by rw [List.take_add_one,hy,Option.toList_some]
  have uZ:(x.items.take i).length=i:=by rw [List.length_take];omega
  have w1:IntKind.i64.wrap ((i:Int)+1)=((i+1:Nat):Int):=by rw [Ab (by omega) (by omega)];omega
  have hI:∀{t H},AF B t H (mkT 62 [(1,.ptr 0 0),(2,.ptr 1 0),(3,.ptr 2 0),(4,.int .i64 ((i+1:Nat):Int))]) [some (.box x.c),some (.box (Sx.c ⟨0,[],t0,t0,[],t0,t0,[],t0,t0,0⟩)),some (.box (c6 x (itE.tk 3 (x.items.take i++[y])))),AW (x.items.take i++[y])]→Nxt B (Rv x) (k+1) t H :=fun h=>Nxt.mk k (by omega) h ⟨i+1,by omega,rfl,by rw [qS]⟩
  generalize x.items.take i=out at *;simp [Sx.c,c6,hi',-Int.natCast_add];refine LpD.turns X hG [16,18] [] (by kernel_rfl) ?_;have e1:itE.c y=[.str y.name,Ak.av y.dims]:=rfl;have e2:itE.sz=2:=rfl
  by_cases h0:out=[]
  ·subst h0
   have a1:=fun H ow fid=>I3 itE (P:=zP) (H:=H) (ow:=ow) (fid:=fid) yNe y
   rw [e1,e2] at a1;simp [hi,g0,g1,a1,w1]
   refine hI (AF.mkV 1000 (fun i=>if i=3 then 4 else i) 4 (by simp [hB]) (by intro i j hi hj h;split at h<;>split at h<;>omega) (by simp [hB]) rfl (by
    intro i hi;rcases (by omega:i=0∨i=1∨i=2∨i=3) with rfl|rfl|rfl|rfl
    ·simp [AH.at,AI,AM,ren,Sx.c,itE.av_ren,Jq]
    ·simp [AH.at,AI,AM,ren,Sx.c,itE.av_ren,Jq]
    ·simp [AH.at,AI,AM,ren,c6,Jq,itE.tk_ren]
    ·simp [AH.at,AW,AI]) (by simp [Sx.c,c6,itE.tk_low,AW]) (by simp [ren]))
  ·have a1:=fun H ow fid (h:AH.at H 3=some (.tok out.length))=>I2 itE (P:=zP) (H:=H) (ow:=ow) (fid:=fid) (k:=3) yNe out y h0 h (by omega)
   rw [e1,e2] at a1;have qp:AW out=some (.tok out.length):=Cs h0;rw [qp];have i1:=Hi itE 3 h0;simp [hi,g0,g1,a1,w1,i1];exact hI (AF.mkK 4 (by simp [hB]) (by simp) (by simp [Sx.c,c6,AW]) (by simp [Sx.c,c6,itE.tk_low,AW]))
mutual
def toN:Nd→Nd
 | .mk l e s b c m => .mk l e (Kq s) (Bj b) (Bj c) m
def Bj:List Nd→List Nd
 | []=>[]
 | n::r=>toN n::Bj r
end
mutual
def okN:Nd→Prop
 | .mk _ _ s b c _=>SxT s∧CP b∧CP c
def CP:List Nd→Prop
 | []=>True
 | n::r=>okN n∧CP r
end
theorem Rw:∀l,(Bj l).length=l.length
 | []=>rfl
 | n::r=>by rw [Bj,List.length_cons,Rw r,List.length_cons]
theorem Rx:∀a b,Bj (a++b)=Bj a++Bj b
 | [],b=>rfl
 | n::a,b=>by rw [List.cons_append,Bj,Bj,Rx a b,List.cons_append]
theorem Ry:∀{l:List Nd},CP l→∀n∈l,okN n
 | [],_,n,h=>by cases h
 | m::r,k,n,h=>by
  rw [CP] at k;rcases List.mem_cons.1 h with rfl|h
  ·exact k.1
  ·exact Ry k.2 n h
theorem YO {n:Nd} (h:okN n):SxT n.st∧CP n.body∧CP n.els:=by
 cases n with
 | mk l e s b c m=>rw [okN] at h;exact h
theorem OQ:∀{l:List Nd},∀n∈l,szN n≤szL l
 | [],n,h=>by cases h
 | m::r,n,h=>by
  rw [szL];rcases List.mem_cons.1 h with rfl|h
  ·omega
  ·have:=OQ n h;omega
theorem YP (n:Nd):ndC (toN n) = .int .i64 n.line :: .int .i64 n.end_::((Kq n.st).c++[ndE.av (Bj n.body),ndE.av (Bj n.els),.int .i64 n.mid]):=by
 rw [C9];cases n with
 | mk l e s b c m=>rw [toN];rfl
theorem Rz (a b z:Int) (c0 c1 c2 c3 c4 c5 c6 c7 c8 c9 c10 c11 c12 c13 c14 c15 c16 c17 c18 c19 c20 c21 c22 c23 c24 c25 c26 c27 c28:AV) (l m:List Nd):A3 zP 104 [(0,.int .i64 a),(1,.int .i64 b),(2,.agg [c0,c1,c2,c3,c4,c5,c6,c7,c8,c9,c10,c11,c12,c13,c14,c15,c16,c17,c18,c19,c20,c21,c22,c23,c24,c25,c26,c27,c28]),(3,ndE.av l),(4,ndE.av m),(5,.int .i64 z)]=some (.agg [.int .i64 a,.int .i64 b,c0,c1,c2,c3,c4,c5,c6,c7,c8,c9,c10,c11,c12,c13,c14,c15,c16,c17,c18,c19,c20,c21,c22,c23,c24,c25,c26,c27,c28,ndE.av l,ndE.av m,.int .i64 z]):=by
 by_cases h:l=[]
 ·by_cases k:m=[]
  ·subst h;subst k;kernel_rfl
  ·subst h;rw [ndE.av_ne k];kernel_rfl
 ·by_cases k:m=[]
  ·subst k;rw [ndE.av_ne h];kernel_rfl
  ·rw [ndE.av_ne h,ndE.av_ne k];kernel_rfl
noncomputable def R9:AG zP AJ:=AG.pure 74 (fun x:Sx=>SxT x) (fun x=>[.agg x.c]) (fun x => .agg (Kq x).c) (fun x h H=>YN x h H) (fun x y _ _ h=>by
 simp only [List.cons.injEq,AV.agg.injEq,and_true] at h
 rw [sxE.inj x y h])
@[simp high] theorem nf (l:List Nd):alen zP 68 (ndE.av l)=some (.int .i64 l.length):=ndE.alen Tryz.underlying68 l
@[simp high] theorem ng {l:List Nd} {i:Nat} (h:i<l.length):Av zP 68 (ndE.av l) (.int .i64 (i:Int))=some (.vptr (ndE.row l) (i*34)):=ndE.aidx Tryz.underlying68 (by kernel_rfl) h
def SA (l:List Nd) (k:Nat) (tt:List AV) (H:AH):Prop:=∃i,i+k=l.length∧tt=mkT 36 [(0,ndE.av l),(3,ndE.tk 0 (Bj (l.take i))),(4,.int .i64 (i:Int))]∧H=[AW (Bj (l.take i))]
theorem OR:∀(m:Nat) (l:List Nd),szL l<m→szL l<1000000000→CP l→∀H,CS zP AJ 29 [ndE.av l] H (ndE.av (Bj l)) H
 | 0,l,hm,_,_,H=>absurd hm (Nat.not_lt_zero _)
 | m+1,l,hm,hz,qR,H=>by
  have hL:([R9,AG.pure 29 (fun l:List Nd=>szL l<m∧szL l<1000000000∧CP l) (fun l=>[ndE.av l]) (fun l=>ndE.av (Bj l)) (fun l h H=>OR m l h.1 h.2.1 h.2.2 H) (fun x y _ _ h=>by
   simp only [List.cons.injEq,and_true] at h
   rw [ndE.av_inj h])].map (·.f)).Nodup:=show ([74,29]:List Nat).Nodup by decide
  have X:=Bv [R9,AG.pure 29 (fun l:List Nd=>szL l<m∧szL l<1000000000∧CP l) (fun l=>[ndE.av l]) (fun l=>ndE.av (Bj l)) (fun l h H=>OR m l h.1 h.2.1 h.2.2 H) (fun x y _ _ h=>by
   simp only [List.cons.injEq,and_true] at h
   rw [ndE.av_inj h])] Bz Af
  have f1:=fun (x:Sx) H (h:SxT x)=>Cr hL List.mem_cons_self x h H
  have f2:=fun (l:List Nd) H (h:szL l<m∧szL l<1000000000∧CP l)=>Cr hL (List.mem_cons_of_mem _ List.mem_cons_self) l h H
  generalize oOf _=O at X f1 f2;clear hL;refine CS.tr0 BY Tryz.func29 (by kernel_rfl) 0 (by simp [Tryz.f29]) (fun B hB hG => ?_) (by simp) (by simp) H;refine Tr.goD X hG (by kernel_rfl) ?_;simp [Tryz.f29];have hlz:=Kj l
  refine LpD.loopN X hG (by kernel_rfl) (SA l) l.length (t':=mkT 36 [(0,ndE.av l),(3,ndE.tk 0 (Bj (l.take 0))),(4,.int .i64 ((0:Nat):Int))]) (H':=[AW (Bj (l.take 0))])
   (AF.mkV 1000 (fun i=>i) 1 (by simp [hB]) (by simp) (by simp) rfl (by
    intro i hi;obtain rfl:i=0:=by omega
    simp [AH.at,Bj]) (by simp [Bj]) (by simp [ren,Bj,ndE.av_ren])) ⟨0,by omega,rfl,rfl⟩ ?_
  rintro k tt H ⟨i,px,rfl,rfl⟩;cases k with
  | zero =>
   obtain rfl:i=l.length:=by omega
   rw [List.take_length];have qV:=ndE.tk_cut (show ¬0<0 by omega) (Bj l);simp [Bt,qV]
  | succ k =>
   have hi:i<l.length:=by omega
   have hi':(i:Int)<l.length:=by omega
   obtain ⟨n,hn⟩:∃n,l[i]? = some n:=⟨_,List.getElem?_eq_getElem hi⟩
   have ua:=List.mem_of_getElem? hn;obtain ⟨o1,o2,o3⟩:=YO (Ry qR n ua);have qC:=OQ n ua;rw [Ki] at qC;have h1:=fun H=>f1 n.st H o1
   have h2:=fun H=>f2 n.body H ⟨by omega,by omega,o2⟩
   have h3:=fun H=>f2 n.els H ⟨by omega,by omega,o3⟩
   have g:∀j,j<34→(ndE.row l)[i*34+j]? = (ndC n)[j]? := fun j hj=>ndE.row_cell hn j hj
   obtain ⟨rR,rW⟩:=ndE.row_at l i hn;have rR:((ndE.row l).drop (i*34)).take 34=ndC n:=rR;have rW:i*34+34≤(ndE.row l).length:=rW;have w1:IntKind.i64.wrap ((i:Int)+1)=((i+1:Nat):Int):=by rw [Ab (by omega) (by omega)];omega
   have qS:Bj (l.take (i+1))=Bj (l.take i)++[toN n]:=by rw [List.take_add_one,hn,Option.toList_some,Rx];rfl
   have uZ:(Bj (l.take i)).length=i:=by rw [Rw,List.length_take];omega
   have hI:∀{t H},AF B t H (mkT 36 [(0,ndE.av l),(3,ndE.tk 0 (Bj (l.take i)++[toN n])),(4,.int .i64 ((i+1:Nat):Int))]) [AW (Bj (l.take i)++[toN n])]→Nxt B (SA l) (k+1) t H :=fun h=>Nxt.mk k (by omega) h ⟨i+1,by omega,by rw [qS],by rw [qS]⟩
   generalize Bj (l.take i)=out at *;have eN:=C9 n;simp only [Sx.c,List.cons_append,List.nil_append] at eN h1;rw [eN] at rR;have eT:=YP n;simp only [Sx.c,List.cons_append,List.nil_append] at eT;have e2:ndE.sz=34:=rfl;have e1:ndE.c (toN n)=ndC (toN n):=rfl;rw [eT] at e1;have a0:=fun H ow fid=>I3 ndE (P:=zP) (H:=H) (ow:=ow) (fid:=fid) GV (toN n)
   have aN:=fun (h0:out≠[]) H ow fid (h:AH.at H 0=some (.tok out.length))=>I2 ndE (P:=zP) (H:=H) (ow:=ow) (fid:=fid) (k:=0) GV out (toN n) h0 h (by omega)
   rw [e1,e2] at a0;simp only [e1,e2] at aN
   by_cases h0:out=[]
   ·subst h0
    simp [hi,hi',rR,rW,-Int.natCast_add];refine LpD.turns X hG [7,10,13,18] [(0,7),(0,10),(0,13),(1,7),(1,10),(1,13),(2,7),(2,10),(2,13),(3,7),(3,10),(3,13),(4,7),(4,10),(4,13),(7,8),(7,9),(7,11),(7,12),(7,14),(7,15),(10,11),(10,12),(10,14),(10,15),(13,14),(13,15)] (by kernel_rfl) ?_;simp [h1,h2,h3,Rz,a0,w1,-Int.natCast_add]
    refine hI (AF.mkV 1000 (fun i=>if i=0 then 2 else i) 1 (by simp [hB]) (by intro i j hi hj h;omega) (by simp [hB]) rfl (by
     intro i hi;obtain rfl:i=0:=by omega
     simp [AH.at,AW,AI]) (by simp [AW]) (by simp [ren,ndE.tk_ren,ndE.tk_strip,ndE.tk_low,ndE.av_ren]))
   ·have aN:=aN h0
    have qp:AW out=some (.tok out.length):=Cs h0;rw [qp];simp [hi,hi',rR,rW,-Int.natCast_add];refine LpD.turns X hG [7,10,13,18] [(0,7),(0,10),(0,13),(1,7),(1,10),(1,13),(2,7),(2,10),(2,13),(3,7),(3,10),(3,13),(4,7),(4,10),(4,13),(7,8),(7,9),(7,11),(7,12),(7,14),(7,15),(10,11),(10,12),(10,14),(10,15),(13,14),(13,15)] (by kernel_rfl) ?_;have i1:=Hi ndE 0 h0;simp [h1,h2,h3,Rz,aN,w1,i1,-Int.natCast_add];exact hI (AF.mkK 1 (by simp [hB]) (by simp [ndE.tk_low]) (by simp [AW]) (by simp [AW]))
def RcI (l:List Nd) (k:Nat) (tt:List AV) (H:AH):Prop:=∃i,i+k=l.length∧tt=mkT 28 [(0,ndE.av l),(3,.int .i64 (szL (l.take i):Int)),(4,.int .i64 (i:Int))]∧H=[]
theorem OS:∀a b,szL (a++b)=szL a+szL b
 | [],b=>by rw [List.nil_append,szL];omega
 | n::a,b=>by rw [List.cons_append,szL,szL,OS a b];omega
theorem OT:∀(m:Nat) (l:List Nd),szL l<m→szL l<1000000000→∀H,CS zP AJ 45 [ndE.av l] H (.int .i64 (szL l:Int)) H
 | 0,l,hm,_,H=>absurd hm (Nat.not_lt_zero _)
 | m+1,l,hm,hz,H=>by
  have hL:([AG.pure 45 (fun l:List Nd=>szL l<m∧szL l<1000000000) (fun l=>[ndE.av l]) (fun l => .int .i64 (szL l:Int)) (fun l h H=>OT m l h.1 h.2 H) (fun x y _ _ h=>by
   simp only [List.cons.injEq,and_true] at h
   rw [ndE.av_inj h])].map (·.f)).Nodup:=show ([45]:List Nat).Nodup by decide
  have X:=Bv [AG.pure 45 (fun l:List Nd=>szL l<m∧szL l<1000000000) (fun l=>[ndE.av l]) (fun l => .int .i64 (szL l:Int)) (fun l h H=>OT m l h.1 h.2 H) (fun x y _ _ h=>by
   simp only [List.cons.injEq,and_true] at h
   rw [ndE.av_inj h])] Bz Af
  have f2:=fun (l:List Nd) H (h:szL l<m∧szL l<1000000000)=>Cr hL List.mem_cons_self l h H
  generalize oOf _=O at X f2;clear hL;refine CS.tr0 BY Tryz.func45 (by kernel_rfl) 0 (by simp [Tryz.f45]) (fun B hB hG => ?_) (by simp) (by simp) H;refine Tr.goD X hG (by kernel_rfl) ?_;simp [Tryz.f45];have hlz:=Kj l;refine LpD.loopN X hG (by kernel_rfl) (RcI l) l.length (t':=mkT 28 [(0,ndE.av l),(3,.int .i64 (szL (l.take 0):Int)),(4,.int .i64 ((0:Nat):Int))]) (H':=[]) (AF.mk0 hB (by simp [szL])) ⟨0,by omega,rfl,rfl⟩ ?_;rintro k tt H ⟨i,px,rfl,rfl⟩;cases k with
  | zero =>
   obtain rfl:i=l.length:=by omega
   rw [List.take_length];simp [Bt]
  | succ k =>
   have hi:i<l.length:=by omega
   have hi':(i:Int)<l.length:=by omega
   obtain ⟨n,hn⟩:∃n,l[i]? = some n:=⟨_,List.getElem?_eq_getElem hi⟩
   have ua:=List.mem_of_getElem? hn;have qC:=OQ n ua;rw [Ki] at qC;have h2:=fun H=>f2 n.body H ⟨by omega,by omega⟩
   have h3:=fun H=>f2 n.els H ⟨by omega,by omega⟩
   have g31:(ndE.row l)[i*34+31]? = some (ndE.av n.body):=by
    have:=ndE.row_cell hn 31 (by decide);rw [show ndE.sz=34 from rfl] at this;rw [this]
    show (ndC n)[31]? = _
    rw [C9];rfl
   have g32:(ndE.row l)[i*34+32]? = some (ndE.av n.els):=by
    have:=ndE.row_cell hn 32 (by decide);rw [show ndE.sz=34 from rfl] at this;rw [this]
    show (ndC n)[32]? = _
    rw [C9];rfl
   have qS:szL (l.take (i+1))=szL (l.take i)+1+szL n.body+szL n.els:=by rw [List.take_add_one,hn,Option.toList_some,OS,szL,szL,Ki];omega
   have pv:szL (l.take (i+1))≤szL l:=by have:=OS (l.take (i+1)) (l.drop (i+1));rw [List.take_append_drop] at this;omega
   have w1:IntKind.i64.wrap ((i:Int)+1)=((i+1:Nat):Int):=by rw [Ab (by omega) (by omega)];omega
   have w2:IntKind.i64.wrap ((szL (l.take i):Int)+1)=(szL (l.take i):Int)+1:=Ab (by omega) (by omega);have w3:IntKind.i64.wrap ((szL (l.take i):Int)+1+(szL n.body:Int))=(szL (l.take i):Int)+1+(szL n.body:Int):=Ab (by omega) (by omega);have w4:IntKind.i64.wrap ((szL (l.take i):Int)+1+(szL n.body:Int)+(szL n.els:Int))=((szL (l.take (i+1)):Nat):Int):=by rw [Ab (by omega) (by omega)];omega
   have hI:∀{t H},AF B t H (mkT 28 [(0,ndE.av l),(3,.int .i64 (szL (l.take (i+1)):Int)),(4,.int .i64 ((i+1:Nat):Int))]) []→Nxt B (RcI l) (k+1) t H :=fun h=>Nxt.mk k (by omega) h ⟨i+1,by omega,rfl,rfl⟩
   simp [hi',-Int.natCast_add];refine LpD.turns X hG [7,14] [(0,7),(0,14),(1,7),(1,14),(7,9),(7,10),(7,11),(7,12),(7,13),(8,14)] (by kernel_rfl) ?_;simp [hi,g31,g32,h2,h3,w1,w2,w3,w4,-Int.natCast_add];exact hI (AF.mk0 hB (by simp))
theorem YQ (s:List UInt8) (H:AH):CS zP AJ 26 [.str s] H (.bool (decide (s.length≤2500))) H:=by
 refine CS.tr0 BY Tryz.func26 (by kernel_rfl) 0 (by simp [Tryz.f26]) (fun B hB hG => ?_) (by simp) (by simp) H;refine Tr.goD FF hG (by kernel_rfl) ?_
 by_cases h:s.length≤2500
 ·have h':(s.length:Int)≤2500:=by omega
  simp [Tryz.f26,h,h']
 ·have h':¬(s.length:Int)≤2500:=by omega
  simp [Tryz.f26,h,h']
mutual
/-- The lines rise,from Do a to b. -/
def DU:Nd→Int→Int→Prop
 | .mk l _ _ B C _,a,b=>a<l∧∃c,CJ B l c∧CJ C c b
def CJ:List Nd→Int→Int→Prop
 | [],a,b=>a≤b
 | n::r,a,b=>∃c,DU n a c∧CJ r c b
end
mutual
theorem YR:∀n a b,DU n a b→a<b
 | .mk l e s B C m,a,b,h=>by rw [DU] at h;obtain ⟨h,c,h1,h2⟩:=h;have:=Jr B l c h1;have:=Jr C c b h2;omega
theorem Jr:∀l a b,CJ l a b→a≤b
 | [],a,b,h=>h
 | n::r,a,b,h=>by rw [CJ] at h;obtain ⟨c,h1,h2⟩:=h;have:=YR n a c h1;have:=Jr r c b h2;omega
end
theorem MF:∀{l:List Nd} {a b b':Int},CJ l a b→b≤b'→CJ l a b'
 | [],a,b,b',h,k=>Int.le_trans h k
 | n::r,a,b,b',h,k=>by rw [CJ] at h ⊢;obtain ⟨c,h1,h2⟩:=h;exact ⟨c,h1,MF h2 k⟩
theorem YS {n:Nd} {a a' b:Int} (h:DU n a b) (k:a'≤a):DU n a' b:=by
 cases n with
 | mk l e s B C m =>rw [DU] at h ⊢;exact ⟨by omega,h.2⟩
theorem OU:∀{l:List Nd} {a a' b:Int},CJ l a b→a'≤a→CJ l a' b
 | [],a,a',b,h,k=>Int.le_trans k h
 | n::r,a,a',b,h,k=>by rw [CJ] at h ⊢;obtain ⟨c,h1,h2⟩:=h;exact ⟨c,YS h1 k,h2⟩
theorem OV:∀{x y:List Nd} {a b c:Int},CJ x a c→CJ y c b→CJ (x++y) a b
 | [],y,a,b,c,h,k=>OU k h
 | n::r,y,a,b,c,h,k=>by rw [CJ] at h;rw [List.cons_append,CJ];obtain ⟨d,h1,h2⟩:=h;exact ⟨d,h1,OV h2 k⟩
theorem SB {n:Nd} {a b:Int} (h:DU n a b):CJ [n] a b:=by rw [CJ];exact ⟨b,h,Int.le_refl b⟩
theorem YT (l:Nat) (x:Sx) {a b:Int} (h:a<l) (k:(l:Int)≤b):DU (Nd.leaf l x) a b:=by unfold Nd.leaf;rw [DU];exact ⟨h,l,Int.le_refl _,k⟩
def dpN:Nat→Nd→Prop
 | 0,n=>n.body=[]∧n.els=[]
 | k+1,n=>(∀m∈n.body,dpN k m)∧∀m∈n.els,dpN k m
theorem SC (l:Nat) (x:Sx):∀k,dpN k (Nd.leaf l x)
 | 0=>⟨rfl,rfl⟩
 | k+1=>⟨fun m h=>(by cases h),fun m h=>by cases h⟩
theorem Ks {Z:Zs} {nest:Nat→Sx→Bst→Nd × Bst} {top:Bool} (k:Nat) (hN:top=false→∀l x s,s.at_=l→(nest l x s).2.bad=none→DU (nest l x s).1 ((l:Int)-1) (((nest l x s).2.at_:Int)-1)∧dpN k (nest l x s).1) (of:Int) (beg:Nat) :
  ∀(f:Nat) (s:Bst) (out:List Nd) (a:Int),CJ out a ((s.at_:Int)-1)→(∀n∈out,dpN k n)→(DS Z nest top of beg f s out).2.bad=none→CJ (DS Z nest top of beg f s out).1 a (((DS Z nest top of beg f s out).2.at_:Int)-1)∧∀n∈(DS Z nest top of beg f s out).1,dpN k n
 | 0,s,out,a,h,hd=>fun hb=>absurd hb (Bst.fail_bad _ _ _)
 | f+1,s0,out,a,h0,hd=>by
  unfold DS;have hs:s0.at_≤(Dr Z s0).at_:=V9 Z _;generalize Dr Z s0=s at *;have h:CJ out a ((s.at_:Int)-1):=MF h0 (by omega)
  have fin:∀(c:Prop) [Decidable c] (p e:Nat),(if c then s else s.fail p e).bad=none→CJ out a (((if c then s else s.fail p e).at_:Int)-1)∧∀n∈out,dpN k n:=by
   intro c _ p e
   split
   ·exact fun _=>⟨h,hd⟩
   ·exact fun hb=>absurd hb (Bst.fail_bad _ _ _)
  have qD:∀n,dpN k n→∀m∈out++[n],dpN k m:=fun n hn m hm=>by
   rcases List.mem_append.1 hm with hm|hm
   ·exact hd m hm
   ·rw [List.mem_singleton.1 hm];exact hn
  have hl:∀x,CJ (out++[Nd.leaf s.at_ x]) a (((s.at_+1:Nat):Int)-1):=fun x=>OV h (SB (YT s.at_ x (by omega) (by omega)))
  simp only
  split
  ·rename_i hb
   intro h2;simp only at h2;rw [h2] at hb;cases hb
  ·split
   ·exact fin _ _ _
   ·rename_i z hz
    split
    ·exact fin _ _ _
    ·split
     ·exact fin _ _ _
     ·split
      ·exact fin _ _ _
      ·split
       ·split
        ·exact fun hb=>absurd hb (Bst.fail_bad _ _ _)
        ·exact Ks k hN of beg f _ _ a (hl z.1) (qD _ (SC _ _ _))
       ·split
        ·split
         ·exact fun hb=>absurd hb (Bst.fail_bad _ _ _)
         ·rename_i ht
          split
          ·rename_i hb
           intro h2;simp only at h2;rw [h2] at hb;cases hb
          ·rename_i hb
           have hn:=hN (by simpa using ht) s.at_ z.1 ⟨s.at_,s.bad,true⟩ rfl (by simpa using hb);exact Ks k hN of beg f _ _ a (OV h (SB hn.1)) (qD _ hn.2)
        ·exact Ks k hN of beg f _ _ a (hl z.1) (qD _ (SC _ _ _))
def SD (blk:Int→Nat→Bst→List Nd × Bst) (k:Nat):Prop:=∀of beg s,(blk of beg s).2.bad=none→CJ (blk of beg s).1 ((s.at_:Int)-1) (((blk of beg s).2.at_:Int)-1)∧∀n∈(blk of beg s).1,dpN k n
theorem YU {Z:Zs} {blk:Int→Nat→Bst→List Nd × Bst} {k:Nat} (hb:SD blk k) (l:Nat) (x:Sx) (s:Bst) (hl:s.at_=l):(Eh Z blk l x s).2.bad=none→DU (Eh Z blk l x s).1 ((l:Int)-1) (((Eh Z blk l x s).2.at_:Int)-1)∧dpN (k+1) (Eh Z blk l x s).1:=by
 unfold Eh;have h1:=hb x.kind l ⟨s.at_+1,s.bad,s.plain⟩;generalize blk x.kind l ⟨s.at_+1,s.bad,s.plain⟩=b at *;subst hl;simp only at h1 ⊢
 split
 ·rename_i hq
  intro h2;simp only at h2;rw [h2] at hq;cases hq
 ·rename_i hq
  obtain ⟨a1,a2⟩:=h1 (by simpa using hq);have a1:CJ b.1 (s.at_:Int) ((b.2.at_:Int)-1):=OU a1 (by omega)
  split
  ·intro _
   refine ⟨?_,a2,fun m h=>by cases h⟩;rw [DU];exact ⟨by omega,_,a1,Int.le_refl _⟩
  ·rename_i z hz
   split
   ·have h3:=hb 6 s.at_ ⟨b.2.at_+1,b.2.bad,b.2.plain⟩
    generalize blk 6 s.at_ ⟨b.2.at_+1,b.2.bad,b.2.plain⟩=c at *
    split
    ·rename_i hc
     intro h2;simp only at h2;rw [h2] at hc;cases hc
    ·rename_i hc
     intro _;obtain ⟨c1,c2⟩:=h3 (by simpa using hc);simp only at c1;refine ⟨?_,a2,c2⟩;rw [DU];exact ⟨by omega,_,a1,OU (MF c1 (by simp only;omega)) (by omega)⟩
   ·intro _
    refine ⟨?_,a2,fun m h=>by cases h⟩;rw [DU];exact ⟨by omega,_,a1,by show (b.2.at_:Int)-1≤_;simp only;omega⟩
theorem SE (Z:Zs):∀k,SD (EK Z k) k
 | 0=>fun of beg s=>Ks 0 (fun h=>by cases h) of beg _ s [] _ (Int.le_refl _) (fun n h=>by cases h)
 | k+1=>fun of beg s=>Ks (k+1) (fun _ l x s hl=>YU (SE Z k) l x s hl) of beg _ s [] _ (Int.le_refl _) (fun n h=>by cases h)
def twF (lim:Nat) (s:Bool × Int × Nat) (n:Nd) (d:Int):Bool × Bool × Int × Nat:=(decide (s.2.2+1≤lim),s.1&&decide (s.2.1<n.line)&&decide (0≤d)&&decide (d≤8),n.line,s.2.2+1)
def TwE (lim:Nat) (b:Int) (c z:Nat) (r:Bool × Bool × Int × Nat):Prop:=r.2.1=true∧r.2.2.1≤b∧(if c+z≤lim then r.1=true∧r.2.2.2=c+z else r.1=false∧r.2.2.2=lim+1)
mutual
theorem twN (lim:Nat):∀(n:Nd) (k:Nat) (d last a b:Int) (c:Nat),d+k=8→0≤d→dpN k n→last≤a→DU n a b→c≤lim→TwE lim b c (szN n) (wkN (twF lim) n d (true,last,c))
 | .mk l e x B C m,k,d,last,a,b,c,hdk,hd,qu,xl,ha,hc=>by
  rw [DU] at ha;obtain ⟨h1,c1,h2,h3⟩:=ha;have hle2:=Jr B l c1 h2;have hle3:=Jr C c1 b h3;have hln:(Nd.mk l e x B C m).line=l:=rfl
  have hf:twF lim (true,last,c) (.mk l e x B C m) d=(decide (c+1≤lim),true,l,c+1):=by
   unfold twF;rw [hln];have q1:last<l:=by omega
   have q2:d≤8:=by omega
   simp [q1,hd,q2]
  rw [wkN,szN,hf];simp only
  by_cases h:c+1≤lim
  ·have hk:(B=[]∧C=[])∨∃j,k=j+1∧(∀m∈B,dpN j m)∧∀m∈C,dpN j m:=by
    cases k with
    | zero=>exact .inl qu
    | succ j=>exact .inr ⟨j,rfl,qu⟩
   have hB:B=[]∨∃j:Nat,(d+1)+j=8∧∀m∈B,dpN j m:=by
    rcases hk with ⟨h,_⟩|⟨j,rfl,h,_⟩
    ·exact .inl h
    ·exact .inr ⟨j,by omega,h⟩
   have hC:C=[]∨∃j:Nat,(d+1)+j=8∧∀m∈C,dpN j m:=by
    rcases hk with ⟨_,h⟩|⟨j,rfl,_,h⟩
    ·exact .inl h
    ·exact .inr ⟨j,by omega,h⟩
   have w1:=twL lim B (d+1) l l c1 (c+1) hB (by omega) (Int.le_refl _) h2 h;generalize wkL (twF lim) B (d+1) (true,l,c+1)=r1 at *;obtain ⟨r,s,t,u⟩:=r1;obtain ⟨e1,e2,e3⟩:=w1;simp only at e1 e2 e3;subst e1;rw [decide_eq_true h];simp only [if_true]
   by_cases h4:c+1+szL B≤lim
   ·rw [if_pos h4] at e3
    obtain ⟨rfl,rfl⟩:=e3;simp only [if_true];have w2:=twL lim C (d+1) t c1 b (c+1+szL B) hC (by omega) e2 h3 h4;have e:c+1+szL B+szL C=c+(1+szL B+szL C):=by omega
    unfold TwE at w2 ⊢;rw [e] at w2;exact w2
   ·rw [if_neg h4] at e3
    obtain ⟨rfl,rfl⟩:=e3;simp only [Bool.false_eq_true,if_false];refine ⟨rfl,by simp only;omega,?_⟩;rw [if_neg (by omega)];exact ⟨rfl,rfl⟩
  ·rw [decide_eq_false h]
   simp only [Bool.false_eq_true,if_false];refine ⟨rfl,by simp only;omega,?_⟩;rw [if_neg (by omega)];exact ⟨rfl,by simp only;omega⟩
theorem twL (lim:Nat):∀(l:List Nd) (d last a b:Int) (c:Nat),(l=[]∨∃j:Nat,d+j=8∧∀m∈l,dpN j m)→0≤d→last≤a→CJ l a b→c≤lim→TwE lim b c (szL l) (wkL (twF lim) l d (true,last,c))
 | [],d,last,a,b,c,_,_,xl,ha,hc=>by rw [wkL,szL];have ha:a≤b:=ha;refine ⟨rfl,by simp only;omega,?_⟩;rw [if_pos (by omega)];exact ⟨rfl,rfl⟩
 | n::r,d,last,a,b,c,hj,hd,xl,ha,hc=>by
  rw [CJ] at ha;obtain ⟨c1,h2,h3⟩:=ha;have pv:=Jr r c1 b h3;rcases hj with h|⟨j,yk,hm⟩
  ·cases h
  have w1:=twN lim n j d last a c1 c yk hd (hm n List.mem_cons_self) xl h2 hc;rw [wkL,szL];generalize wkN (twF lim) n d (true,last,c)=r1 at *;obtain ⟨q,s,t,u⟩:=r1;obtain ⟨e1,e2,e3⟩:=w1;simp only at e1 e2 e3 ⊢;subst e1
  by_cases h4:c+szN n≤lim
  ·rw [if_pos h4] at e3
   obtain ⟨rfl,rfl⟩:=e3;simp only [if_true];have w2:=twL lim r d t c1 b (c+szN n) (.inr ⟨j,yk,fun m hm'=>hm m (List.mem_cons_of_mem _ hm')⟩) hd e2 h3 h4;have e:c+szN n+szL r=c+(szN n+szL r):=by omega
   unfold TwE at w2 ⊢;rw [e] at w2;exact w2
  ·rw [if_neg h4] at e3
   obtain ⟨rfl,rfl⟩:=e3;simp only [Bool.false_eq_true,if_false];refine ⟨rfl,by simp only;omega,?_⟩;rw [if_neg (by omega)];exact ⟨rfl,rfl⟩
end
end Go.Proofs.YtejjlojfgcgopaaGreatDoor
