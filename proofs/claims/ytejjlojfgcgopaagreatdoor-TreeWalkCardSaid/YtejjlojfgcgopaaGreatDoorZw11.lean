/- TreeWalk: the function that is handed to Walk. .. What the rows of the laws on trees lay: what the runs are to -/
import Derived.Test.YtejjlojfgcgopaaGreatDoorZw10
import Derived.Test.YtejjlojfgcgopaaGreatDoorCards
import Derived.Test.YtejjlojfgcgopaaGreatDoorTie
import Derived.ProofKit
import Derived.OpenShut
import Derived.Deep.DeepHandedRow
import Derived.Deep.DeepWitnessRowRef
import Derived.LaidMore
import Derived.LaidSub
import Derived.ChangeMaps5
import Derived.Lay
set_option linter.unusedSimpArgs false
set_option linter.unusedVariables false
namespace Go.Proofs.YtejjlojfgcgopaaGreatDoor
open Go.RowKit Go.Proofs.Fw
set_option maxRecDepth 100000
set_option maxHeartbeats 4000000
theorem YV:AE zP 47=true:=by kernel_rfl
def twH (s:Bool × Int × Nat) (lim:Nat):AH:=[some (.box [.bool s.1]),some (.box [.int .i64 s.2.1]),some (.box [.int .i64 (s.2.2:Int)]),some (.box [.int .u8 (lim:Int)])]
theorem YW (n:Nd) (d:Int) (lim:Nat) (tN:lim<256) (s:Bool × Int × Nat) (hs:s.2.2<4611686018427387904):CS zP AY 47 [.agg (ndC n),.int .i64 d,.ptr 0 0,.ptr 1 0,.ptr 2 0,.ptr 3 0] (twH s lim) (.bool (twF lim s n d).1) (twH (twF lim s n d).2 lim):=by
 have hl:=Br n;have l2:=fun (l:List AV) (h:lowL 0 l=true)=>Ah (Nat.zero_le 4) l h
 obtain ⟨r,last,c⟩:=s;have w1:IntKind.i64.wrap ((c:Int)+1)=((c+1:Nat):Int):=by rw [Ab (by simp only at hs;omega) (by simp only at hs;omega)];rfl
 have w2:IntKind.i64.wrap (lim:Int)=(lim:Int):=Ab (by omega) (by omega);refine CS.of_Tr (P:=zP) (E:=AY) (f:=47) (c:=Ar Tryz.f47) (H0:=twH (r,last,c) lim) (H1:=twH (twF lim (r,last,c) n d).2 lim) Tryz.func47 (by kernel_rfl) 0 (by simp [Tryz.f47]) (fun B hB hG => ?_) rfl (by simp [twH,AP,Aq]);refine Tr.goW Cv hG (by kernel_rfl) ?_;have e1:=C9 n;simp only [Sx.c,List.cons_append,List.nil_append] at e1;rw [e1];have qM:((c+1:Nat):Int)≤(lim:Int)↔c+1≤lim:=by omega
 cases r with
 | false=>simp [Tryz.f47,twH,twF,w1,w2,-Int.natCast_add,qM]
 | true =>
  by_cases q1:last<n.line
  ·by_cases q2:0≤d
   ·by_cases q3:d≤8
    all_goals
     simp [Tryz.f47,twH,twF,w1,w2,-Int.natCast_add,qM,q1,q2,q3]
   ·simp [Tryz.f47,twH,twF,w1,w2,-Int.natCast_add,qM,q1,q2]
  ·simp [Tryz.f47,twH,twF,w1,w2,-Int.natCast_add,qM,q1]
def twP (i:Nat):Nat:=if i=0 then 4 else if i=1 then 2 else if i=2 then 3 else 0
theorem YX (n:Nd) (d:Int) (lim:Nat) (tN:lim<256) (s:Bool × Int × Nat) (hs:s.2.2<4611686018427387904) {H:AH} (h4:H.at 4=some (.box [.bool s.1])) (h2:H.at 2=some (.box [.int .i64 s.2.1])) (h3:H.at 3=some (.box [.int .i64 (s.2.2:Int)])) (h0:H.at 0=some (.box [.int .u8 (lim:Int)])) :
  CS zP AY 47 [.agg (ndC n),.int .i64 d,.ptr 4 0,.ptr 2 0,.ptr 3 0,.ptr 0 0] H (.bool (twF lim s n d).1)
   (((H.set 4 (some (.box [.bool (twF lim s n d).2.1]))).set 2 (some (.box [.int .i64 (twF lim s n d).2.2.1]))).set 3 (some (.box [.int .i64 ((twF lim s n d).2.2.2:Int)]))):=by
 have hl:=Br n;have l2:=fun (l:List AV) (h:lowL 0 l=true)=>Ah (Nat.zero_le 4) l h
 have key:=YW n d lim tN s hs;generalize (twF lim s n d).2=s' at *
 have:=CS.embed twP (k:=4) (H:=H) (H':=((H.set 4 (some (.box [.bool s'.1]))).set 2 (some (.box [.int .i64 s'.2.1]))).set 3 (some (.box [.int .i64 (s'.2.2:Int)]))) key rfl rfl (by
  intro i j hi hj he;unfold twP at he
  rcases (by omega:i=0∨i=1∨i=2∨i=3) with rfl|rfl|rfl|rfl<;>rcases (by omega:j=0∨j=1∨j=2∨j=3) with rfl|rfl|rfl|rfl<;>simp at he ⊢) DQ (by simp [l2 _ hl]) rfl (by simp [twH,AP,Aq]) (by simp [twH,AP,Aq]) (by
  intro i hi;rcases (by omega:i=0∨i=1∨i=2∨i=3) with rfl|rfl|rfl|rfl
  ·exact h4
  ·exact h2
  ·exact h3
  ·exact h0) (by
  intro i hi;rcases (by omega:i=0∨i=1∨i=2∨i=3) with rfl|rfl|rfl|rfl
  ·rw [show twP 0=4 from rfl,CZ (by decide),CZ (by decide),Fs h4];rfl
  ·rw [show twP 1=2 from rfl,CZ (by decide),Fs (by rw [CZ (by decide)];exact h2)];rfl
  ·rw [show twP 2=3 from rfl,Fs (by rw [CZ (by decide),CZ (by decide)];exact h3)];rfl
  ·rw [show twP 3=0 from rfl,CZ (by decide),CZ (by decide),CZ (by decide),h0];rfl) (by
  intro j hj;have k0:4≠j:=hj 0 (by decide);have k1:2≠j:=hj 1 (by decide);have k2:3≠j:=hj 2 (by decide)
  rw [CZ k2,CZ k1,CZ k0])
 simpa [AM,ren,BA _ _ hl,twP] using this
def YY (lim:Nat) (tN:lim<256):Clo 47 (Bool × Int × Nat) where
 caps:=[.ptr 4 0,.ptr 2 0,.ptr 3 0,.ptr 0 0]
 ids:=fun s=>[(4,[.bool s.1]),(2,[.int .i64 s.2.1]),(3,[.int .i64 (s.2.2:Int)])]
 keys:=[4,2,3]
 key:=fun _=>rfl
 nodup:=by decide
 inj:=fun s s' h=>by simp at h;obtain ⟨r,l,c⟩:=s;obtain ⟨r',l',c'⟩:=s';simp only at h;rw [h.1,h.2.1,show c=c' by omega]
 lowC:=fun s x hx=>by simp at hx;rcases hx with rfl|rfl|rfl<;>rfl
 Kp:=fun H=>4<H.length∧H.at 0=some (.box [.int .u8 (lim:Int)])
 kpA:=fun H K h=>⟨by rw [List.length_append];omega,by rw [Fa (DK h.2)];exact h.2⟩
 kpW:=fun s H h=>⟨by rw [GA];exact h.1,by
  rw [IM _ _ _ (fun x hx=>by simp at hx;rcases hx with rfl|rfl|rfl<;>simp)]
  exact h.2⟩
 kpL:=fun H h=>⟨fun i hi=>by
  simp at hi;rcases hi with rfl|rfl|rfl<;>omega,by
  have h1:0<H.length:=by omega
  have h2:2<H.length:=by omega
  have h3:3<H.length:=by omega
  simp [lowL,low,h.1,h1,h2,h3]⟩
 ok:=fun j s=>s.2.2+j<4611686018427387904
 f:=fun s n d=>twF lim s n d
 okN:=fun j s n d h=>by have h:s.2.2+(j+1)<4611686018427387904:=h;show s.2.2+1+j<4611686018427387904;omega
 okM:=fun j s h=>by have h:s.2.2+(j+1)<4611686018427387904:=h;show s.2.2+j<4611686018427387904;omega
 cs:=fun j s n d H h hK pu tP hd=>YX n d lim tN s (by have h:s.2.2+(j+1)<4611686018427387904:=h;omega) (pu (4,[.bool s.1]) (by simp)) (pu (2,[.int .i64 s.2.1]) (by simp)) (pu (3,[.int .i64 (s.2.2:Int)]) (by simp)) hK.2
theorem OW {ts:List Wd} {of:Rd} (h:DP of) {f:List UInt8} {one:Nat} {s:List UInt8} {two:Nat}:∀(n:Nat) (e:Ex) (r:St),okT e.tn=true→okT (Cn ts of f one s two n e r).1.tn=true
 | 0,e,r,he=>he
 | n+1,e,r,he=>by
  simp only [Cn]
  split
  ·exact OW h n _ _ (NR he (h _))
  ·split
   ·exact OW h n _ _ (NR he (h _))
   ·exact he
theorem MG {ts:List Wd} {of:Rd} (h:DP of) {f:List UInt8} {one:Nat} {s:List UInt8} {two:Nat}:DP (FD ts of f one s two):=fun r=>OW h _ _ _ (h r)
theorem SF {ts:List Wd} {sum:Rd} (h:DP sum):∀(n:Nat) (a:List Ex) (r:St),Di (Ex.tns a)=true→Di (Ex.tns (Dh ts sum n a r).1)=true∧(Dh ts sum n a r).1.length≤a.length+n
 | 0,a,r,ha=>⟨ha,Nat.le_refl _⟩
 | n+1,a,r,ha=>by
  simp only [Dh]
  split
  ·split
   ·exact ⟨ha,by simp only;omega⟩
   ·have h1:Di (Ex.tns (a++[(sum r.step).1]))=true:=by
     rw [QK];refine QJ ha ?_;simp only [Ex.tns,Di,h r.step,Bool.and_self]
    obtain ⟨h2,h3⟩:=SF h n (a++[(sum r.step).1]) (sum r.step).2 h1;refine ⟨h2,?_⟩;rw [List.length_append] at h3;simp only [List.length_cons,List.length_nil] at h3;exact Nat.le_trans h3 (by omega)
  ·exact ⟨ha,by simp only;omega⟩
theorem SG {ts:List Wd} {sum:Rd} (h:DP sum) (s:List UInt8) (r:St):okT (Ex.elem s (C8 ts sum r).1).tn=true:=by unfold C8;obtain ⟨h1,h2⟩:=SF h (ts:=ts) 5 [(sum r).1] (sum r).2 (by simp only [Ex.tns,Di,h r,Bool.and_self]);simp only [Ex.tn,okT,JY,h1,Bool.and_true,decide_eq_true_eq];simp only [List.length_cons,List.length_nil] at h2;omega
theorem YZ {ts:List Wd} {sum fac:Rd} (h:DP sum) (hf:DP fac):DP (CF ts sum fac):=fun r=>by
 unfold CF
 split
 ·split
  ·rfl
  ·split
   ·split
    ·exact SG h _ _
    ·rfl
   ·split
    ·split
     ·rfl
     ·split
      ·have:=hf ⟨r.step.at_,r.step.deep+1,r.step.err⟩
       simp [FR,Ex.tn,okT,Di,this]
      ·exact h _
    ·rfl
 ·rfl
theorem OX (ts:List Wd):∀n,DP (Az ts n)
 | 0=>fun _=>rfl
 | n+1=>YZ (MG (MG (OX ts n))) (OX ts n)
theorem Ya (ts:List Wd):DP (B2 ts):=MG (MG (OX ts _))
theorem MH (ts:List Wd) (r:Sr):okT (B9 ts r).1.tn=true:=by
 unfold B9
 split
 ·rfl
 ·exact j9 _
theorem SH (ts:List Wd) (r:Sr):okT (CV ts r).1.tn=true:=by
 unfold CV
 split
 ·split
  ·exact SG (Ya _) _ _
  ·rfl
 ·rfl
theorem SI (ts:List Wd) (r:Sr):okT (G9 ts r).1.2.1.tn=true∧okT (G9 ts r).1.2.2.tn=true:=by
 unfold G9
 split
 ·exact ⟨rfl,rfl⟩
 ·exact kA _
theorem SJ (ts:List Wd):∀(n:Nat) (l:List It) (r:Sr),(D2 ts n l r).1.length≤l.length+n+1
 | 0,l,r=>by rw [D2];simp only;omega
 | n+1,l,r=>by
  rw [D2]
  split
  ·have:=SJ ts n (l++[(CA ts r).1]) (CA ts r).2.step
   rw [List.length_append,List.length_singleton] at this;omega
  ·simp only [List.length_append,List.length_singleton];omega
theorem SK (ts:List Wd):∀(n:Nat) (d:List Int) (r:Sr),(Dk ts n d r).1.length≤d.length+n+1
 | 0,d,r=>by show d.length≤_;omega
 | n+1,d,r=>by
  have key:∀(c:Bool) (d':List Int) (r' r'':Sr),(if c=true then Dk ts n d' r' else (d',r'')).1.length≤d'.length+n+1:=fun c d' r' r''=>by
   cases c with
   | true=>exact SK ts n d' r'
   | false=>show d'.length≤_;omega
  rw [Dk];refine Nat.le_trans (key _ _ _ _) ?_;rw [List.length_append,List.length_singleton];omega
theorem Yb (ts:List Wd) (r:Sr):(CA ts r).1.dims.length<4294967296:=by
 unfold CA;simp only
 split
 ·have:=SK ts 6 [] (CD ts r).2.step
  simp only [List.length_nil] at this
  show (Dk ts 6 [] (CD ts r).2.step).1.length<_
  omega
 ·simp
theorem SL (ts:List Wd):∀(n:Nat) (l:List It) (r:Sr),(∀y∈l,y.dims.length<4294967296)→∀y∈(D2 ts n l r).1,y.dims.length<4294967296
 | 0,l,r,h=>by rw [D2];exact h
 | n+1,l,r,h=>by
  have h2:∀y∈l++[(CA ts r).1],y.dims.length<4294967296:=fun y hy=>by
   rcases List.mem_append.1 hy with hy|hy
   ·exact h y hy
   ·rw [List.mem_singleton.1 hy];exact Yb ts r
  rw [D2]
  split
  ·exact SL ts n _ _ h2
  ·exact h2
structure SmT (m:Sm):Prop where
 to:okT m.to.tn=true
 e:okT m.e.tn=true
 ca:okT m.ca.tn=true
 cb:okT m.cb.tn=true
 lo:okT m.lo.tn=true
 hi:okT m.hi.tn=true
 items:m.items.length<4294967296
 dims:∀y∈m.items,y.dims.length<4294967296
theorem SmT.x {m:Sm} (h:SmT m):SxT m.x:=⟨h.to,h.e,h.ca,h.cb,h.lo,h.hi,h.items,h.dims⟩
theorem SmT.none:SmT {}:=⟨rfl,rfl,rfl,rfl,rfl,rfl,(show 0<4294967296 by decide),fun _ h=>nomatch h⟩
theorem SmT.kind (k:Nat):SmT {kind:=k}:=⟨rfl,rfl,rfl,rfl,rfl,rfl,(show 0<4294967296 by decide),fun _ h=>nomatch h⟩
theorem Yc (ts:List Wd) (po:ts.length<1000000) (w:List UInt8) (r:Sr):SmT (Cc ts w r).1:=by
 unfold Cc
 split
 ·have:=SJ ts (ts.length+1) [] r
  exact ⟨rfl,rfl,rfl,rfl,rfl,rfl,by show (Fe ts r).1.length<_;unfold Fe;simp only [List.length_nil] at this;omega,fun y hy=>SL ts _ [] r (fun _ h=>nomatch h) y hy⟩
 ·split
  ·exact ⟨rfl,rfl,rfl,rfl,MH _ _,MH _ _,(show 0<4294967296 by decide),fun _ h=>nomatch h⟩
  ·split
   ·split
    ·exact SmT.kind 4
    ·exact SmT.kind 7
   ·split
    ·exact ⟨rfl,rfl,(SI _ _).1,(SI _ _).2,rfl,rfl,(show 0<4294967296 by decide),fun _ h=>nomatch h⟩
    ·split
     ·exact SmT.kind 6
     ·split
      ·exact ⟨SH _ _,rfl,rfl,rfl,rfl,rfl,(show 0<4294967296 by decide),fun _ h=>nomatch h⟩
      ·split
       ·exact ⟨rfl,MH _ _,rfl,rfl,rfl,rfl,(show 0<4294967296 by decide),fun _ h=>nomatch h⟩
       ·exact SmT.none
theorem Yd (ts:List Wd) (po:ts.length<1000000) (w:Wd):SmT (D3 ts w).1:=by
 unfold D3
 split
 ·exact Yc ts po _ _
 ·split
  ·exact ⟨SH _ _,MH _ _,rfl,rfl,rfl,rfl,(show 0<4294967296 by decide),fun _ h=>nomatch h⟩
  ·exact SmT.none
theorem Ye (s:List UInt8) (hs:s.length<1000000):SmT (Eg s).1:=by
 unfold Eg;cases hl:lex (s.length+1) s 0 false with
 | error x=>exact SmT.none
 | ok ts =>
  have po:=QG hs hl;simp only;unfold Kd;cases ts with
  | nil=>exact SmT.none
  | cons w r =>
   simp only
   split
   ·exact SmT.none
   ·exact Yd _ po w
theorem MI:∀{a b:List Nd},CP a→CP b→CP (a++b)
 | [],b,_,h=>h
 | n::a,b,h,k=>by rw [CP] at h;rw [List.cons_append,CP];exact ⟨h.1,MI h.2 k⟩
theorem OY {n:Nd} (h:okN n):CP [n]:=by rw [CP];exact ⟨h,by rw [CP];trivial⟩
theorem OZ {x:Sx} (h:SxT x) (l:Nat):okN (Nd.leaf l x):=by unfold Nd.leaf;rw [okN];exact ⟨h,by rw [CP];trivial,by rw [CP];trivial⟩
theorem Kt {Z:Zs} (hZ:∀z∈Z,SxT z.1) {nest:Nat→Sx→Bst→Nd × Bst} (hN:∀l x s,SxT x→okN (nest l x s).1) (top:Bool) (of:Int) (beg:Nat):∀(f:Nat) (s:Bst) (out:List Nd),CP out→CP (DS Z nest top of beg f s out).1
 | 0,s,out,h=>h
 | f+1,s0,out,h=>by
  unfold DS;generalize Dr Z s0=s;simp only
  split
  ·exact h
  ·split
   ·exact h
   ·rename_i z hz
    have hx:=hZ z (List.mem_of_getElem? hz)
    split
    ·exact h
    ·split
     ·exact h
     ·split
      ·exact h
      ·split
       ·split
        ·exact h
        ·exact Kt hZ hN top of beg f _ _ (MI h (OY (OZ hx _)))
       ·split
        ·split
         ·exact h
         ·split
          ·exact h
          ·exact Kt hZ hN top of beg f _ _ (MI h (OY (hN _ _ _ hx)))
        ·exact Kt hZ hN top of beg f _ _ (MI h (OY (OZ hx _)))
theorem Yf {Z:Zs} {blk:Int→Nat→Bst→List Nd × Bst} (hb:∀of beg s,CP (blk of beg s).1) (l:Nat) (x:Sx) (s:Bst) (hx:SxT x):okN (Eh Z blk l x s).1:=by
 have h0:CP []:=by rw [CP];trivial
 unfold Eh;simp only
 split
 ·rw [okN];exact ⟨hx,hb _ _ _,h0⟩
 ·split
  ·rw [okN];exact ⟨hx,hb _ _ _,h0⟩
  ·split
   ·split
    all_goals
     rw [okN];exact ⟨hx,hb _ _ _,hb _ _ _⟩
   ·rw [okN];exact ⟨hx,hb _ _ _,h0⟩
theorem SM {Z:Zs} (hZ:∀z∈Z,SxT z.1):∀k of beg s,CP (EK Z k of beg s).1
 | 0,of,beg,s=>Kt hZ (fun l x s hx=>OZ hx l) _ _ _ _ _ _ (by rw [CP];trivial)
 | k+1,of,beg,s=>Kt hZ (fun l x s hx=>Yf (SM hZ k) l x s hx) _ _ _ _ _ _ (by rw [CP];trivial)
mutual
theorem Yg:∀n a b,DU n a b→(szN n:Int)≤b-a
 | .mk l e s B C m,a,b,h=>by rw [DU] at h;obtain ⟨h,c,h1,h2⟩:=h;have:=MJ B l c h1;have:=MJ C c b h2;rw [szN];omega
theorem MJ:∀l a b,CJ l a b→(szL l:Int)≤b-a
 | [],a,b,h=>by have h:a≤b:=h;rw [szL];omega
 | n::r,a,b,h=>by rw [CJ] at h;obtain ⟨c,h1,h2⟩:=h;have:=Yg n a c h1;have:=MJ r c b h2;rw [szL];omega
end
theorem Yh (ls:List (List UInt8)) (rn:ls.length<1000000) (hl:∀s∈ls,s.length<1000000) (h:(Fi ls).2=none):CJ (Fi ls).1 (-1) ls.length∧(∀n∈(Fi ls).1,dpN 8 n)∧CP (Fi ls).1∧szL (Fi ls).1<1000000000:=by
 have hZ:=Q3 rn
 have hT:∀z∈Cb ls,SxT z.1:=fun z hz=>by obtain ⟨s,hs,rfl⟩:=List.mem_map.1 hz;refine (Ye (B8 s) ?_).x;have:=hl s hs;have h1:=Ni s;unfold B8;rw [List.length_take];omega
 have h0:=SM hT 8 0 0 ⟨0,none,false⟩;have h1:=SE (Cb ls) 8 0 0 ⟨0,none,false⟩;have h2:=((Jh hZ 8).goes 0 0 ⟨0,none,false⟩).len (Nat.zero_le _);rw [Q2] at h2;unfold Fi at h ⊢;generalize EK (Cb ls) 8 0 0 ⟨0,none,false⟩=r at *;simp only at h ⊢
 split at h
 ·cases h
 ·rename_i hb
  simp only;obtain ⟨a1,a2⟩:=h1 hb;have a3:=MF a1 (show ((r.2.at_:Int)-1)≤ls.length by omega);have a4:=MJ _ _ _ a3;exact ⟨a3,a2,h0,by simp only at a4;omega⟩
noncomputable def SN:AG zP AJ:=AG.pure 26 (fun _:List UInt8=>True) (fun s=>[.str s]) (fun s => .bool (decide (s.length≤2500))) (fun s _ H=>YQ s H) (fun x y _ _ h=>by
 simp only [List.cons.injEq,AV.str.injEq,and_true] at h
 rw [h])
noncomputable def SO:AG zP AJ:=AG.pure 27 (fun s:List UInt8=>s.length<900000) (fun s=>[.str s]) (fun s=>Ge (Kl s)) (fun s h H=>XN s h H) (fun x y _ _ h=>by
 simp only [List.cons.injEq,AV.str.injEq,and_true] at h
 rw [h])
noncomputable def SP:AG zP AJ:=AG.pure 45 (fun l:List Nd=>szL l<1000000000) (fun l=>[ndE.av l]) (fun l => .int .i64 (szL l:Int)) (fun l h H=>OT _ l (Nat.lt_succ_self _) h H) (fun x y _ _ h=>by
 simp only [List.cons.injEq,and_true] at h
 rw [ndE.av_inj h])
noncomputable def SQ:AG zP AJ:=AG.pure 29 (fun l:List Nd=>szL l<1000000000∧CP l) (fun l=>[ndE.av l]) (fun l=>ndE.av (Bj l)) (fun l h H=>OR _ l (Nat.lt_succ_self _) h.1 h.2 H) (fun x y _ _ h=>by
 simp only [List.cons.injEq,and_true] at h
 rw [ndE.av_inj h])
mutual
theorem Yi:∀n a b,DU n a b→DU (toN n) a b
 | .mk l e s B C m,a,b,h=>by rw [DU] at h;rw [toN,DU];obtain ⟨h,c,h1,h2⟩:=h;exact ⟨h,c,MK B l c h1,MK C c b h2⟩
theorem MK:∀l a b,CJ l a b→CJ (Bj l) a b
 | [],a,b,h=>h
 | n::r,a,b,h=>by rw [CJ] at h;rw [Bj,CJ];obtain ⟨c,h1,h2⟩:=h;exact ⟨c,Yi n a c h1,MK r c b h2⟩
end
mutual
theorem Yj:∀n,szN (toN n)=szN n
 | .mk l e s B C m=>by rw [toN,szN,szN,Ku B,Ku C]
theorem Ku:∀l,szL (Bj l)=szL l
 | []=>rfl
 | n::r=>by rw [Bj,szL,szL,Yj n,Ku r]
end
theorem ML:∀{l:List Nd} {m:Nd},m∈Bj l→∃n∈l,m=toN n
 | [],m,h=>by cases h
 | n::r,m,h=>by
  rw [Bj] at h;rcases List.mem_cons.1 h with h|h
  ·exact ⟨n,List.mem_cons_self,h⟩
  ·obtain ⟨n',h1,h2⟩:=ML h
   exact ⟨n',List.mem_cons_of_mem _ h1,h2⟩
theorem SR (n:Nd):(toN n).body=Bj n.body:=by cases n;rw [toN];rfl
theorem SS (n:Nd):(toN n).els=Bj n.els:=by cases n;rw [toN];rfl
theorem Oa:∀(k:Nat) (n:Nd),dpN k n→dpN k (toN n)
 | 0,n,h=>by obtain ⟨h1,h2⟩:=h;exact ⟨by rw [SR,h1];rfl,by rw [SS,h2];rfl⟩
 | k+1,n,h=>by
  refine ⟨fun m hm => ?_,fun m hm => ?_⟩
  ·rw [SR] at hm
   obtain ⟨n',h1,rfl⟩:=ML hm;exact Oa k n' (h.1 n' h1)
  ·rw [SS] at hm
   obtain ⟨n',h1,rfl⟩:=ML hm;exact Oa k n' (h.2 n' h1)
@[simp] theorem immU8:AY.imm 5=false:=by decide
@[simp] theorem nh:AY.imm 4=false:=by decide
noncomputable def LkW:List (AG zP AY):=[Rs,DJ SN,DJ SO,DJ SP,DJ SQ]
theorem Kv:((LkW).map (·.f)).Nodup:=show ([36,26,27,45,29]:List Nat).Nodup by decide
def twS (lim:Nat) (s:Bool × Int × Nat):AH:=[some (.box [.int .u8 (lim:Int)]),some (.box [.nilSlice,.int .i64 0]),some (.box [.int .i64 s.2.1]),some (.box [.int .i64 (s.2.2:Int)]),some (.box [.bool s.1])]
theorem Yk (lim:Nat) (tN:lim<256) (l:List Nd) (qC:szL l<1000000000):CS zP AY 46 [ndE.av l,.func (.func 47) [] [.ptr 4 0,.ptr 2 0,.ptr 3 0,.ptr 0 0]] (twS lim (true,-1,0)) (.bool (wkL (twF lim) l 0 (true,-1,0)).1) (twS lim (wkL (twF lim) l 0 (true,-1,0)).2) :=
 Lx (YY lim tN) YV (by decide) l (true,-1,0) (twS lim (true,-1,0)) (by omega) (by show 0+szL l<_;omega) ⟨by show 4<5;decide,rfl⟩ (fun x hx=>by
  have hx:x∈([(4,[.bool true]),(2,[.int .i64 (-1)]),(3,[.int .i64 0])]:List (Nat × List AV)):=hx;simp only [List.mem_cons,List.not_mem_nil,or_false] at hx
  rcases hx with rfl|rfl|rfl<;>rfl) rfl
theorem Ym (s:List UInt8) (lim:Nat) (tN:lim<256) (H:AH):CS zP AY 11 [.str s,.int .u8 (lim:Int)] H (.bool true) H:=by
 have X0:=(Bv LkW Jb Af).toW (S:=[27]);have f1:=fun H=>DL Kv Rs (by simp [LkW]) (x:=()) (H:=H) trivial
 have f2:=fun H=>DL Kv (DJ SN) (by simp [LkW]) (x:=s) (H:=H) trivial
 have f3:=fun H (h:s.length<900000)=>DL Kv (DJ SO) (by simp [LkW]) (x:=s) (H:=H) h
 have f4:=fun (l:List Nd) H (h:szL l<1000000000)=>DL Kv (DJ SP) (by simp [LkW]) (x:=l) (H:=H) h
 have f5:=fun (l:List Nd) H (h:szL l<1000000000∧CP l)=>DL Kv (DJ SQ) (by simp [LkW]) (x:=l) (H:=H) h
 generalize oOf LkW=O0 at X0 f1 f2 f3 f4 f5;have f1:∀H,O0 36 [] H=some (.bool true,H):=f1;have f2:∀H,O0 26 [.str s] H=some (.bool (decide (s.length≤2500)),H):=f2;have f3:∀H,s.length<900000→O0 27 [.str s] H=some (Ge (Kl s),H):=f3;have f4:∀(l:List Nd) H,szL l<1000000000→O0 45 [ndE.av l] H=some (.int .i64 (szL l:Int),H):=f4;have f5:∀(l:List Nd) H,(szL l<1000000000∧CP l)→O0 29 [ndE.av l] H=some (ndE.av (Bj l),H):=f5;refine CS.tr0 DQ Tryz.func11 (by kernel_rfl) 0 (by simp [Tryz.f11]) (fun B hB hG => ?_) rfl (by simp) H
 by_cases h0:s.length≤2500
 ·have f3:=fun H=>f3 H (by omega)
  have sb:=OL s (by omega);unfold Kl at f3;generalize CW s=q at *;obtain ⟨ls,e⟩:=q;simp only at sb;cases e with
  | some y =>
   obtain ⟨l,c⟩:=y;have hc:=(sb.1 l c rfl).2;refine Tr.goW X0 hG (by kernel_rfl) ?_;simp only [Ge,erA] at f3;have hz:¬erC (some (l,c))=0:=fun h=>by have:=(EI sb.1).1 h;cases this
   simp [Tryz.f11,f1,f2,f3,h0,hz]
  | none =>
   obtain ⟨hn,hl⟩:=sb.2 rfl;simp only at f3;have qR:=RX hn;have zq:=Yh ls hn hl;generalize Fi ls=r at *;obtain ⟨T,e⟩:=r;cases e with
   | some y =>
    have hz:¬erC (some y)=0:=fun h=>by have:=(EI qR).1 h;cases this
    refine Tr.goW X0 hG (by kernel_rfl) ?_;simp only [Ge,erA] at f3;simp [Tryz.f11,f1,f2,f3,h0,hz]
   | none =>
    obtain ⟨a1,a2,a3,a4⟩:=zq rfl;simp only at a1 a2 a3 a4;have hw:=Yk lim tN (Bj T) (by rw [Ku];exact a4)
    have ht:=twL lim (Bj T) 0 (-1) (-1) ls.length 0 (.inr ⟨8,rfl,fun m hm=>by
     obtain ⟨n,h1,rfl⟩:=ML hm
     exact Oa 8 n (a2 n h1)⟩) (Int.le_refl _) (Int.le_refl _) (MK _ _ _ a1) (Nat.zero_le _)
    rw [Ku] at ht;generalize wkL (twF lim) (Bj T) 0 (true,-1,0)=w at *;obtain ⟨wb,wr,wl,wc⟩:=w;obtain ⟨t1,t2,t3⟩:=ht;simp only at t1 t2 t3;subst t1;have X:=Ep hw X0;have hO:=EV 46 [ndE.av (Bj T),.func (.func 47) [] [.ptr 4 0,.ptr 2 0,.ptr 3 0,.ptr 0 0]] (twS lim (true,-1,0)) (.bool wb) (twS lim (true,wl,wc)) O0;generalize vB:orP 46 [ndE.av (Bj T),.func (.func 47) [] [.ptr 4 0,.ptr 2 0,.ptr 3 0,.ptr 0 0]] (twS lim (true,-1,0)) (.bool wb) (twS lim (true,wl,wc)) O0=O at X hO;have g1:∀H,O 36 [] H=some (.bool true,H):=fun H=>by rw [←vB,Eo (by decide)];exact f1 H
    have g2:∀H,O 26 [.str s] H=some (.bool (decide (s.length≤2500)),H):=fun H=>by rw [←vB,Eo (by decide)];exact f2 H
    have g3:∀H,O 27 [.str s] H=some (Ge (T,ls,none),H):=fun H=>by rw [←vB,Eo (by decide)];exact f3 H
    have g4:∀H,O 45 [ndE.av T] H=some (.int .i64 (szL T:Int),H):=fun H=>by rw [←vB,Eo (by decide)];exact f4 T H a4
    have g5:∀H,O 29 [ndE.av T] H=some (ndE.av (Bj T),H):=fun H=>by rw [←vB,Eo (by decide)];exact f5 T H ⟨a4,a3⟩
    clear vB;have hz:erA none = .agg [.nilSlice,.int .i64 0]:=rfl;simp only [Ge,hz] at g3;have hO:O 46 [ndE.av (Bj T),.func (.func 47) [] [.ptr 4 0,.ptr 2 0,.ptr 3 0,.ptr 0 0]] [some (.box [.int .u8 (lim:Int)]),some (.box [.nilSlice,.int .i64 0]),some (.box [.int .i64 (-1)]),some (.box [.int .i64 0]),some (.box [.bool true])]=some (.bool wb,[some (.box [.int .u8 (lim:Int)]),some (.box [.nilSlice,.int .i64 0]),some (.box [.int .i64 wl]),some (.box [.int .i64 (wc:Int)]),some (.box [.bool true])]):=hO;have w1:IntKind.i64.wrap (lim:Int)=(lim:Int):=Ab (by omega) (by omega);have w2:IntKind.i64.wrap ((lim:Int)+1)=(lim:Int)+1:=Ab (by omega) (by omega);refine Tr.goW X hG (by kernel_rfl) ?_
    by_cases hq:szL T≤lim
    ·have hq':¬(lim:Int)<szL T:=by omega
     have rh:¬lim<szL T:=by omega
     rw [if_pos (by omega)] at t3;obtain ⟨rfl,rfl⟩:=t3;simp [Tryz.f11,g1,g2,g3,g4,g5,h0,hO,w1,w2,hq',rh]
    ·have hq':(lim:Int)<szL T:=by omega
     have rh:lim<szL T:=by omega
     rw [if_neg (by omega)] at t3;obtain ⟨rfl,rfl⟩:=t3;simp [Tryz.f11,g1,g2,g3,g4,g5,h0,hO,w1,w2,hq',rh]
 ·refine Tr.goW X0 hG (by kernel_rfl) ?_
  simp [Tryz.f11,f1,f2,h0]
open Go.ChangeShapes Go.WideShapes Go.ChangeAt Go.RowKit Go.Proofs.Fw
theorem Yn:zP.globalNamed "strings.asciiSpace" = some 3:=by kernel_rfl
theorem Yo:(zP.globals[3]?).map (·.type)=some 320:=by kernel_rfl
theorem Yp:HK (H:=Unit) zP 3 320 Rows.laid_strings_asciiSpace=LC:=by kernel_rfl
theorem Yq:zP.globalNamed "strconv.ErrRange" = some 6:=by kernel_rfl
theorem Yr:(zP.globals[6]?).map (·.type)=some 33:=by kernel_rfl
theorem yST : "*" ++ "errors.errorString" = "*errors.errorString" := by decide
theorem Ys (u:TypeId) (h:zP.typeName? 3 u=some "*errors.errorString"):u=357 :=typeName_ptr_named (nm := "errors.errorString") (by rw [yST];kernel_rfl) (by kernel_rfl) (by decide) u (by rw [yST];exact h)
theorem Yt {l:List (String × DataW Unit)} {W:World} (h:laidMet zP l W) (hm:("strings.asciiSpace",Rows.laid_strings_asciiSpace)∈l) (hr:l.filter (fun x=>x.1 == "strconv.ErrRange")=[("strconv.ErrRange",Rows.laid_strconv_ErrRange)]):An AN (EU W):=by
 have h1:=h.filter fun x=>x.1 == "strconv.ErrRange"
 rw [hr] at h1;obtain ⟨ps,h,_⟩:=h;refine ZO (tab:=JJ) rfl fun x hx => ?_
 simp only [JJ,List.mem_cons,List.not_mem_nil,or_false] at hx;rcases hx with rfl|rfl
 ·have:=Ow h hm 3 Yn Yo
  rw [Yp] at this;exact this
 ·exact ZP h1 Yq Yr Tryz.underlying33 Ys Tryz.underlying357 Tryz.underlying359 rfl rfl Tryz.underlying9 (by kernel_rfl) (by kernel_rfl)
theorem own:ownKnob zP.godebug=none:=by kernel_rfl
open Go.ChangeShapes Go.WideShapes Go.ChangeAt Go.ChangeMaps Go.RowKit Go.Proofs.Fw
theorem gPow:zP.globalNamed "internal/strconv.uint64pow10" = some 1:=by kernel_rfl
theorem tPow:(zP.globals[1]?).map (·.type)=some 309:=by kernel_rfl
theorem Yu:HK (H:=Unit) zP 3 309 Rows.laid_internal_strconv_uint64pow10=NP:=by kernel_rfl
theorem et:zP.globalNamed "errors.errorType" = some 0:=by kernel_rfl
theorem rt:(zP.cutTypes.find? (·.1 == "internal/reflectlite.rtype")).map (·.2)=some 266:=by kernel_rfl
theorem Yv:((List.range zP.types.size).filter fun t=>zP.rowNamed t [101,114,114,111,114])=[33]:=by kernel_rfl
theorem Yw {W:World} (h:handlesMet zP [("errors.errorType",Rows.laid_errors_errorType)] W):W.cell? ⟨0,0,none⟩=some (.iface 266 (.agg #[.pointer (some ⟨12,33,none⟩)])):=by
 obtain ⟨name,u,ty,e1,e2,e3,e4,e5⟩:=h _ (List.mem_singleton.2 rfl);have en:name=[101,114,114,111,114]:=(Option.some.inj e1).symm;subst en;obtain rfl:=Option.some.inj (rt.symm.trans e2);have hm:ty∈(List.range zP.types.size).filter fun t=>zP.rowNamed t [101,114,114,111,114]:=List.mem_filter.2 ⟨List.mem_range.2 e3,e4⟩
 rw [Yv] at hm;obtain rfl:=List.mem_singleton.1 hm;have hh:typeHandle zP 33 = .pointer (some ⟨12,33,none⟩):=by kernel_rfl
 rw [hh] at e5;simpa using World.var?_cell et e5 0
theorem Yx {W:World} {l:List (String × DataW Unit)} (h1:laidMet zP l W) (ha:("strings.asciiSpace",Rows.laid_strings_asciiSpace)∈l) (hr:l.filter (fun x=>x.1 == "strconv.ErrRange")=[("strconv.ErrRange",Rows.laid_strconv_ErrRange)]) (hp:("internal/strconv.uint64pow10",Rows.laid_internal_strconv_uint64pow10)∈l)
  (h2:W.cell? ⟨0,0,none⟩=some (.iface 266 (.agg #[.pointer (some ⟨12,33,none⟩)]))):An AJ (EU W):=by
 have hT:An AN (EU W):=Yt h1 ha hr;intro i
 by_cases hi:i=1
 ·subst hi
  rw [show AJ.glob 1 = .vptr NP 0 from rfl];obtain ⟨ps,h3,_⟩:=h1;have:=Ow h3 hp 3 gPow tPow;rw [Yu] at this;exact this
 ·by_cases hj:i=0
  ·subst hj
   rw [show AJ.glob 0 = .vptr [.iface 266 (.agg [.adr 12 33])] 0 from rfl];simp only [AA,AB];refine ⟨0,0,[.iface 266 (.agg #[.pointer (some ⟨12,33,none⟩)])],rfl,⟨_,_,rfl,⟨_,rfl,_,rfl,_,_,rfl,rfl,rfl⟩,rfl⟩,?_⟩;intro k v hk;cases k with
   | zero=>simp at hk;subst hk;exact h2
   | succ k=>simp at hk
  ·have:AN.glob i=AJ.glob i:=by
    simp only [AN,AJ,HL,NQ,KI,List.find?_cons];rw [show ((0:Nat)==i)=false by simp;omega,show ((1:Nat)==i)=false by simp;omega]
   rw [←this];exact hT i
def l9:List (String × DataW Unit):=[("math/bits.deBruijn32tab",Rows.laid_math_bits_deBruijn32tab),("math/bits.deBruijn64tab",Rows.laid_math_bits_deBruijn64tab),("internal/strconv.uint64pow10",Rows.laid_internal_strconv_uint64pow10),("unicode/utf8.acceptRanges",Rows.laid_unicode_utf8_acceptRanges),("strconv.ErrRange",Rows.laid_strconv_ErrRange),("strconv.ErrSyntax",Rows.laid_strconv_ErrSyntax),("unicode.White_Space",Rows.laid_unicode_White_Space),("strings.asciiSpace",Rows.laid_strings_asciiSpace),("unicode/utf8.first",Rows.laid_unicode_utf8_first)]
theorem Yy {W:World} (h:laidMetH zP Rows.treeOpenRow.laid W):An AJ (EU W):=by have h':laidMet zP l9 W∧handlesMet zP [("errors.errorType",Rows.laid_errors_errorType)] W:=h;exact Yx h'.1 (by simp [l9]) (by kernel_rfl) (by simp [l9]) (Yw h'.2)
noncomputable def w0T (os:Os):World:={World.holding zP os ⟨#[],#[],[]⟩ with heap:=(World.holding zP os ⟨#[],#[],[]⟩).heap.setIfInBounds 0 (.cells #[.iface 266 (.agg #[.pointer (some ⟨12,33,none⟩)])] (((zP.globals[0]?).map (·.type)).getD 0) (0,0))}
noncomputable def wT (os:Os):World:=(w0T os).layVars zP l9
theorem Yz (os:Os):(wT os).os=os:=World.layVars_os _ _ _
theorem Y0:(Rows.treeOpenRow.laid.filter fun x=>x.2.handleName?.isNone)=l9:=rfl
theorem Y1 (os:Os):laidMet zP l9 (wT os):=by
 have e1:(l9.filter fun x=>(l9.map (·.1)).contains x.1)=l9:=List.filter_eq_self.2 fun x hx=>List.contains_iff_mem.2 (List.mem_map.2 ⟨x,hx,rfl⟩)
 have e2:(l9.filter fun x => !(l9.map (·.1)).contains x.1)=[]:=List.filter_eq_nil_iff.2 fun x hx=>by rw [List.contains_iff_mem.2 (List.mem_map.2 ⟨x,hx,rfl⟩)];simp
 exact laidMet_layVars (w0:=w0T os) (l9.map (·.1)) [] (by rw [e1];rfl) (by rw [e1];kernel_rfl) (by rw [e1];kernel_rfl) (by rw [e2];exact LaidIn.none)
theorem Y2 (os:Os):laidMetH zP Rows.treeOpenRow.laid (wT os) :=laidMetH_of_parts3 (fuel:=8) (by rw [Y0];exact Y1 os) (by kernel_rfl) (by kernel_rfl)
theorem Y3 (os:Os) (args:Array Value):laidMetH zP Rows.treeOpenRow.laid ((wT os).forCall (fun _ _=>0) ⟨#[],args,[]⟩).memory:=(Y2 os).of_heap (by simp [World.memory,World.forCall,Input.heap])
end Go.Proofs.YtejjlojfgcgopaaGreatDoor
