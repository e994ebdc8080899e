/- What may be set: the words up to its bracket tell what all w .. What the rows of the laws on trees lay: what the runs are to -/
import Derived.Test.YtffcldkblcmmiaaGreatDoorZt10
import Derived.Test.YtffcldkblcmmiaaGreatDoorCards
import Derived.Test.YtffcldkblcmmiaaGreatDoorTie
import Derived.ProofKit
import Derived.OpenShut
import Derived.Deep.DeepHandedRow
import Derived.Deep.DeepWitnessRowRef
import Derived.LaidMore
import Derived.LaidSub
import Derived.ChangeMaps5
import Derived.Lay
set_option linter.unusedSimpArgs false
set_option linter.unusedVariables false
namespace Go.Proofs.YtffcldkblcmmiaaGreatDoor
set_option maxHeartbeats 1000000
def dlt (t:Wd):Int:=if t.kind=3 then (if t.text=Ah then 1 else if t.text=Ao then -1 else 0) else 0
def bal:List Wd→Int
 |[]=>0
 |w::l=>dlt w+bal l
theorem Sz:∀(l:List Wd) (j:Nat) {t:Wd},l[j]? = some t→bal (l.take (j+1))=bal (l.take j)+dlt t
 |[],j,t,h=>by simp at h
 |w::l,0,t,h=>by simp only [List.getElem?_cons_zero,Option.some.injEq] at h;subst h;simp [bal]
 |w::l,j+1,t,h=>by simp only [List.getElem?_cons_succ] at h;rw [List.take_succ_cons,List.take_succ_cons,bal,bal,Sz l j h];omega
def Ia (w:Wd) (d:Nat):Nat:=if w.kind=3 then (if w.text=Ah then d+1 else if w.text=Ao then d-1 else d) else d
theorem Zp (w:Wd) {d:Nat} (h:1≤d):(Ia w d:Int)=d+dlt w:=by
 unfold Ia dlt
 split
 ·split
  ·omega
  ·split
   ·omega
   ·omega
 ·omega
theorem Zq (w:Wd) (l:List Wd) {d:Nat} (h:1≤d):Co (w::l) d=if Ia w d=0 then 1 else 1+Co l (Ia w d):=by
 rw [Co]
 by_cases hk:w.kind=3
 ·simp only [Ia,hk,if_true]
 ·simp only [Ia,hk,if_false]
  rw [if_neg (by omega)]
theorem S0:∀(l:List Wd) (d:Nat),1≤d→Co l d≤l.length∧(∀j,j<Co l d→1≤(d:Int)+bal (l.take j)) ∧
  ((d:Int)+bal (l.take (Co l d))=0∧1≤Co l d∨Co l d=l.length∧1≤(d:Int)+bal (l.take (Co l d)))
 |[],d,h=>⟨Nat.le_refl _,fun j hj=>absurd hj (Nat.not_lt_zero _),.inr ⟨rfl,by simp [bal];omega⟩⟩
 |w::l,d,h=>by
  have hn:=Zp w h;rw [Zq w l h]
  by_cases h0:Ia w d=0
  ·rw [if_pos h0]
   refine ⟨by simp,fun j hj => ?_,.inl ⟨?_,Nat.le_refl _⟩⟩
   ·obtain rfl:j=0:=by omega
    simp [bal];omega
   ·simp [bal];omega
  ·rw [if_neg h0]
   obtain ⟨h1,h2,h3⟩:=S0 l (Ia w d) (by omega);refine ⟨by simp only [List.length_cons];omega,fun j hj => ?_,?_⟩
   ·cases j with
    |zero=>simp [bal];omega
    |succ j =>have:=h2 j (by omega);rw [List.take_succ_cons,bal];omega
   ·rw [Nat.add_comm 1,List.take_succ_cons,bal,List.length_cons]
    rcases h3 with h3|h3
    ·exact .inl ⟨by omega,by omega⟩
    ·exact .inr ⟨by omega,by omega⟩
structure Cut (l l':List Wd) (D:Nat→Int) (B:Nat):Prop where
 same:∀p,p≤B→l'[p]? = l[p]?
 pos:∀p,2≤p→p≤B→1≤D p
 step:∀p t,2≤p→p≤B→l[p]? = some t→D (p+1)=D p+dlt t
 fin:D (B+1)≤0∨l[B]? = none
 len:B≤l.length
 len':B≤l'.length
section
variable {l l':List Wd} {D:Nat→Int} {B:Nat}
theorem Cut.next (C:Cut l l' D B) {p:Nat} {t:Wd} (hB:p≤B) (ht:l[p]? = some t) (hd:1≤D (p+1)):p+1≤B:=by
 rcases Nat.lt_or_ge p B with h|h
 ·exact h
 ·obtain rfl:p=B:=by omega
  rcases C.fin with h|h
  ·omega
  ·rw [ht] at h;cases h
theorem Cut.isS (C:Cut l l' D B) {p:Nat} (hp:p≤B) (s:List UInt8):isS l' p s=isS l p s:=by unfold Go.Proofs.YtffcldkblcmmiaaGreatDoor.isS;rw [C.same p hp]
theorem Cut.nextB (C:Cut l l' D B) {r:St} (hp:r.at_≤B) (s:List UInt8):nextB l' r s=nextB l r s:=by unfold Go.Proofs.YtffcldkblcmmiaaGreatDoor.nextB;rw [C.isS hp]
theorem Mj {ts:List Wd} {i:Nat} {s:List UInt8} (h:isS ts i s=true):∃t,ts[i]? = some t∧t.kind=3∧t.text=s:=by
 unfold isS at h
 split at h
 ·rename_i t ht
  simp only [Bool.and_eq_true,beq_iff_eq] at h;exact ⟨t,ht,h.1,h.2⟩
 ·cases h
theorem zAL {ts:List Wd} {r:St} {s:List UInt8} (h:nextB ts r s=true):r.err=none∧∃t,ts[r.at_]? = some t∧t.kind=3∧t.text=s:=by unfold nextB at h;simp only [Bool.and_eq_true,Option.isNone_iff_eq_none] at h;exact ⟨h.1,Mj h.2⟩
theorem O3 {t:Wd} {s:List UInt8} (ht:t.text=s) (h1:s≠Ah) (h2:s≠Ao):dlt t=0:=by
 unfold dlt;rw [ht,if_neg h1,if_neg h2]
 split<;>rfl
theorem S1 {t:Wd} (ht:t.kind≠3):dlt t=0:=if_neg ht
theorem S2 {t:Wd} (hk:t.kind=3) (ht:t.text=Ah):dlt t=1:=by unfold dlt;rw [if_pos hk,if_pos ht]
theorem S3 {t:Wd} (hk:t.kind=3) (ht:t.text=Ao):dlt t = -1:=by unfold dlt;rw [if_pos hk,ht,if_neg (by decide),if_pos rfl]
def Sm2 (D:Nat→Int) (B lo:Nat) (F G:Rd):Prop:=∀r:St,(r.err=none→lo≤r.at_∧2≤r.at_∧r.at_≤B) →
 F r=G r∧((F r).2.err=none→r.err=none∧D (F r).2.at_=D r.at_∧r.at_<(F r).2.at_∧(F r).2.at_≤B)
theorem S4 {ts:List Wd} {of:Rd} {f s:List UInt8} {one two:Nat} (n:Nat) (e:Ex) {r:St} {x:Nat × Nat} (h:r.err=some x):Br ts of f one s two n e r=(e,r):=by
 cases n with
 |zero=>rfl
 |succ n=>simp [Br,Im h]
theorem S5 (C:Cut l l' D B) {lo:Nat} {F G:Rd} (h:Sm2 D B lo F G) {f s:List UInt8} (f1:f≠Ah) (f2:f≠Ao) (s1:s≠Ah) (s2:s≠Ao) (one two:Nat):∀(n m:Nat) (e:Ex) (r:St),
  (r.err=none→lo≤r.at_∧2≤r.at_∧r.at_≤B∧B<n+r.at_∧B<m+r.at_) →
  Br l' F f one s two n e r=Br l G f one s two m e r ∧
  ((Br l' F f one s two n e r).2.err=none→r.err=none∧D (Br l' F f one s two n e r).2.at_=D r.at_∧r.at_≤(Br l' F f one s two n e r).2.at_∧(Br l' F f one s two n e r).2.at_≤B)
 |n,m,e,r,hr=>by
  cases he:r.err with
  |some x =>rw [S4 n e he,S4 m e he];exact ⟨by trivial,fun hh=>by first|(rw [he] at hh;cases hh)|(cases hh)⟩
  |none =>
   obtain ⟨h1,h2,h3,h4,h5⟩:=hr he;obtain ⟨n,rfl⟩:∃k,n=k+1:=⟨n-1,by omega⟩
   obtain ⟨m,rfl⟩:∃k,m=k+1:=⟨m-1,by omega⟩
   have go:∀(w:List UInt8) (o:Nat),w≠Ah→w≠Ao→nextB l r w=true →
     Br l' F f one s two n (.bin o e (F r.step).1) (F r.step).2=Br l G f one s two m (.bin o e (G r.step).1) (G r.step).2 ∧
     ((Br l' F f one s two n (.bin o e (F r.step).1) (F r.step).2).2.err=none→D (Br l' F f one s two n (.bin o e (F r.step).1) (F r.step).2).2.at_=D r.at_∧r.at_≤(Br l' F f one s two n (.bin o e (F r.step).1) (F r.step).2).2.at_∧(Br l' F f one s two n (.bin o e (F r.step).1) (F r.step).2).2.at_≤B):=by
    intro w o w1 w2 hw;obtain ⟨_,t,ht,hk,vk⟩:=zAL hw;have d1:=C.step _ t h2 h3 ht;rw [O3 vk w1 w2] at d1;have d2:=C.pos _ h2 h3;have hs:=C.next h3 ht (by omega);obtain ⟨k1,k2⟩:=h r.step (fun _=>⟨by show lo≤r.at_+1;omega,by show 2≤r.at_+1;omega,hs⟩);rw [←k1];have k2':(F r.step).2.err=none→r.step.err=none∧D (F r.step).2.at_=D (r.at_+1)∧r.at_+1<(F r.step).2.at_∧(F r.step).2.at_≤B:=k2
    obtain ⟨j1,j2⟩:=S5 C h f1 f2 s1 s2 one two n m (.bin o e (F r.step).1) (F r.step).2 (fun hh=>by
     obtain ⟨_,a2,a3,a4⟩:=k2' hh
     exact ⟨by omega,by omega,a4,by omega,by omega⟩)
    refine ⟨j1,fun hh => ?_⟩;obtain ⟨b1,b2,b3,b4⟩:=j2 hh;obtain ⟨_,a2,a3,a4⟩:=k2' b1;exact ⟨by rw [b2,a2,d1];omega,by omega,b4⟩
   simp only [Br,C.nextB h3]
   by_cases hf:nextB l r f=true
   ·simp only [hf,if_true]
    obtain ⟨g1,g2⟩:=go f one f1 f2 hf;exact ⟨g1,fun hh=>⟨by trivial,g2 hh⟩⟩
   ·simp only [hf,if_false,Bool.false_eq_true]
    by_cases hs:nextB l r s=true
    ·simp only [hs,if_true]
     obtain ⟨g1,g2⟩:=go s two s1 s2 hs;exact ⟨g1,fun hh=>⟨by trivial,g2 hh⟩⟩
    ·simp only [hs,if_false,Bool.false_eq_true]
     exact ⟨by trivial,fun _=>⟨by trivial,by trivial,Nat.le_refl _,h3⟩⟩
 termination_by n=>n
theorem S6 (C:Cut l l' D B) {lo:Nat} {F G:Rd} (h:Sm2 D B lo F G) {f s:List UInt8} (f1:f≠Ah) (f2:f≠Ao) (s1:s≠Ah) (s2:s≠Ao) (one two:Nat):Sm2 D B lo (D1 l' F f one s two) (D1 l G f one s two):=by
 intro r hr;obtain ⟨k1,k2⟩:=h r hr;have c1:=C.len;have c2:=C.len';unfold D1;rw [←k1]
 obtain ⟨j1,j2⟩:=S5 C h f1 f2 s1 s2 one two (l'.length+1) (l.length+1) (F r).1 (F r).2 (fun hh=>by
  obtain ⟨a1,a2,a3,a4⟩:=k2 hh;obtain ⟨b1,b2,b3⟩:=hr a1
  exact ⟨by omega,by omega,a4,by omega,by omega⟩)
 refine ⟨j1,fun hh => ?_⟩;obtain ⟨b1,b2,b3,b4⟩:=j2 hh;obtain ⟨a1,a2,a3,a4⟩:=k2 b1;exact ⟨a1,by rw [b2,a2],by omega,b4⟩
theorem S7 (C:Cut l l' D B) {lo:Nat} {F G:Rd} (h:Sm2 D B lo F G):Sm2 D B lo (Bm l' F) (Bm l G) :=S6 C (S6 C h (by decide) (by decide) (by decide) (by decide) 7 8) (by decide) (by decide) (by decide) (by decide) 5 6
theorem S8 (C:Cut l l' D B) {lo:Nat} {F G:Rd} (h:Sm2 D B lo F G):∀(n:Nat) (a:List Ex) (r:St),n+a.length=6→a.length≤4→(r.err=none→lo≤r.at_∧2≤r.at_∧r.at_≤B) →
  Cn l' F n a r=Cn l G n a r∧((Cn l' F n a r).2.err=none→r.err=none∧D (Cn l' F n a r).2.at_=D r.at_-1∧r.at_<(Cn l' F n a r).2.at_∧(Cn l' F n a r).2.at_≤B+1∧l[(Cn l' F n a r).2.at_-1]?.isSome=true)
 |0,a,r,h1,h2,hr=>by omega
 |n+1,a,r,h1,h2,hr=>by
  cases he:r.err with
  |some x =>simp only [Cn,Im he,Bool.false_eq_true,if_false,IE he];exact ⟨by trivial,fun hh=>by first|(rw [he] at hh;cases hh)|(cases hh)⟩
  |none =>
   obtain ⟨b1,b2,b3⟩:=hr he;simp only [Cn,C.nextB b3]
   by_cases hc:nextB l r A0=true
   ·simp only [hc,if_true]
    obtain ⟨_,t,ht,hk,vk⟩:=zAL hc;have d1:=C.step _ t b2 b3 ht;rw [O3 vk (by decide) (by decide)] at d1;have d2:=C.pos _ b2 b3;have hs:=C.next b3 ht (by omega)
    by_cases h4:4≤a.length
    ·simp only [h4,if_true]
     exact ⟨by trivial,fun hh=>by rw [G8] at hh;cases hh⟩
    ·simp only [h4,if_false]
     obtain ⟨k1,k2⟩:=h r.step (fun _=>⟨by show lo≤r.at_+1;omega,by show 2≤r.at_+1;omega,hs⟩);have k2':(F r.step).2.err=none→r.step.err=none∧D (F r.step).2.at_=D (r.at_+1)∧r.at_+1<(F r.step).2.at_∧(F r.step).2.at_≤B:=k2;rw [←k1]
     obtain ⟨j1,j2⟩:=S8 C h n (a++[(F r.step).1]) (F r.step).2 (by simp only [List.length_append,List.length_cons,List.length_nil];omega) (by simp only [List.length_append,List.length_cons,List.length_nil];omega) (fun hh=>by
      obtain ⟨_,a2,a3,a4⟩:=k2' hh
      exact ⟨by omega,by omega,a4⟩)
     refine ⟨j1,fun hh => ?_⟩;obtain ⟨e1,e2,e3,e4,e5⟩:=j2 hh;obtain ⟨_,a2,a3,a4⟩:=k2' e1;exact ⟨by trivial,by rw [e2,a2,d1];omega,by omega,e4,e5⟩
   ·simp only [hc,if_false,Bool.false_eq_true]
    unfold CJ;rw [C.nextB b3]
    by_cases hb:nextB l r Ao=true
    ·simp only [hb,if_true]
     obtain ⟨_,t,ht,hk,vk⟩:=zAL hb;have d1:=C.step _ t b2 b3 ht;rw [S3 hk vk] at d1;refine ⟨by trivial,fun _=>⟨by trivial,by show D (r.at_+1)=_;omega,by show r.at_<r.at_+1;omega,by show r.at_+1≤B+1;omega,?_⟩⟩
     show (l[r.at_+1-1]?).isSome=true
     rw [Nat.add_sub_cancel,ht];rfl
    ·simp only [hb,if_false,Bool.false_eq_true]
     exact ⟨by trivial,fun hh=>by rw [G8] at hh;cases hh⟩
theorem S9 (C:Cut l l' D B) {lo:Nat} {F G:Rd} (h:Sm2 D B lo F G) (r:St) (hr:r.err=none→lo≤r.at_∧2≤r.at_∧r.at_≤B) :
  Bv l' F r=Bv l G r∧((Bv l' F r).2.err=none→r.err=none∧D (Bv l' F r).2.at_=D r.at_-1∧r.at_<(Bv l' F r).2.at_∧(Bv l' F r).2.at_≤B+1∧l[(Bv l' F r).2.at_-1]?.isSome=true):=by
 obtain ⟨k1,k2⟩:=h r hr;unfold Bv;rw [←k1]
 obtain ⟨j1,j2⟩:=S8 C h 5 [(F r).1] (F r).2 rfl (by simp) (fun hh=>by
  obtain ⟨a1,a2,a3,a4⟩:=k2 hh;obtain ⟨b1,b2,b3⟩:=hr a1
  exact ⟨by omega,by omega,a4⟩)
 refine ⟨j1,fun hh => ?_⟩;obtain ⟨e1,e2,e3,e4,e5⟩:=j2 hh;obtain ⟨a1,a2,a3,a4⟩:=k2 e1;exact ⟨a1,by rw [e2,a2],by omega,e4,e5⟩
theorem TA {lo:Nat} {F G:Rd} (h:Sm2 D B lo F G):Sm2 D B lo (D2 F) (D2 G):=by intro r hr;obtain ⟨k1,k2⟩:=h ⟨r.at_,r.deep+1,r.err⟩ hr;unfold D2;rw [←k1];exact ⟨by trivial,k2⟩
theorem Sm2.mono {lo lo':Nat} {F G:Rd} (h:Sm2 D B lo F G) (hl:lo≤lo'):Sm2 D B lo' F G:=fun r hr=>h r fun he=>by obtain ⟨a,b,c⟩:=hr he;exact ⟨by omega,b,c⟩
theorem Zr (C:Cut l l' D B) {lo:Nat} {F G S T:Rd} (h:Sm2 D B (lo+1) F G) (hs:Sm2 D B (lo+1) S T):Sm2 D B lo (B1 l' S F) (B1 l T G):=by
 intro r hr;cases he:r.err with
 |some x =>simp only [B1,he,KY he];exact ⟨by trivial,fun hh=>by first|(rw [he] at hh;cases hh)|(cases hh)⟩
 |none =>
  obtain ⟨b1,b2,b3⟩:=hr he;have d2:=C.pos _ b2 b3;cases ht:l[r.at_]? with
  |none =>simp only [B1,he,C.same _ b3,ht];exact ⟨by trivial,fun hh=>by rw [G8] at hh;cases hh⟩
  |some t =>
   have d1:=C.step _ t b2 b3 ht;have nx:=fun (hd:1≤D (r.at_+1))=>C.next b3 ht hd
   simp only [B1,he,C.same _ b3,ht]
   by_cases h2:t.kind=2
   ·have hd:=S1 (t:=t) (by omega)
    simp only [h2,beq_self_eq_true,if_true];exact ⟨by trivial,fun _=>⟨by trivial,by show D (r.at_+1)=_;omega,by show r.at_<r.at_+1;omega,nx (by omega)⟩⟩
   ·simp only [beq_iff_eq,h2,if_false]
    by_cases h1:t.kind=1
    ·have hd:=S1 (t:=t) (by omega)
     have n1:=nx (by omega);simp only [h1,if_true];rw [C.nextB (r:=r.step) n1]
     by_cases ho:nextB l r.step Ah=true
     ·simp only [ho,if_true]
      obtain ⟨_,u,hu,hk,vk⟩:=zAL ho;have hu':l[r.at_+1]? = some u:=hu;have e1:=C.step (r.at_+1) u (by omega) n1 hu';rw [S2 hk vk] at e1;have n2:=C.next n1 hu' (by omega);obtain ⟨j1,j2⟩:=S9 C hs r.step.step (fun _=>⟨by show lo+1≤r.at_+1+1;omega,by show 2≤r.at_+1+1;omega,n2⟩);rw [←j1];refine ⟨by trivial,fun hh => ?_⟩;obtain ⟨_,q2,q3,q4,q5⟩:=j2 hh;have q2':D (Bv l' S r.step.step).2.at_=D (r.at_+1+1)-1:=q2;have q3':r.at_+1+1<(Bv l' S r.step.step).2.at_:=q3;refine ⟨by trivial,by omega,by omega,?_⟩;rcases Nat.lt_or_ge B (Bv l' S r.step.step).2.at_ with hq|hq
      ·exfalso
       have hq':(Bv l' S r.step.step).2.at_=B+1:=by omega
       rcases C.fin with hf|hf
       ·rw [hq'] at q2'
        omega
       ·rw [hq',Nat.add_sub_cancel,hf] at q5
        cases q5
      ·exact hq
     ·simp only [ho,if_false,Bool.false_eq_true]
      exact ⟨by trivial,fun _=>⟨by trivial,by show D (r.at_+1)=_;omega,by show r.at_<r.at_+1;omega,n1⟩⟩
    ·simp only [h1,if_false,C.isS b3]
     by_cases hm:isS l r.at_ BY=true
     ·simp only [hm,Bool.true_or,if_true]
      by_cases vl:20≤r.deep
      ·simp only [vl,if_true]
       exact ⟨by trivial,fun hh=>by rw [G8] at hh;cases hh⟩
      ·simp only [vl,if_false]
       obtain ⟨u,hu,hk,vk⟩:=Mj hm;rw [ht] at hu;injection hu with hu;subst hu;have hd:=O3 vk (by decide) (by decide);have n1:=nx (by omega);obtain ⟨j1,j2⟩:=TA h r.step (fun _=>⟨by show lo+1≤r.at_+1;omega,by show 2≤r.at_+1;omega,n1⟩);rw [←j1];refine ⟨by trivial,fun hh => ?_⟩;obtain ⟨_,q2,q3,q4⟩:=j2 hh;have q2':D (D2 F r.step).2.at_=D (r.at_+1):=q2;have q3':r.at_+1<(D2 F r.step).2.at_:=q3;exact ⟨by trivial,by omega,by omega,q4⟩
     ·simp only [hm,Bool.false_or,Bool.false_eq_true,if_false]
      by_cases ho:isS l r.at_ Ah=true
      ·simp only [ho,if_true]
       by_cases vl:20≤r.deep
       ·simp only [vl,if_true]
        exact ⟨by trivial,fun hh=>by rw [G8] at hh;cases hh⟩
       ·simp only [vl,if_false]
        obtain ⟨u,hu,hk,vk⟩:=Mj ho;rw [ht] at hu;injection hu with hu;subst hu;have hd:=S2 hk vk;have n1:=nx (by omega);obtain ⟨j1,j2⟩:=TA hs r.step (fun _=>⟨by show lo+1≤r.at_+1;omega,by show 2≤r.at_+1;omega,n1⟩);rw [←j1];generalize D2 S r.step=q at *;cases hq:q.2.err with
        |some x =>simp only [IE hq];exact ⟨by trivial,fun hh=>by rw [hq] at hh;cases hh⟩
        |none =>
         obtain ⟨_,q2,q3,q4⟩:=j2 hq;have q2':D q.2.at_=D (r.at_+1):=q2;have q3':r.at_+1<q.2.at_:=q3;unfold CJ;rw [C.nextB q4]
         by_cases hb:nextB l q.2 Ao=true
         ·simp only [hb,if_true]
          obtain ⟨_,v,hv,xR,xu⟩:=zAL hb;have e1:=C.step _ v (by omega) q4 hv;rw [S3 xR xu] at e1;have n2:=C.next q4 hv (by omega);exact ⟨by trivial,fun _=>⟨by trivial,by show D (q.2.at_+1)=_;omega,by show r.at_<q.2.at_+1;omega,n2⟩⟩
         ·simp only [hb,if_false,Bool.false_eq_true]
          exact ⟨by trivial,fun hh=>by rw [G8] at hh;cases hh⟩
      ·simp only [ho,if_false,Bool.false_eq_true]
       exact ⟨by trivial,fun hh=>by rw [G8] at hh;cases hh⟩
theorem TB (C:Cut l l' D B):∀(n m lo:Nat),B<lo+n→B<lo+m→Sm2 D B lo (Ar l' n) (Ar l m)
 |n,m,lo,hn,hm=>by
  intro r hr;rcases Option.eq_none_or_eq_some r.err with he|⟨x,he⟩
  rotate_left
  ·
   have e1:∀(ts:List Wd) k,Ar ts k r=(.none,r):=fun ts k=>by
    cases k with
    |zero=>rfl
    |succ k=>simp only [Ar,B1,he,KY he]
   rw [e1,e1];exact ⟨by trivial,fun hh=>by first|(rw [he] at hh;cases hh)|(cases hh)⟩
  ·obtain ⟨b1,b2,b3⟩:=hr he
   cases n with
   |zero=>omega
   |succ n =>
    cases m with
    |zero=>omega
    |succ m =>have ih:=TB C n m (lo+1) (by omega) (by omega);exact Zr C ih (S7 C ih) r hr
 termination_by n=>n
end
theorem Zt (w:Wd) (hk:w.kind=1):Bb [w]=(.var w.text,1,none):=by simp [Bb,CC,CW,Ik,Ef,DG,fac,Cm,D0,nextB,isS,hk,St.step]
theorem TC {ts:List Wd} {of:Rd} {f s:List UInt8} {one two:Nat} {r:St} (h:(of r).2.err=none→ts.length≤(of r).2.at_):D1 ts of f one s two r=of r:=by
 unfold D1;rw [Br]
 have h1:∀w,nextB ts (of r).2 w=false:=fun w=>by
  unfold nextB;cases he:(of r).2.err with
  |some x=>rfl
  |none =>unfold isS;rw [List.getElem?_eq_none (h he)];rfl
 rw [h1,h1];rfl
theorem Zu (l:List Wd) (w:Wd) (h0:l[0]? = some w) (hk:w.kind=1) (h1:isS l 1 Ah=true) :
  (Bv l (Bn l) ⟨2,0,none⟩).2.err=(Bb (l.take (1+Co (l.drop 1) 0))).2.2 ∧
  ((Bv l (Bn l) ⟨2,0,none⟩).2.err=none→Bb (l.take (1+Co (l.drop 1) 0))=(.elem w.text (Bv l (Bn l) ⟨2,0,none⟩).1,(Bv l (Bn l) ⟨2,0,none⟩).2.at_,none)):=by
 obtain ⟨u,hu,huk,uf⟩:=Mj h1
 obtain ⟨R,rfl⟩:∃R,l=w::u::R:=by
  cases l with
  |nil=>cases h0
  |cons a l =>
   simp only [List.getElem?_cons_zero,Option.some.injEq] at h0;subst h0;simp only [List.getElem?_cons_succ] at hu;cases l with
   |nil=>cases hu
   |cons b R =>simp only [List.getElem?_cons_zero,Option.some.injEq] at hu;subst hu;exact ⟨R,rfl⟩
 have hc:Co ((w::u::R).drop 1) 0=1+Co R 1:=by simp only [List.drop_succ_cons,List.drop_zero,Co,huk,uf,if_true];rfl
 rw [hc];obtain ⟨c1,c2,c3⟩:=S0 R 1 (Nat.le_refl _);generalize Co R 1=c at *;obtain ⟨D,hD⟩:∃D:Nat→Int,D=fun p=>1+bal (R.take (p-2)):=⟨_,rfl⟩
 obtain ⟨l',hl'⟩:∃l',l'=(w::u::R).take (1+(1+c)):=⟨_,rfl⟩
 rw [←hl'];have zCW:l'.length=2+c:=by rw [hl',List.length_take,List.length_cons,List.length_cons];omega
 have yX:∀p,p<2+c→l'[p]? = (w::u::R)[p]? := fun p hp=>by rw [hl',List.getElem?_take,if_pos (by omega)]
 have hR:∀p,2≤p→(w::u::R)[p]? = R[p-2]? := fun p hp=>by
  obtain ⟨q,rfl⟩:∃q,p=q+2:=⟨p-2,by omega⟩
  rfl
 have tj:∀p t,2≤p→(w::u::R)[p]? = some t→D (p+1)=D p+dlt t:=fun p t hp ht=>by rw [hR p hp] at ht;have:=Sz R (p-2) ht;rw [hD];simp only;rw [show p+1-2=p-2+1 by omega,this];omega
 obtain ⟨B,C,hB⟩:∃B,Cut (w::u::R) l' D B∧(B=1+c∧1≤c∧D (B+1)=0∨B=2+c∧(w::u::R)[B]? = none):=by
  rcases c3 with ⟨c3,c4⟩|⟨c3,c4⟩
  ·refine ⟨1+c,⟨fun p hp=>yX p (by omega),fun p h2 hp => ?_,fun p t h2 hp ht=>tj p t h2 ht,.inl ?_,by simp only [List.length_cons];omega,by omega⟩,.inl ⟨rfl,c4,?_⟩⟩
   ·have:=c2 (p-2) (by omega)
    rw [hD];exact_mod_cast this
   all_goals
    rw [hD];simp only;rw [show 1+c+1-2=c by omega];omega
  ·have hn:(w::u::R)[2+c]? = none:=List.getElem?_eq_none (by simp only [List.length_cons];omega)
   refine ⟨2+c,⟨fun p hp => ?_,fun p h2 hp => ?_,fun p t h2 hp ht=>tj p t h2 ht,.inr hn,by simp only [List.length_cons];omega,by omega⟩,.inr ⟨rfl,hn⟩⟩
   ·rcases Nat.lt_or_ge p (2+c) with h|h
    ·exact yX p h
    ·obtain rfl:p=2+c:=by omega
     rw [hn,List.getElem?_eq_none (by omega)]
   ·rw [hD]
    simp only;rcases Nat.lt_or_ge (p-2) c with h|h
    ·exact_mod_cast c2 (p-2) h
    ·rw [show p-2=c by omega];exact_mod_cast c4
 have z8:2≤B:=by omega
 have hf:=TB C l'.length ((w::u::R).length+1) 2 (by omega) (by have:=C.len;omega);obtain ⟨j1,j2⟩:=S9 C (S7 C hf) ⟨2,0,none⟩ (fun _=>⟨Nat.le_refl _,Nat.le_refl _,z8⟩);have zB6:Bn (w::u::R)=Bm (w::u::R) (Ar (w::u::R) ((w::u::R).length+1)):=rfl;rw [zB6,←j1];have sk:D 2=1:=by rw [hD];simp [bal]
 have g0:l'[0]? = some w:=by rw [yX 0 (by omega)];rfl
 have g1:isS l' 1 Ah=true:=by rw [C.isS (by omega)];exact h1
 generalize hS:Bv l' (Bm l' (Ar l' l'.length)) ⟨2,0,none⟩=S at *
 have su:S.2.err=none→S.2.at_=2+c:=fun hh=>by
  obtain ⟨_,q2,q3,q4,q5⟩:=j2 hh;have q2':D S.2.at_=D 2-1:=q2;have q3':2<S.2.at_:=q3
  have hgt:B<S.2.at_:=by
   rcases Nat.lt_or_ge B S.2.at_ with h|h
   ·exact h
   ·have:=C.pos _ (by omega) h
    omega
  have uQ:S.2.at_=B+1:=by omega
  rcases hB with ⟨hB,_,_⟩|⟨hB,hB2⟩
  ·omega
  ·rw [uQ,Nat.add_sub_cancel,hB2] at q5
   cases q5
 have xw:Ar l' (l'.length+1) ⟨0,0,none⟩=(.elem w.text S.1,S.2):=by
  have hnb:nextB l' (⟨0,0,none⟩:St).step Ah=true:=by unfold nextB;simp only [St.step,Option.isNone_none,Bool.true_and];exact g1
  have hss:(⟨0,0,none⟩:St).step.step=⟨2,0,none⟩:=rfl;simp only [Ar,B1,g0,hk,hnb,if_true,hss,hS];rfl
 have zB7:Bn l' ⟨0,0,none⟩=(.elem w.text S.1,S.2):=by
  have e1:Lc l' (Ar l' (l'.length+1)) ⟨0,0,none⟩=(.elem w.text S.1,S.2):=by unfold Lc;rw [TC (by rw [xw];intro hh;have:=su hh;simp only;omega),xw]
  show Bm l' (Ar l' (l'.length+1)) ⟨0,0,none⟩=_
  unfold Bm;rw [TC (by rw [e1];intro hh;have:=su hh;simp only;omega),e1]
 rw [←P6];unfold Ka;rw [zB7];simp only;cases he:S.2.err with
 |some x=>exact ⟨rfl,fun hh=>by cases hh⟩
 |none=>exact ⟨rfl,fun _=>rfl⟩
def okQ (a b:Sr):Prop:=a.err=b.err∧(a.err=none→a=b)
def okP {α:Type} (x y:α × Sr):Prop:=okQ x.2 y.2∧(x.2.err=none→x.1=y.1)
theorem okQ.refl (a:Sr):okQ a a:=⟨rfl,fun _=>rfl⟩
theorem okQ.cases {a b:Sr} (h:okQ a b):(a=b∧a.err=none)∨∃x,a.err=some x∧b.err=some x:=by
 cases he:a.err with
 |none=>exact .inl ⟨h.2 he,rfl⟩
 |some x=>exact .inr ⟨x,rfl,by rw [←h.1,he]⟩
theorem okQ.errs {a b:Sr} {x:List (List UInt8 × Nat) × Nat} (h:a.err=some x) (k:b.err=some x):okQ a b:=⟨by rw [h,k],fun hh=>by rw [h] at hh;cases hh⟩
theorem okP.errs {α:Type} {u v:α × Sr} {x:List (List UInt8 × Nat) × Nat} (h:u.2.err=some x) (k:v.2.err=some x):okP u v:=⟨okQ.errs h k,fun hh=>by rw [h] at hh;cases hh⟩
theorem okP.refl {α:Type} (u:α × Sr):okP u u:=⟨okQ.refl _,fun _=>rfl⟩
theorem okP.mk {α:Type} {a b:α} {r q:Sr} (h:okQ r q) (k:r.err=none→a=b):okP (a,r) (b,q):=⟨h,k⟩
theorem Fv {r:Sr} (h:r.err=none) (p e:Nat):(r.fail p e).err=some ([(Bo,p)],e):=by unfold Sr.fail;rw [h];rfl
theorem Hy {r:Sr} {x:List (List UInt8 × Nat) × Nat} (h:r.err=some x) (p e:Nat):(r.fail p e).err=some x:=by unfold Sr.fail;rw [h];rfl
theorem EA {ts:List Wd} {r:Sr} {x:List (List UInt8 × Nat) × Nat} (h:r.err=some x) (k:Nat) (s:List UInt8):isW ts r k s=false:=by simp [isW,h]
theorem KC {ts:List Wd} {r:Sr} {x:List (List UInt8 × Nat) × Nat} (h:r.err=some x) (k:Nat) (s:List UInt8):(A1 ts r k s).2.err=some x:=by unfold A1;rw [EA h];exact Hy h _ _
theorem Zv {ts:List Wd} {r:Sr} {x:List (List UInt8 × Nat) × Nat} (h:r.err=some x) (k:Nat) (s:List UInt8):(Bp ts r k s).err=some x:=by unfold Bp;rw [EA h];exact Hy h _ _
theorem JT (ts:List Wd) {a b:Sr} (h:okQ a b) (k:Nat) (s:List UInt8):okQ (A1 ts a k s).2 (Bp ts b k s):=by
 rcases h.cases with ⟨rfl,he⟩|⟨x,hx,hy⟩
 ·unfold A1 Bp
  cases hw:isW ts a k s with
  |true=>exact okQ.refl _
  |false=>exact okQ.errs (Fv he _ _) (Fv he _ _)
 ·exact okQ.errs (KC hx _ _) (Zv hy _ _)
theorem TD (ts:List Wd) {a b:Sr} (h:okQ a b):okP ((A1 ts a 1 []).1.text,(A1 ts a 1 []).2) (B8 ts b):=by
 rcases h.cases with ⟨rfl,he⟩|⟨x,hx,hy⟩
 ·unfold A1 B8
  cases hw:isW ts a 1 [] with
  |true=>exact okP.refl _
  |false=>exact okP.errs (Fv he _ _) (Fv he _ _)
 ·refine okP.errs (KC hx _ _) ?_
  unfold B8;rw [EA hy];exact Hy hy _ _
theorem O4 {ts:List Wd} {r:Sr} {x:List (List UInt8 × Nat) × Nat} (h:r.err=some x):(CI ts r).2.err=some x:=by unfold CI;rw [EA h];exact Hy h _ _
theorem O5 (ts:List Wd) {a b:Sr} (h:okQ a b):okP ((A1 ts a 2 []).1.n,(A1 ts a 2 []).2) (CI ts b):=by
 rcases h.cases with ⟨rfl,he⟩|⟨x,hx,hy⟩
 ·unfold A1 CI
  cases hw:isW ts a 2 [] with
  |true=>exact okP.refl _
  |false=>exact okP.errs (Fv he _ _) (Fv he _ _)
 ·exact okP.errs (KC hx _ _) (O4 hy)
theorem O6 {α:Type} {ts:List Wd} {z:α} {of:List Wd→α × Nat × Option (Nat × Nat)} {r:Sr} {x:List (List UInt8 × Nat) × Nat} (h:r.err=some x):Dc ts z of r=(z,r):=by unfold Dc;rw [h]
theorem O7 {α:Type} (ts:List Wd) {z:α} {of:List Wd→α × Nat × Option (Nat × Nat)} {a:Sr} (he:a.err=none) :
  okP (Dc ts z of a) ((of (ts.drop a.at_)).1,Ci a (of (ts.drop a.at_)).2.1 (of (ts.drop a.at_)).2.2):=by
 unfold Dc Ci;rw [he];simp only;cases h:(of (ts.drop a.at_)).2.2 with
 |none=>exact okP.refl _
 |some y=>exact okP.errs rfl rfl
theorem Mk (ts:List Wd) {a b:Sr} (h:okQ a b):okP (Cg ts a) (B9 ts b):=by
 rcases h.cases with ⟨rfl,he⟩|⟨x,hx,hy⟩
 ·unfold Cg B9
  have:=O7 ts (z:=Ex.none) (of:=Bb) he;rw [he];exact this
 ·unfold Cg B9
  rw [O6 hx,hy];exact okP.errs hx hy
theorem Zw (ts:List Wd) {a b:Sr} (h:okQ a b):okP (Ez ts a) (Fp ts b):=by
 rcases h.cases with ⟨rfl,he⟩|⟨x,hx,hy⟩
 ·unfold Ez Fp
  have:=O7 ts (z:=(([],.none,.none):List UInt8 × Ex × Ex)) (of:=CK) he;rw [he];exact this
 ·unfold Ez Fp
  rw [O6 hx,hy];exact okP.errs hx hy
theorem Zx {ts:List Wd} {i k:Nat} {s:List UInt8} (h:isK ts i k s=true):∃w,ts[i]? = some w∧w.kind=k∧(s=[]∨w.text=s):=by
 unfold isK at h
 split at h
 ·rename_i w hw
  simp only [Bool.and_eq_true,beq_iff_eq,Bool.or_eq_true] at h;exact ⟨w,hw,h.1,h.2⟩
 ·cases h
theorem Zy {ts:List Wd} {i:Nat} {s:List UInt8} (hs:s≠[]):isK ts i 3 s=isS ts i s:=by
 unfold isK isS;cases ts[i]? with
 |none=>rfl
 |some w =>
  show (w.kind==3&&(s==[] || w.text==s))=(w.kind==3&&w.text==s)
  rw [show (s==[])=false from beq_eq_false_iff_ne.2 hs];rfl
theorem TE {ts:List Wd} {r:Sr} {k:Nat} {s:List UInt8} (h:isW ts r k s=true):r.err=none∧∃w,ts[r.at_]? = some w∧w.kind=k∧(s=[]∨w.text=s):=by unfold isW at h;simp only [Bool.and_eq_true,Option.isNone_iff_eq_none] at h;exact ⟨h.1,Zx h.2⟩
theorem TF (ts:List Wd) {a b:Sr} (h:okQ a b):okP (toW ts a) (CM ts b):=by
 rcases h.cases with ⟨rfl,he⟩|⟨x,hx,hy⟩
 ·unfold toW CM
  cases hw:isW ts a 1 [] with
  |false=>exact okP.errs (Fv he _ _) (Fv he _ _)
  |true =>
   simp only [if_true];obtain ⟨_,w,zL,hk,_⟩:=TE hw;have vh:(ts.drop a.at_)[0]? = some w:=by rw [List.getElem?_drop];exact zL
   have key:=O7 ts (z:=Ex.none) (of:=fun l=>Bb (l.take (GZ ts a.at_-a.at_))) he;unfold GZ at *;rw [Zy (ts:=ts) (i:=a.at_+1) (s:=Ah) (by decide)] at *
   by_cases ho:isS ts (a.at_+1) Ah=true
   ·rw [if_pos ho] at key ⊢
    rw [if_pos ho]
    have ho':isS (ts.drop a.at_) 1 Ah=true:=by unfold isS at ho ⊢;rw [List.getElem?_drop];exact ho
    obtain ⟨p1,p2⟩:=Zu (ts.drop a.at_) w vh hk ho'
    have e1:a.at_+1+Co (ts.drop (a.at_+1)) 0-a.at_=1+Co ((ts.drop a.at_).drop 1) 0:=by rw [List.drop_drop];omega
    rw [e1] at key ⊢;generalize Bv (ts.drop a.at_) (Bn (ts.drop a.at_)) ⟨2,0,none⟩=S at *;rw [zL];cases hS:S.2.err with
    |some x =>
     have k1:Bb ((ts.drop a.at_).take (1+Co ((ts.drop a.at_).drop 1) 0))=((Bb ((ts.drop a.at_).take (1+Co ((ts.drop a.at_).drop 1) 0))).1,(Bb ((ts.drop a.at_).take (1+Co ((ts.drop a.at_).drop 1) 0))).2.1,some x):=by rw [←hS,p1]
     refine okP.errs (x:=([(Bo,a.at_+x.1),(Hf,x.1)],x.2)) ?_ ?_
     ·unfold Dc;simp only [he];rw [k1]
     ·unfold Ci;rw [he]
    |none =>
     have p2:=p2 hS
     have k1:Dc ts Ex.none (fun l=>Bb (l.take (1+Co ((ts.drop a.at_).drop 1) 0))) a=(.elem w.text S.1,Ci a S.2.at_ none):=by unfold Dc Ci;simp only [he];rw [p2]
     rw [k1];exact okP.refl _
   ·rw [if_neg ho] at key ⊢
    rw [if_neg ho];have e1:a.at_+1-a.at_=1:=by omega
    have e2:(ts.drop a.at_).take 1=[w]:=by obtain ⟨hi,uZ⟩:=List.getElem?_eq_some_iff.1 zL;rw [List.drop_eq_getElem_cons hi,uZ];rfl
    have k1:Dc ts Ex.none (fun l=>Bb (l.take (a.at_+1-a.at_))) a=(.var w.text,a.step):=by unfold Dc Sr.step;simp only [he,e1];rw [e2,Zt w hk]
    rw [k1,zL];exact okP.refl _
 ·unfold toW CM
  rw [EA hx,EA hy];exact okP.errs (Hy hx _ _) (Hy hy _ _)
theorem Zz {ts:List Wd}:∀(n:Nat) (d:List Int) {r:Sr} {x:List (List UInt8 × Nat) × Nat},r.err=some x→(DC ts n d r).2.err=some x
 |0,_,_,_,h=>h
 |n+1,d,r,x,h=>by
  have h1:(if 4≤d.length then r.fail (r.at_-1) 4 else r).err=some x:=by
   split
   ·exact Hy h _ _
   ·exact h
  have h2:=O4 (ts:=ts) h1;have h3:¬((CI ts (if 4≤d.length then r.fail (r.at_-1) 4 else r)).2.err=none∧(CI ts (if 4≤d.length then r.fail (r.at_-1) 4 else r)).1=0):=fun hh=>by rw [h2] at hh;cases hh.1
  simp only [DC,if_neg h3,EA h2,Bool.false_eq_true,if_false];exact h2
theorem TG {ts:List Wd} (n:Nat) (d:List Int) {r:Sr} {x:List (List UInt8 × Nat) × Nat} (h:r.err=some x):DV ts n d r=(d,r):=by
 cases n with
 |zero=>rfl
 |succ n=>simp only [DV,h]
theorem TH (ts:List Wd):∀(n:Nat) (d:List Int) {a b:Sr},okQ a b→(a.err=none→d.length<4)→n+d.length=5→okP (DV ts n d a) (DC ts (n+1) d b)
 |n,d,a,b,h,h4,h5=>by
  rcases h.cases with ⟨rfl,he⟩|⟨x,hx,hy⟩
  ·have hd:=h4 he
   obtain ⟨n,rfl⟩:∃k,n=k+1:=⟨n-1,by omega⟩
   have hn:=O5 ts (okQ.refl a);generalize hm:A1 ts a 2 []=m at *;generalize hrm:CI ts a=rm at *;rw [DC];simp only [DV,he,hm,if_neg (by omega:¬4≤d.length),hrm];rcases hn.1.cases with ⟨e1,e2⟩|⟨x,hx,hy⟩
   ·simp only at e1 e2
    have e3:m.1.n=rm.1:=hn.2 e2;rw [←e1,←e3,e2]
    by_cases h0:m.1.n=0
    ·have hx:=Fv e2 a.at_ 1
     simp only [h0,if_true,and_self,EA hx,Bool.false_eq_true,if_false];exact okP.errs hx hx
    ·simp only [h0,if_false,and_false]
     cases hc:isW ts m.2 3 A0 with
     |false=>exact okP.refl _
     |true =>
      simp only [if_true]
      by_cases h44:(d++[(m.1.n:Int)]).length=4
      ·rw [if_pos h44]
       have hx:(m.2.fail m.2.at_ 4).step.err=some ([(Bo,m.2.at_)],4):=Fv e2 _ _;rw [TG n _ hx];refine okP.errs hx ?_;rw [DC];have hr:(m.2.step.fail (m.2.step.at_-1) 4).err=some ([(Bo,m.2.at_)],4):=Fv (r:=m.2.step) e2 _ _;have h2:=O4 (ts:=ts) hr;have h3:¬((CI ts (m.2.step.fail (m.2.step.at_-1) 4)).2.err=none∧(CI ts (m.2.step.fail (m.2.step.at_-1) 4)).1=0):=fun hh=>by rw [h2] at hh;cases hh.1
       simp only [if_pos (by omega:4≤(d++[(m.1.n:Int)]).length),if_neg h3,EA h2,Bool.false_eq_true,if_false];exact h2
      ·rw [if_neg h44]
       have hl:(d++[(m.1.n:Int)]).length=d.length+1:=by simp
       exact TH ts n _ (okQ.refl _) (fun _=>by omega) (by omega)
   ·simp only at hx
    have g1:(if m.1.n=0 then m.2.fail a.at_ 1 else m.2).err=some x:=by
     split
     ·exact Hy hx _ _
     ·exact hx
    have g2:¬(rm.2.err=none∧rm.1=0):=fun hh=>by rw [hy] at hh;cases hh.1
    simp only [EA g1,Bool.false_eq_true,if_false,if_neg g2,EA hy];exact okP.errs g1 hy
  ·rw [TG n d hx]
   exact okP.errs hx (Zz _ _ hy)
 termination_by n=>n
theorem Z0 (ts:List Wd) {a b:Sr} (h:okQ a b):okP (DP ts a) (CA ts b):=by
 have h1:=TD ts h;unfold DP CA;generalize A1 ts a 1 []=m at *;generalize B8 ts b=rm at *;simp only;rcases h1.1.cases with ⟨e1,e2⟩|⟨x,hx,hy⟩
 ·simp only at e1 e2
  have e3:m.1.text=rm.1:=h1.2 e2;rw [←e1,←e3];cases hc:isW ts m.2 3 Ah with
  |false=>exact okP.refl _
  |true =>
   simp only [if_true];have h2:=TH ts 5 [] (okQ.refl m.2.step) (fun _=>by decide) rfl;have h3:=JT ts h2.1 3 Ao;refine okP.mk h3 fun hh => ?_
   cases hx:(DV ts 5 [] m.2.step).2.err with
   |some x=>rw [KC hx] at hh;cases hh
   |none=>rw [h2.2 hx]
 ·simp only at hx
  rw [EA hx,EA hy];exact okP.errs hx hy
theorem Z1 {ts:List Wd} {r:Sr} (h:(DP ts r).2.err=none):r.err=none:=by
 cases he:r.err with
 |none=>rfl
 |some x =>have h1:=KC (ts:=ts) he 1 [];unfold DP at h;simp only [EA h1,Bool.false_eq_true,if_false] at h;rw [h1] at h;cases h
theorem TI (ts:List Wd):∀(m n:Nat) (l:List It) {a b:Sr},okQ a b→1≤m→(a.err=none→ts.length<m+a.at_∧ts.length≤n+a.at_) →
  okP (F9 ts n (l++[(DP ts a).1]) (DP ts a).2) (Dv ts m l b)
 |m,n,l,a,b,h,h1,hf=>by
  obtain ⟨m,rfl⟩:∃k,m=k+1:=⟨m-1,by omega⟩
  have hi:=Z0 ts h;have uL:=(RR ts a).1;have zAF:=Z1 (ts:=ts) (r:=a);rw [Dv];generalize DP ts a=i at *;generalize CA ts b=ri at *;rcases hi.1.cases with ⟨e1,e2⟩|⟨x,hx,hy⟩
  ·have e3:=hi.2 e2
   rw [←e1,←e3];cases hc:isW ts i.2 3 A0 with
   |false =>
    cases n with
    |zero=>exact okP.refl _
    |succ n=>rw [F9,hc];exact okP.refl _
   |true =>
    have sd:=(D8 hc).1;simp only [if_true];have zg:a.err=none:=zAF e2;obtain ⟨f1,f2⟩:=hf zg;obtain ⟨n,rfl⟩:∃k,n=k+1:=⟨n-1,by omega⟩
    rw [F9,hc,if_pos rfl];exact TI ts m n (l++[i.1]) (okQ.refl i.2.step) (by omega) (fun _=>⟨by show _<m+(i.2.at_+1);omega,by show _≤n+(i.2.at_+1);omega⟩)
  ·have e1:F9 ts n (l++[i.1]) i.2=(l++[i.1],i.2):=by
    cases n with
    |zero=>rfl
    |succ n=>rw [F9,EA hx];rfl
   rw [e1,EA hy];exact okP.errs hx hy
 termination_by m=>m
theorem Z2 (ts:List Wd) (sT:ts≠[]):okP (GA ts ⟨1,none⟩) (E6 ts ⟨1,none⟩):=by unfold GA E6;exact TI ts _ _ [] (okQ.refl _) (by omega) (fun _=>⟨by omega,by omega⟩)
theorem Z3 (ts:List Wd) {a b:Sr} (h:okQ a b):okP (FN ts a) (J1 ts b):=by
 unfold FN J1;rcases h.cases with ⟨rfl,he⟩|⟨x,hx,hy⟩
 ·cases hc:isW ts a 3 A0 with
  |false=>exact okP.refl _
  |true =>
   simp only [if_true];unfold CO;cases hm:isW ts a.step 3 BY with
   |true =>simp only [if_true];have:=O5 ts (okQ.refl a.step.step);exact okP.mk this.1 fun hh=>by have:=this.2 hh;simp only at this;rw [this]
   |false =>simp only [if_false,Bool.false_eq_true];have:=O5 ts (okQ.refl a.step);exact okP.mk this.1 fun hh=>by have:=this.2 hh;simp only at this;rw [this]
 ·rw [EA hx,EA hy]
  exact okP.errs hx hy
theorem LF {ts:List Wd} {r:Sr} {k:Nat} {s:List UInt8} (h:(A1 ts r k s).2.err=none):r.err=none:=by
 cases he:r.err with
 |none=>rfl
 |some x=>rw [KC he] at h;cases h
theorem O8 {ts:List Wd} {r:Sr} (h:(Cg ts r).2.err=none):r.err=none:=by
 cases he:r.err with
 |none=>rfl
 |some x=>unfold Cg at h;rw [O6 he,he] at h;cases h
theorem Z4 {ts:List Wd} {r:Sr} (h:(FN ts r).2.err=none):r.err=none:=by
 cases he:r.err with
 |none=>rfl
 |some x=>unfold FN at h;rw [EA he] at h;simp only [Bool.false_eq_true,if_false] at h;rw [he] at h;cases h
theorem do_p (ts:List Wd) {a b:Sr} (h:okQ a b):okP (doW ts a) (FT ts b):=by
 have h1:=TD ts h;have h2:=Mk ts (JT ts h1.1 3 isT);have h3:=Mk ts (JT ts h2.1 3 A0);have h4:=Z3 ts h3.1;refine okP.mk h4.1 fun hh => ?_
 have n3:=Z4 hh;have n2:=LF (O8 n3);have n1:=LF (O8 n2);have e1:=h1.2 n1;have e2:=h2.2 n2;have e3:=h3.2 n3;have e4:=h4.2 hh;simp only at e1 e2 e3 e4;rw [e1,e2,e3,e4]
theorem if_p (ts:List Wd) {a b:Sr} (h:okQ a b):okP (ifW ts a) (OF ts b):=by
 have h1:=Zw ts (JT ts h 3 Ah);have h2:=JT ts (JT ts h1.1 3 Ao) 4 Ga;refine okP.mk h2 fun hh => ?_
 have e1:=h1.2 (LF (LF hh));rw [e1]
theorem Z5 (ts:List Wd) {a b:Sr} (h:okQ a b):okP (NM ts a) (OG ts b):=by
 have h1:=TF ts h;have h2:=Mk ts (JT ts h1.1 3 isT);refine okP.mk h2.1 fun hh => ?_
 have e1:=h1.2 (LF (O8 hh));have e2:=h2.2 hh;rw [e1,e2]
theorem Z6 (ts:List Wd) (r:Sr) (he:r.err=none):okP (α:=Sm) (if isW ts r 4 ifT then ({kind:=7},r.step) else ({kind:=4},(A1 ts r 4 doT).2)) (if isW ts r 4 doT then ({kind:=4},r.step) else ({kind:=7},Bp ts r 4 ifT)):=by
 cases hi:isW ts r 4 ifT with
 |true =>
  have hd:isW ts r 4 doT=false:=by
   obtain ⟨_,w,hw,hk,ht⟩:=TE hi;rcases ht with ht|ht
   ·cases ht
   ·unfold isW isK
    rw [hw];simp only [ht];rw [show ((ifT==doT):Bool)=false by decide,show ((doT==[]):Bool)=false by decide];simp
  rw [hd];simp only [if_true,Bool.false_eq_true,if_false,Bp,hi];exact okP.refl _
 |false =>
  simp only [Bool.false_eq_true,if_false,A1,Bp,hi];cases hd:isW ts r 4 doT with
  |true=>exact okP.refl _
  |false=>exact okP.errs (Fv he _ _) (Fv he _ _)
theorem Z7 (ts:List Wd) (sT:ts≠[]) (word:List UInt8):okP (Gb ts word ⟨1,none⟩) (Cb ts word ⟨1,none⟩):=by
 unfold Gb Cb
 split
 ·have h:=Z2 ts sT
  exact okP.mk h.1 fun hh=>by rw [h.2 hh]
 ·split
  ·exact do_p ts (okQ.refl _)
  ·split
   ·exact Z6 ts ⟨1,none⟩ rfl
   ·split
    ·exact if_p ts (okQ.refl _)
    ·split
     ·exact okP.refl _
     ·split
      ·have h:=TF ts (okQ.refl ⟨1,none⟩)
       exact okP.mk h.1 fun hh=>by rw [h.2 hh]
      ·split
       ·have h:=Mk ts (okQ.refl ⟨1,none⟩)
        exact okP.mk h.1 fun hh=>by rw [h.2 hh]
       ·exact okP.errs rfl rfl
theorem Z8 (ts:List Wd) (w:Wd) (h0:ts[0]? = some w):okP (D3 ts) (Dk ts w):=by
 have sU:ts≠[]:=by rintro rfl;cases h0
 unfold D3 Dk;rw [h0];simp only
 split
 ·exact Z7 ts sU _
 ·split
  ·exact Z5 ts (okQ.refl _)
  ·exact okP.refl _
theorem Z9 (ts:List Wd):Kc ts=I7 ts:=by
 cases ts with
 |nil=>rfl
 |cons w l =>
  have h:=Z8 (w::l) w rfl;unfold Kc I7;rw [if_neg (by simp)];simp only;generalize D3 (w::l)=x at *;generalize Dk (w::l) w=y at *;rcases h.1.cases with ⟨e1,e2⟩|⟨z,hx,hy⟩
  ·have e3:=h.2 e2
   obtain ⟨x1,x2⟩:=x;obtain ⟨y1,y2⟩:=y;simp only at e1 e2 e3;subst e1 e3;simp only [e2,true_and];rfl
  ·have g1:(if x.2.at_<(w::l).length then x.2.fail x.2.at_ 2 else x.2).err=some z:=by
    split
    ·exact Hy hx _ _
    ·exact hx
   have g2:¬(y.2.err=none∧y.2.at_<(w::l).length):=fun hh=>by rw [hy] at hh;cases hh.1
   rw [if_neg g2,g1,hy]
theorem aA (b:List UInt8):Is b=Dl b:=by
 unfold Is Dl;cases lex (b.length+1) b 0 false with
 |error x=>rfl
 |ok ts=>exact Z9 ts
open Go.RowKit Go.Proofs.Fw
def ofZ:Zs→Nat→Bd→List Nd × Er
 |[],_,s=>(match s.fs with
  |[]=>(s.l,none)
  |f::_=>([],some ([(Cw,f.line.toNat)],11)))
 |z::Z,a,s=>(match z.2 with
  |some y=>([],some ((Cw,a)::y.1,y.2))
  |none=>if z.1.kind=0 then ofZ Z (a+1) s else
   if (s.add z.1 a).2=0 then ofZ Z (a+1) (s.add z.1 a).1 else ([],some ([(Cw,a)],(s.add z.1 a).2)))
theorem Sm.x_kind (m:Sm):m.x.kind=(m.kind:Int):=rfl
theorem O9:∀(ls:List (List UInt8)) (a:Nat) (s:Bd),ofL ls a s=ofZ (CE ls) a s
 |[],a,s=>rfl
 |b::ls,a,s=>by
  rw [ofL,aA]
  show _=ofZ (((Dl (B4 b)).1.x,(Dl (B4 b)).2)::CE ls) a s
  rw [ofZ];generalize Dl (B4 b)=p;obtain ⟨m,e⟩:=p;cases e with
  |some y=>rfl
  |none =>
   have hk:(m.x.kind=0)=(m.kind=0):=by rw [Sm.x_kind];exact propext (by omega)
   simp only [hk,O9 ls]
def Bd.putL (b:Bd) (ns:List Nd):Bd:=ns.foldl Bd.put b
theorem Bd.putL_nil (b:Bd):b.putL []=b:=rfl
theorem Bd.putL_cons (b:Bd) (n:Nd) (ns:List Nd):b.putL (n::ns)=(b.put n).putL ns:=rfl
def GO (of:Int) (beg:Nat) (fs:List Fr):Prop:=match fs with
 |[]=>of=0
 |f::_=>f.line=beg∧(of=3∧f.st.kind=3∧f.mid<0∨of=5∧f.st.kind=5∧f.mid<0∨of=6∧f.st.kind=5∧0≤f.mid)
theorem Bd.put_top {of:Int} {beg:Nat} {b:Bd} (h:GO of beg b.fs) (n:Nd):GO of beg (b.put n).fs:=by
 obtain ⟨l,fs,o⟩:=b;cases fs with
 |nil=>exact h
 |cons f r =>
  simp only [Bd.put,GO,Fr.put] at h ⊢
  split<;>exact h
theorem Bd.put_o (b:Bd) (n:Nd):(b.put n).o=b.o:=by obtain ⟨l,fs,o⟩:=b;cases fs<;>rfl
theorem Bd.putL_body (l:List Nd) (f:Fr) (r:List Fr) (o:Bool) (hm:f.mid<0) (ns:List Nd):Bd.putL ⟨l,f::r,o⟩ ns=⟨l,{f with body:=f.body++ns}::r,o⟩:=by
  induction ns generalizing f with
  |nil=>simp [Bd.putL]
  |cons n ns ih =>
   have h0:¬0≤f.mid:=by omega
   have e:Bd.put ⟨l,f::r,o⟩ n=⟨l,{f with body:=f.body++[n]}::r,o⟩:=by simp only [Bd.put,Fr.put,if_neg h0]
   rw [Bd.putL_cons,e,ih {f with body:=f.body++[n]} hm];simp
theorem Bd.putL_els (l:List Nd) (f:Fr) (r:List Fr) (o:Bool) (hm:0≤f.mid) (ns:List Nd):Bd.putL ⟨l,f::r,o⟩ ns=⟨l,{f with els:=f.els++ns}::r,o⟩:=by
  induction ns generalizing f with
  |nil=>simp [Bd.putL]
  |cons n ns ih =>
   have e:Bd.put ⟨l,f::r,o⟩ n=⟨l,{f with els:=f.els++[n]}::r,o⟩:=by simp only [Bd.put,Fr.put,if_pos hm]
   rw [Bd.putL_cons,e,ih {f with els:=f.els++[n]} hm];simp
theorem Bd.putL_top (l:List Nd) (o:Bool) (ns:List Nd):Bd.putL ⟨l,[],o⟩ ns=⟨l++ns,[],o⟩:=by
  induction ns generalizing l with
  |nil=>simp [Bd.putL]
  |cons n ns ih =>have e:Bd.put ⟨l,[],o⟩ n=⟨l++[n],[],o⟩:=rfl;rw [Bd.putL_cons,e,ih];simp
def Bd.wo (b:Bd) (o:Bool):Bd:=⟨b.l,b.fs,o⟩
theorem Bd.wo_put (b:Bd) (o:Bool) (n:Nd):(b.wo o).put n=(b.put n).wo o:=by obtain ⟨l,fs,p⟩:=b;cases fs<;>rfl
theorem Bd.wo_putL (b:Bd) (o:Bool) (ns:List Nd):(b.wo o).putL ns=(b.putL ns).wo o:=by
 induction ns generalizing b with
 |nil=>rfl
 |cons n ns ih=>rw [Bd.putL_cons,Bd.putL_cons,Bd.wo_put,ih]
theorem Bd.wo_wo (b:Bd) (o p:Bool):(b.wo o).wo p=b.wo p:=rfl
theorem Bd.wo_self (b:Bd):b.wo b.o=b:=rfl
theorem Bd.mark_wo (b:Bd) {x:Sx} (h:x.kind≠1):b.mark x=b.wo true:=by unfold Bd.mark Bd.wo;rw [if_neg h]
theorem TJ (Z:Zs):∀(k i:Nat) (b:Bd),Z.length=i+k→ofZ (Z.drop i) i b=ofZ (Z.drop (DE Z i)) (DE Z i) b
 |0,i,b,h=>by rw [Ri (fun z hz=>by rw [List.getElem?_eq_none (by omega)] at hz;cases hz)]
 |k+1,i,b,h=>by
  have hi:i<Z.length:=by omega
  cases he:Eo Z[i] with
  |false=>rw [Ri (fun z hz=>by
    rw [List.getElem?_eq_getElem hi] at hz;injection hz with hz
    rw [←hz];exact he)]
  |true =>have hz:Z[i]? = some Z[i]:=List.getElem?_eq_getElem hi;have h1:=Xa hz he;have h2:=TJ Z k (i+1) b (by omega);rw [←h1,←h2,List.drop_eq_getElem_cons hi,ofZ];unfold Eo at he;simp only [Bool.and_eq_true,decide_eq_true_eq,Option.isNone_iff_eq_none] at he;rw [he.2];simp only [he.1,if_true]
theorem aB (Z:Zs) (i:Nat) {z:Sx × Er} (h:Z[DE Z i]? = some z):Eo z=false:=by
 cases he:Eo z with
 |false=>rfl
 |true =>
  exfalso;have h1:(Z.drop i)[((Z.drop i).takeWhile Eo).length]? = some z:=by rw [List.getElem?_drop];exact h
  have h2:∀(l:List (Sx × Er)) (z:Sx × Er),l[(l.takeWhile Eo).length]? = some z→Eo z=false:=by
   intro l
   induction l with
   |nil=>intro z hz;cases hz
   |cons a l ih =>
    intro z hz;rw [List.takeWhile_cons] at hz
    split at hz
    ·exact ih z (by simpa using hz)
    ·rename_i ha
     simp only [List.length_nil,List.getElem?_cons_zero,Option.some.injEq] at hz;rw [←hz];simpa using ha
  rw [h2 _ z h1] at he;cases he
theorem PA {Z:Zs} {i:Nat} {z:Sx × Er} (b:Bd) (hz:Z[i]? = some z) (he:z.2=none) (hk:z.1.kind≠0):ofZ (Z.drop i) i b=if (b.add z.1 i).2=0 then ofZ (Z.drop (i+1)) (i+1) (b.add z.1 i).1 else ([],some ([(Cw,i)],(b.add z.1 i).2)):=by obtain ⟨hi,hz⟩:=List.getElem?_eq_some_iff.1 hz;rw [List.drop_eq_getElem_cons hi,hz,ofZ,he];simp only [if_neg hk]
theorem aC {Z:Zs} {i:Nat} {z:Sx × Er} (b:Bd) (hz:Z[i]? = some z) {y:List (List UInt8 × Nat) × Nat} (he:z.2=some y):ofZ (Z.drop i) i b=([],some ((Cw,i)::y.1,y.2)):=by obtain ⟨hi,hz⟩:=List.getElem?_eq_some_iff.1 hz;rw [List.drop_eq_getElem_cons hi,hz,ofZ,he]
structure Sim (Z:Zs) (of:Int) (s:Bst) (b:Bd) (ns:List Nd) (r:Bst):Prop where
 bad:∀y,r.bad=some y→ofZ (Z.drop s.at_) s.at_ b=([],some y)
 good:r.bad=none→ofZ (Z.drop s.at_) s.at_ b=ofZ (Z.drop r.at_) r.at_ ((b.putL ns).wo r.plain)
 fin0:r.bad=none→of=0→Z[r.at_]? = none
 fin:r.bad=none→of≠0→r.plain=true∧∃z,Z[r.at_]? = some z∧z.2=none∧(of=3∧z.1.kind=4∨of=5∧(z.1.kind=7∨z.1.kind=6)∨of=6∧z.1.kind=7)
structure TL (Z:Zs) (l:Nat) (x:Sx) (b:Bd) (n:Nd) (r:Bst):Prop where
 bad:∀y,r.bad=some y→ofZ (Z.drop (l+1)) (l+1) ⟨b.l,⟨l,l,x,[],[],-1⟩::b.fs,true⟩=([],some y)
 good:r.bad=none→r.plain=true∧l<r.at_∧r.at_≤Z.length∧ofZ (Z.drop (l+1)) (l+1) ⟨b.l,⟨l,l,x,[],[],-1⟩::b.fs,true⟩=ofZ (Z.drop r.at_) r.at_ ((b.put n).wo true)
theorem Ml {s:Bst} (h:s.bad=none) (p c:Nat):(s.fail p c).bad=some ([(DS,p)],c):=by unfold Bst.fail;rw [h];rfl
theorem Mm {Z:Zs} {nest:Nat→Sx→Bst→Nd × Bst} {top:Bool} {of:Int} {beg D:Nat} (h8:top=true→D=8) (h7:top=false→D≤7)
  (wL:of=0∨of=3∨of=5∨of=6)
  (hn:top=false→∀(x:Sx) (s:Bst) (b:Bd),(x.kind=3∨x.kind=5)→s.at_<Z.length→s.bad=none→s.plain=true→b.fs.length=D→TL Z s.at_ x b (nest s.at_ x s).1 (nest s.at_ x s).2) :
  ∀(f:Nat) (s0:Bst) (out:List Nd) (b:Bd),Z.length<f+s0.at_→s0.at_≤Z.length→s0.bad=none→b.o=s0.plain→(of≠0→s0.plain=true)→GO of beg b.fs→b.fs.length=D →
   ∃ns,(Cq Z nest top of beg f s0 out).1=out++ns∧Sim Z of s0 b ns (Cq Z nest top of beg f s0 out).2
 |0,s0,out,b,hf,hl,_,_,_,_,_=>by omega
 |f+1,s0,out,b,hf,hl,hb,ho,hp,ht,hD=>by
  have yY:=TJ Z (Z.length-s0.at_) s0.at_ b (by omega);have sY:=Rj Z s0.at_;have sZ:=Xb Z s0.at_ hl;have z0:=fun z (h:Z[DE Z s0.at_]? = some z)=>aB Z s0.at_ h
  have zK:=Rk (Z:=Z) (s:=s0) rfl hb;have zB8:=fun z h=>Rl (Z:=Z) (s:=s0) rfl hb (z:=z) h
  have ww:=fun z h=>fun y=>OR (Z:=Z) (s:=s0) rfl hb (z:=z) h (y:=y)
  unfold Cq;generalize DE Z s0.at_=a at *
  -- an error told at once
  have fails:∀(s:Bst) (y:List (List UInt8 × Nat) × Nat),s.bad=some y→ofZ (Z.drop a) a b=([],some y)→∃ns,out=out++ns∧Sim Z of s0 b ns s:=fun s y hs hy=>by
   refine ⟨[],by simp,fun y' hy' => ?_,fun hh => ?_,fun hh => ?_,fun hh => ?_⟩
   ·rw [hs] at hy'
    injection hy' with hy';rw [yY,hy,hy']
   all_goals (rw [hs] at hh;cases hh)
  cases hz:Z[a]? with
  |none =>
   rw [zK hz];simp only [Option.isSome_none,Bool.false_eq_true,if_false,hz]
   by_cases xx:of=0
   ·rw [if_pos xx]
    refine ⟨[],by simp,fun y hy=>(by cases hy),fun _ => ?_,fun _ _=>hz,fun _ hh=>absurd xx hh⟩;rw [yY,Bd.putL_nil]
    show _=ofZ (Z.drop a) a (b.wo s0.plain)
    rw [←ho,Bd.wo_self]
   ·rw [if_neg xx]
    refine fails _ _ (Ml rfl beg 11) ?_
    have hd:Z.drop a=[]:=List.drop_eq_nil_of_le (by
     rcases Nat.lt_or_ge a Z.length with h|h
     ·rw [List.getElem?_eq_getElem h] at hz;cases hz
     ·exact h)
    rw [hd];obtain ⟨l,fs,o⟩:=b;cases fs with
    |nil=>exact absurd ht xx
    |cons fr r =>have:fr.line=beg:=ht.1;simp only [ofZ,this,Int.toNat_natCast];rfl
  |some z =>
   have hal:a<Z.length:=by
    rcases Nat.lt_or_ge a Z.length with h|h
    ·exact h
    ·rw [List.getElem?_eq_none h] at hz;cases hz
   cases wx:z.2 with
   |some y =>rw [ww z hz y wx];simp only [inE,Option.map_some,Option.isSome_some,if_true];exact fails _ _ rfl (aC b hz wx)
   |none =>
    have uk:z.1.kind≠0:=fun hh=>by have:=z0 z hz;unfold Eo at this;rw [wx,hh] at this;cases this
    have step:=PA b hz wx uk;rw [zB8 z hz wx];simp only [Option.isSome_none,Bool.false_eq_true,if_false,hz]
    -- the block ends here
    have ends:(of≠0)→(of=3∧z.1.kind=4∨of=5∧(z.1.kind=7∨z.1.kind=6)∨of=6∧z.1.kind=7)→∃ns,out=out++ns∧Sim Z of s0 b ns ⟨a,none,s0.plain⟩:=fun ho0 zAG=>by
     refine ⟨[],by simp,fun y hy=>(by cases hy),fun _ => ?_,fun _ hh=>absurd hh ho0,fun _ _=>⟨hp ho0,z,hz,wx,zAG⟩⟩;rw [yY,Bd.putL_nil]
     show _=ofZ (Z.drop a) a (b.wo s0.plain)
     rw [←ho,Bd.wo_self]
    -- a wrong end
    have wrong:(b.add z.1 a).2=12→∃ns,out=out++ns∧Sim Z of s0 b ns ((⟨a,none,s0.plain⟩:Bst).fail a 12):=fun wy=>by refine fails _ _ (Ml rfl a 12) ?_;rw [step,wy];rfl
    -- a statement is put
    have puts:∀p:Bool,(b.add z.1 a).2=0→(b.add z.1 a).1=(b.put (.leaf a z.1)).wo p→(of≠0→p=true) →
      ∃ns,(Cq Z nest top of beg f ⟨a+1,none,p⟩ (out++[.leaf a z.1])).1=out++ns∧Sim Z of s0 b ns (Cq Z nest top of beg f ⟨a+1,none,p⟩ (out++[.leaf a z.1])).2:=fun p e2 e1 hpp=>by
     have ht':GO of beg ((b.put (.leaf a z.1)).wo p).fs:=Bd.put_top ht _;have sl:((b.put (.leaf a z.1)).wo p).fs.length=b.fs.length:=Bd.put_len b _;obtain ⟨ns,g1,g2⟩:=Mm h8 h7 wL hn f ⟨a+1,none,p⟩ (out++[.leaf a z.1]) ((b.put (.leaf a z.1)).wo p) (by show _<f+(a+1);omega) (by show a+1≤_;omega) rfl rfl hpp ht' (by rw [sl];exact hD)
     have sX:ofZ (Z.drop s0.at_) s0.at_ b=ofZ (Z.drop (a+1)) (a+1) ((b.put (.leaf a z.1)).wo p):=by rw [yY,step,e2,if_pos rfl,e1]
     refine ⟨.leaf a z.1::ns,by rw [g1];simp,fun y hy => ?_,fun hh => ?_,g2.fin0,g2.fin⟩
     ·rw [sX];exact g2.bad y hy
     ·rw [sX]
      have:=g2.good hh;rw [Bd.wo_putL,Bd.wo_wo] at this;exact this
    by_cases k4:z.1.kind=4
    ·simp only [k4,if_true]
     by_cases h3:of=3
     ·rw [if_pos h3];exact ends (by omega) (.inl ⟨h3,k4⟩)
     ·rw [if_neg h3]
      refine wrong ?_;obtain ⟨l,fs,o⟩:=b;cases fs with
      |nil=>simp [Bd.add,Bd.mark,k4,Bd.fin]
      |cons fr r =>
       have:fr.st.kind≠3:=by simp only [GO] at ht;omega
       simp [Bd.add,Bd.mark,k4,Bd.fin,this]
    ·simp only [k4,if_false]
     by_cases k7:z.1.kind=7
     ·simp only [k7,if_true]
      by_cases h3:of=5∨of=6
      ·rw [if_pos h3]
       refine ends (by omega) ?_;rcases h3 with h3|h3
       ·exact .inr (.inl ⟨h3,.inl k7⟩)
       ·exact .inr (.inr ⟨h3,k7⟩)
      ·rw [if_neg h3]
       refine wrong ?_;obtain ⟨l,fs,o⟩:=b;cases fs with
       |nil=>simp [Bd.add,Bd.mark,k7,Bd.fin]
       |cons fr r =>
        have:fr.st.kind≠5:=by simp only [GO] at ht;omega
        simp [Bd.add,Bd.mark,k7,Bd.fin,this]
     ·simp only [k7,if_false]
      by_cases k6:z.1.kind=6
      ·simp only [k6,if_true]
       by_cases h3:of=5
       ·rw [if_pos h3];exact ends (by omega) (.inr (.inl ⟨h3,.inr k6⟩))
       ·rw [if_neg h3]
        refine wrong ?_;obtain ⟨l,fs,o⟩:=b;cases fs with
        |nil=>simp [Bd.add,Bd.mark,k6]
        |cons fr r =>
         have:¬(fr.st.kind=5∧fr.mid<0):=by simp only [GO] at ht;omega
         simp [Bd.add,Bd.mark,k6,this]
      ·simp only [k6,if_false]
       by_cases k1:z.1.kind=1
       ·simp only [k1,if_true]
        have hm:b.mark z.1=b:=by unfold Bd.mark;rw [if_pos k1]
        by_cases h3:s0.plain=true∨of≠0
        ·rw [if_pos h3]
         refine fails _ _ (Ml rfl a 2) ?_
         have:(b.add z.1 a).2=2:=by
          have hc:b.o=true∨b.fs≠[]:=by
           rcases h3 with h3|h3
           ·exact .inl (by rw [ho,h3])
           ·refine .inr fun hh => ?_
            rw [hh] at ht;exact h3 ht
          unfold Bd.add;rw [hm];simp [k1,hc]
         rw [step,this];rfl
        ·rw [if_neg h3]
         have xx:of=0:=Decidable.byContradiction fun hh=>h3 (.inr hh)
         have wM:s0.plain=false:=by
          cases h:s0.plain with
          |false=>rfl
          |true=>exact absurd (.inl h) h3
         have hfs:b.fs=[]:=by
          obtain ⟨l,fs,o⟩:=b;cases fs with
          |nil=>rfl
          |cons fr r=>simp only [GO] at ht;omega
         have hc:¬(b.o=true∨b.fs≠[]):=by rw [ho,wM,hfs];simp
         have vC:b.add z.1 a=(b.put (.lf a z.1),0):=by unfold Bd.add;rw [hm];simp [k1,hc]
         refine puts s0.plain (by rw [vC]) ?_ (fun hh=>absurd xx hh);rw [vC,←ho,←Bd.put_o b (.leaf a z.1)];rfl
       ·simp only [k1,if_false]
        have hm:=Bd.mark_wo b k1
        by_cases k35:z.1.kind=3∨z.1.kind=5
        ·simp only [k35,if_true]
         cases top with
         |true =>
          simp only [if_true];refine fails _ _ (Ml rfl a 4) ?_
          have:(b.add z.1 a).2=4:=by have hc:(b.wo true).fs.length=8:=hD.trans (h8 rfl);unfold Bd.add;rw [hm];simp [k4,k7,k6,k35,hc]
          rw [step,this];rfl
         |false =>
          have hN:=hn rfl z.1 ⟨a,none,true⟩ b k35 hal rfl rfl hD
          have vC:b.add z.1 a=(⟨b.l,⟨a,a,z.1,[],[],-1⟩::b.fs,true⟩,0):=by
           have hc:¬(b.wo true).fs.length=8:=fun hh=>by have h1:=h7 rfl;have h2:b.fs.length=8:=hh;omega
           unfold Bd.add;rw [hm];simp only [k4,k7,k6,k35,hc,if_true,if_false];rfl
          have sX:ofZ (Z.drop s0.at_) s0.at_ b=ofZ (Z.drop (a+1)) (a+1) ⟨b.l,⟨a,a,z.1,[],[],-1⟩::b.fs,true⟩:=by rw [yY,step,vC,if_pos rfl]
          simp only [Bool.false_eq_true,if_false];generalize nest a z.1 ⟨a,none,true⟩=N at *;obtain ⟨n,r⟩:=N;cases hr:r.bad with
          |some y =>
           simp only [Option.isSome_some,if_true];refine ⟨[],by simp,fun y' hy' => ?_,fun hh => ?_,fun hh => ?_,fun hh => ?_⟩
           ·rw [sX];exact hN.bad y' hy'
           all_goals (rw [show r.bad=none from hh] at hr;cases hr)
          |none =>
           simp only [Option.isSome_none,Bool.false_eq_true,if_false];obtain ⟨q1,q2,q3,q4⟩:=hN.good hr;have ht':GO of beg ((b.put n).wo true).fs:=Bd.put_top ht _;have sl:((b.put n).wo true).fs.length=b.fs.length:=Bd.put_len b _;obtain ⟨ns,g1,g2⟩:=Mm h8 h7 wL hn f r (out++[n]) ((b.put n).wo true) (by have q2:a<r.at_:=q2;omega) q3 hr q1.symm (fun _=>q1) ht' (by rw [sl];exact hD);refine ⟨n::ns,by rw [g1];simp,fun y hy => ?_,fun hh => ?_,g2.fin0,g2.fin⟩
           ·rw [sX,q4];exact g2.bad y hy
           ·rw [sX,q4]
            have:=g2.good hh;rw [Bd.wo_putL,Bd.wo_wo] at this;exact this
        ·simp only [k35,if_false]
         have vC:b.add z.1 a=((b.wo true).put (.lf a z.1),0):=by unfold Bd.add;rw [hm];simp only [k4,k7,k6,k35,k1,if_false]
         refine puts true (by rw [vC]) ?_ (fun _=>rfl);rw [vC,Bd.wo_put];rfl
theorem PB (l:List Nd) (f:Fr) (r:List Fr) (o:Bool) (kind a:Int) (hk:f.st.kind=kind):Bd.fin ⟨l,f::r,o⟩ kind a=(Bd.put ⟨l,r,o⟩ {f with end_:=a}.nd,0):=by simp only [Bd.fin,hk,if_true]
theorem aD {Z:Zs} {blk:Int→Nat→Bst→List Nd × Bst} {D:Nat} (ul:Rn Z blk)
  (hs:∀(of:Int) (beg:Nat) (s:Bst) (b:Bd),(of=3∨of=5∨of=6)→s.at_≤Z.length→s.bad=none→s.plain=true→b.o=true→GO of beg b.fs→b.fs.length=D+1→Sim Z of s b (blk of beg s).1 (blk of beg s).2)
  (x:Sx) (s:Bst) (b:Bd) (hx:x.kind=3∨x.kind=5) (sd:s.at_<Z.length) (hb:s.bad=none) (hp:s.plain=true) (hD:b.fs.length=D):TL Z s.at_ x b (Dw Z blk s.at_ x s).1 (Dw Z blk s.at_ x s).2:=by
 obtain ⟨a,bad,plain⟩:=s;simp only at hb hp sd;subst hb hp
 have h1:=hs x.kind a ⟨a+1,none,true⟩ ⟨b.l,⟨a,a,x,[],[],-1⟩::b.fs,true⟩ (by omega) (by show a+1≤_;omega) rfl rfl rfl ⟨rfl,by
  rcases hx with hx|hx
  ·exact .inl ⟨hx,hx,show (-1:Int)<0 by decide⟩
  ·exact .inr (.inl ⟨hx,hx,show (-1:Int)<0 by decide⟩)⟩ (by simp only [List.length_cons,hD])
 have hg1:=ul.goes x.kind a ⟨a+1,none,true⟩;unfold Dw;simp only;generalize blk x.kind a ⟨a+1,none,true⟩=B at *;obtain ⟨bs,r⟩:=B;simp only at h1 hg1 ⊢;have uL:=hg1.up;simp only at uL;cases hr:r.bad with
 |some y =>simp only [Option.isSome_some,if_true];exact ⟨fun y' hy'=>h1.bad y' hy',fun hh=>by rw [show r.bad=none from hh] at hr;cases hr⟩
 |none =>
  simp only [Option.isSome_none,Bool.false_eq_true,if_false];obtain ⟨rp,z,hz,wx,zAG⟩:=h1.fin hr (by omega);have yZ:=h1.good hr;rw [Bd.putL_body _ _ _ _ (show (-1:Int)<0 by decide)] at yZ;have tJ:r.at_<Z.length:=MC hz;simp only [hz];obtain ⟨ra,rb,rpl⟩:=r;simp only at hr rp yZ hz tJ uL ⊢;subst hr rp;have wH:z.1.kind≠0:=by omega
  have step:=fun b=>PA b hz wx wH
  by_cases k6:z.1.kind=6
  ·simp only [k6,if_true]
   have hx5:x.kind=5:=by omega
   have vC:Bd.add (Bd.wo ⟨b.l,⟨a,a,x,[]++bs,[],-1⟩::b.fs,true⟩ true) z.1 ra=(⟨b.l,⟨a,a,x,[]++bs,[],ra⟩::b.fs,true⟩,0):=by simp [Bd.add,Bd.mark,k6,Bd.wo,hx5]
   have h2:=hs 6 a ⟨ra+1,none,true⟩ ⟨b.l,⟨a,a,x,[]++bs,[],ra⟩::b.fs,true⟩ (by omega) (by show ra+1≤_;omega) rfl rfl rfl ⟨rfl,.inr (.inr ⟨rfl,hx5,by show (0:Int)≤ra;omega⟩)⟩ (by simp only [List.length_cons,hD]);have vm:=ul.goes 6 a ⟨ra+1,none,true⟩
   have sX:ofZ (Z.drop ra) ra (Bd.wo ⟨b.l,⟨a,a,x,[]++bs,[],-1⟩::b.fs,true⟩ true)=ofZ (Z.drop (ra+1)) (ra+1) ⟨b.l,⟨a,a,x,[]++bs,[],ra⟩::b.fs,true⟩:=by rw [step,vC,if_pos rfl]
   generalize blk 6 a ⟨ra+1,none,true⟩=Q at *;obtain ⟨es,q⟩:=Q;simp only at h2 vm ⊢;have zBA:=vm.up;simp only at zBA;cases hq:q.bad with
   |some y =>simp only [Option.isSome_some,if_true];refine ⟨fun y' hy' => ?_,fun hh=>by rw [show q.bad=none from hh] at hq;cases hq⟩;rw [yZ];exact sX.trans (h2.bad y' hy')
   |none =>
    simp only [Option.isSome_none,Bool.false_eq_true,if_false];obtain ⟨qp,w,hw,vn,hwk⟩:=h2.fin hq (by decide);have zAI:=h2.good hq;rw [Bd.putL_els _ _ _ _ (by show (0:Int)≤ra;omega)] at zAI;obtain ⟨qa,qb,qpl⟩:=q;simp only at hq qp zAI hw zBA ⊢;subst hq qp;have hql:=MC hw;refine ⟨fun y hy=>(by cases hy),fun _=>⟨rfl,by show a<qa+1;omega,by show qa+1≤_;omega,?_⟩⟩;rw [yZ];refine sX.trans (zAI.trans ?_);have k7:w.1.kind=7:=by omega
    have zB9:Bd.add (Bd.wo ⟨b.l,⟨a,a,x,[]++bs,[]++es,ra⟩::b.fs,true⟩ true) w.1 qa=((b.put (.mk a qa x bs es ra)).wo true,0):=by unfold Bd.add;rw [Bd.mark_wo _ (by omega)];rw [if_neg (by omega),if_pos k7,Bd.wo_wo];refine (PB b.l ⟨a,a,x,[]++bs,[]++es,ra⟩ b.fs true 5 qa hx5).trans ?_;rw [←Bd.wo_put];rfl
    rw [PA _ hw vn (by omega),zB9,if_pos rfl]
  ·simp only [k6,if_false]
   refine ⟨fun y hy=>(by cases hy),fun _=>⟨rfl,by show a<ra+1;omega,by show ra+1≤_;omega,?_⟩⟩;rw [yZ]
   have vC:Bd.add (Bd.wo ⟨b.l,⟨a,a,x,[]++bs,[],-1⟩::b.fs,true⟩ true) z.1 ra=((b.put (.mk a ra x bs [] (-1))).wo true,0):=by
    unfold Bd.add;rw [Bd.mark_wo _ (by omega),Bd.wo_wo];rcases zAG with ⟨h3,k⟩|⟨h5,k⟩|⟨h6,k⟩
    ·simp only [k,if_true]
     refine (PB b.l ⟨a,a,x,[]++bs,[],-1⟩ b.fs true 3 ra h3).trans ?_;rw [←Bd.wo_put];rfl
    ·have k7:z.1.kind=7:=by omega
     rw [if_neg (by omega),if_pos k7];refine (PB b.l ⟨a,a,x,[]++bs,[],-1⟩ b.fs true 5 ra h5).trans ?_;rw [←Bd.wo_put];rfl
    ·omega
   rw [step,vC,if_pos rfl]
theorem TM {Z:Zs} (hZ:ZOk Z):∀(d:Nat) (of:Int) (beg:Nat) (s:Bst) (b:Bd),(of=0∨of=3∨of=5∨of=6)→s.at_≤Z.length→s.bad=none→b.o=s.plain→(of≠0→s.plain=true)→GO of beg b.fs→b.fs.length+d=8→Sim Z of s b (Dn Z d of beg s).1 (Dn Z d of beg s).2
 |0,of,beg,s,b,wL,hl,hb,ho,hp,ht,h8=>by
  obtain ⟨ns,g1,g2⟩:=Mm (Z:=Z) (nest:=fun l x s=>(.leaf l x,s)) (top:=true) (of:=of) (beg:=beg) (D:=8) (fun _=>rfl) (fun hh=>by cases hh) wL (fun hh=>by cases hh) (Z.length+1) s [] b (by omega) hl hb ho hp ht (by omega);rw [List.nil_append] at g1
  show Sim Z of s b (Cq Z _ true of beg (Z.length+1) s []).1 _
  rw [g1];exact g2
 |d+1,of,beg,s,b,wL,hl,hb,ho,hp,ht,h8=>by
  obtain ⟨ns,g1,g2⟩:=Mm (Z:=Z) (nest:=Dw Z (Dn Z d)) (top:=false) (of:=of) (beg:=beg) (D:=8-(d+1)) (fun hh=>by cases hh) (fun _=>by omega) wL (fun _ x s' b' hx sd hb' hp' hD=>aD (JA hZ d) (fun of beg s b h1 h2 h3 h4 h5 h6 h7=>TM hZ d of beg s b (by omega) h2 h3 (by rw [h5,h4]) (fun _=>h4) h6 (by omega)) x s' b' hx sd hb' hp' hD) (Z.length+1) s [] b (by omega) hl hb ho hp ht (by omega);rw [List.nil_append] at g1
  show Sim Z of s b (Cq Z _ false of beg (Z.length+1) s []).1 _
  rw [g1];exact g2
theorem TN (ls:List (List UInt8)) (h:ls.length<1000000):ofW ls=EJ ls:=by
 unfold ofW EJ;rw [O9];have key:=TM (MM h) 8 0 0 ⟨0,none,false⟩ bd0 (.inl rfl) (Nat.zero_le _) rfl rfl (fun hh=>absurd rfl hh) rfl rfl;generalize Dn (CE ls) 8 0 0 ⟨0,none,false⟩=B at *;obtain ⟨ns,r⟩:=B;cases hr:r.bad with
 |some y =>simp only [hr];exact key.bad y hr
 |none =>
  have h1:=key.good hr;have h2:=key.fin0 hr rfl
  have hd:(CE ls).drop r.at_=[]:=List.drop_eq_nil_of_le (by
   rcases Nat.lt_or_ge r.at_ (CE ls).length with h|h
   ·rw [List.getElem?_eq_getElem h] at h2;cases h2
   ·exact h)
  simp only [hr];refine h1.trans ?_;rw [hd,show bd0=⟨[],[],false⟩ from rfl,Bd.putL_top];rfl
set_option maxRecDepth 100000
set_option maxHeartbeats 4000000
def RcI (l:List Nd) (k:Nat) (tt:List AV) (H:AH):Prop:=∃i,i+k=l.length∧tt=mkT 28 [(0,ndE.av l),(3,.int .i64 (szL (l.take i):Int)),(4,.int .i64 (i:Int))]∧H=[]
theorem PC:∀a b,szL (a++b)=szL a+szL b
 |[],b=>by rw [List.nil_append,szL];omega
 |n::a,b=>by rw [List.cons_append,szL,szL,PC a b];omega
theorem PD:∀(m:Nat) (l:List Nd),szL l<m→szL l<1000000000→∀H,CS zP AG 16 [ndE.av l] H (.int .i64 (szL l:Int)) H
 |0,l,hm,_,H=>absurd hm (Nat.not_lt_zero _)
 |m+1,l,hm,hz,H=>by
  have hL:([AF.pure 16 (fun l:List Nd=>szL l<m∧szL l<1000000000) (fun l=>[ndE.av l]) (fun l => .int .i64 (szL l:Int)) (fun l h H=>PD m l h.1 h.2 H) (fun x y _ _ h=>by
   simp only [List.cons.injEq,and_true] at h
   rw [ndE.av_inj h])].map (·.f)).Nodup:=show ([16]:List Nat).Nodup by decide
  have X:=Bq [AF.pure 16 (fun l:List Nd=>szL l<m∧szL l<1000000000) (fun l=>[ndE.av l]) (fun l => .int .i64 (szL l:Int)) (fun l h H=>PD m l h.1 h.2 H) (fun x y _ _ h=>by
   simp only [List.cons.injEq,and_true] at h
   rw [ndE.av_inj h])] Bw Ae
  have f2:=fun (l:List Nd) H (h:szL l<m∧szL l<1000000000)=>CV hL List.mem_cons_self l h H
  generalize oOf _=O at X f2;clear hL;refine CS.tr0 BL Tryz.func16 (by kernel_rfl) 0 (by simp [Tryz.f16]) (fun B hB hG => ?_) (by simp) (by simp) H;refine Tr.goD X hG ?_;simp [Tryz.f16];have hlz:=JM l;refine LpD.loopN X hG (RcI l) l.length (t':=mkT 28 [(0,ndE.av l),(3,.int .i64 (szL (l.take 0):Int)),(4,.int .i64 ((0:Nat):Int))]) (H':=[]) (AE.mk0 hB (by simp [szL])) ⟨0,by omega,rfl,rfl⟩ ?_;rintro k tt H ⟨i,sa,rfl,rfl⟩;cases k with
  |zero =>
   obtain rfl:i=l.length:=by omega
   rw [List.take_length];simp [Bj]
  |succ k =>
   have hi:i<l.length:=by omega
   have hi':(i:Int)<l.length:=by omega
   obtain ⟨n,hn⟩:∃n,l[i]? = some n:=⟨_,List.getElem?_eq_getElem hi⟩
   have vj:=List.mem_of_getElem? hn;have sj:=LB n vj;rw [IY] at sj;have h2:=fun H=>f2 n.body H ⟨by omega,by omega⟩
   have h3:=fun H=>f2 n.els H ⟨by omega,by omega⟩
   have g31:(ndE.row l)[i*34+31]? = some (ndE.av n.body):=by
    have:=ndE.row_cell hn 31 (by decide);rw [show ndE.sz=34 from rfl] at this;rw [this]
    show (ndC n)[31]? = _
    rw [Ch];rfl
   have g32:(ndE.row l)[i*34+32]? = some (ndE.av n.els):=by
    have:=ndE.row_cell hn 32 (by decide);rw [show ndE.sz=34 from rfl] at this;rw [this]
    show (ndC n)[32]? = _
    rw [Ch];rfl
   have sy:szL (l.take (i+1))=szL (l.take i)+1+szL n.body+szL n.els:=by rw [List.take_add_one,hn,Option.toList_some,PC,szL,szL,IY];omega
   have sY:szL (l.take (i+1))≤szL l:=by have:=PC (l.take (i+1)) (l.drop (i+1));rw [List.take_append_drop] at this;omega
   have w1:IntKind.i64.wrap ((i:Int)+1)=((i+1:Nat):Int):=by rw [AZ (by omega) (by omega)];omega
   have w2:IntKind.i64.wrap ((szL (l.take i):Int)+1)=(szL (l.take i):Int)+1:=AZ (by omega) (by omega);have w3:IntKind.i64.wrap ((szL (l.take i):Int)+1+(szL n.body:Int))=(szL (l.take i):Int)+1+(szL n.body:Int):=AZ (by omega) (by omega);have w4:IntKind.i64.wrap ((szL (l.take i):Int)+1+(szL n.body:Int)+(szL n.els:Int))=((szL (l.take (i+1)):Nat):Int):=by rw [AZ (by omega) (by omega)];omega
   have hI:∀{t H},AE B t H (mkT 28 [(0,ndE.av l),(3,.int .i64 (szL (l.take (i+1)):Int)),(4,.int .i64 ((i+1:Nat):Int))]) []→Nxt B (RcI l) (k+1) t H :=fun h=>Nxt.mk k (by omega) h ⟨i+1,by omega,rfl,rfl⟩
   simp [hi',-Int.natCast_add];refine LpD.turns X hG [7,14] [(0,7),(0,14),(1,7),(1,14),(7,9),(7,10),(7,11),(7,12),(7,13),(8,14)] ?_;simp [hi,g31,g32,h2,h3,w1,w2,w3,w4,-Int.natCast_add];exact hI (AE.mk0 hB (by simp))
theorem aE (s:List UInt8) (H:AH):CS zP AG 5 [.str s] H (.bool (decide (s.length≤2500))) H:=by
 refine CS.tr0 BL Tryz.func5 (by kernel_rfl) 0 (by simp [Tryz.f5]) (fun B hB hG => ?_) (by simp) (by simp) H;refine Tr.goD DX hG ?_
 by_cases h:s.length≤2500
 ·have h':(s.length:Int)≤2500:=by omega
  simp [Tryz.f5,h,h']
 ·have h':¬(s.length:Int)≤2500:=by omega
  simp [Tryz.f5,h,h']
mutual
/-- The lines rise,from D4 a to b. -/
def FW:Nd→Int→Int→Prop
 |.mk l _ _ B C _,a,b=>a<l∧∃c,C6 B l c∧C6 C c b
def C6:List Nd→Int→Int→Prop
 |[],a,b=>a≤b
 |n::r,a,b=>∃c,FW n a c∧C6 r c b
end
theorem Mn:∀{l:List Nd} {a b b':Int},C6 l a b→b≤b'→C6 l a b'
 |[],a,b,b',h,k=>Int.le_trans h k
 |n::r,a,b,b',h,k=>by rw [C6] at h ⊢;obtain ⟨c,h1,h2⟩:=h;exact ⟨c,h1,Mn h2 k⟩
theorem aF {n:Nd} {a a' b:Int} (h:FW n a b) (k:a'≤a):FW n a' b:=by
 cases n with
 |mk l e s B C m =>rw [FW] at h ⊢;exact ⟨by omega,h.2⟩
theorem PE:∀{l:List Nd} {a a' b:Int},C6 l a b→a'≤a→C6 l a' b
 |[],a,a',b,h,k=>Int.le_trans k h
 |n::r,a,a',b,h,k=>by rw [C6] at h ⊢;obtain ⟨c,h1,h2⟩:=h;exact ⟨c,aF h1 k,h2⟩
theorem PF:∀{x y:List Nd} {a b c:Int},C6 x a c→C6 y c b→C6 (x++y) a b
 |[],y,a,b,c,h,k=>PE k h
 |n::r,y,a,b,c,h,k=>by rw [C6] at h;rw [List.cons_append,C6];obtain ⟨d,h1,h2⟩:=h;exact ⟨d,h1,PF h2 k⟩
theorem TO {n:Nd} {a b:Int} (h:FW n a b):C6 [n] a b:=by rw [C6];exact ⟨b,h,Int.le_refl b⟩
theorem aG (l:Nat) (x:Sx) {a b:Int} (h:a<l) (k:(l:Int)≤b):FW (Nd.leaf l x) a b:=by unfold Nd.leaf;rw [FW];exact ⟨h,l,Int.le_refl _,k⟩
def dpN:Nat→Nd→Prop
 |0,n=>n.body=[]∧n.els=[]
 |k+1,n=>(∀m∈n.body,dpN k m)∧∀m∈n.els,dpN k m
theorem TP (l:Nat) (x:Sx):∀k,dpN k (Nd.leaf l x)
 |0=>⟨rfl,rfl⟩
 |k+1=>⟨fun m h=>(by cases h),fun m h=>by cases h⟩
theorem LG {Z:Zs} {nest:Nat→Sx→Bst→Nd × Bst} {top:Bool} (k:Nat) (hN:top=false→∀l x s,s.at_=l→(nest l x s).2.bad=none→FW (nest l x s).1 ((l:Int)-1) (((nest l x s).2.at_:Int)-1)∧dpN k (nest l x s).1) (of:Int) (beg:Nat) :
  ∀(f:Nat) (s:Bst) (out:List Nd) (a:Int),C6 out a ((s.at_:Int)-1)→(∀n∈out,dpN k n)→(Cq Z nest top of beg f s out).2.bad=none→C6 (Cq Z nest top of beg f s out).1 a (((Cq Z nest top of beg f s out).2.at_:Int)-1)∧∀n∈(Cq Z nest top of beg f s out).1,dpN k n
 |0,s,out,a,h,hd=>fun hb=>absurd hb (Bst.fail_bad _ _ _)
 |f+1,s0,out,a,h0,hd=>by
  unfold Cq;have hs:s0.at_≤(D9 Z s0).at_:=Rj Z _;generalize D9 Z s0=s at *;have h:C6 out a ((s.at_:Int)-1):=Mn h0 (by omega)
  have fin:∀(c:Prop) [Decidable c] (p e:Nat),(if c then s else s.fail p e).bad=none→C6 out a (((if c then s else s.fail p e).at_:Int)-1)∧∀n∈out,dpN k n:=by
   intro c _ p e
   split
   ·exact fun _=>⟨h,hd⟩
   ·exact fun hb=>absurd hb (Bst.fail_bad _ _ _)
  have sk:∀n,dpN k n→∀m∈out++[n],dpN k m:=fun n hn m hm=>by
   rcases List.mem_append.1 hm with hm|hm
   ·exact hd m hm
   ·rw [List.mem_singleton.1 hm];exact hn
  have hl:∀x,C6 (out++[Nd.leaf s.at_ x]) a (((s.at_+1:Nat):Int)-1):=fun x=>PF h (TO (aG s.at_ x (by omega) (by omega)))
  simp only
  split
  ·rename_i hb
   intro h2;simp only at h2;rw [h2] at hb;cases hb
  ·split
   ·exact fin _ _ _
   ·rename_i z hz
    split
    ·exact fin _ _ _
    ·split
     ·exact fin _ _ _
     ·split
      ·exact fin _ _ _
      ·split
       ·split
        ·exact fun hb=>absurd hb (Bst.fail_bad _ _ _)
        ·exact LG k hN of beg f _ _ a (hl z.1) (sk _ (TP _ _ _))
       ·split
        ·split
         ·exact fun hb=>absurd hb (Bst.fail_bad _ _ _)
         ·rename_i ht
          split
          ·rename_i hb
           intro h2;simp only at h2;rw [h2] at hb;cases hb
          ·rename_i hb
           have hn:=hN (by simpa using ht) s.at_ z.1 ⟨s.at_,s.bad,true⟩ rfl (by simpa using hb);exact LG k hN of beg f _ _ a (PF h (TO hn.1)) (sk _ hn.2)
        ·exact LG k hN of beg f _ _ a (hl z.1) (sk _ (TP _ _ _))
def TQ (blk:Int→Nat→Bst→List Nd × Bst) (k:Nat):Prop:=∀of beg s,(blk of beg s).2.bad=none→C6 (blk of beg s).1 ((s.at_:Int)-1) (((blk of beg s).2.at_:Int)-1)∧∀n∈(blk of beg s).1,dpN k n
theorem aH {Z:Zs} {blk:Int→Nat→Bst→List Nd × Bst} {k:Nat} (hb:TQ blk k) (l:Nat) (x:Sx) (s:Bst) (hl:s.at_=l):(Dw Z blk l x s).2.bad=none→FW (Dw Z blk l x s).1 ((l:Int)-1) (((Dw Z blk l x s).2.at_:Int)-1)∧dpN (k+1) (Dw Z blk l x s).1:=by
 unfold Dw;have h1:=hb x.kind l ⟨s.at_+1,s.bad,s.plain⟩;generalize blk x.kind l ⟨s.at_+1,s.bad,s.plain⟩=b at *;subst hl;simp only at h1 ⊢
 split
 ·rename_i hq
  intro h2;simp only at h2;rw [h2] at hq;cases hq
 ·rename_i hq
  obtain ⟨a1,a2⟩:=h1 (by simpa using hq);have a1:C6 b.1 (s.at_:Int) ((b.2.at_:Int)-1):=PE a1 (by omega)
  split
  ·intro _
   refine ⟨?_,a2,fun m h=>by cases h⟩;rw [FW];exact ⟨by omega,_,a1,Int.le_refl _⟩
  ·rename_i z hz
   split
   ·have h3:=hb 6 s.at_ ⟨b.2.at_+1,b.2.bad,b.2.plain⟩
    generalize blk 6 s.at_ ⟨b.2.at_+1,b.2.bad,b.2.plain⟩=c at *
    split
    ·rename_i hc
     intro h2;simp only at h2;rw [h2] at hc;cases hc
    ·rename_i hc
     intro _;obtain ⟨c1,c2⟩:=h3 (by simpa using hc);simp only at c1;refine ⟨?_,a2,c2⟩;rw [FW];exact ⟨by omega,_,a1,PE (Mn c1 (by simp only;omega)) (by omega)⟩
   ·intro _
    refine ⟨?_,a2,fun m h=>by cases h⟩;rw [FW];exact ⟨by omega,_,a1,by show (b.2.at_:Int)-1≤_;simp only;omega⟩
theorem TR (Z:Zs):∀k,TQ (Dn Z k) k
 |0=>fun of beg s=>LG 0 (fun h=>by cases h) of beg _ s [] _ (Int.le_refl _) (fun n h=>by cases h)
 |k+1=>fun of beg s=>LG (k+1) (fun _ l x s hl=>aH (TR Z k) l x s hl) of beg _ s [] _ (Int.le_refl _) (fun n h=>by cases h)
theorem PG {ts:List Wd} {of:Rd} (h:DY of) {f:List UInt8} {one:Nat} {s:List UInt8} {two:Nat}:∀(n:Nat) (e:Ex) (r:St),okT e.tn=true→okT (Br ts of f one s two n e r).1.tn=true
 |0,e,r,he=>he
 |n+1,e,r,he=>by
  simp only [Br]
  split
  ·exact PG h n _ _ (Nw he (h _))
  ·split
   ·exact PG h n _ _ (Nw he (h _))
   ·exact he
theorem Mo {ts:List Wd} {of:Rd} (h:DY of) {f:List UInt8} {one:Nat} {s:List UInt8} {two:Nat}:DY (D1 ts of f one s two):=fun r=>PG h _ _ _ (h r)
theorem TS {ts:List Wd} {sum:Rd} (h:DY sum):∀(n:Nat) (a:List Ex) (r:St),C2 (Ex.tns a)=true→C2 (Ex.tns (Cn ts sum n a r).1)=true∧(Cn ts sum n a r).1.length≤a.length+n
 |0,a,r,ha=>⟨ha,Nat.le_refl _⟩
 |n+1,a,r,ha=>by
  simp only [Cn]
  split
  ·split
   ·exact ⟨ha,by simp only;omega⟩
   ·have h1:C2 (Ex.tns (a++[(sum r.step).1]))=true:=by
     rw [Q4];refine Q3 ha ?_;simp only [Ex.tns,C2,h r.step,Bool.and_self]
    obtain ⟨h2,h3⟩:=TS h n (a++[(sum r.step).1]) (sum r.step).2 h1;refine ⟨h2,?_⟩;rw [List.length_append] at h3;simp only [List.length_cons,List.length_nil] at h3;exact Nat.le_trans h3 (by omega)
  ·exact ⟨ha,by simp only;omega⟩
theorem TT {ts:List Wd} {sum:Rd} (h:DY sum) (s:List UInt8) (r:St):okT (Ex.elem s (Bv ts sum r).1).tn=true:=by unfold Bv;obtain ⟨h1,h2⟩:=TS h (ts:=ts) 5 [(sum r).1] (sum r).2 (by simp only [Ex.tns,C2,h r,Bool.and_self]);simp only [Ex.tn,okT,Jr,h1,Bool.and_true,decide_eq_true_eq];simp only [List.length_cons,List.length_nil] at h2;omega
theorem aI {ts:List Wd} {sum fac:Rd} (h:DY sum) (hf:DY fac):DY (B1 ts sum fac):=fun r=>by
 unfold B1
 split
 ·split
  ·rfl
  ·split
   ·split
    ·exact TT h _ _
    ·rfl
   ·split
    ·split
     ·rfl
     ·split
      ·have:=hf ⟨r.step.at_,r.step.deep+1,r.step.err⟩
       simp [D2,Ex.tn,okT,C2,this]
      ·exact h _
    ·rfl
 ·rfl
theorem PH (ts:List Wd):∀n,DY (Ar ts n)
 |0=>fun _=>rfl
 |n+1=>aI (Mo (Mo (PH ts n))) (PH ts n)
theorem aJ (ts:List Wd):DY (Bn ts):=Mo (Mo (PH ts _))
theorem Mp (ts:List Wd) (r:Sr):okT (B9 ts r).1.tn=true:=by
 unfold B9
 split
 ·rfl
 ·exact mR _
theorem TU (ts:List Wd) (r:Sr):okT (CM ts r).1.tn=true:=by
 unfold CM
 split
 ·split
  ·exact TT (aJ _) _ _
  ·rfl
 ·rfl
theorem TV (ts:List Wd) (r:Sr):okT (Fp ts r).1.2.1.tn=true∧okT (Fp ts r).1.2.2.tn=true:=by
 unfold Fp
 split
 ·exact ⟨rfl,rfl⟩
 ·exact mS _
theorem TW (ts:List Wd):∀(n:Nat) (l:List It) (r:Sr),(Dv ts n l r).1.length≤l.length+n+1
 |0,l,r=>by rw [Dv];simp only;omega
 |n+1,l,r=>by
  rw [Dv]
  split
  ·have:=TW ts n (l++[(CA ts r).1]) (CA ts r).2.step
   rw [List.length_append,List.length_singleton] at this;omega
  ·simp only [List.length_append,List.length_singleton];omega
theorem TX (ts:List Wd):∀(n:Nat) (d:List Int) (r:Sr),(DC ts n d r).1.length≤d.length+n+1
 |0,d,r=>by show d.length≤_;omega
 |n+1,d,r=>by
  have key:∀(c:Bool) (d':List Int) (r' r'':Sr),(if c=true then DC ts n d' r' else (d',r'')).1.length≤d'.length+n+1:=fun c d' r' r''=>by
   cases c with
   |true=>exact TX ts n d' r'
   |false=>show d'.length≤_;omega
  rw [DC];refine Nat.le_trans (key _ _ _ _) ?_;rw [List.length_append,List.length_singleton];omega
theorem aK (ts:List Wd) (r:Sr):(CA ts r).1.dims.length<4294967296:=by
 unfold CA;simp only
 split
 ·have:=TX ts 6 [] (B8 ts r).2.step
  simp only [List.length_nil] at this
  show (DC ts 6 [] (B8 ts r).2.step).1.length<_
  omega
 ·simp
theorem TY (ts:List Wd):∀(n:Nat) (l:List It) (r:Sr),(∀y∈l,y.dims.length<4294967296)→∀y∈(Dv ts n l r).1,y.dims.length<4294967296
 |0,l,r,h=>by rw [Dv];exact h
 |n+1,l,r,h=>by
  have h2:∀y∈l++[(CA ts r).1],y.dims.length<4294967296:=fun y hy=>by
   rcases List.mem_append.1 hy with hy|hy
   ·exact h y hy
   ·rw [List.mem_singleton.1 hy];exact aK ts r
  rw [Dv]
  split
  ·exact TY ts n _ _ h2
  ·exact h2
structure SmT (m:Sm):Prop where
 to:okT m.to.tn=true
 e:okT m.e.tn=true
 ca:okT m.ca.tn=true
 cb:okT m.cb.tn=true
 lo:okT m.lo.tn=true
 hi:okT m.hi.tn=true
 items:m.items.length<4294967296
 dims:∀y∈m.items,y.dims.length<4294967296
theorem SmT.x {m:Sm} (h:SmT m):SxT m.x:=⟨h.to,h.e,h.ca,h.cb,h.lo,h.hi,h.items,h.dims⟩
theorem SmT.none:SmT {}:=⟨rfl,rfl,rfl,rfl,rfl,rfl,(show 0<4294967296 by decide),fun _ h=>nomatch h⟩
theorem SmT.kind (k:Nat):SmT {kind:=k}:=⟨rfl,rfl,rfl,rfl,rfl,rfl,(show 0<4294967296 by decide),fun _ h=>nomatch h⟩
theorem aL (ts:List Wd) (sT:ts.length<1000000) (w:List UInt8) (r:Sr):SmT (Cb ts w r).1:=by
 unfold Cb
 split
 ·have:=TW ts (ts.length+1) [] r
  exact ⟨rfl,rfl,rfl,rfl,rfl,rfl,by show (E6 ts r).1.length<_;unfold E6;simp only [List.length_nil] at this;omega,fun y hy=>TY ts _ [] r (fun _ h=>nomatch h) y hy⟩
 ·split
  ·exact ⟨rfl,rfl,rfl,rfl,Mp _ _,Mp _ _,(show 0<4294967296 by decide),fun _ h=>nomatch h⟩
  ·split
   ·split
    ·exact SmT.kind 4
    ·exact SmT.kind 7
   ·split
    ·exact ⟨rfl,rfl,(TV _ _).1,(TV _ _).2,rfl,rfl,(show 0<4294967296 by decide),fun _ h=>nomatch h⟩
    ·split
     ·exact SmT.kind 6
     ·split
      ·exact ⟨TU _ _,rfl,rfl,rfl,rfl,rfl,(show 0<4294967296 by decide),fun _ h=>nomatch h⟩
      ·split
       ·exact ⟨rfl,Mp _ _,rfl,rfl,rfl,rfl,(show 0<4294967296 by decide),fun _ h=>nomatch h⟩
       ·exact SmT.none
theorem aM (ts:List Wd) (sT:ts.length<1000000) (w:Wd):SmT (Dk ts w).1:=by
 unfold Dk
 split
 ·exact aL ts sT _ _
 ·split
  ·exact ⟨TU _ _,Mp _ _,rfl,rfl,rfl,rfl,(show 0<4294967296 by decide),fun _ h=>nomatch h⟩
  ·exact SmT.none
theorem aO (s:List UInt8) (hs:s.length<1000000):SmT (Dl s).1:=by
 unfold Dl;cases hl:lex (s.length+1) s 0 false with
 |error x=>exact SmT.none
 |ok ts =>
  have sT:=Qz hs hl;simp only;unfold I7;cases ts with
  |nil=>exact SmT.none
  |cons w r =>
   simp only
   split
   ·exact SmT.none
   ·exact aM _ sT w
theorem Mq:∀{a b:List Nd},Bz a→Bz b→Bz (a++b)
 |[],b,_,h=>h
 |n::a,b,h,k=>by rw [Bz] at h;rw [List.cons_append,Bz];exact ⟨h.1,Mq h.2 k⟩
theorem Mr {n:Nd} (h:okN n):Bz [n]:=by rw [Bz];exact ⟨h,by rw [Bz];trivial⟩
theorem PI {x:Sx} (h:SxT x) (l:Nat):okN (Nd.leaf l x):=by unfold Nd.leaf;rw [okN];exact ⟨h,by rw [Bz];trivial,by rw [Bz];trivial⟩
theorem LH {Z:Zs} (hZ:∀z∈Z,SxT z.1) {nest:Nat→Sx→Bst→Nd × Bst} (hN:∀l x s,SxT x→okN (nest l x s).1) (top:Bool) (of:Int) (beg:Nat):∀(f:Nat) (s:Bst) (out:List Nd),Bz out→Bz (Cq Z nest top of beg f s out).1
 |0,s,out,h=>h
 |f+1,s0,out,h=>by
  unfold Cq;generalize D9 Z s0=s;simp only
  split
  ·exact h
  ·split
   ·exact h
   ·rename_i z hz
    have hx:=hZ z (List.mem_of_getElem? hz)
    split
    ·exact h
    ·split
     ·exact h
     ·split
      ·exact h
      ·split
       ·split
        ·exact h
        ·exact LH hZ hN top of beg f _ _ (Mq h (Mr (PI hx _)))
       ·split
        ·split
         ·exact h
         ·split
          ·exact h
          ·exact LH hZ hN top of beg f _ _ (Mq h (Mr (hN _ _ _ hx)))
        ·exact LH hZ hN top of beg f _ _ (Mq h (Mr (PI hx _)))
theorem aP {Z:Zs} {blk:Int→Nat→Bst→List Nd × Bst} (hb:∀of beg s,Bz (blk of beg s).1) (l:Nat) (x:Sx) (s:Bst) (hx:SxT x):okN (Dw Z blk l x s).1:=by
 have h0:Bz []:=by rw [Bz];trivial
 unfold Dw;simp only
 split
 ·rw [okN];exact ⟨hx,hb _ _ _,h0⟩
 ·split
  ·rw [okN];exact ⟨hx,hb _ _ _,h0⟩
  ·split
   ·split
    all_goals
     rw [okN];exact ⟨hx,hb _ _ _,hb _ _ _⟩
   ·rw [okN];exact ⟨hx,hb _ _ _,h0⟩
theorem TZ {Z:Zs} (hZ:∀z∈Z,SxT z.1):∀k of beg s,Bz (Dn Z k of beg s).1
 |0,of,beg,s=>LH hZ (fun l x s hx=>PI hx l) _ _ _ _ _ _ (by rw [Bz];trivial)
 |k+1,of,beg,s=>LH hZ (fun l x s hx=>aP (TZ hZ k) l x s hx) _ _ _ _ _ _ (by rw [Bz];trivial)
mutual
theorem aQ:∀n a b,FW n a b→(szN n:Int)≤b-a
 |.mk l e s B C m,a,b,h=>by rw [FW] at h;obtain ⟨h,c,h1,h2⟩:=h;have:=Ms B l c h1;have:=Ms C c b h2;rw [szN];omega
theorem Ms:∀l a b,C6 l a b→(szL l:Int)≤b-a
 |[],a,b,h=>by have h:a≤b:=h;rw [szL];omega
 |n::r,a,b,h=>by rw [C6] at h;obtain ⟨c,h1,h2⟩:=h;have:=aQ n a c h1;have:=Ms r c b h2;rw [szL];omega
end
theorem aR (ls:List (List UInt8)) (ug:ls.length<1000000) (hl:∀s∈ls,s.length<1000000) (h:(EJ ls).2=none):C6 (EJ ls).1 (-1) ls.length∧(∀n∈(EJ ls).1,dpN 8 n)∧Bz (EJ ls).1∧szL (EJ ls).1<1000000000:=by
 have hZ:=MM ug
 have hT:∀z∈CE ls,SxT z.1:=fun z hz=>by obtain ⟨s,hs,rfl⟩:=List.mem_map.1 hz;refine (aO (B4 s) ?_).x;have:=hl s hs;have h1:=OB s;unfold B4;rw [List.length_take];omega
 have h0:=TZ hT 8 0 0 ⟨0,none,false⟩;have h1:=TR (CE ls) 8 0 0 ⟨0,none,false⟩;have h2:=((JA hZ 8).goes 0 0 ⟨0,none,false⟩).len (Nat.zero_le _);rw [Oo] at h2;unfold EJ at h ⊢;generalize Dn (CE ls) 8 0 0 ⟨0,none,false⟩=r at *;simp only at h ⊢
 split at h
 ·cases h
 ·rename_i hb
  simp only;obtain ⟨a1,a2⟩:=h1 hb;have a3:=Mn a1 (show ((r.2.at_:Int)-1)≤ls.length by omega);have a4:=Ms _ _ _ a3;exact ⟨a3,a2,h0,by simp only at a4;omega⟩
noncomputable def Ta:AF zP AG:=AF.pure 5 (fun _:List UInt8=>True) (fun s=>[.str s]) (fun s => .bool (decide (s.length≤2500))) (fun s _ H=>aE s H) (fun x y _ _ h=>by
 simp only [List.cons.injEq,AV.str.injEq,and_true] at h
 rw [h])
noncomputable def Tb:AF zP AG:=AF.pure 7 (fun s:List UInt8=>s.length<900000) (fun s=>[.str s]) (fun s=>IZ (Ft s)) (fun s h H=>Yd s h H) (fun x y _ _ h=>by
 simp only [List.cons.injEq,AV.str.injEq,and_true] at h
 rw [h])
noncomputable def Tc:AF zP AG:=AF.pure 16 (fun l:List Nd=>szL l<1000000000) (fun l=>[ndE.av l]) (fun l => .int .i64 (szL l:Int)) (fun l h H=>PD _ l (Nat.lt_succ_self _) h H) (fun x y _ _ h=>by
 simp only [List.cons.injEq,and_true] at h
 rw [ndE.av_inj h])
mutual
theorem aT (a:Int):∀(n:Nd) (x:Nd),rfN a n=some x→okN n→okN x∧szN x≤szN n
 |.mk l e s b c m,x,h,k=>by
  rw [rfN] at h
  by_cases hl:l=a
  ·rw [if_pos hl] at h
   injection h with h;subst h;exact ⟨k,Nat.le_refl _⟩
  ·rw [if_neg hl] at h
   rw [okN] at k;rw [szN];cases hb:rfL a b with
   |some y =>rw [hb] at h;simp only [Option.some_or,Option.some.injEq] at h;subst h;have:=Mt a b y hb k.2.1;exact ⟨this.1,by omega⟩
   |none =>rw [hb] at h;simp only [Option.none_or] at h;have:=Mt a c x h k.2.2;exact ⟨this.1,by omega⟩
theorem Mt (a:Int):∀(l:List Nd) (x:Nd),rfL a l=some x→Bz l→okN x∧szN x≤szL l
 |[],x,h,_=>by rw [rfL] at h;cases h
 |n::r,x,h,k=>by
  rw [rfL] at h;rw [Bz] at k;rw [szL];cases hb:rfN a n with
  |some y =>rw [hb] at h;simp only [Option.some_or,Option.some.injEq] at h;subst h;have:=aT a n y hb k.1;exact ⟨this.1,by omega⟩
  |none =>rw [hb] at h;simp only [Option.none_or] at h;have:=Mt a r x h k.2;exact ⟨this.1,by omega⟩
end
theorem aU:okN nd0:=by unfold nd0;rw [okN];exact ⟨⟨rfl,rfl,rfl,rfl,rfl,rfl,(show 0<4294967296 by decide),fun _ h=>nomatch h⟩,by rw [Bz];trivial,by rw [Bz];trivial⟩
theorem PJ:∀(Z:Zs) (a:Nat) (s:Bd),(∀z∈Z,∀l c,z.2=some (l,c)→l.length<900)→∀l c,(ofZ Z a s).2=some (l,c)→l.length<1000
 |[],a,s,_,l,c,h=>by
  rw [ofZ] at h
  split at h
  ·cases h
  ·injection h with h
   injection h with h1 h2;rw [←h1];exact (show 1<1000 by decide)
 |z::Z,a,s,hZ,l,c,h=>by
  rw [ofZ] at h
  split at h
  ·rename_i y hy
   injection h with h;injection h with h1 h2;have:=hZ z List.mem_cons_self y.1 y.2 hy;rw [←h1,List.length_cons];omega
  ·split at h
   ·exact PJ Z _ _ (fun z hz=>hZ z (List.mem_cons_of_mem _ hz)) l c h
   ·split at h
    ·exact PJ Z _ _ (fun z hz=>hZ z (List.mem_cons_of_mem _ hz)) l c h
    ·injection h with h
     injection h with h1 h2;rw [←h1];exact (show 1<1000 by decide)
theorem Td:∀(i:Nat) (ls:List (List UInt8)) l c,Dq i ls=some (l,c)→l.length<1000
 |_,[],l,c,h=>by rw [Dq] at h;cases h
 |i,x::r,l,c,h=>by
  rw [Dq] at h
  split at h
  ·injection h with h
   injection h with h1 h2;rw [←h1];exact (show 1<1000 by decide)
  ·split at h
   ·injection h with h
    injection h with h1 h2;rw [←h1];exact (show 1<1000 by decide)
   ·exact Td _ r l c h
theorem aV (s:List UInt8) (l:List (List UInt8 × Nat)) (c:Nat) (h:(CN s).2=some (l,c)):l.length<1000:=by
 unfold CN at h
 split at h
 ·injection h with h
  injection h with h1 h2;rw [←h1];exact (show 1<1000 by decide)
 ·split at h
  ·rename_i y hy
   obtain ⟨l',c'⟩:=y;simp only [Option.some.injEq,Prod.mk.injEq] at h;rw [←h.1];exact Td _ _ _ _ hy
  ·cases h
theorem aW (s:List UInt8) (hs:s.length<900000):GN s=Ft s:=by
 have h:=MT s hs;unfold GN Ft;generalize CN s=q at *;obtain ⟨ls,e⟩:=q;cases e with
 |some y=>rfl
 |none =>simp only;rw [TN ls (h.2 rfl).1];try (generalize EJ ls=r;obtain ⟨T,e⟩:=r;cases e<;>rfl)
theorem aX (s:List UInt8) (hs:s.length<900000):Bz (Ft s).1∧szL (Ft s).1<1000000000∧(Ft s).2.1.length<1000000∧AO (Ft s).2.2∧∀l c,(Ft s).2.2=some (l,c)→l.length<1000:=by
 have h0:Bz []:=by rw [Bz];trivial
 have hz:szL []<1000000000:=by rw [szL];omega
 have h:=MT s hs;have h2:=aV s;unfold Ft;generalize CN s=q at *;obtain ⟨ls,e⟩:=q;cases e with
 |some y=>exact ⟨h0,hz,(show 0<1000000 by decide),h.1,fun l c he=>h2 l c he⟩
 |none =>
  obtain ⟨hn,hl⟩:=h.2 rfl;simp only at hn hl ⊢;have hf:=aR ls hn hl;have hk:=SW hn
  have sZ:∀l c,(EJ ls).2=some (l,c)→l.length<1000:=fun l c he=>by rw [←TN ls hn] at he;unfold ofW at he;rw [O9] at he;refine PJ _ _ _ (fun z hz l c uo => ?_) l c he;obtain ⟨x,_,rfl⟩:=List.mem_map.1 hz;have:=(SL (B4 x)).2 l c uo;omega
  generalize EJ ls=r at *;obtain ⟨T,e⟩:=r;cases e with
  |some y=>exact ⟨h0,hz,(show 0<1000000 by decide),hk,sZ⟩
  |none =>obtain ⟨a1,a2,a3,a4⟩:=hf rfl;exact ⟨a3,a4,hn,Bx,fun _ _ h=>by cases h⟩
noncomputable def Te:AF zP AG:=AF.pure 8 (fun e:Er=>AO e∧∀l c,e=some (l,c)→l.length<1000) (fun e=>[erI e,.agg [erP e,.int .i64 (erC e)]]) (fun _ => .bool true) (fun e h H=>by
 cases e with
 |none=>exact mH none (by simp [BN]) H
 |some y =>
  obtain ⟨l,c⟩:=y;have hl:=h.2 l c rfl;have hc:=(h.1 l c rfl).2;have key:=fun ow uY=>CS.toF (Qx (CB l) (c:Int) (by omega) (by unfold CB;rw [List.length_map];exact hl) ow uY H)
  have e1:(CB l).length=l.length:=by unfold CB;rw [List.length_map]
  rw [e1] at key;rw [RK]
  show CS _ _ _ [_,.agg [.slice (if l.length=1 then .full else .unk) 2 l.length (B3 (CB l)),.int .i64 (c:Int)]] H _ H
  split
  ·exact key .full (.inr rfl)
  ·exact key .unk (.inl rfl)) (fun _ _ _ _ _=>rfl)
noncomputable def Tf:AF zP AG:=AF.pure 10 (fun l:List Nd=>szL l<1000000000∧Bz l) (fun l=>[ndE.av l]) (fun l=>ndE.av (Bg l)) (fun l h H=>LC _ l (Nat.lt_succ_self _) h.1 h.2 H) (fun x y _ _ h=>by
 simp only [List.cons.injEq,and_true] at h
 rw [ndE.av_inj h])
noncomputable def Tg:AF zP AG:=AF.pure 14 (fun n:Nd=>szN n<1000000000∧okN n) (fun n=>[.agg (ndC n)]) (fun n => .agg (ndC (toN n))) (fun n h H=>by
 obtain ⟨o1,o2,o3⟩:=O0 h.2;have sj:=IY n
 exact Su n o1 (fun H=>LC _ n.body (Nat.lt_succ_self _) (by omega) o2 H) (fun H=>LC _ n.els (Nat.lt_succ_self _) (by omega) o3 H) H) (fun x y _ _ h=>by
 simp only [List.cons.injEq,AV.agg.injEq,and_true] at h
 rw [Ju _ _ h])
def smA (x:List Nd ⊕ Nd):List AV:=match x with
 |.inl l=>[ndE.av (Bg l),ndE.av l]
 |.inr n=>[.slice .full 34 1 (ndC (toN n)),.slice .full 34 1 (ndC n)]
theorem Ti {g:Gh} {n:Nd} {v:Value} (h:AA g (.slice .full 34 1 (ndC n)) v):AA g (ndE.av [n]) v:=by rw [ndE.av_ne (by simp),ndE.row_one1];exact Ls g v h
noncomputable def PK:AF zP AG:=AF.pure 9 (fun x:List Nd ⊕ Nd=>match x with
 |.inl l=>szL l<1000000000∧Bz l
 |.inr n=>szN n<1000000000∧okN n) smA (fun _ => .bool true) (fun x h H=>by
 cases x with
 |inl l=>exact Mh _ l (Nat.lt_succ_self _) h.1 h.2 H
 |inr n =>
  have:=Mh _ [n] (Nat.lt_succ_self _) (by rw [szL,szL];have:=h.1;omega) (Mr h.2) H;refine CS.weakA this fun g cargs hr => ?_
  unfold smA at hr;simp only [AB] at hr ⊢;obtain ⟨v,vs,rfl,h1,w,ws,rfl,h2,rfl⟩:=hr;refine ⟨v,_,rfl,?_,w,_,rfl,Ti h2,rfl⟩;rw [Bg,Bg]
  exact Ti h1) (fun _ _ _ _ _=>rfl)
noncomputable def Tj:AF zP AG:=AF.pure 11 (fun l:List (List UInt8)=>l.length<4294967296) (fun l=>[Ab.av l,Ab.av l]) (fun _ => .bool true) (fun l h H=>Zh l h H) (fun _ _ _ _ _=>rfl)
noncomputable def Tl:AF zP AG:=AF.pure 13 (fun x:List Nd × Int=>szL x.1<1000000000) (fun x=>[ndE.av x.1,.int .i64 x.2]) (fun x=>FE (rfL x.2 x.1)) (fun x h H=>O2 x.2 _ x.1 (Nat.lt_succ_self _) h H) (fun x y _ _ h=>by
 simp only [List.cons.injEq,AV.int.injEq,true_and,and_true] at h
 rw [ndE.av_inj h.1,h.2])
noncomputable def LkT:List (AF zP Ac):=[Sn,CQ Ta,Me,CQ Tb,CQ Te,CQ Tf,CQ Tg,CQ PK,CQ Tj,Mf,CQ Tl,Mg,CQ Tc]
theorem FX:((LkT).map (·.f)).Nodup:=show ([4,5,6,7,8,10,14,9,11,12,13,15,16]:List Nat).Nodup by decide
theorem aY (s:List UInt8) (a:Int) (H:AH):CS zP Ac 3 [.str s,.int .i64 a] H (.bool true) H:=by
 have X:=Bq LkT Jv Ae;have f1:=fun H=>Ce FX Sn (by simp [LkT]) (x:=()) (H:=H) trivial
 have f2:=fun H=>Ce FX (CQ Ta) (by simp [LkT]) (x:=s) (H:=H) trivial
 have f3:=fun H (h:s.length<900000)=>Ce FX Me (by simp [LkT]) (x:=s) (H:=H) h
 have f4:=fun H (h:s.length<900000)=>Ce FX (CQ Tb) (by simp [LkT]) (x:=s) (H:=H) h
 have f5:=fun (e:Er) H (h:AO e∧∀l c,e=some (l,c)→l.length<1000)=>Ce FX (CQ Te) (by simp [LkT]) (x:=e) (H:=H) h
 have f6:=fun (l:List Nd) H (h:szL l<1000000000∧Bz l)=>Ce FX (CQ Tf) (by simp [LkT]) (x:=l) (H:=H) h
 have f7:=fun (n:Nd) H (h:szN n<1000000000∧okN n)=>Ce FX (CQ Tg) (by simp [LkT]) (x:=n) (H:=H) h
 have f8:=fun (l:List Nd) H (h:szL l<1000000000∧Bz l)=>Ce FX (CQ PK) (by simp [LkT]) (x:=(.inl l:List Nd ⊕ Nd)) (H:=H) h
 have f9:=fun (n:Nd) H (h:szN n<1000000000∧okN n)=>Ce FX (CQ PK) (by simp [LkT]) (x:=(.inr n:List Nd ⊕ Nd)) (H:=H) h
 have f10:=fun (l:List (List UInt8)) H (h:l.length<4294967296)=>Ce FX (CQ Tj) (by simp [LkT]) (x:=l) (H:=H) h
 have f11:=fun (l:List Nd) H (h:szL l<4611686018427387904)=>Ce FX Mf (by simp [LkT]) (x:=(l,a)) (H:=H) h
 have f12:=fun (l:List Nd) H (h:szL l<1000000000)=>Ce FX (CQ Tl) (by simp [LkT]) (x:=(l,a)) (H:=H) h
 have f13:=fun (l:List Nd) H (h:szL l<4611686018427387904)=>Ce FX Mg (by simp [LkT]) (x:=l) (H:=H) h
 have f14:=fun (l:List Nd) H (h:szL l<1000000000)=>Ce FX (CQ Tc) (by simp [LkT]) (x:=l) (H:=H) h
 generalize oOf LkT=O at X f1 f2 f3 f4 f5 f6 f7 f8 f9 f10 f11 f12 f13 f14;have f1:∀H,O 4 [] H=some (.bool true,H):=f1;have f2:∀H,O 5 [.str s] H=some (.bool (decide (s.length≤2500)),H):=f2;refine CS.tr0 Dg Tryz.func3 (by kernel_rfl) 0 (by simp [Tryz.f3]) (fun B hB hG => ?_) rfl (by simp) H;refine Tr.goD X hG ?_
 by_cases h0:s.length≤2500
 ·have hs:s.length<900000:=by omega
  have f3:∀H,O 6 [.str s] H=some (Gv (GN s),H):=fun H=>f3 H hs
  have f4:∀H,O 7 [.str s] H=some (IZ (Ft s),H):=fun H=>f4 H hs
  rw [aW s hs] at f3;obtain ⟨k1,k2,k3,k4,k5⟩:=aX s hs;generalize Ft s=R at *;obtain ⟨T,ls,e⟩:=R;simp only [IZ,Gv,erA] at f3 f4;simp only at k1 k2 k3 k4 k5;have f5:∀H,O 8 [erI e,.agg [erP e,.int .i64 (erC e)]] H=some (.bool true,H):=fun H=>f5 e H ⟨k4,k5⟩
  have f6:∀H,O 10 [ndE.av T] H=some (ndE.av (Bg T),H):=fun H=>f6 T H ⟨k2,k1⟩
  have f8:∀H,O 9 [ndE.av (Bg T),ndE.av T] H=some (.bool true,H):=fun H=>f8 T H ⟨k2,k1⟩
  have f10:∀H,O 11 [Ab.av ls,Ab.av ls] H=some (.bool true,H):=fun H=>f10 ls H (by omega)
  have f11:∀H,O 12 [ndE.av T,.int .i64 a] H=some (.tup [.agg (ndC (FA T a).2),.bool (!(FA T a).1)],H):=fun H=>f11 T H (by omega)
  have f12:∀H,O 13 [ndE.av T,.int .i64 a] H=some (FE (rfL a T),H):=fun H=>f12 T H k2
  have f13:∀H,O 15 [ndE.av T] H=some (.int .i64 (szL T:Int),H):=fun H=>f13 T H (by omega)
  have f14:∀H,O 16 [ndE.av T] H=some (.int .i64 (szL T:Int),H):=fun H=>f14 T H k2
  rw [Zm] at f11;obtain ⟨n,ok,hn,sw⟩:∃n ok,(rfL a T).getD nd0=n∧(rfL a T).isSome=ok:=⟨_,_,rfl,rfl⟩
  have hN:szN n<1000000000∧okN n:=by
   cases hr:rfL a T with
   |none =>rw [hr] at hn;rw [←hn];exact ⟨by show szN nd0<_;unfold nd0;rw [szN,szL];omega,aU⟩
   |some y =>rw [hr] at hn;have h1:y=n:=hn;subst h1;have:=Mt a T y hr k1;exact ⟨by omega,this.1⟩
  have f7:∀H,O 14 [.agg (ndC n)] H=some (.agg (ndC (toN n)),H):=fun H=>f7 n H hN
  have f9:∀H,O 9 [.slice .full 34 1 (ndC (toN n)),.slice .full 34 1 (ndC n)] H=some (.bool true,H):=fun H=>f9 n H hN
  simp only [FE,hn,sw,Bool.not_not] at f11 f12;have eN:=Ch n;have eT:=Ch (toN n);simp only [Sx.c,List.cons_append,List.nil_append] at eN eT;rw [eN] at f7 f9 f11 f12;rw [eT] at f7 f9;clear eN eT;simp [Tryz.f3,f1,f2,f3,f4,f5,f6,f8,f10,f11,f12,h0];refine LpD.turns X hG [5,9,13,15] [(5,7),(5,8),(13,14)] ?_;simp [f7,f9,f13,f14]
 ·simp [Tryz.f3,f1,f2,h0]
open Go.ChangeShapes Go.WideShapes Go.ChangeAt Go.RowKit Go.Proofs.Fw
theorem aZ:zP.globalNamed "strings.asciiSpace" = some 4:=by kernel_rfl
theorem aa:(zP.globals[4]?).map (·.type)=some 231:=by kernel_rfl
theorem ab:HY (H:=Unit) zP 3 231 Rows.laid_strings_asciiSpace=LY:=by kernel_rfl
theorem ac:zP.globalNamed "strconv.ErrRange" = some 7:=by kernel_rfl
theorem ae:(zP.globals[7]?).map (·.type)=some 27:=by kernel_rfl
theorem Tm : "*" ++ "errors.errorString" = "*errors.errorString" := by decide
theorem ag (u:TypeId) (h:zP.typeName? 3 u=some "*errors.errorString"):u=272 :=typeName_ptr_named (nm := "errors.errorString") (by rw [Tm];kernel_rfl) (by kernel_rfl) (by decide) u (by rw [Tm];exact h)
theorem ah {l:List (String × DataW Unit)} {W:World} (h:laidMet zP l W) (hm:("strings.asciiSpace",Rows.laid_strings_asciiSpace)∈l) (hr:l.filter (fun x=>x.1 == "strconv.ErrRange")=[("strconv.ErrRange",Rows.laid_strconv_ErrRange)]):An AM (Ee W):=by
 have h1:=h.filter fun x=>x.1 == "strconv.ErrRange"
 rw [hr] at h1;obtain ⟨ps,h,_⟩:=h;refine bU (tab:=Jd) rfl fun x hx => ?_
 simp only [Jd,List.mem_cons,List.not_mem_nil,or_false] at hx;rcases hx with rfl|rfl
 ·have:=Pe h hm 3 aZ aa
  rw [ab] at this;exact this
 ·exact bV h1 ac ae Tryz.underlying27 ag Tryz.underlying272 Tryz.underlying274 rfl rfl Tryz.underlying9 (by kernel_rfl) (by kernel_rfl)
theorem own:ownKnob zP.godebug=none:=by kernel_rfl
open Go.ChangeShapes Go.WideShapes Go.ChangeAt Go.ChangeMaps Go.RowKit Go.Proofs.Fw
theorem gPow:zP.globalNamed "internal/strconv.uint64pow10" = some 8:=by kernel_rfl
theorem tPow:(zP.globals[8]?).map (·.type)=some 286:=by kernel_rfl
theorem ai:HY (H:=Unit) zP 3 286 Rows.laid_internal_strconv_uint64pow10=Nu:=by kernel_rfl
theorem et:zP.globalNamed "errors.errorType" = some 0:=by kernel_rfl
theorem rt:(zP.cutTypes.find? (·.1 == "internal/reflectlite.rtype")).map (·.2)=some 150:=by kernel_rfl
theorem aj:((List.range zP.types.size).filter fun t=>zP.rowNamed t [101,114,114,111,114])=[27]:=by kernel_rfl
theorem ak {W:World} (h:handlesMet zP [("errors.errorType",Rows.laid_errors_errorType)] W):W.cell? ⟨0,0,none⟩=some (.iface 150 (.agg #[.pointer (some ⟨12,27,none⟩)])):=by
 obtain ⟨name,u,ty,e1,e2,e3,e4,e5⟩:=h _ (List.mem_singleton.2 rfl);have en:name=[101,114,114,111,114]:=(Option.some.inj e1).symm;subst en;obtain rfl:=Option.some.inj (rt.symm.trans e2);have hm:ty∈(List.range zP.types.size).filter fun t=>zP.rowNamed t [101,114,114,111,114]:=List.mem_filter.2 ⟨List.mem_range.2 e3,e4⟩
 rw [aj] at hm;obtain rfl:=List.mem_singleton.1 hm;have hh:typeHandle zP 27 = .pointer (some ⟨12,27,none⟩):=by kernel_rfl
 rw [hh] at e5;simpa using World.var?_cell et e5 0
theorem al {W:World} {l:List (String × DataW Unit)} (h1:laidMet zP l W) (ha:("strings.asciiSpace",Rows.laid_strings_asciiSpace)∈l) (hr:l.filter (fun x=>x.1 == "strconv.ErrRange")=[("strconv.ErrRange",Rows.laid_strconv_ErrRange)]) (hp:("internal/strconv.uint64pow10",Rows.laid_internal_strconv_uint64pow10)∈l)
  (h2:W.cell? ⟨0,0,none⟩=some (.iface 150 (.agg #[.pointer (some ⟨12,27,none⟩)]))):An AG (Ee W):=by
 have hT:An AM (Ee W):=ah h1 ha hr;intro i
 by_cases hi:i=8
 ·subst hi
  rw [show AG.glob 8 = .vptr Nu 0 from rfl];obtain ⟨ps,h3,_⟩:=h1;have:=Pe h3 hp 3 gPow tPow;rw [ai] at this;exact this
 ·by_cases hj:i=0
  ·subst hj
   rw [show AG.glob 0 = .vptr [.iface 150 (.agg [.adr 12 27])] 0 from rfl];simp only [AA,AB];refine ⟨0,0,[.iface 150 (.agg #[.pointer (some ⟨12,27,none⟩)])],rfl,⟨_,_,rfl,⟨_,rfl,_,rfl,_,_,rfl,rfl,rfl⟩,rfl⟩,?_⟩;intro k v hk;cases k with
   |zero=>simp at hk;subst hk;exact h2
   |succ k=>simp at hk
  ·have:AM.glob i=AG.glob i:=by
    simp only [AM,AG,HZ,Nv,Kd,List.find?_cons];rw [show ((0:Nat)==i)=false by simp;omega,show ((8:Nat)==i)=false by simp;omega]
   rw [←this];exact hT i
def l9:List (String × DataW Unit):=[("math/bits.deBruijn32tab",Rows.laid_math_bits_deBruijn32tab),("math/bits.deBruijn64tab",Rows.laid_math_bits_deBruijn64tab),("internal/strconv.uint64pow10",Rows.laid_internal_strconv_uint64pow10),("unicode/utf8.acceptRanges",Rows.laid_unicode_utf8_acceptRanges),("strconv.ErrRange",Rows.laid_strconv_ErrRange),("strconv.ErrSyntax",Rows.laid_strconv_ErrSyntax),("unicode.White_Space",Rows.laid_unicode_White_Space),("strings.asciiSpace",Rows.laid_strings_asciiSpace),("unicode/utf8.first",Rows.laid_unicode_utf8_first)]
theorem am {W:World} (h:laidMetH zP Rows.treeTextRow.laid W):An AG (Ee W):=by have h':laidMet zP l9 W∧handlesMet zP [("errors.errorType",Rows.laid_errors_errorType)] W:=h;exact al h'.1 (by simp [l9]) (by kernel_rfl) (by simp [l9]) (ak h'.2)
noncomputable def w0T (os:Os):World:={World.holding zP os ⟨#[],#[],[]⟩ with heap:=(World.holding zP os ⟨#[],#[],[]⟩).heap.setIfInBounds 0 (.cells #[.iface 150 (.agg #[.pointer (some ⟨12,27,none⟩)])] (((zP.globals[0]?).map (·.type)).getD 0) (0,0))}
noncomputable def wT (os:Os):World:=(w0T os).layVars zP l9
theorem ao (os:Os):(wT os).os=os:=World.layVars_os _ _ _
theorem aq:(Rows.treeTextRow.laid.filter fun x=>x.2.handleName?.isNone)=l9:=rfl
theorem au (os:Os):laidMet zP l9 (wT os):=by
 have e1:(l9.filter fun x=>(l9.map (·.1)).contains x.1)=l9:=List.filter_eq_self.2 fun x hx=>List.contains_iff_mem.2 (List.mem_map.2 ⟨x,hx,rfl⟩)
 have e2:(l9.filter fun x => !(l9.map (·.1)).contains x.1)=[]:=List.filter_eq_nil_iff.2 fun x hx=>by rw [List.contains_iff_mem.2 (List.mem_map.2 ⟨x,hx,rfl⟩)];simp
 exact laidMet_layVars (w0:=w0T os) (l9.map (·.1)) [] (by rw [e1];rfl) (by rw [e1];kernel_rfl) (by rw [e1];kernel_rfl) (by rw [e2];exact LaidIn.none)
theorem aw (os:Os):laidMetH zP Rows.treeTextRow.laid (wT os) :=laidMetH_of_parts3 (fuel:=8) (by rw [aq];exact au os) (by kernel_rfl) (by kernel_rfl)
theorem ax (os:Os) (args:Array Value):laidMetH zP Rows.treeTextRow.laid ((wT os).forCall (fun _ _=>0) ⟨#[],args,[]⟩).memory:=(aw os).of_heap (by simp [World.memory,World.forCall,Input.heap])
end Go.Proofs.YtffcldkblcmmiaaGreatDoor
