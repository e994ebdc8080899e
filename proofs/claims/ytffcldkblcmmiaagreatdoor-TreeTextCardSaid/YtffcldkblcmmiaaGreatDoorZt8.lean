/- The program's trees: the builder's state aS it lies, and put .. The reference's reader of statements: errors aS values; its  -/
import Derived.Test.YtffcldkblcmmiaaGreatDoorZt7
set_option linter.unusedSimpArgs false
set_option linter.unusedVariables false
namespace Go.Proofs.YtffcldkblcmmiaaGreatDoor
open Go.RowKit Go.Proofs.Fw
set_option maxRecDepth 100000
set_option maxHeartbeats 4000000
structure Fr where
 line:Int
 end_:Int
 st:Sx
 body:List Nd
 els:List Nd
 mid:Int
def Fr.nd (f:Fr):Nd := .mk f.line f.end_ f.st f.body f.els f.mid
def Fr.pre (f:Fr):List AV := .int .i64 f.line :: .int .i64 f.end_::f.st.c
def upC:Nat→AV
 |0 => .nilPtr
 |n+1 => .ptr (2+3*n) 0
def Fr.c (d:Nat) (f:Fr):List AV:=f.pre++[ndE.tk (3+3*d) f.body,ndE.tk (4+3*d) f.els,.int .i64 f.mid,upC d]
def Fr.h (d:Nat) (f:Fr):AH:=[some (.box (f.c d)),AW f.body,AW f.els]
def frH:List Fr→AH
 |[]=>[]
 |f::r=>frH r++f.h r.length
structure Bd where
 l:List Nd
 fs:List Fr
 o:Bool
def Bd.c (s:Bd):List AV:=[ndE.tk 1 s.l,upC s.fs.length,.int .i64 (s.fs.length:Int),.bool s.o]
def bdH (s:Bd):AH:=some (.box s.c)::AW s.l::frH s.fs
def Fr.put (f:Fr) (n:Nd):Fr:=if 0≤f.mid then {f with els:=f.els++[n]} else {f with body:=f.body++[n]}
def Bd.put (s:Bd) (n:Nd):Bd:=match s.fs with
 |[]=>{s with l:=s.l++[n]}
 |f::r=>{s with fs:=f.put n::r}
def Fr.ok (m:Nat) (f:Fr):Prop:=f.body.length≤m∧f.els.length≤m
def Bd.ok (m:Nat) (s:Bd):Prop:=s.l.length≤m∧∀f∈s.fs,f.ok m
theorem Bd.put_ok {m:Nat} {s:Bd} (h:s.ok m) (n:Nd):(s.put n).ok (m+1):=by
 obtain ⟨l,fs,o⟩:=s;obtain ⟨h1,h2⟩:=h;cases fs with
 |nil =>simp only [Bd.put];exact ⟨by simp only [List.length_append,List.length_cons,List.length_nil] at h1 ⊢;omega,fun f hf=>by cases hf⟩
 |cons f r =>
  simp only [Bd.put];refine ⟨by simp only at h1 ⊢;omega,fun g hg => ?_⟩;rcases List.mem_cons.1 hg with rfl|hg
  ·have h3:=h2 f List.mem_cons_self
   unfold Fr.ok at h3 ⊢;unfold Fr.put
   split<;>simp only [List.length_append,List.length_cons,List.length_nil]<;>omega
  ·have h3:=h2 g (List.mem_cons_of_mem _ hg)
   unfold Fr.ok at h3 ⊢;omega
theorem Bd.ok_mono {m n:Nat} (vA:m≤n) {s:Bd} (h:s.ok m):s.ok n:=⟨by have:=h.1;omega,fun f hf=>by have:=h.2 f hf;unfold Fr.ok at this ⊢;omega⟩
theorem I2:∀r:List Fr,(frH r).length=3*r.length
 |[]=>rfl
 |f::r=>by simp only [frH,List.length_append,I2 r,Fr.h,List.length_cons,List.length_nil];omega
theorem Fr.pre_len (f:Fr):f.pre.length=31:=rfl
theorem Fr.pre_low (f:Fr):lowL 0 f.pre=true:=by have:=Sx.c_low f.st;simp [Fr.pre,this]
theorem Fr.c_len (d:Nat) (f:Fr):(f.c d).length=35:=rfl
theorem GD {A B:AH} {i:Nat} (h:i<A.length):AH.at (A++B) i=A.at i:=by unfold AH.at;rw [List.getElem?_append_left h]
theorem HI {A B:AH} {i:Nat} (h:A.length≤i):AH.at (A++B) i=B.at (i-A.length):=by unfold AH.at;rw [List.getElem?_append_right h]
theorem RG (l:List Nd) (f:Fr) (r:List Fr) (o:Bool) (K:AH):bdH ⟨l,f::r,o⟩++K=([some (.box (Bd.c ⟨l,f::r,o⟩)),AW l]++frH r)++(f.h r.length++K):=by simp [bdH,frH]
theorem Lz (l:List Nd) (f:Fr) (r:List Fr) (o:Bool) (K:AH) (i:Nat):(bdH ⟨l,f::r,o⟩++K).at (2+3*r.length+i)=(f.h r.length++K).at i:=by
 rw [RG,HI (by simp [I2];omega)]
 congr 1
 simp [I2];omega
theorem GE (l:List Nd) (f:Fr) (r:List Fr) (o:Bool) (K:AH):(bdH ⟨l,f::r,o⟩++K).at (2+3*r.length)=some (.box (f.c r.length)):=Lz l f r o K 0
theorem N2 (l:List Nd) (f:Fr) (r:List Fr) (o:Bool) (K:AH):(bdH ⟨l,f::r,o⟩++K).at (3+3*r.length)=AW f.body:=by have:=Lz l f r o K 1;rw [show 3+3*r.length=2+3*r.length+1 by omega,this];rfl
theorem N3 (l:List Nd) (f:Fr) (r:List Fr) (o:Bool) (K:AH):(bdH ⟨l,f::r,o⟩++K).at (4+3*r.length)=AW f.els:=by have:=Lz l f r o K 2;rw [show 4+3*r.length=2+3*r.length+2 by omega,this];rfl
theorem Cu (l:List Nd) (f:Fr) (r:List Fr) (o:Bool) (K:AH):(bdH ⟨l,f::r,o⟩++K).length=5+3*r.length+K.length:=by rw [RG];simp [I2,Fr.h];omega
theorem I3 (l:List Nd) (f f':Fr) (r:List Fr) (o:Bool) (K:AH) {j:Nat} (h1:j≠2+3*r.length) (h2:j=3+3*r.length→AW f'.body=AW f.body) (h3:j=4+3*r.length→AW f'.els=AW f.els) :
  (bdH ⟨l,f'::r,o⟩++K).at j=(bdH ⟨l,f::r,o⟩++K).at j:=by
 rcases Nat.lt_or_ge j (2+3*r.length) with h|h
 ·have e:∀g:Fr,(bdH ⟨l,g::r,o⟩++K).at j=AH.at ([some (.box (Bd.c ⟨l,g::r,o⟩)),AW l]++frH r) j:=fun g=>by rw [RG,GD (by simp [I2];omega)]
  rw [e f',e f];rfl
 ·obtain ⟨i,rfl⟩:=Nat.exists_eq_add_of_le h
  rw [Lz,Lz];rcases (by omega:i=0∨i=1∨i=2∨3≤i) with rfl|rfl|rfl|hi
  ·exact absurd rfl h1
  ·exact h2 (by omega)
  ·exact h3 (by omega)
  ·rw [HI (show (f'.h r.length).length≤i from hi),HI (show (f.h r.length).length≤i from hi)]
   rfl
theorem DK (φ:Nat→Nat):∀a b:List AV,AN φ (a++b)=AN φ a++AN φ b
 |[],b=>rfl
 |x::a,b=>by simp [AN,DK φ a b]
def Aa (N d T2 T:Nat) (i:Nat):Nat:=if i=0 then 0 else if i=1 then 2+3*d else if i=2 then 1 else if i=3 then (if d=0 then N else 3*d-1) else if i=4 then T2 else T
theorem pB0 {N d T2 T:Nat}:Aa N d T2 T 0=0:=rfl
theorem pB1 {N d T2 T:Nat}:Aa N d T2 T 1=2+3*d:=rfl
theorem pB2 {N d T2 T:Nat}:Aa N d T2 T 2=1:=rfl
theorem pB4 {N d T2 T:Nat}:Aa N d T2 T 4=T2:=rfl
theorem pB5 {N d T2 T:Nat}:Aa N d T2 T 5=T:=rfl
theorem N4 {N d T2 T:Nat} (h:(T2=3+3*d∧T=4+3*d)∨(T2=4+3*d∧T=3+3*d)) (hN:5+3*d≤N):∀i j,i<6→j<6→Aa N d T2 T i=Aa N d T2 T j→i=j:=by intro i j hi hj he;unfold Aa at he;rcases (by omega:i=0∨i=1∨i=2∨i=3∨i=4∨i=5) with rfl|rfl|rfl|rfl|rfl|rfl<;>rcases (by omega:j=0∨j=1∨j=2∨j=3∨j=4∨j=5) with rfl|rfl|rfl|rfl|rfl|rfl<;>simp at he ⊢ <;> (try split at he)<;>omega
theorem zAB (l:List Nd) (f:Fr) (r:List Fr) (o:Bool) (n:Nd) (K:AH) (tu:f.mid<0) (hm:f.body.length<137438953472) :
  CS zP Ac 54 [.ptr 0 0,.agg (ndC n)] (bdH ⟨l,f::r,o⟩++K) (.tup []) (bdH ⟨l,{f with body:=f.body++[n]}::r,o⟩++K):=by
 generalize hf':({f with body:=f.body++[n]}:Fr)=f';have hN:=Cu l f r o K;have hN':=Cu l f' r o K;have e1:f'.body=f.body++[n]:=by subst hf';rfl
 have e2:f'.els=f.els:=by subst hf';rfl
 have e3:f'.pre=f.pre:=by subst hf';rfl
 have e4:f'.mid=f.mid:=by subst hf';rfl
 have xb:=N4 (N:=(bdH ⟨l,f::r,o⟩++K).length) (d:=r.length) (T2:=(4+3*r.length)) (T:=(3+3*r.length)) (by omega) (by omega);have six:∀{i:Nat},i<6→i=0∨i=1∨i=2∨i=3∨i=4∨i=5:=fun h=>by omega
 have low6:=fun (l:List AV) (h:lowL 0 l=true) (m:Nat)=>Ak (Nat.zero_le m) l h
 have uL:ren (Aa (bdH ⟨l,f::r,o⟩++K).length r.length (4+3*r.length) (3+3*r.length)) (if r.length=0 then .nilPtr else .ptr 3 0)=upC r.length:=by
  cases hd:r.length with
  |zero=>rfl
  |succ d =>simp [ren,upC,Aa];omega
 have tS:∀f0:Fr,∀i,i∈[0,2+3*r.length,(3+3*r.length)]→(mask (bdH ⟨l,f0::r,o⟩++K) [0,2+3*r.length,(3+3*r.length)]).at i=(bdH ⟨l,f0::r,o⟩++K).at i:=fun f0 i hi=>F4 hi
 have tQ:∀f0:Fr,∀i,i ∉ [0,2+3*r.length,(3+3*r.length)]→i<5+3*r.length→(mask (bdH ⟨l,f0::r,o⟩++K) [0,2+3*r.length,(3+3*r.length)]).at i=some .hid:=fun f0 i hi hl=>H5 hi (by rw [Cu];omega)
 have xc:∀f0:Fr,(mask (bdH ⟨l,f0::r,o⟩++K) [0,2+3*r.length,(3+3*r.length)]).at (bdH ⟨l,f::r,o⟩++K).length=none:=fun f0=>Cy (by rw [Fx,Cu,Cu];omega)
 have g3:∀f0:Fr,(mask (bdH ⟨l,f0::r,o⟩++K) [0,2+3*r.length,(3+3*r.length)]).at (Aa (bdH ⟨l,f::r,o⟩++K).length r.length (4+3*r.length) (3+3*r.length) 3)=Option.map (AJ (Aa (bdH ⟨l,f::r,o⟩++K).length r.length (4+3*r.length) (3+3*r.length))) (if r.length=0 then none else some .hid):=by
  intro f0
  by_cases hd:r.length=0
  ·have:Aa (bdH ⟨l,f::r,o⟩++K).length r.length (4+3*r.length) (3+3*r.length) 3=(bdH ⟨l,f::r,o⟩++K).length:=by simp [Aa,hd]
   rw [this,xc,if_pos hd];rfl
  ·have:Aa (bdH ⟨l,f::r,o⟩++K).length r.length (4+3*r.length) (3+3*r.length) 3=3*r.length-1:=by simp [Aa,hd]
   rw [this,if_neg hd,tQ f0 _ (by simp<;>omega) (by omega)];rfl
 by_cases h0:f.body=[]
 all_goals
  first
  |have e:f.body=[]:=h0
   have hs:=ml (ndC n) f.pre (ndE.tk 2 l) (ndE.tk 4 f.els) (if r.length=0 then .nilPtr else .ptr 3 0) (some .hid) (if r.length=0 then none else some .hid) (some .hid) f.mid tu f.pre_len (Hm n) (IK n) (By n) (Enc.tk_low _ (by decide) _) (Enc.tk_low _ (by decide) _) (by split<;>rfl) f.pre_low rfl (by split<;>rfl) rfl ((f::r).length:Int) o
   have:=CS.graft (k:=5) (n:=6) (Aa (bdH ⟨l,f::r,o⟩++K).length r.length (4+3*r.length) (3+3*r.length)) [0,2+3*r.length,(3+3*r.length)] (H:=bdH ⟨l,f::r,o⟩++K) (H':=bdH ⟨l,f'::r,o⟩++K) hs rfl rfl (by decide) xb Dg (by simp [low6 _ (By n)]) rfl
    (by simp [AR,Av,EC,low6 _ f.pre_low,Enc.tk_low]<;>split<;>simp [low])
    (by simp [AR,Av,EC,low6 _ f.pre_low,Enc.tk_low,low6 _ (By n)]<;>split<;>simp [low]) (by rw [Cu,Cu]) ?_ ?_ ?_ ?_ ?_
  |have hs:=mn (ndC n) f.pre (ndE.row f.body) f.body.length hm (ndE.row_low _) (ndE.tk 2 l) (ndE.tk 4 f.els) (if r.length=0 then .nilPtr else .ptr 3 0) (some .hid) (if r.length=0 then none else some .hid) (some .hid) f.mid tu f.pre_len (Hm n) (IK n) (By n) (Enc.tk_low _ (by decide) _) (Enc.tk_low _ (by decide) _) (by split<;>rfl) f.pre_low rfl (by split<;>rfl) rfl ((f::r).length:Int) o
   have:=CS.graft (k:=6) (n:=6) (Aa (bdH ⟨l,f::r,o⟩++K).length r.length (4+3*r.length) (3+3*r.length)) [0,2+3*r.length,(3+3*r.length)] (H:=bdH ⟨l,f::r,o⟩++K) (H':=bdH ⟨l,f'::r,o⟩++K) hs rfl rfl (by decide) xb Dg (by simp [low6 _ (By n)]) rfl
    (by simp [AR,Av,EC,low6 _ f.pre_low,Enc.tk_low]<;>split<;>simp [low])
    (by simp [AR,Av,EC,low6 _ f.pre_low,Enc.tk_low,low6 _ (By n)]<;>split<;>simp [low]) (by rw [Cu,Cu]) ?_ ?_ ?_ ?_ ?_
  ·simpa [AN,ren,BB _ _ (By n),Aa] using this
  ·intro i hi
   rcases six (show i<6 by omega) with rfl|rfl|rfl|rfl|rfl|rfl
   ·rw [pB0,tS f 0 (by simp)]
    show some (Ent.box (Bd.c ⟨l,f::r,o⟩))=_
    simp [AH.at,AJ,AN,ren,Bd.c,Enc.tk_ren,Aa,upC]
   ·rw [pB1,tS f _ (by simp),GE]
    simp only [AH.at,List.getElem?_cons_succ,List.getElem?_cons_zero,Option.join_some,Option.map_some,AJ,DK,BB _ _ f.pre_low,AN,uL,Enc.tk_ren,ren];simp [Fr.c,h0,Aa,Enc.tk_ne,ren,BB _ _ (ndE.row_low _)]
    first|done|rfl
   ·rw [pB2,tQ f 1 (by simp<;>omega) (by omega)]
    rfl
   ·exact g3 f
   ·rw [pB4,tQ f _ (by simp<;>omega) (by omega)]
    rfl
   ·first|omega|(rw [pB5,tS f _ (by simp),N2,C0 h0];rfl)
  ·intro i hi1 uZ
   first|omega|(obtain rfl:i=5:=(by omega);rw [pB5,tS f _ (by simp),N2,h0];rfl)
  ·intro i hi
   rcases six hi with rfl|rfl|rfl|rfl|rfl|rfl
   ·rw [pB0,tS f' 0 (by simp)]
    show some (Ent.box (Bd.c ⟨l,f'::r,o⟩))=_
    simp [AH.at,AJ,AN,ren,Bd.c,Enc.tk_ren,Aa,upC]
   ·rw [pB1,tS f' _ (by simp),GE]
    simp only [AH.at,List.getElem?_cons_succ,List.getElem?_cons_zero,Option.join_some,Option.map_some,AJ,DK,BB _ _ f.pre_low,AN,uL,Enc.tk_ren,ren];simp [Fr.c,e1,e2,e3,e4,Aa,Enc.tk_ne,BB _ _ (By n),DK,Enc.row_append,Enc.row_one1,h0,BB _ _ (ndE.row_low _)]
    first|done|rfl|exact ⟨rfl,rfl⟩
   ·rw [pB2,tQ f' 1 (by simp<;>omega) (by omega)]
    rfl
   ·exact g3 f'
   ·rw [pB4,tQ f' _ (by simp<;>omega) (by omega)]
    rfl
   ·rw [pB5,tS f' _ (by simp),N2,e1,C0 (by simp)]
    simp [AH.at,AJ,h0]
  ·intro j hj
   have h1:=hj 1 (by decide);have h5:=hj 5 (by decide);rw [pB1] at h1;rw [pB5] at h5;exact I3 l f f' r o K (fun h=>h1 h.symm) (fun h=>absurd h.symm h5) (fun _=>by rw [e2])
  ·intro j hj _
   simp only [List.mem_cons,List.not_mem_nil,or_false,not_or] at hj;obtain ⟨h0',h1,h5⟩:=hj;exact I3 l f f' r o K h1 (fun h=>absurd h h5) (fun _=>by rw [e2])
theorem zAC (l:List Nd) (f:Fr) (r:List Fr) (o:Bool) (n:Nd) (K:AH) (tu:0≤f.mid) (hm:f.els.length<137438953472) :
  CS zP Ac 54 [.ptr 0 0,.agg (ndC n)] (bdH ⟨l,f::r,o⟩++K) (.tup []) (bdH ⟨l,{f with els:=f.els++[n]}::r,o⟩++K):=by
 generalize hf':({f with els:=f.els++[n]}:Fr)=f';have hN:=Cu l f r o K;have hN':=Cu l f' r o K;have e1:f'.els=f.els++[n]:=by subst hf';rfl
 have e2:f'.body=f.body:=by subst hf';rfl
 have e3:f'.pre=f.pre:=by subst hf';rfl
 have e4:f'.mid=f.mid:=by subst hf';rfl
 have xb:=N4 (N:=(bdH ⟨l,f::r,o⟩++K).length) (d:=r.length) (T2:=(3+3*r.length)) (T:=(4+3*r.length)) (by omega) (by omega);have six:∀{i:Nat},i<6→i=0∨i=1∨i=2∨i=3∨i=4∨i=5:=fun h=>by omega
 have low6:=fun (l:List AV) (h:lowL 0 l=true) (m:Nat)=>Ak (Nat.zero_le m) l h
 have uL:ren (Aa (bdH ⟨l,f::r,o⟩++K).length r.length (3+3*r.length) (4+3*r.length)) (if r.length=0 then .nilPtr else .ptr 3 0)=upC r.length:=by
  cases hd:r.length with
  |zero=>rfl
  |succ d =>simp [ren,upC,Aa];omega
 have tS:∀f0:Fr,∀i,i∈[0,2+3*r.length,(4+3*r.length)]→(mask (bdH ⟨l,f0::r,o⟩++K) [0,2+3*r.length,(4+3*r.length)]).at i=(bdH ⟨l,f0::r,o⟩++K).at i:=fun f0 i hi=>F4 hi
 have tQ:∀f0:Fr,∀i,i ∉ [0,2+3*r.length,(4+3*r.length)]→i<5+3*r.length→(mask (bdH ⟨l,f0::r,o⟩++K) [0,2+3*r.length,(4+3*r.length)]).at i=some .hid:=fun f0 i hi hl=>H5 hi (by rw [Cu];omega)
 have xc:∀f0:Fr,(mask (bdH ⟨l,f0::r,o⟩++K) [0,2+3*r.length,(4+3*r.length)]).at (bdH ⟨l,f::r,o⟩++K).length=none:=fun f0=>Cy (by rw [Fx,Cu,Cu];omega)
 have g3:∀f0:Fr,(mask (bdH ⟨l,f0::r,o⟩++K) [0,2+3*r.length,(4+3*r.length)]).at (Aa (bdH ⟨l,f::r,o⟩++K).length r.length (3+3*r.length) (4+3*r.length) 3)=Option.map (AJ (Aa (bdH ⟨l,f::r,o⟩++K).length r.length (3+3*r.length) (4+3*r.length))) (if r.length=0 then none else some .hid):=by
  intro f0
  by_cases hd:r.length=0
  ·have:Aa (bdH ⟨l,f::r,o⟩++K).length r.length (3+3*r.length) (4+3*r.length) 3=(bdH ⟨l,f::r,o⟩++K).length:=by simp [Aa,hd]
   rw [this,xc,if_pos hd];rfl
  ·have:Aa (bdH ⟨l,f::r,o⟩++K).length r.length (3+3*r.length) (4+3*r.length) 3=3*r.length-1:=by simp [Aa,hd]
   rw [this,if_neg hd,tQ f0 _ (by simp<;>omega) (by omega)];rfl
 by_cases h0:f.els=[]
 all_goals
  first
  |have e:f.els=[]:=h0
   have hs:=mp (ndC n) f.pre (ndE.tk 2 l) (ndE.tk 4 f.body) (if r.length=0 then .nilPtr else .ptr 3 0) (some .hid) (if r.length=0 then none else some .hid) (some .hid) f.mid tu f.pre_len (Hm n) (IK n) (By n) (Enc.tk_low _ (by decide) _) (Enc.tk_low _ (by decide) _) (by split<;>rfl) f.pre_low rfl (by split<;>rfl) rfl ((f::r).length:Int) o
   have:=CS.graft (k:=5) (n:=6) (Aa (bdH ⟨l,f::r,o⟩++K).length r.length (3+3*r.length) (4+3*r.length)) [0,2+3*r.length,(4+3*r.length)] (H:=bdH ⟨l,f::r,o⟩++K) (H':=bdH ⟨l,f'::r,o⟩++K) hs rfl rfl (by decide) xb Dg (by simp [low6 _ (By n)]) rfl
    (by simp [AR,Av,EC,low6 _ f.pre_low,Enc.tk_low]<;>split<;>simp [low])
    (by simp [AR,Av,EC,low6 _ f.pre_low,Enc.tk_low,low6 _ (By n)]<;>split<;>simp [low]) (by rw [Cu,Cu]) ?_ ?_ ?_ ?_ ?_
  |have hs:=mq (ndC n) f.pre (ndE.row f.els) f.els.length hm (ndE.row_low _) (ndE.tk 2 l) (ndE.tk 4 f.body) (if r.length=0 then .nilPtr else .ptr 3 0) (some .hid) (if r.length=0 then none else some .hid) (some .hid) f.mid tu f.pre_len (Hm n) (IK n) (By n) (Enc.tk_low _ (by decide) _) (Enc.tk_low _ (by decide) _) (by split<;>rfl) f.pre_low rfl (by split<;>rfl) rfl ((f::r).length:Int) o
   have:=CS.graft (k:=6) (n:=6) (Aa (bdH ⟨l,f::r,o⟩++K).length r.length (3+3*r.length) (4+3*r.length)) [0,2+3*r.length,(4+3*r.length)] (H:=bdH ⟨l,f::r,o⟩++K) (H':=bdH ⟨l,f'::r,o⟩++K) hs rfl rfl (by decide) xb Dg (by simp [low6 _ (By n)]) rfl
    (by simp [AR,Av,EC,low6 _ f.pre_low,Enc.tk_low]<;>split<;>simp [low])
    (by simp [AR,Av,EC,low6 _ f.pre_low,Enc.tk_low,low6 _ (By n)]<;>split<;>simp [low]) (by rw [Cu,Cu]) ?_ ?_ ?_ ?_ ?_
  ·simpa [AN,ren,BB _ _ (By n),Aa] using this
  ·intro i hi
   rcases six (show i<6 by omega) with rfl|rfl|rfl|rfl|rfl|rfl
   ·rw [pB0,tS f 0 (by simp)]
    show some (Ent.box (Bd.c ⟨l,f::r,o⟩))=_
    simp [AH.at,AJ,AN,ren,Bd.c,Enc.tk_ren,Aa,upC]
   ·rw [pB1,tS f _ (by simp),GE]
    simp only [AH.at,List.getElem?_cons_succ,List.getElem?_cons_zero,Option.join_some,Option.map_some,AJ,DK,BB _ _ f.pre_low,AN,uL,Enc.tk_ren,ren];simp [Fr.c,h0,Aa,Enc.tk_ne,ren,BB _ _ (ndE.row_low _)]
    first|done|rfl
   ·rw [pB2,tQ f 1 (by simp<;>omega) (by omega)]
    rfl
   ·exact g3 f
   ·rw [pB4,tQ f _ (by simp<;>omega) (by omega)]
    rfl
   ·first|omega|(rw [pB5,tS f _ (by simp),N3,C0 h0];rfl)
  ·intro i hi1 uZ
   first|omega|(obtain rfl:i=5:=(by omega);rw [pB5,tS f _ (by simp),N3,h0];rfl)
  ·intro i hi
   rcases six hi with rfl|rfl|rfl|rfl|rfl|rfl
   ·rw [pB0,tS f' 0 (by simp)]
    show some (Ent.box (Bd.c ⟨l,f'::r,o⟩))=_
    simp [AH.at,AJ,AN,ren,Bd.c,Enc.tk_ren,Aa,upC]
   ·rw [pB1,tS f' _ (by simp),GE]
    simp only [AH.at,List.getElem?_cons_succ,List.getElem?_cons_zero,Option.join_some,Option.map_some,AJ,DK,BB _ _ f.pre_low,AN,uL,Enc.tk_ren,ren];simp [Fr.c,e1,e2,e3,e4,Aa,Enc.tk_ne,BB _ _ (By n),DK,Enc.row_append,Enc.row_one1,h0,BB _ _ (ndE.row_low _)]
    first|done|rfl|exact ⟨rfl,rfl⟩
   ·rw [pB2,tQ f' 1 (by simp<;>omega) (by omega)]
    rfl
   ·exact g3 f'
   ·rw [pB4,tQ f' _ (by simp<;>omega) (by omega)]
    rfl
   ·rw [pB5,tS f' _ (by simp),N3,e1,C0 (by simp)]
    simp [AH.at,AJ,h0]
  ·intro j hj
   have h1:=hj 1 (by decide);have h5:=hj 5 (by decide);rw [pB1] at h1;rw [pB5] at h5;exact I3 l f f' r o K (fun h=>h1 h.symm) (fun _=>by rw [e2]) (fun h=>absurd h.symm h5)
  ·intro j hj _
   simp only [List.mem_cons,List.not_mem_nil,or_false,not_or] at hj;obtain ⟨h0',h1,h5⟩:=hj;exact I3 l f f' r o K h1 (fun _=>by rw [e2]) (fun h=>absurd h h5)
theorem my (n:Nd) (o:Bool) (K:AH):CS zP Ac 54 [.ptr 0 0,.agg (ndC n)] (bdH ⟨[],[],o⟩++K) (.tup []) (bdH ⟨[n],[],o⟩++K):=by
 have hs:=mb (Hm n) (IK n) (By n) 0 o;have low6:=fun (l:List AV) (h:lowL 0 l=true) (m:Nat)=>Ak (Nat.zero_le m) l h
 have:=CS.grow (k:=1) (n:=2) (fun i=>i) (H:=bdH ⟨[],[],o⟩++K) (H':=bdH ⟨[n],[],o⟩++K) hs rfl rfl (by decide) (fun i j _ _ h=>h) Dg (by simp [low6 _ (By n)]) rfl (by simp [AR,Av]) (by simp [AR,Av,low6 _ (By n)]) (by
   intro i hi;obtain rfl:i=0:=by omega
   simp [bdH,AH.at,Bd.c,AJ,AN,ren,upC]) (by
   intro i hi uZ;obtain rfl:i=1:=by omega
   simp [bdH,AH.at]) (by
   intro i hi;rcases (by omega:i=0∨i=1) with rfl|rfl
   ·simp [bdH,AH.at,Bd.c,AJ,AN,ren,upC,Enc.tk_ne,BB _ _ (By n),Enc.row_one1]
    exact ⟨rfl,rfl⟩
   ·simp [bdH,AH.at,C0,AJ]) (by
   intro j hj;have h0:=hj 0 (by decide);have h1:=hj 1 (by decide);obtain ⟨i,rfl⟩:∃i,j=i+2:=⟨j-2,by omega⟩
   simp [bdH,AH.at,frH])
 simpa [AN,ren,BB _ _ (By n)] using this
theorem RH (s:Bd) (n:Nd) (K:AH) {m:Nat} (hs:s.ok m) (hm:m<137438953472):CS zP Ac 54 [.ptr 0 0,.agg (ndC n)] (bdH s++K) (.tup []) (bdH (s.put n)++K):=by
 obtain ⟨l,fs,o⟩:=s;obtain ⟨h1,h2⟩:=hs;simp only at h1;cases fs with
 |nil =>
  by_cases h0:l=[]
  ·subst h0
   exact my n o K
  ·have:=mr (H:=bdH ⟨l,[],o⟩++K) (b:=0) (T:=1) (ndC n) (ndE.row l) l.length (by omega) (Hm n) (IK n) (By n) (ndE.row_low _) 0 o (by simp [bdH,AH.at,Bd.c,upC,Enc.tk_ne _ _ h0];rfl) (by simp [bdH,AH.at,C0 h0])
   have e5:ndE.sz=34:=rfl;have e6:ndE.c n=ndC n:=rfl;simpa [bdH,Bd.put,frH,Bd.c,upC,Enc.tk_ne,C0,Enc.row_append,Enc.row_one1,e5,e6,h0] using this
 |cons f r =>
  obtain ⟨h3,h4⟩:=h2 f List.mem_cons_self;simp only [Bd.put,Fr.put]
  by_cases tu:0≤f.mid
  ·rw [if_pos tu]
   exact zAC l f r o n K tu (by omega)
  ·rw [if_neg tu]
   exact zAB l f r o n K (by omega) (by omega)
@[simp] theorem rR:AG.imm 142=false:=by decide
@[simp] theorem rT:AG.imm 85=true:=by decide
theorem N5:∀{a b:List (List UInt8 × Int)} {c d:Int},AY a c=AY b d→a=b∧c=d
 |[],[],c,d,h=>by simp only [AY,AV.iface.injEq,AV.int.injEq,true_and] at h;exact ⟨rfl,h⟩
 |[],(w,p)::b,c,d,h=>by simp [AY] at h
 |(w,p)::a,[],c,d,h=>by simp [AY] at h
 |(w,p)::a,(w',p')::b,c,d,h=>by simp only [AY,AV.iface.injEq,AV.vptr.injEq,List.cons.injEq,AV.str.injEq,AV.int.injEq,true_and,and_true] at h;obtain ⟨h1,h2,h3⟩:=h;obtain ⟨h4,h5⟩:=N5 h3;rw [h1,h2,h4,h5];exact ⟨rfl,rfl⟩
def erI:Er→AV
 |none => .nilIface
 |some (l,c)=>AY (CB l) (c:Int)
@[simp] theorem RJ:erI none = .nilIface:=AP rfl
theorem RK (l:List (List UInt8 × Nat)) (c:Nat):erI (some (l,c))=AY (CB l) (c:Int):=rfl
@[simp ↓ high] theorem rU (m:Nat) (l:List (List UInt8 × Int)) (c:Int):low m (AY l c)=true:=Cd (Nat.zero_le m) _ (Gc l c)
@[simp ↓ high] theorem mz (l:List (List UInt8 × Int)) (c:Int):(AY l c).known=true:=by cases l<;>rfl
@[simp ↓ high] theorem m0 (l:List (List UInt8 × Int)) (c:Int):(AY l c).one=true:=by cases l<;>rfl
@[simp ↓ high] theorem m5 (l:List (List UInt8 × Int)) (c:Int):Aw (AY l c)=[AY l c]:=by cases l<;>rfl
@[simp ↓ high] theorem We (e:Er):low 0 (erI e)=true:=by
 cases e with
 |none=>rfl
 |some x=>exact Gc _ _
@[simp ↓ high] theorem rV (m:Nat) (e:Er):low m (erI e)=true:=Cd (Nat.zero_le m) _ (We e)
@[simp ↓ high] theorem rW (e:Er):Bh (erI e)=[]:=LV _ (We e)
@[simp ↓ high] theorem re (e:Er):(erI e).known=true:=by cases e with
 |none=>rfl
 |some x=>exact mz _ _
@[simp ↓ high] theorem rf (e:Er):(erI e).one=true:=by cases e with
 |none=>rfl
 |some x=>exact m0 _ _
@[simp ↓ high] theorem rg (e:Er):Aw (erI e)=[erI e]:=by cases e with
 |none=>rfl
 |some x=>exact m5 _ _
@[simp high] theorem rh (e:Er):aeq zP 27 (erI e) .nilIface=some e.isNone:=by
 cases e with
 |none=>simp [erI,aeq]
 |some x=>simp [erI]
@[simp high] theorem rj (e:Er):BI zP .eql 27 true (erI e) .nilIface=some (.bool e.isNone):=by
 cases e with
 |none=>simp [erI]
 |some x=>simp [erI]
@[simp high] theorem rk (e:Er):BI zP .neq 27 true (erI e) .nilIface=some (.bool e.isSome):=by
 cases e with
 |none=>simp [erI]
 |some x=>simp [erI]
theorem m6 {x y:Er} (h:erI x=erI y):x=y:=by
 cases x with
 |none=>cases y with
  |none=>rfl
  |some y=>obtain ⟨l,c⟩:=y;cases l<;>simp [erI,AY,CB] at h
 |some x=>cases y with
  |none=>obtain ⟨l,c⟩:=x;cases l<;>simp [erI,AY,CB] at h
  |some y =>
   obtain ⟨l,c⟩:=x;obtain ⟨m,d⟩:=y;obtain ⟨h1,h2⟩:=N5 h;have e2:c=d:=by omega
   rw [Q9 h1,e2]
def Sr.pc (ts:List Wd) (r:Sr):List AV:=[AD ts,.int .i64 r.at_,erI r.err]
theorem C3 (ts:List Wd) (r:Sr):lowL 0 (r.pc ts)=true:=by simp [Sr.pc]
theorem Fl (ts:List Wd) (r s:Sr) (h:r.pc ts=s.pc ts):r=s:=by
 obtain ⟨a,x⟩:=r;obtain ⟨b,y⟩:=s;simp only [Sr.pc,List.cons.injEq,AV.int.injEq,true_and,and_true] at h;have:=m6 h.2;subst this;have:a=b:=by omega
 subst this;rfl
abbrev pbx (ts:List Wd) (r:Sr):Option Ent:=some (.box [AD ts,.int .i64 (r.at_:Int),erI r.err])
@[simp] theorem rl (w:List UInt8) (p:Int) (l:List (List UInt8 × Int)) (c:Int):Ay zP 85 [(0,.str w),(1,.int .i64 p),(2,AY l c)]=some (.agg [.str w,.int .i64 p,AY l c]):=by cases l<;>kernel_rfl
theorem m7 (p:Int) (l:List (List UInt8 × Int)) (c:Int) (H:AH):CS zP AG 50 [.int .i64 p,AY l c] H (AY ((Bo,p)::l) c) H:=by refine CS.tr0 BL Tryz.func50 (by kernel_rfl) 0 (by simp [Tryz.f50]) (fun B hB hG => ?_) (by simp) (by simp) H;refine Tr.goD DX hG ?_;simp [Tryz.f50,AY,Bo]
noncomputable def Ca:AF zP AG:=AF.pure 50 (fun _:Int × List (List UInt8 × Int) × Int=>True) (fun x=>[.int .i64 x.1,AY x.2.1 x.2.2]) (fun x=>AY ((Bo,x.1)::x.2.1) x.2.2)
 (fun x _ H=>m7 x.1 x.2.1 x.2.2 H) (fun x y _ _ h=>by
  obtain ⟨a,b,c⟩:=x;obtain ⟨a',b',c'⟩:=y;simp only [List.cons.injEq,AV.int.injEq,true_and,and_true] at h;obtain ⟨h1,h2⟩:=N5 h.2;simp only
  rw [h.1,h1,h2])
theorem m8 (ts:List Wd) (r:Sr) (p c:Nat) {H:AH} {id:Nat} (hH:H.at id=some (.box (r.pc ts))) :
  CS zP AG 52 [.ptr id 0,.int .i64 (p:Int),.int .i64 (c:Int)] H (.tup []) (H.set id (some (.box ((r.fail p c).pc ts)))):=by
 obtain ⟨a,e⟩:=r;refine CS.rd BL Tryz.func52 (by kernel_rfl) 0 (by simp [Tryz.f52]) (fun B hB hG => ?_) (by simp) rfl (C3 _ _) (C3 _ _) hH;have hL:([Ca].map (·.f)).Nodup:=show ([50]:List Nat).Nodup by decide
 have X:=Bq [Ca] Bw Ae;have h1:=fun H=>CV hL (show Ca∈[Ca] by simp) ((p:Int),[],(c:Int)) trivial H
 generalize oOf [Ca]=O at X h1;refine Tr.goD X hG ?_;simp [AY,Bo] at h1;cases e with
 |none=>simp [Tryz.f52,Sr.pc,Sr.fail,h1,erI,AY,CB,Bo]
 |some y=>simp [Tryz.f52,Sr.pc,Sr.fail]
noncomputable def Di (ts:List Wd):AF zP AG:=AF.meth 52 (Sr.pc ts) (Fl ts) (fun (_:Nat × Nat) _=>True) (fun _ x=>[.int .i64 (x.1:Int),.int .i64 (x.2:Int)]) (fun _ _ => .tup []) (fun x r=>r.fail x.1 x.2)
 (fun x r _ H id hH=>m8 ts r x.1 x.2 hH) (fun id x y r _ _ h=>by
  obtain ⟨a,b⟩:=x;obtain ⟨c,d⟩:=y;simp only [List.cons.injEq,AV.int.injEq,true_and,and_true] at h;have e1:a=c:=by omega
  have e2:b=d:=by omega
  rw [e1,e2]
  exact ⟨rfl,rfl⟩)
theorem m9 (ts:List Wd) (r:Sr) (k:Nat) (s:List UInt8) {H:AH} {id:Nat} (hH:H.at id=some (.box (r.pc ts))) :
  CS zP AG 107 [.ptr id 0,.int .i64 (k:Int),.str s] H (.bool (isW ts r k s)) (H.set id (some (.box (r.pc ts)))):=by
 obtain ⟨a,e⟩:=r;refine CS.rd BL Tryz.func107 (by kernel_rfl) 0 (by simp [Tryz.f107]) (fun B hB hG => ?_) (by simp) rfl (C3 _ _) (C3 _ _) hH;refine Tr.goD DX hG ?_;simp [Tryz.f107,Sr.pc];refine LpD.turns DX hG [] [] ?_;cases e with
 |some y=>simp [isW]
 |none =>
  by_cases hl:a<ts.length
  ·have hl':(a:Int)<ts.length:=by omega
   obtain ⟨w,hw⟩:∃w,ts[a]? = some w:=⟨_,List.getElem?_eq_getElem hl⟩
   obtain ⟨c0,c1,c3⟩:=Eh hw;have vn:ts[a]=w:=by rw [List.getElem?_eq_getElem hl] at hw;injection hw
   by_cases hk:w.kind=k
   ·cases s with
    |nil=>simp [isW,isK,hw,vn,hl,hl',hk,c0,c1]
    |cons b s=>simp [isW,isK,hw,vn,hl,hl',hk,c0,c1]
   ·have hk':((w.kind:Int)==(k:Int))=false:=by rw [beq_eq_false_iff_ne];omega
    simp [isW,isK,hw,vn,hl,hl',hk,hk',c0,c1]
  ·have hl':¬((a:Int)<ts.length):=by omega
   have hw:ts[a]? = none:=List.getElem?_eq_none (by omega);simp [isW,isK,hl',hw]
noncomputable def Hq (ts:List Wd):AF zP AG:=AF.meth 107 (Sr.pc ts) (Fl ts) (fun (_:Nat × List UInt8) _=>True) (fun _ x=>[.int .i64 (x.1:Int),.str x.2]) (fun x r => .bool (isW ts r x.1 x.2)) (fun _ r=>r)
 (fun x r _ H id hH=>m9 ts r x.1 x.2 hH) (fun id x y r _ _ h=>by
  obtain ⟨a,b⟩:=x;obtain ⟨c,d⟩:=y;simp only [List.cons.injEq,AV.int.injEq,AV.str.injEq,true_and,and_true] at h;have e1:a=c:=by omega
  rw [e1,h.2]
  exact ⟨rfl,rfl⟩)
section
variable {L:List (AF zP AG)} {ts:List Wd}
theorem L0 (hL:(L.map (·.f)).Nodup) (hF:Di ts∈L) (r:Sr) (p c:Nat) (H:AH):oOf L 52 [.ptr 0 0,.int .i64 (p:Int),.int .i64 (c:Int)] (pbx ts r::H)=some (.tup [],pbx ts (r.fail p c)::H):=B0 hL hF (p,c) r (H:=pbx ts r::H) (id:=0) rfl trivial
theorem RL (hL:(L.map (·.f)).Nodup) (hF:Hq ts∈L) (r:Sr) (k:Nat) (s:List UInt8) (H:AH):oOf L 107 [.ptr 0 0,.int .i64 (k:Int),.str s] (pbx ts r::H)=some (.bool (isW ts r k s),pbx ts r::H):=B0 hL hF (k,s) r (H:=pbx ts r::H) (id:=0) rfl trivial
end
theorem nA (ts:List Wd) (sT:ts.length<1000000) (r:Sr) (k:Nat) (s:List UInt8) {H:AH} {id:Nat} (hH:H.at id=some (.box (r.pc ts))) :
  CS zP AG 104 [.ptr id 0,.int .i64 (k:Int),.str s] H (.bool (isW ts r k s)) (H.set id (some (.box ((CO ts r k s).pc ts)))):=by
 refine CS.rd BL Tryz.func104 (by kernel_rfl) 0 (by simp [Tryz.f104]) (fun B hB hG => ?_) (by simp) rfl (C3 _ _) (C3 _ _) hH;have hL:([Hq ts].map (·.f)).Nodup:=show ([107]:List Nat).Nodup by decide
 have X:=Bq [Hq ts] Bw Ae;have h2:=fun H=>RL (ts:=ts) hL (by simp) r k s H
 generalize oOf [Hq ts]=O at X h2;refine Tr.goD X hG ?_;cases hw:isW ts r k s with
 |true =>have hl:=(D8 hw).1;have w1:IntKind.i64.wrap ((r.at_:Int)+1)=(r.at_:Int)+1:=AZ (by omega) (by omega);rw [hw] at h2;rw [HG hw];simp [Tryz.f104,Sr.pc,h2,w1,Sr.step]
 |false =>rw [hw] at h2;rw [HH hw];simp [Tryz.f104,Sr.pc,h2]
noncomputable def Fm (ts:List Wd) (sT:ts.length<1000000):AF zP AG:=AF.meth 104 (Sr.pc ts) (Fl ts) (fun (_:Nat × List UInt8) _=>True) (fun _ x=>[.int .i64 (x.1:Int),.str x.2]) (fun x r => .bool (isW ts r x.1 x.2)) (fun x r=>CO ts r x.1 x.2)
 (fun x r _ H id hH=>nA ts sT r x.1 x.2 hH) (fun id x y r _ _ h=>by
  obtain ⟨a,b⟩:=x;obtain ⟨c,d⟩:=y;simp only [List.cons.injEq,AV.int.injEq,AV.str.injEq,true_and,and_true] at h;have e1:a=c:=by omega
  rw [e1,h.2]
  exact ⟨rfl,rfl⟩)
section
variable {L:List (AF zP AG)} {ts:List Wd}
theorem N6 (sT:ts.length<1000000) (hL:(L.map (·.f)).Nodup) (hF:Fm ts sT∈L) (r:Sr) (k:Nat) (s:List UInt8) (H:AH):oOf L 104 [.ptr 0 0,.int .i64 (k:Int),.str s] (pbx ts r::H)=some (.bool (isW ts r k s),pbx ts (CO ts r k s)::H):=B0 hL hF (k,s) r (H:=pbx ts r::H) (id:=0) rfl trivial
end
@[simp] theorem rn:Ay zP 183 []=some (.agg [.int .i64 0,.str [],.int .i64 0,.int .i64 0]):=by kernel_rfl
theorem nB (ts:List Wd) (sT:ts.length<1000000) (r:Sr) (k:Nat) (s:List UInt8) {H:AH} {id:Nat} (hH:H.at id=some (.box (r.pc ts))) :
  CS zP AG 75 [.ptr id 0,.int .i64 (k:Int),.str s] H (.agg (BD (A1 ts r k s).1)) (H.set id (some (.box ((A1 ts r k s).2.pc ts)))):=by
 refine CS.rd BL Tryz.func75 (by kernel_rfl) 0 (by simp [Tryz.f75]) (fun B hB hG => ?_) (by simp) rfl (C3 _ _) (C3 _ _) hH;have hL:([Di ts,Fm ts sT].map (·.f)).Nodup:=show ([52,104]:List Nat).Nodup by decide
 have X:=Bq [Di ts,Fm ts sT] Bw Ae;have h1:=fun H=>L0 (ts:=ts) hL (by simp) r r.at_ 2 H
 have h2:=fun H=>N6 (ts:=ts) sT hL (by simp) r k s H
 generalize oOf [Di ts,Fm ts sT]=O at X h1 h2;refine Tr.goD X hG ?_;cases hw:isW ts r k s with
 |true =>
  obtain ⟨hl,he⟩:=D8 hw;have w1:IntKind.i64.wrap (r.at_:Int)=(r.at_:Int):=AZ (by omega) (by omega);rw [hw,HG hw] at h2;obtain ⟨w,hx⟩:∃w,ts[r.at_]? = some w:=⟨_,List.getElem?_eq_getElem hl⟩
  obtain ⟨d1,d2⟩:=Ki _ _ _ hx;have hm:A1 ts r k s=(w,r.step):=by simp [A1,hw,hx]
  rw [hm];simp [pbx,Sr.step] at h2;simp [Tryz.f75,Sr.pc,h2,Sr.step];refine LpD.turns X hG [11] [] ?_;simp [hl,w1,d1,d2,BD]
 |false =>
  rw [hw,HH hw] at h2;have hm:A1 ts r k s=(wd0,r.fail r.at_ 2):=by simp [A1,hw]
  rw [hm];simp [pbx] at h1 h2;simp [Tryz.f75,Sr.pc,h1,h2,BD,wd0]
noncomputable def Jw (ts:List Wd) (sT:ts.length<1000000):AF zP AG:=AF.meth 75 (Sr.pc ts) (Fl ts) (fun (_:Nat × List UInt8) _=>True) (fun _ x=>[.int .i64 (x.1:Int),.str x.2]) (fun x r => .agg (BD (A1 ts r x.1 x.2).1)) (fun x r=>(A1 ts r x.1 x.2).2)
 (fun x r _ H id hH=>nB ts sT r x.1 x.2 hH) (fun id x y r _ _ h=>by
  obtain ⟨a,b⟩:=x;obtain ⟨c,d⟩:=y;simp only [List.cons.injEq,AV.int.injEq,AV.str.injEq,true_and,and_true] at h;have e1:a=c:=by omega
  rw [e1,h.2]
  exact ⟨rfl,rfl⟩)
section
variable {L:List (AF zP AG)} {ts:List Wd}
theorem RM (sT:ts.length<1000000) (hL:(L.map (·.f)).Nodup) (hF:Jw ts sT∈L) (r:Sr) (k:Nat) (s:List UInt8) (H:AH):oOf L 75 [.ptr 0 0,.int .i64 (k:Int),.str s] (pbx ts r::H)=some (.agg (BD (A1 ts r k s).1),pbx ts (A1 ts r k s).2::H):=B0 hL hF (k,s) r (H:=pbx ts r::H) (id:=0) rfl trivial
end
theorem nC {id:Nat} {x:AV} (hx:low 0 x=true) {H:AH} (hH:H.at id=some (.box [x])):CS zP AG 22 [.nilIface,.iface 77 (.ptr id 0)] H (.bool false) H:=by
 have h:=CS.rd1 (P:=zP) (E:=AG) (f:=22) (args:=[.nilIface,.iface 77 (.ptr 0 0)]) (cs:=[x]) (cs':=[x]) (v := .bool false) (H:=H) (id:=id) BL Tryz.func22 (by kernel_rfl) 0 (by simp [Tryz.f22]) (fun B hB hG=>by
  refine Tr.goD DX hG ?_
  simp [Tryz.f22]) rfl rfl (by simp [hx]) (by simp [hx]) hH
 rw [AH.set_at hH] at h;exact h
noncomputable def fAs:AF zP AG where
 f:=22
 α:=Option (List AV) × Nat
 ok:=fun x H=>∃y,low 0 y=true∧H.at x.2=some (.box [y])
 args:=fun x=>[match x.1 with
  |none => .nilIface
  |some cs => .iface 75 (.vptr cs 0),.iface 77 (.ptr x.2 0)]
 out:=fun x => .bool x.1.isSome
 up:=fun x H=>match x.1 with
  |none=>H
  |some cs=>H.set x.2 (some (.box [.vptr cs 0]))
 cs:=fun x H ⟨y,hy,h⟩=>by
  obtain ⟨o,id⟩:=x;cases o with
  |none=>exact ⟨nC hy h,Cs.refl H⟩
  |some cs=>exact ⟨CS.toF (CS.toX (VI h)),Cs.set h⟩
 same:=fun x y H _ _ h=>by
  obtain ⟨o,id⟩:=x;obtain ⟨o',id'⟩:=y;cases o<;>cases o'<;>simp at h ⊢
  ·obtain ⟨rfl,rfl⟩:=h
   rfl
section
variable {L:List (AF zP AG)}
theorem RN (hL:(L.map (·.f)).Nodup) (hF:fAs∈L) (o:Option (List AV)) (id:Nat) (y:AV) (hy:low 0 y=true) (H:AH) (hH:H.at id=some (.box [y])) :
  oOf L 22 [match o with|none => .nilIface|some cs => .iface 75 (.vptr cs 0),.iface 77 (.ptr id 0)] H=some (.bool o.isSome,match o with|none=>H|some cs=>H.set id (some (.box [.vptr cs 0]))):=Ce hL fAs hF (x:=(o,id)) ⟨y,hy,hH⟩
end
def Du (ts:List Wd) (a:Nat):AV:=if a=ts.length∧ts≠[] then .slice .unk 4 0 [] else AD (ts.drop a)
theorem Wf:∀(l:List Wd) (a:Nat),(A7 l).drop (a*4)=A7 (l.drop a)
 |[],a=>by simp [A7]
 |w::l,0=>by simp
 |w::l,a+1=>by have hc:A7 (w::l)=BD w++A7 l:=rfl;have hw:(BD w).length=4:=rfl;rw [hc,List.drop_append,List.drop_of_length_le (by omega),hw,List.nil_append,show (a+1)*4-4=a*4 by omega,Wf l a,List.drop_succ_cons]
theorem Wg:∀(l:List Wd) (a:Nat),(A7 l).take (a*4)=A7 (l.take a)
 |[],a=>by simp [A7]
 |w::l,0=>by simp [A7]
 |w::l,a+1=>by have hc:A7 (w::l)=BD w++A7 l:=rfl;have hd:A7 (w::l.take a)=BD w++A7 (l.take a):=rfl;have hw:(BD w).length=4:=rfl;rw [hc,List.take_append,List.take_of_length_le (by omega),hw,show (a+1)*4-4=a*4 by omega,Wg l a,List.take_succ_cons,hd]
@[simp high] theorem rq {ts:List Wd} {a:Nat} (h:a≤ts.length):BG zP 137 (AD ts) (some (.int .i64 (a:Int))) none none=some (Du ts a):=by
 unfold Du AD;have h1:(a:Int)≤ts.length:=by omega
 by_cases sT:ts=[]
 ·subst sT
  have:a=0:=by simpa using h
  subst this;simp [BG]
 ·by_cases ha:a=ts.length
  ·subst ha
   simp [sT,BG,KW]
  ·have hd:ts.drop a≠[]:=by
    intro h2;have:=congrArg List.length h2;rw [List.length_drop] at this;simp at this;omega
   have hl:=List.length_drop (i:=a) (l:=ts);simp [sT,ha,hd,BG,h1,hl];rw [Wf,List.take_of_length_le (by rw [KW,hl];exact Nat.le_refl _)]
@[simp ↓ high] theorem nD (m:Nat) (ts:List Wd) (a:Nat):low m (Du ts a)=true:=by
 unfold Du
 split
 ·rfl
 ·exact Cd (Nat.zero_le m) _ (QN _)
@[simp ↓ high] theorem rr (ts:List Wd) (a:Nat):Bh (Du ts a)=[]:=by
 unfold Du
 split
 ·rfl
 ·exact jv _
def Wh:AV := .slice .unk 4 0 []
set_option maxRecDepth 100000 in
theorem nE:run fzN Bl zP AG 100 20 110 [Wh] []=some (E5 (Bb []),[]):=by kernel_rfl
set_option maxRecDepth 100000 in
theorem nF:run fzN Bl zP AG 100 20 106 [Wh] []=some (Kw (CK []),[]):=by kernel_rfl
theorem Wi {ts us:List Wd} {a b:Nat} (ha:a≤ts.length) (hb:b≤us.length) (h:Du ts a=Du us b):ts.drop a=us.drop b:=by
 unfold Du at h
 have key:∀l:List Wd,AD l ≠ .slice .unk 4 0 []:=by
  intro l h;unfold AD at h
  split at h
  ·cases h
  ·rename_i hl
   injection h with _ _ h;exact hl (List.length_eq_zero_iff.1 h)
 split at h
 ·rename_i h1
  split at h
  ·rename_i h2
   rw [h1.1,h2.1,List.drop_length,List.drop_length]
  ·exact absurd h.symm (key _)
 ·split at h
  ·exact absurd h (key _)
  ·exact Qy h
noncomputable def Gl:AF zP AG:=AF.pure 110 (fun x:List Wd × Nat=>x.1.length<1000000∧x.2≤x.1.length) (fun x=>[Du x.1 x.2]) (fun x=>E5 (Bb (x.1.drop x.2)))
 (fun x h H=>by
  unfold Du
  split
  ·rename_i hx
   rw [hx.1,List.drop_length];exact (LO (base:=Bl) Jc Bw Ae 100 20 _ _ _ _ _ nE).1.frame BL rfl H
  ·exact mB _ (by rw [List.length_drop];omega) H) (fun x y hx hy h=>by
  simp only [List.cons.injEq,and_true] at h
  rw [Wi hx.2 hy.2 h])
noncomputable def Jx:AF zP AG:=AF.pure 106 (fun x:List Wd × Nat=>x.1.length<1000000∧x.2≤x.1.length) (fun x=>[Du x.1 x.2]) (fun x=>Kw (CK (x.1.drop x.2)))
 (fun x h H=>by
  unfold Du
  split
  ·rename_i hx
   rw [hx.1,List.drop_length];exact (LO (base:=Bl) Jc Bw Ae 100 20 _ _ _ _ _ nF).1.frame BL rfl H
  ·exact mF _ (by rw [List.length_drop];omega) H) (fun x y hx hy h=>by
  simp only [List.cons.injEq,and_true] at h
  rw [Wi hx.2 hy.2 h])
theorem nG (ts:List Wd) (sT:ts.length<1000000) (r:Sr) (hr:r.at_≤ts.length) {H:AH} {id:Nat} (hH:H.at id=some (.box (r.pc ts))) :
  CS zP AG 108 [.ptr id 0,.func (.func 110) [] []] H (.agg (tC (Cg ts r).1.tn)) (H.set id (some (.box ((Cg ts r).2.pc ts)))):=by
 refine CS.rd BL Tryz.func108 (by kernel_rfl) 0 (by simp [Tryz.f108]) (fun B hB hG => ?_) (by simp) (by simp) (C3 _ _) (C3 _ _) hH;have hL:([Ca,fAs,Gl].map (·.f)).Nodup:=show ([50,22,110]:List Nat).Nodup by decide
 have X:=Bq [Ca,fAs,Gl] Bw Ae;have h1:=fun p l c H=>CV hL (show Ca∈[Ca,fAs,Gl] by simp) (p,l,c) trivial H
 have h2:=fun o e0 e1 e2 e3 H=>RN hL (show fAs∈[Ca,fAs,Gl] by simp) o 4 .nilPtr rfl (e0::e1::e2::e3::some (.box [.nilPtr])::H) rfl
 have h3:=fun H=>CV hL (show Gl∈[Ca,fAs,Gl] by simp) (ts,r.at_) ⟨sT,hr⟩ H
 generalize oOf [Ca,fAs,Gl]=O at X h1 h2 h3;refine Tr.goD X hG ?_;obtain ⟨a,e⟩:=r;obtain ⟨so,sh⟩:=Ky (ts.drop a);rw [List.length_drop] at so sh;simp only at hr;cases e with
 |some y=>simp [Tryz.f108,Sr.pc,Cg,Dc,B2]
 |none =>
  simp only [E5] at h3;generalize hq:Bb (ts.drop a)=q at *;obtain ⟨ex,n,x⟩:=q;simp only at so sh h3;simp only [CY] at h3
  have hx:Cg ts ⟨a,none⟩=match x with
   |some (p,c)=>(.none,⟨a,some ([(Bo,a+p),(Hf,p)],c)⟩)
   |none=>(ex,⟨a+n,none⟩):=by
   simp only [Cg,Dc,hq];cases x<;>rfl
  rw [hx];simp [Tryz.f108,Sr.pc];refine LpD.turns X hG [10,15,16] zL2 ?_;simp [hr,h3];cases x with
  |none =>have h2:=h2 none;simp at h2;have w1:IntKind.i64.wrap ((a:Int)+(n:Int))=(a:Int)+(n:Int):=AZ (by omega) (by omega);simp [eAV,h2,w1]
  |some y =>obtain ⟨p,c⟩:=y;have hp:=sh p c rfl;have w1:IntKind.i64.wrap ((a:Int)+(p:Int))=(a:Int)+(p:Int):=AZ (by omega) (by omega);have h2:=h2 (some [.str D5,.int .i64 (p:Int),AY [] (c:Int)]);have h1:=h1 ((a:Int)+(p:Int)) [(D5,(p:Int))] (c:Int);simp [AY,D5,Bo] at h1 h2;simp [eAV,AY,D5,h2];refine LpD.turns X hG [11,14] [(0,11)] ?_;simp [w1,h1,erI,AY,CB,Bo,Hf,D5,B2]
theorem nH (ts:List Wd) (sT:ts.length<1000000) (r:Sr) (hr:r.at_≤ts.length) {H:AH} {id:Nat} (hH:H.at id=some (.box (r.pc ts))) :
  CS zP AG 105 [.ptr id 0,.func (.func 106) [] []] H (FQ (Ez ts r).1) (H.set id (some (.box ((Ez ts r).2.pc ts)))):=by
 refine CS.rd BL Tryz.func105 (by kernel_rfl) 0 (by simp [Tryz.f105]) (fun B hB hG => ?_) (by simp) (by simp [FQ]) (C3 _ _) (C3 _ _) hH;have hL:([Ca,fAs,Jx].map (·.f)).Nodup:=show ([50,22,106]:List Nat).Nodup by decide
 have X:=Bq [Ca,fAs,Jx] Bw Ae;have h1:=fun p l c H=>CV hL (show Ca∈[Ca,fAs,Jx] by simp) (p,l,c) trivial H
 have h2:=fun o e0 e1 e2 e3 H=>RN hL (show fAs∈[Ca,fAs,Jx] by simp) o 4 .nilPtr rfl (e0::e1::e2::e3::some (.box [.nilPtr])::H) rfl
 have h3:=fun H=>CV hL (show Jx∈[Ca,fAs,Jx] by simp) (ts,r.at_) ⟨sT,hr⟩ H
 generalize oOf [Ca,fAs,Jx]=O at X h1 h2 h3;refine Tr.goD X hG ?_;obtain ⟨a,e⟩:=r;obtain ⟨so,sh⟩:=N1 (ts.drop a);rw [List.length_drop] at so sh;simp only at hr;cases e with
 |some y=>simp [Tryz.f105,Sr.pc,Ez,Dc,FQ,B2]
 |none =>
  simp only [Kw] at h3;generalize hq:CK (ts.drop a)=q at *;obtain ⟨⟨op,ea,eb⟩,n,x⟩:=q;simp only at so sh h3;simp only [FQ,CY,List.cons_append,List.nil_append] at h3
  have hx:Ez ts ⟨a,none⟩=match x with
   |some (p,c)=>(([],.none,.none),⟨a,some ([(Bo,a+p),(Hf,p)],c)⟩)
   |none=>((op,ea,eb),⟨a+n,none⟩):=by
   simp only [Ez,Dc,hq];cases x<;>rfl
  rw [hx];simp [Tryz.f105,Sr.pc];refine LpD.turns X hG [10,15,16] zL2 ?_;simp [hr,h3];cases x with
  |none =>have h2:=h2 none;simp at h2;have w1:IntKind.i64.wrap ((a:Int)+(n:Int))=(a:Int)+(n:Int):=AZ (by omega) (by omega);simp [eAV,h2,w1,FQ]
  |some y =>obtain ⟨p,c⟩:=y;have hp:=sh p c rfl;have w1:IntKind.i64.wrap ((a:Int)+(p:Int))=(a:Int)+(p:Int):=AZ (by omega) (by omega);have h2:=h2 (some [.str D5,.int .i64 (p:Int),AY [] (c:Int)]);have h1:=h1 ((a:Int)+(p:Int)) [(D5,(p:Int))] (c:Int);simp [AY,D5,Bo] at h1 h2;simp [eAV,AY,D5,h2];refine LpD.turns X hG [11,14] [(0,11)] ?_;simp [w1,h1,erI,AY,CB,Bo,Hf,D5,FQ,B2]
noncomputable def Wj (ts:List Wd) (sT:ts.length<1000000):AF zP AG:=AF.meth 105 (Sr.pc ts) (Fl ts) (fun (_:Unit) r=>r.at_≤ts.length) (fun _ _=>[.func (.func 106) [] []]) (fun _ r=>FQ (Ez ts r).1) (fun _ r=>(Ez ts r).2)
 (fun _ r h H id hH=>nH ts sT r h hH) (fun id x y r _ _ h=>⟨rfl,rfl⟩)
noncomputable def L3 (ts:List Wd) (sT:ts.length<1000000):AF zP AG:=AF.meth 108 (Sr.pc ts) (Fl ts) (fun (_:Unit) r=>r.at_≤ts.length) (fun _ _=>[.func (.func 110) [] []]) (fun _ r => .agg (tC (Cg ts r).1.tn)) (fun _ r=>(Cg ts r).2)
 (fun _ r h H id hH=>nG ts sT r h hH) (fun id x y r _ _ h=>⟨rfl,rfl⟩)
theorem nI (ts:List Wd) (sT:ts.length<1000000) (r:Sr) (hr:r.at_≤ts.length) {H:AH} {id:Nat} (hH:H.at id=some (.box (r.pc ts))) :
  CS zP AG 76 [.ptr id 0] H (.agg (tC (Cg ts r).1.tn)) (H.set id (some (.box ((Cg ts r).2.pc ts)))):=by
 refine CS.rd BL Tryz.func76 (by kernel_rfl) 0 (by simp [Tryz.f76]) (fun B hB hG => ?_) (by simp) (by simp) (C3 _ _) (C3 _ _) hH;have hL:([L3 ts sT].map (·.f)).Nodup:=show ([108]:List Nat).Nodup by decide
 have X:=Bq [L3 ts sT] Bw Ae;have h1:=fun e0 H=>B0 hL (show L3 ts sT∈[L3 ts sT] by simp) () r (H:=some (.box (r.pc ts))::e0::H) (id:=0) rfl hr
 generalize oOf [L3 ts sT]=O at X h1;refine Tr.goD X hG ?_;simp only [CY,Sr.pc] at h1;simp at h1;simp [Tryz.f76,Sr.pc,h1]
theorem nJ (us:List Wd):Du us 0=AD us:=by unfold Du;rw [if_neg (by rintro ⟨h1,h2⟩;exact h2 (List.length_eq_zero_iff.1 h1.symm)),List.drop_zero]
@[simp high] theorem ru {ts:List Wd} {a e:Nat} (ha:a<ts.length) (h:a≤e) (he:e≤ts.length):BG zP 137 (Du ts a) none (some (.int .i64 ((e-a:Nat):Int))) none=some (if e=a then .slice .unk 4 0 [] else AD ((ts.drop a).take (e-a))):=by
 have hd:ts.drop a≠[]:=by intro h2;have:=congrArg List.length h2;rw [List.length_drop] at this;simp at this;omega
 have hl:=List.length_drop (i:=a) (l:=ts);have h1:((e-a:Nat):Int)≤((ts.length-a:Nat):Int):=by omega
 unfold Du;rw [if_neg (by omega)];unfold AD;rw [if_neg hd]
 by_cases hea:e=a
 ·subst hea
  simp [BG,hl]
 ·have ht:(ts.drop a).take (e-a)≠[]:=by
   intro h2;have:=congrArg List.length h2;rw [List.length_take,hl] at this;simp at this;omega
  have sd:((ts.drop a).take (e-a)).length=e-a:=by rw [List.length_take,hl];omega
  rw [if_neg hea,if_neg ht,sd];simp [BG,hl,h1];rw [←Wg]
def upW (ts:List Wd) (r:Sr) (e:Nat):Ex × Sr:=Dc ts .none (fun l=>Bb (l.take (e-r.at_))) r
structure Kz (ts:List Wd) (H:AH) (r:Sr) (e i0 i1 i2:Nat):Prop where
 d01:i0≠i1
 d02:i0≠i2
 d12:i1≠i2
 h0:H.at i0=some (.box (r.pc ts))
 h1:H.at i1=some (.box [.ptr i0 0])
 h2:H.at i2=some (.box [.int .i64 (e:Int)])
 lt:r.at_<ts.length
 le:r.at_<e
 up:e≤ts.length
def φ3 (i0 i1 i2:Nat):Nat→Nat:=fun i=>if i=0 then i0 else if i=1 then i1 else i2
theorem Wl {i0 i1 i2:Nat} (h1:i0≠i1) (h2:i0≠i2) (h3:i1≠i2):∀i j,i<3→j<3→φ3 i0 i1 i2 i=φ3 i0 i1 i2 j→i=j:=by intro i j hi hj h;rcases (by omega:i=0∨i=1∨i=2) with rfl|rfl|rfl<;>rcases (by omega:j=0∨j=1∨j=2) with rfl|rfl|rfl<;>simp [φ3] at h ⊢ <;> omega
theorem Wm {ts:List Wd} {H:AH} {r r':Sr} {e e' i0 i0' i1 i2:Nat} (h:Kz ts H r e i0 i1 i2) (k:Kz ts H r' e' i0' i1 i2):r=r'∧e=e'∧i0=i0':=by have e1:=h.h1.symm.trans k.h1;simp only [Option.some.injEq,Ent.box.injEq,List.cons.injEq,AV.ptr.injEq,and_true] at e1;subst e1;have e0:=h.h0.symm.trans k.h0;simp only [Option.some.injEq,Ent.box.injEq] at e0;have e2:=h.h2.symm.trans k.h2;simp only [Option.some.injEq,Ent.box.injEq,List.cons.injEq,AV.int.injEq,true_and,and_true] at e2;exact ⟨Fl ts _ _ e0,by omega,rfl⟩
theorem N7 (ψ:Nat→Nat) (ts:List Wd) (r:Sr):AN ψ (r.pc ts)=r.pc ts:=BB ψ _ (C3 ts r)
theorem nK (ts:List Wd) (sT:ts.length<1000000) {r:Sr} {e i0 i1 i2:Nat} {H:AH} (h:Kz ts H r e i0 i1 i2) :
  CS zP AG 109 [Du ts r.at_,.ptr i2 0,.ptr i1 0] H (E5 (Bb ((ts.drop r.at_).take (e-r.at_)))) H:=by
 obtain ⟨d01,d02,d12,h0,h1,h2,sd,sY,uL⟩:=h;have hL:([Gl].map (·.f)).Nodup:=show ([110]:List Nat).Nodup by decide
 have X:=Bq [Gl] Bw Ae;have hl:((ts.drop r.at_).take (e-r.at_)).length<1000000:=by rw [List.length_take,List.length_drop];omega
 have h3:=fun H=>CV hL (show Gl∈[Gl] by simp) ((ts.drop r.at_).take (e-r.at_),0) ⟨hl,Nat.zero_le _⟩ H
 simp only [nJ,List.drop_zero] at h3;generalize oOf [Gl]=O at X h3
 have key:=CS.of_Tr (P:=zP) (E:=AG) (f:=109) (c:=At Tryz.f109) (args:=[Du ts r.at_,.ptr 2 0,.ptr 1 0]) (H0:=[some (.box (r.pc ts)),some (.box [.ptr 0 0]),some (.box [.int .i64 (e:Int)])]) (H1:=[some (.box (r.pc ts)),some (.box [.ptr 0 0]),some (.box [.int .i64 (e:Int)])])
  (v:=E5 (Bb ((ts.drop r.at_).take (e-r.at_)))) Tryz.func109 (by kernel_rfl) 0 (by simp [Tryz.f109]) (fun B hB hG=>by
   refine Tr.goD X hG ?_;have w1:IntKind.i64.wrap ((e:Int)-(r.at_:Int))=((e-r.at_:Nat):Int):=by rw [AZ (by omega) (by omega)];omega
   have sU:¬e=r.at_:=by omega
   have zCP:r.at_≤e:=by omega
   simp only [E5,CY] at h3;generalize zT:(ts.drop r.at_).take (e-r.at_)=us at *;generalize Bb us=q at *;simp [Tryz.f109,Sr.pc];refine LpD.turns X hG [8,12] [] ?_
   simp [w1,sd,zCP,uL,sU,zT,h3,E5]) (by simp [E5]) (by simp [Sr.pc])
 have:=CS.embed (φ3 i0 i1 i2) (k:=3) (H:=H) (H':=H) key rfl rfl (Wl d01 d02 d12) BL (by simp) (by simp [E5]) (by simp [Sr.pc]) (by simp [Sr.pc]) (by
  intro i hi;rcases (by omega:i=0∨i=1∨i=2) with rfl|rfl|rfl
  ·simp [φ3,AH.at,AJ,N7];exact h0
  ·simp [φ3,AH.at,AJ,AN,ren];exact h1
  ·simp [φ3,AH.at,AJ,AN,ren];exact h2) (by
  intro i hi;rcases (by omega:i=0∨i=1∨i=2) with rfl|rfl|rfl
  ·simp [φ3,AH.at,AJ,N7];exact h0
  ·simp [φ3,AH.at,AJ,AN,ren];exact h1
  ·simp [φ3,AH.at,AJ,AN,ren];exact h2) (fun j hj=>rfl)
 rw [F3 _ _ (by simp [E5]:low 0 (E5 (Bb ((ts.drop r.at_).take (e-r.at_))))=true)] at this;simpa [AN,ren,φ3,F3 _ (Du ts r.at_) (nD 0 ts r.at_)] using this
noncomputable def IL (ts:List Wd) (sT:ts.length<1000000):AF zP AG where
 f:=109
 α:=Sr × Nat × Nat × Nat × Nat
 ok:=fun x H=>Kz ts H x.1 x.2.1 x.2.2.1 x.2.2.2.1 x.2.2.2.2
 args:=fun x=>[Du ts x.1.at_,.ptr x.2.2.2.2 0,.ptr x.2.2.2.1 0]
 out:=fun x=>E5 (Bb ((ts.drop x.1.at_).take (x.2.1-x.1.at_)))
 up:=fun _ H=>H
 cs:=fun x H h=>⟨nK ts sT h,Cs.refl H⟩
 same:=fun x y H hx hy h=>by obtain ⟨r,e,i0,i1,i2⟩:=x;obtain ⟨r',e',i0',i1',i2'⟩:=y;simp only [List.cons.injEq,AV.ptr.injEq,and_true] at h hx hy;obtain ⟨_,rfl,rfl⟩:=h;obtain ⟨rfl,rfl,_⟩:=Wm hx hy;exact ⟨rfl,rfl⟩
theorem nL (ts:List Wd) (sT:ts.length<1000000) {r:Sr} {e i0 i1 i2:Nat} {H:AH} (h:Kz ts H r e i0 i1 i2) :
  CS zP AG 108 [.ptr i0 0,.func (.func 109) [] [.ptr i2 0,.ptr i1 0]] H (.agg (tC (upW ts r e).1.tn)) (H.set i0 (some (.box ((upW ts r e).2.pc ts)))):=by
 obtain ⟨d01,d02,d12,h0,so,sh,sd,sY,uL⟩:=h;have hL:([Ca,fAs,IL ts sT].map (·.f)).Nodup:=show ([50,22,109]:List Nat).Nodup by decide
 have X:=Bq [Ca,fAs,IL ts sT] Bw Ae;have h1:=fun p l c H=>CV hL (show Ca∈[Ca,fAs,IL ts sT] by simp) (p,l,c) trivial H
 have h2:=fun o e0 e1 e2 e3 e4 e5 H=>RN hL (show fAs∈[Ca,fAs,IL ts sT] by simp) o 6 .nilPtr rfl (e0::e1::e2::e3::e4::e5::some (.box [.nilPtr])::H) rfl
 have h3:=fun H=>Ce hL (IL ts sT) (show IL ts sT∈[Ca,fAs,IL ts sT] by simp) (x:=(r,e,0,1,2)) (H:=some (.box (r.pc ts))::some (.box [.ptr 0 0])::some (.box [.int .i64 (e:Int)])::H) ⟨Nat.zero_ne_one,(by simp),(by simp),rfl,rfl,rfl,sd,sY,uL⟩
 generalize oOf [Ca,fAs,IL ts sT]=O at X h1 h2 h3
 have key:=CS.of_Tr (P:=zP) (E:=AG) (f:=108) (c:=At Tryz.f108) (args:=[.ptr 0 0,.func (.func 109) [] [.ptr 2 0,.ptr 1 0]]) (H0:=[some (.box (r.pc ts)),some (.box [.ptr 0 0]),some (.box [.int .i64 (e:Int)])]) (H1:=[some (.box ((upW ts r e).2.pc ts)),some (.box [.ptr 0 0]),some (.box [.int .i64 (e:Int)])])
  (v := .agg (tC (upW ts r e).1.tn)) Tryz.func108 (by kernel_rfl) 0 (by simp [Tryz.f108]) (fun B hB hG=>by
   refine Tr.goD X hG ?_;obtain ⟨a,er⟩:=r;obtain ⟨so,sh⟩:=Ky ((ts.drop a).take (e-a));rw [List.length_take,List.length_drop] at so sh;simp only at sd sY;have hr:a≤ts.length:=by omega
   cases er with
   |some y=>simp [Tryz.f108,Sr.pc,upW,Dc,B2]
   |none =>
    simp only [IL,E5] at h3;generalize hq:Bb ((ts.drop a).take (e-a))=q at *;obtain ⟨ex,n,x⟩:=q;simp only at so sh h3;simp only [CY,Sr.pc,RJ] at h3
    have hx:upW ts ⟨a,none⟩ e=match x with
     |some (p,c)=>(.none,⟨a,some ([(Bo,a+p),(Hf,p)],c)⟩)
     |none=>(ex,⟨a+n,none⟩):=by
     simp only [upW,Dc,hq];cases x<;>rfl
    rw [hx];simp [Tryz.f108,Sr.pc];refine LpD.turns X hG [10,15,16] zL2 ?_;simp [hr,h3];cases x with
    |none =>have h2:=h2 none;simp at h2;have w1:IntKind.i64.wrap ((a:Int)+(n:Int))=(a:Int)+(n:Int):=AZ (by omega) (by omega);simp [eAV,h2,w1]
    |some y =>
     obtain ⟨p,c⟩:=y;have hp:=sh p c rfl;have w1:IntKind.i64.wrap ((a:Int)+(p:Int))=(a:Int)+(p:Int):=AZ (by omega) (by omega);have h2:=h2 (some [.str D5,.int .i64 (p:Int),AY [] (c:Int)]);have h1:=h1 ((a:Int)+(p:Int)) [(D5,(p:Int))] (c:Int);simp [AY,D5,Bo] at h1 h2;simp [eAV,AY,D5,h2];refine LpD.turns X hG [11,14] [(0,11)] ?_
     simp [w1,h1,erI,AY,CB,Bo,Hf,D5,B2]) (by simp) (by simp [Sr.pc])
 have:=CS.embed (φ3 i0 i1 i2) (k:=3) (H:=H) (H':=H.set i0 (some (.box ((upW ts r e).2.pc ts)))) key rfl rfl (Wl d01 d02 d12) BL (by simp) (by simp) (by simp [Sr.pc]) (by simp [Sr.pc]) (by
  intro i hi;rcases (by omega:i=0∨i=1∨i=2) with rfl|rfl|rfl
  ·simp [φ3,AH.at,AJ,N7];exact h0
  ·simp [φ3,AH.at,AJ,AN,ren];exact so
  ·simp [φ3,AH.at,AJ,AN,ren];exact sh) (by
  intro i hi;rcases (by omega:i=0∨i=1∨i=2) with rfl|rfl|rfl
  ·have:φ3 i0 i1 i2 0=i0:=rfl
   rw [this,Hb h0];simp [AH.at,AJ,N7]
  ·have:φ3 i0 i1 i2 1=i1:=rfl
   rw [this,Dx d01];simp [φ3,AH.at,AJ,AN,ren];exact so
  ·have:φ3 i0 i1 i2 2=i2:=rfl
   rw [this,Dx d02]
   simp [φ3,AH.at,AJ,AN,ren];exact sh) (fun j hj=>Dx (hj 0 (by omega)))
 rw [F3 _ _ (by simp:low 0 (.agg (tC (upW ts r e).1.tn))=true)] at this;simpa [AN,ren,φ3] using this
noncomputable def Jy (ts:List Wd) (sT:ts.length<1000000):AF zP AG where
 f:=108
 α:=Sr × Nat × Nat × Nat × Nat
 ok:=fun x H=>Kz ts H x.1 x.2.1 x.2.2.1 x.2.2.2.1 x.2.2.2.2
 args:=fun x=>[.ptr x.2.2.1 0,.func (.func 109) [] [.ptr x.2.2.2.2 0,.ptr x.2.2.2.1 0]]
 out:=fun x => .agg (tC (upW ts x.1 x.2.1).1.tn)
 up:=fun x H=>H.set x.2.2.1 (some (.box ((upW ts x.1 x.2.1).2.pc ts)))
 cs:=fun x H h=>⟨nL ts sT h,Cs.set h.h0⟩
 same:=fun x y H hx hy h=>by obtain ⟨r,e,i0,i1,i2⟩:=x;obtain ⟨r',e',i0',i1',i2'⟩:=y;simp only [List.cons.injEq,AV.ptr.injEq,AV.func.injEq,and_true,true_and] at h hx hy;obtain ⟨rfl,rfl,rfl⟩:=h;obtain ⟨rfl,rfl,_⟩:=Wm hx hy;exact ⟨rfl,rfl⟩
@[simp] theorem rx:AG.imm 140=false:=by decide
@[simp] theorem ry:AG.imm 47=false:=by decide
theorem nM {ts:List Wd} {e:Nat} {w:Wd} (h:ts[e]? = some w):ts.drop e=w::ts.drop (e+1):=by obtain ⟨hl,he⟩:=List.getElem?_eq_some_iff.1 h;rw [←he];exact List.drop_eq_getElem_cons hl
def TopI (ts:List Wd) (r:Sr) (E:Nat) (k:Nat) (t:List AV) (H:AH):Prop :=
 ∃(e d:Nat),e+k=ts.length∧r.at_<e∧e+Co (ts.drop e) d=E∧(d=0→isK ts e 3 Ah=true)∧d≤e ∧
  t=mkT 90 [(1,.ptr 1 0),(2,.ptr 2 0),(3,.ptr 3 0),(4,.int .i64 (d:Int))]∧H=[pbx ts r,some (.box [.ptr 0 0]),some (.box [.int .i64 0,.int .i64 0,.str [],.nilSlice]),some (.box [.int .i64 (e:Int)])]
theorem RO:∀(l:List Wd) (d:Nat),Co l d≤l.length
 |[],d=>Nat.le_refl _
 |w::l,d=>by
  have h1:=RO l;have h2:=RO l d;simp only [Co,List.length_cons];generalize (if w.text=Ah then d+1 else if w.text=Ao then d-1 else d)=d2;have h3:=h1 d2
  split
  ·split<;>omega
  ·omega
theorem nN {ts:List Wd} {i:Nat} (h:i<ts.length):i<GZ ts i∧GZ ts i≤ts.length:=by
 unfold GZ
 split
 ·have h1:=RO (ts.drop (i+1)) 0
  rw [List.length_drop] at h1;omega
 ·omega
theorem nO {ts:List Wd} {r:Sr} (h:isW ts r 1 []=true):toW ts r=upW ts r (GZ ts r.at_):=by simp [toW,upW,h]
theorem Wn {ts:List Wd} {i:Nat} {w:Wd} (h:ts[i]? = some w) (k:Nat) (s:List UInt8):isK ts i k s=(w.kind==k&&(s==[] || w.text==s)):=by simp only [isK,h]
theorem nP (ts:List Wd) (sT:ts.length<1000000) (r:Sr) (hr:r.at_≤ts.length) {H:AH} {id:Nat} (hH:H.at id=some (.box (r.pc ts))) :
  CS zP AG 74 [.ptr id 0] H (.agg (tC (toW ts r).1.tn)) (H.set id (some (.box ((toW ts r).2.pc ts)))):=by
 refine CS.rd BL Tryz.func74 (by kernel_rfl) 0 (by simp [Tryz.f74]) (fun B hB hG => ?_) (by simp) (by simp) (C3 _ _) (C3 _ _) hH;have hL:([Di ts,Hq ts,Jy ts sT].map (·.f)).Nodup:=show ([52,107,108]:List Nat).Nodup by decide
 have X:=Bq [Di ts,Hq ts,Jy ts sT] Bw Ae;have h0:=fun H=>L0 (ts:=ts) hL (by simp) r r.at_ 2 H
 have h1:=fun H=>RL (ts:=ts) hL (by simp) r 1 [] H
 have h2:=fun (e:Nat) (e2:Option Ent) (h:r.at_<ts.length) (h':r.at_<e) (h'':e≤ts.length) H=>Ce hL (Jy ts sT) (show Jy ts sT∈[Di ts,Hq ts,Jy ts sT] by simp) (x:=(r,e,0,1,3)) (H:=pbx ts r::some (.box [.ptr 0 0])::e2::some (.box [.int .i64 (e:Int)])::H) ⟨Nat.zero_ne_one,(by simp),(by simp),rfl,rfl,rfl,h,h',h''⟩
 generalize oOf [Di ts,Hq ts,Jy ts sT]=O at X h0 h1 h2;refine Tr.goD X hG ?_;simp [pbx] at h0 h1;cases hw:isW ts r 1 [] with
 |false =>
  rw [hw] at h1;have hx:toW ts r=(.none,r.fail r.at_ 2):=by simp [toW,hw]
  rw [hx];simp [Tryz.f74,Sr.pc,h1];refine LpD.turns X hG [5] [] ?_;simp [h0,B2]
 |true =>
  rw [hw] at h1;obtain ⟨sd,he⟩:=D8 hw;rw [nO hw];obtain ⟨b1,b2⟩:=nN sd;have h2':=h2 (GZ ts r.at_) (some (.box [.int .i64 0,.int .i64 0,.str [],.nilSlice])) sd b1 b2;simp only [Jy,CY,Sr.pc] at h2';obtain ⟨E1,hE1⟩:∃E1,E1=r.at_+1:=⟨_,rfl⟩
  have hE:GZ ts r.at_=if isK ts E1 3 Ah then E1+Co (ts.drop E1) 0 else E1:=by rw [hE1];rfl
  have w1:IntKind.i64.wrap ((r.at_:Int)+1)=(E1:Int):=by rw [AZ (by omega) (by omega)];omega
  simp [Tryz.f74,Sr.pc,h1,w1];generalize upW ts r (GZ ts r.at_)=res at *;refine LpD.turns X hG [] [] ?_
  by_cases hl:E1<ts.length
  ·have hl':(E1:Int)<ts.length:=by omega
   obtain ⟨w,hx⟩:∃w,ts[E1]? = some w:=⟨_,List.getElem?_eq_getElem hl⟩
   obtain ⟨c0,c1,c3⟩:=Eh hx;have hk:=Wn hx 3 Ah
   by_cases uU:w.kind=3
   ·by_cases vR:w.text=[40]
    ·have wg:isK ts E1 3 Ah=true:=by rw [hk];simp [uU,vR,Ah]
     rw [wg] at hE;simp only [if_true] at hE;simp [hl,hl',c0,c1,uU,vR];generalize hEn:GZ ts r.at_=En at *
     refine LpD.loopN X hG (TopI ts r En) (ts.length-E1) (t':=mkT 90 [(1,.ptr 1 0),(2,.ptr 2 0),(3,.ptr 3 0),(4,.int .i64 ((0:Nat):Int))])
      (H':=[pbx ts r,some (.box [.ptr 0 0]),some (.box [.int .i64 0,.int .i64 0,.str [],.nilSlice]),some (.box [.int .i64 (E1:Int)])])
      (AE.mkK 4 (by simp [hB]) (by simp) (by simp [pbx]) (by simp [pbx])) ⟨E1,0,by omega,by omega,hE.symm,fun _=>wg,by omega,rfl,rfl⟩ ?_
     clear hk uU vR wg c0 c1 c3 hx hl hl' hE w;rintro k t H ⟨e,d,hek,hre,s9,vh,hdb,rfl,rfl⟩;cases k with
     |zero =>
      have hn:¬(e:Int)<ts.length:=by omega
      rw [List.drop_of_length_le (by omega)] at s9;have s9:e=En:=s9;subst s9;simp at h2';simp [pbx];refine LpD.turns X hG [] [] ?_;simp [Bj,hn,h2']
     |succ k =>
      have hl:e<ts.length:=by omega
      have hl':(e:Int)<ts.length:=by omega
      obtain ⟨w,hx⟩:∃w,ts[e]? = some w:=⟨_,List.getElem?_eq_getElem hl⟩
      obtain ⟨c0,c1,c3⟩:=Eh hx;have hk:=Wn hx 3 Ah;have we:IntKind.i64.wrap ((e:Int)+1)=((e+1:Nat):Int):=by rw [AZ (by omega) (by omega)];omega
      rw [nM hx] at s9;simp [pbx];refine LpD.turns X hG [] [] ?_;simp [hl,hl'];refine LpD.turns X hG [] [] ?_
      by_cases uU:w.kind=3
      ·simp only [Co,uU,if_true] at s9
       simp [hl,c0,uU];refine LpD.turns X hG [] [] ?_
       by_cases vR:w.text=[40]
       ·have zAa:w.text=Ah:=vR
        rw [if_pos zAa,if_neg (by omega)] at s9;have wd:IntKind.i64.wrap ((d:Int)+1)=((d+1:Nat):Int):=by rw [AZ (by omega) (by omega)];omega
        have sr:¬((d+1:Nat):Int)=0:=by omega
        have sk:(((d+1:Nat):Int)==0)=false:=by rw [beq_eq_false_iff_ne];exact sr
        simp [hl,c1,vR,wd,we,sr,sk,Bj,-Int.natCast_add];exact Nxt.mk k (by omega) (AE.mkK 4 (by simp [hB]) (by simp) (by simp [pbx]) (by simp [pbx])) ⟨e+1,d+1,by omega,by omega,by omega,fun h=>by omega,by omega,rfl,rfl⟩
       ·have zAa:¬w.text=Ah:=vR
        have hd:d≠0:=fun h=>by have:=vh h;rw [hk] at this;simp [Ah,vR] at this
        rw [if_neg zAa] at s9
        by_cases wb:w.text=[41]
        ·have zAb:w.text=Ao:=wb
         rw [if_pos zAb] at s9;have wd:IntKind.i64.wrap ((d:Int)-1)=((d-1:Nat):Int):=by rw [AZ (by omega) (by omega)];omega
         by_cases hz:d-1=0
         ·rw [if_pos hz] at s9
          subst s9;have hz':((d-1:Nat):Int)=0:=by omega
          simp [hl,c1,vR,wb,wd,hz',we,Bj,h2',-Int.natCast_add]
         ·rw [if_neg hz] at s9
          have sr:¬((d-1:Nat):Int)=0:=by omega
          have sk:(((d-1:Nat):Int)==0)=false:=by rw [beq_eq_false_iff_ne];exact sr
          simp [hl,c1,vR,wb,wd,we,sr,sk,Bj,-Int.natCast_add];exact Nxt.mk k (by omega) (AE.mkK 4 (by simp [hB]) (by simp) (by simp [pbx]) (by simp [pbx])) ⟨e+1,d-1,by omega,by omega,by omega,fun h=>by omega,by omega,rfl,rfl⟩
        ·have zAb:¬w.text=Ao:=wb
         rw [if_neg zAb,if_neg hd] at s9;have sr:¬((d:Nat):Int)=0:=by omega
         have sk:(((d:Nat):Int)==0)=false:=by rw [beq_eq_false_iff_ne];exact sr
         simp [hl,c1,vR,wb,we,sr,sk,hd,Bj,-Int.natCast_add];exact Nxt.mk k (by omega) (AE.mkK 4 (by simp [hB]) (by simp) (by simp [pbx]) (by simp [pbx])) ⟨e+1,d,by omega,by omega,by omega,fun h=>by omega,by omega,rfl,rfl⟩
      ·simp only [Co,uU,if_false] at s9
       have hd:d≠0:=fun h=>by have:=vh h;rw [hk] at this;simp [uU] at this
       have zAc:((w.kind:Int)==3)=false:=by rw [beq_eq_false_iff_ne];omega
       have vI:¬(w.kind:Int)=3:=by omega
       simp [hl,c0,uU,zAc,vI,we,Bj,-Int.natCast_add];exact Nxt.mk k (by omega) (AE.mkK 4 (by simp [hB]) (by simp) (by simp [pbx]) (by simp [pbx])) ⟨e+1,d,by omega,by omega,by omega,fun h=>by omega,by omega,rfl,rfl⟩
    ·have wg:isK ts E1 3 Ah=false:=by rw [hk];simp [vR,Ah]
     rw [wg] at hE;simp only [Bool.false_eq_true,if_false] at hE;rw [hE] at h2';simp at h2';simp [hl,hl',c0,c1,uU,vR,h2']
   ·have wg:isK ts E1 3 Ah=false:=by rw [hk];simp [uU]
    have zAc:((w.kind:Int)==3)=false:=by rw [beq_eq_false_iff_ne];omega
    have vI:¬(w.kind:Int)=3:=by omega
    rw [wg] at hE;simp only [Bool.false_eq_true,if_false] at hE;rw [hE] at h2';simp at h2';simp [hl,hl',c0,c1,uU,zAc,vI,h2']
  ·have hl':¬(E1:Int)<ts.length:=by omega
   have hx:ts[E1]? = none:=List.getElem?_eq_none (by omega);have wg:isK ts E1 3 Ah=false:=by simp only [isK,hx]
   rw [wg] at hE;simp only [Bool.false_eq_true,if_false] at hE;rw [hE] at h2';simp at h2';simp [hl,hl',h2']
theorem HJ (ts:List Wd) (r:Sr) (k:Nat) (s:List UInt8):r.at_≤(A1 ts r k s).2.at_∧(r.at_≤ts.length→(A1 ts r k s).2.at_≤ts.length):=by
 unfold A1
 split
 ·rename_i h
  have:=(D8 h).1;exact ⟨Nat.le_succ _,fun _=>this⟩
 ·exact ⟨Nat.le_refl _,fun h=>h⟩
theorem RP {α:Type} {ts:List Wd} {z:α} {of:List Wd→α × Nat × Option (Nat × Nat)} (h:∀l,(of l).2.1≤l.length) (r:Sr):r.at_≤(Dc ts z of r).2.at_∧(r.at_≤ts.length→(Dc ts z of r).2.at_≤ts.length):=by
 unfold Dc
 split
 ·exact ⟨Nat.le_refl _,fun h=>h⟩
 ·split
  ·exact ⟨Nat.le_refl _,fun h=>h⟩
  ·have:=h (ts.drop r.at_)
   rw [List.length_drop] at this;exact ⟨Nat.le_add_right _ _,fun h=>by simp only;omega⟩
theorem Wo (ts:List Wd) (r:Sr):r.at_≤(Cg ts r).2.at_∧(r.at_≤ts.length→(Cg ts r).2.at_≤ts.length):=RP (fun l=>(Ky l).1) r
theorem nQ (ts:List Wd) (r:Sr):r.at_≤(Ez ts r).2.at_∧(r.at_≤ts.length→(Ez ts r).2.at_≤ts.length):=RP (fun l=>(N1 l).1) r
theorem nR (ts:List Wd) (r:Sr):r.at_≤(toW ts r).2.at_∧(r.at_≤ts.length→(toW ts r).2.at_≤ts.length):=by
 unfold toW
 split
 ·refine RP (fun l => ?_) r
  have:=(Ky (l.take (GZ ts r.at_-r.at_))).1;rw [List.length_take] at this;omega
 ·exact ⟨Nat.le_refl _,fun h=>h⟩
theorem RQ (ts:List Wd):∀(n:Nat) (d:List Int) (r:Sr),r.at_≤(DV ts n d r).2.at_∧(r.at_≤ts.length→(DV ts n d r).2.at_≤ts.length)
 |0,d,r=>⟨Nat.le_refl _,fun h=>h⟩
 |n+1,d,r=>by
  unfold DV
  split
  ·exact ⟨Nat.le_refl _,fun h=>h⟩
  ·obtain ⟨a1,a2⟩:=HJ ts r 2 []
   generalize A1 ts r 2 []=m at *;simp only;obtain ⟨r1,s6⟩:∃r1,r1=if m.1.n=0 then m.2.fail r.at_ 1 else m.2:=⟨_,rfl⟩
   rw [←s6];have h1:r1.at_=m.2.at_:=by rw [s6];split<;>rfl
   split
   ·rename_i hc
    have hl:=(D8 hc).1;obtain ⟨r2,sx⟩:∃r2,r2=(if (d++[(m.1.n:Int)]).length=4 then r1.fail r1.at_ 4 else r1).step:=⟨_,rfl⟩
    rw [←sx];have h2:r2.at_=r1.at_+1:=by rw [sx];split<;>rfl
    obtain ⟨b1,b2⟩:=RQ ts n (d++[(m.1.n:Int)]) r2;exact ⟨by omega,fun h=>b2 (by omega)⟩
   ·exact ⟨by simp only;omega,fun h=>by have:=a2 h;simp only;omega⟩
theorem RR (ts:List Wd) (r:Sr):r.at_≤(DP ts r).2.at_∧(r.at_≤ts.length→(DP ts r).2.at_≤ts.length):=by
 simp only [DP];obtain ⟨a1,a2⟩:=HJ ts r 1 [];generalize A1 ts r 1 []=m at *
 split
 ·rename_i hc
  have hl:=(D8 hc).1;obtain ⟨b1,b2⟩:=RQ ts 5 [] m.2.step;obtain ⟨c1,c2⟩:=HJ ts (DV ts 5 [] m.2.step).2 3 Ao;have hs:m.2.step.at_=m.2.at_+1:=rfl;exact ⟨by simp only;omega,fun h=>c2 (b2 (by omega))⟩
 ·exact ⟨a1,a2⟩
structure PrO (O:Orc) (ts:List Wd):Prop where
 fail:∀(r:Sr) (p c:Nat) (H:AH),O 52 [.ptr 0 0,.int .i64 (p:Int),.int .i64 (c:Int)] (pbx ts r::H)=some (.tup [],pbx ts (r.fail p c)::H)
 is:∀(r:Sr) (k:Nat) (s:List UInt8) (H:AH),O 107 [.ptr 0 0,.int .i64 (k:Int),.str s] (pbx ts r::H)=some (.bool (isW ts r k s),pbx ts r::H)
 takes:∀(r:Sr) (k:Nat) (s:List UInt8) (H:AH),O 104 [.ptr 0 0,.int .i64 (k:Int),.str s] (pbx ts r::H)=some (.bool (isW ts r k s),pbx ts (CO ts r k s)::H)
 must:∀(r:Sr) (k:Nat) (s:List UInt8) (H:AH),O 75 [.ptr 0 0,.int .i64 (k:Int),.str s] (pbx ts r::H)=some (.agg (BD (A1 ts r k s).1),pbx ts (A1 ts r k s).2::H)
noncomputable def Lpr (ts:List Wd) (sT:ts.length<1000000):List (AF zP AG):=[Di ts,Hq ts,Fm ts sT,Jw ts sT]
theorem Wp (ts:List Wd) (sT:ts.length<1000000):PrO (oOf (Lpr ts sT)) ts:=by
 have hL:((Lpr ts sT).map (·.f)).Nodup:=show ([52,107,104,75]:List Nat).Nodup by decide
 exact ⟨fun r p c H=>L0 hL (show Di ts∈Lpr ts sT by simp [Lpr]) r p c H,fun r k s H=>RL hL (show Hq ts∈Lpr ts sT by simp [Lpr]) r k s H,fun r k s H=>N6 sT hL (show Fm ts sT∈Lpr ts sT by simp [Lpr]) r k s H,
  fun r k s H=>RM sT hL (show Jw ts sT∈Lpr ts sT by simp [Lpr]) r k s H⟩
theorem Wq (ts:List Wd) (sT:ts.length<1000000):Cx (oOf (Lpr ts sT)) zP AG:=Bq _ Bw Ae
def RS {α:Type} (l:List α):AH:=if l=[] then [] else [some (.tok l.length)]
@[simp] theorem rz {α:Type}:RS ([]:List α)=[]:=AP rfl
@[simp] theorem r8 {α:Type} (x:α) (l:List α):RS (x::l)=[some (.tok (l.length+1))]:=AP rfl
@[simp] theorem buSit (s:List UInt8):Ay zP 179 [(0,.str s)]=some (.agg [.str s,.nilSlice]):=by kernel_rfl
@[simp] theorem bsSit (s:List UInt8) (v:AV):Cr zP 40 1 [(0,.agg [.str s,v])]=some (.slice .full 2 1 [.str s,v]):=by kernel_rfl
theorem Wr:B6 zP 40 2=true:=by kernel_rfl
def DimP (ts:List Wd) (nm:List UInt8) (res:List Int × Sr) (k:Nat) (t:List AV) (H:AH):Prop :=
 ∃(d:List Int) (r:Sr),DV ts k d r=res∧k+d.length=5∧(r.err=none→d.length<4)∧r.at_≤ts.length ∧
  t=mkT 60 [(0,.ptr 0 0),(2,.ptr 1 0),(3,.ptr 2 0)]∧H=pbx ts r::some (.box [.str [],.nilSlice])::some (.box [.str nm,Ad.tk 3 d])::RS d
theorem nS (ts:List Wd) (sT:ts.length<1000000) (r:Sr) (hr:r.at_≤ts.length) {H:AH} {id:Nat} (hH:H.at id=some (.box (r.pc ts))) :
  CS zP AG 127 [.ptr id 0] H (.agg (itE.c (DP ts r).1)) (H.set id (some (.box ((DP ts r).2.pc ts)))):=by
 refine CS.rd BL Tryz.func127 (by kernel_rfl) 0 (by simp [Tryz.f127]) (fun B hB hG => ?_) (by simp) (by simp [Gk]) (C3 _ _) (C3 _ _) hH;have X:=Wq ts sT;have hO:=Wp ts sT;generalize oOf (Lpr ts sT)=O at X hO;have f1:=fun H=>hO.must r 1 [] H
 obtain ⟨a1,a2⟩:=HJ ts r 1 [];have hi:DP ts r=if isW ts (A1 ts r 1 []).2 3 Ah then (⟨(A1 ts r 1 []).1.text,(DV ts 5 [] (A1 ts r 1 []).2.step).1⟩,(A1 ts (DV ts 5 [] (A1 ts r 1 []).2.step).2 3 Ao).2) else (⟨(A1 ts r 1 []).1.text,[]⟩,(A1 ts r 1 []).2):=rfl
 rw [hi];generalize A1 ts r 1 []=m at *;obtain ⟨w,r1⟩:=m;have f2:=fun H=>hO.takes r1 3 Ah H
 refine Tr.goD X hG ?_;simp [pbx,BD] at f1;cases tD:isW ts r1 3 Ah with
 |false =>rw [tD,HH tD] at f2;simp [pbx,Ah] at f2;simp [Tryz.f127,Sr.pc,f1,f2,Gk]
 |true =>
  rw [tD,HG tD] at f2;have tz:=(D8 tD).1;have hs:r1.step.at_=r1.at_+1:=rfl;have so:pbx ts r1.step=some (.box [AD ts,.int .i64 ((r1.at_:Int)+1),erI r1.err]):=by simp [pbx,Sr.step]
  rw [so] at f2;simp [pbx,Ah] at f2;simp only [if_true];generalize sV:DV ts 5 [] r1.step=res;obtain ⟨u1,u2⟩:=RQ ts 5 [] r1.step;rw [sV] at u1 u2;have hu:=u2 (by omega);simp [Tryz.f127,Sr.pc,f1,f2]
  refine LpD.loopN X hG (DimP ts w.text res) 5 (t':=mkT 60 [(0,.ptr 0 0),(2,.ptr 1 0),(3,.ptr 2 0)]) (H':=pbx ts r1.step::some (.box [.str [],.nilSlice])::some (.box [.str w.text,.nilSlice])::[])
   (AE.mkK 3 (by simp [hB]) (by simp) (by simp [so]) (by simp [so])) ⟨[],r1.step,sV,rfl,fun _=>by decide,by omega,rfl,by simp⟩ ?_
  clear f1 f2 tD tz hs so u1 u2 a1 a2 hi sV;rintro k t H ⟨d,q,sV,hkd,un,hq,rfl,rfl⟩;have fin:=fun (q:Sr) H=>hO.must q 3 Ao H
  have tA:=Ad.tk_cut (show ¬3<1 by omega);simp [Ao,pbx] at fin;cases he:q.err with
  |some y =>
   obtain rfl:res=(d,q):=by
    rw [←sV];cases k with
    |zero=>rfl
    |succ k=>simp only [DV,he]
   have fin:=fun H=>fin q H
   rw [he] at fin;simp [Bj,pbx,he,fin,Gk,tA,Ao]
  |none =>
   have un:=un he;obtain ⟨k,rfl⟩:∃j,k=j+1:=⟨k-1,by omega⟩
   have fm:=fun H=>hO.must q 2 [] H
   obtain ⟨a1,a2⟩:=HJ ts q 2 [];obtain ⟨m,hm⟩:∃m,m=A1 ts q 2 []:=⟨_,rfl⟩
   obtain ⟨q2,vD⟩:∃q2,q2=if m.1.n=0 then m.2.fail q.at_ 1 else m.2:=⟨_,rfl⟩
   have wO:DV ts (k+1) d q=if isW ts q2 3 A0 then DV ts k (d++[(m.1.n:Int)]) (if (d++[(m.1.n:Int)]).length=4 then q2.fail q2.at_ 4 else q2).step else (d++[(m.1.n:Int)],q2):=by rw [vD,hm];simp only [DV,he]
   rw [wO] at sV;rw [←hm] at fm a1 a2
   have zW:q2.at_≤ts.length:=by
    have:q2.at_=m.2.at_:=by rw [vD];split<;>rfl
    have:=a2 hq;omega
   have ff:=fun H=>hO.fail m.2 q.at_ 1 H
   have fi:=fun H=>hO.is q2 3 A0 H
   have f4:=fun H=>hO.fail q2 q2.at_ 4 H
   clear hm wO a1 a2;obtain ⟨w2,q1⟩:=m;simp only at vD sV ff fm;simp [pbx,BD,he] at fm;simp [pbx] at ff;simp [pbx,A0] at fi;simp [pbx] at f4;have fin:=fun H=>fin q2 H
   have yr:A1 ts q2 3 [41]=A1 ts q2 3 Ao:=rfl
   have hz:(w2.n=0∧q2=q1.fail q.at_ 1)∨(¬w2.n=0∧q2=q1):=by
    by_cases h:w2.n=0
    ·exact .inl ⟨h,by rw [vD,if_pos h]⟩
    ·exact .inr ⟨h,by rw [vD,if_neg h]⟩
   clear vD;have hav:∀z:Int,Ad.av [z] = .slice .unk 1 1 [.int .i64 z]:=fun z=>rfl
   have sb:=fun (z:Int) H ow=>GT (P:=zP) (t:=129) (sz:=1) (m:=1) (H:=H) (fid:=3) (ow:=ow) (ys:=[.int .i64 z]) I1 (by decide) (by decide) (by simp)
   have yA:=fun (z x:Int) (d:List Int) H ow (h:AH.at H 3=some (.tok (x::d).length)) (hd:d.length<4)=>Eu (P:=zP) (t:=129) (sz:=1) (n:=(x::d).length) (m:=1) (H:=H) (fid:=4) (ow:=ow) (xs:=Ad.row (x::d)) (ys:=[.int .i64 z]) I1 h (by decide) (by simp;omega) (by simp)
   have wh:∀(z x:Int) (d:List Int),Ad.row (x::d)++[.int .i64 z]=Ad.row (x::d++[z]):=fun z x d=>by rw [Ad.row_append];rfl
   have sy:∀(x:Int) (d:List Int),Ad.tk 3 (x::d) = .slice (.tok 3) 1 (d.length+1) (Ad.row (x::d)):=fun x d=>rfl
   have zAe:∀(z x:Int) (d:List Int),Ad.av (x::(d++[z])) = .slice .unk 1 (d.length+1+1) (Ad.row (x::d++[z])):=fun z x d=>by rw [Ad.av_cons,List.length_append];rfl
   have sX:=fun l=>Ad.row_strip 1 l
   simp only [wh] at yA;simp at yA zAe sX;cases hc:isW ts q2 3 A0 with
   |false =>
    rw [hc] at sV;obtain rfl:(d++[(w2.n:Int)],q2)=res:=sV;have hc':isW ts q2 3 [44]=false:=hc;rw [hc'] at fi;simp only;rcases hz with ⟨hz,rfl⟩|⟨hz,rfl⟩
    ·cases d with
     |nil=>simp [pbx,he,fm,ff,hz,sb,fi,fin,Bj,Gk,hav,Ao]
     |cons x d =>
      have xO:d.length<4:=by simp at un;omega
      simp [pbx,he,fm,ff,hz,sy,yA,xO,fi,fin,Bj,Gk,zAe,sX,Ao]
    ·have hz':((w2.n:Int)==0)=false:=by rw [beq_eq_false_iff_ne];omega
     cases d with
     |nil=>simp [pbx,he,fm,ff,hz,hz',sb,fi,fin,Bj,Gk,hav,Ao]
     |cons x d =>
      have xO:d.length<4:=by simp at un;omega
      simp [pbx,he,fm,ff,hz,hz',sy,yA,xO,fi,fin,Bj,Gk,zAe,sX,Ao]
   |true =>
    obtain ⟨se,s8⟩:=D8 hc
    have uo:¬w2.n=0∧q2=q1:=by
     rcases hz with ⟨_,h⟩|h
     ·rw [h] at s8
      simp [Sr.fail] at s8
     ·exact h
    clear hz;obtain ⟨hz,rfl⟩:=uo;have hz':((w2.n:Int)==0)=false:=by rw [beq_eq_false_iff_ne];omega
    rw [hc] at sV;simp only [if_true] at sV;have hc':isW ts q2 3 [44]=true:=hc;rw [hc'] at fi;simp only [s8,RJ] at fi fm f4;have wa:IntKind.i64.wrap ((q2.at_:Int)+1)=(q2.at_:Int)+1:=AZ (by omega) (by omega);have tM:∀(m:Nat) (l:List Int),lowL m (Ad.row l)=true:=fun m l=>Ad.row_lowm m l
    cases d with
    |nil =>
     have sV:DV ts k [(w2.n:Int)] q2.step=res:=by simpa using sV
     simp [pbx,he,s8,fm,hz,hz',sb,fi,wa];exact Nxt.mk k (by omega) (AE.mkK 4 (by simp [hB]) (by simp) (by simp [pbx,Sr.step,s8,sy,Lx,Enc.row]) (by simp [pbx,Sr.step,s8,sy,Lx,Enc.row])) ⟨[(w2.n:Int)],q2.step,sV,by simp at hkd ⊢;omega,fun _=>by simp,by simp only [Sr.step];omega,rfl,rfl⟩
    |cons x d =>
     have xO:d.length<4:=by simp at un;omega
     have hd5:d.length<3:=by simp at un;omega
     have ui:∀z:Int,Ad.tk 3 (x::(d++[z])) = .slice (.tok 3) 1 (d.length+1+1) (Ad.row (x::(d++[z]))):=fun z=>by rw [Ad.tk_ne 3 (by simp),List.length_cons,List.length_append];rfl
     by_cases h4:d.length+1+1=4
     ·have h4':((d.length:Int)+1+1==4)=true:=by rw [beq_iff_eq];omega
      have yw:(d.length:Int)+1+1=4:=by omega
      have sV:DV ts k (x::d++[(w2.n:Int)]) (q2.fail q2.at_ 4).step=res:=by
       have:(x::d++[(w2.n:Int)]).length=4:=by simp;omega
       rwa [if_pos this] at sV
      have wP:(q2.fail q2.at_ 4).at_=q2.at_:=rfl;simp only [wP] at f4;simp [pbx,he,s8,fm,hz,hz',sy,yA,xO,fi,wa,yw,f4];exact Nxt.mk k (by omega) (AE.mkK 4 (by simp [hB]) (by simp) (by simp [tM,pbx,Sr.step,Sr.fail,s8,ui]) (by simp [tM,pbx,Sr.step,Sr.fail,s8,ui])) ⟨x::d++[(w2.n:Int)],(q2.fail q2.at_ 4).step,sV,by simp at hkd ⊢;omega,fun h=>by simp [Sr.step,Sr.fail] at h,by simp only [Sr.step,Sr.fail];omega,rfl,rfl⟩
     ·have yw:¬(d.length:Int)+1+1=4:=by omega
      have sV:DV ts k (x::d++[(w2.n:Int)]) q2.step=res:=by
       have:¬(x::d++[(w2.n:Int)]).length=4:=by simp;omega
       rwa [if_neg this] at sV
      simp [pbx,he,s8,fm,hz,hz',sy,yA,xO,fi,wa,yw];exact Nxt.mk k (by omega) (AE.mkK 4 (by simp [hB]) (by simp) (by simp [tM,pbx,Sr.step,Sr.fail,s8,ui]) (by simp [tM,pbx,Sr.step,Sr.fail,s8,ui])) ⟨x::d++[(w2.n:Int)],q2.step,sV,by simp at hkd ⊢;omega,fun _=>by simp;omega,by simp only [Sr.step];omega,rfl,rfl⟩
noncomputable def K0 (ts:List Wd) (sT:ts.length<1000000):AF zP AG:=AF.meth 127 (Sr.pc ts) (Fl ts) (fun (_:Unit) r=>r.at_≤ts.length) (fun _ _=>[]) (fun _ r => .agg (itE.c (DP ts r).1)) (fun _ r=>(DP ts r).2)
 (fun _ r h H id hH=>nS ts sT r h hH) (fun id x y r _ _ h=>⟨rfl,rfl⟩)
def HK (l:List It):AV:=if l.length=1 then .slice .full 2 1 (itE.row l) else .slice (.tok 1) 2 l.length (itE.row l)
def I4 (l:List It):AH:=if l.length=1 then [] else [some (.tok l.length)]
def K1 (l:List It):AV:=if l.length=1 then .slice .full 2 1 (itE.row l) else .slice .unk 2 l.length (itE.row l)
theorem nT {l:List It} (h:l≠[]) (g:Gh) (cv:Value) (hr:AA g (K1 l) cv):AA g (itE.av l) cv:=by
 rw [itE.av_ne h,RA];unfold K1 at hr
 split at hr
 ·rename_i h1;rw [h1];exact Ls g cv hr
 ·exact hr
theorem Ws (ts:List Wd):∀(n:Nat) (l:List It) (r:Sr),l≠[]→(F9 ts n l r).1≠[]
 |0,l,r,h=>h
 |n+1,l,r,h=>by
  simp only [F9]
  split
  ·exact Ws ts n _ _ (by simp)
  ·exact h
def ItP (ts:List Wd) (res:List It × Sr) (k:Nat) (t:List AV) (H:AH):Prop :=
 ∃(l:List It) (r:Sr),F9 ts k l r=res∧ts.length<k+r.at_∧r.at_≤ts.length∧l.length+k≤ts.length+2∧l≠[] ∧
  t=mkT 15 [(0,.ptr 0 0),(3,HK l)]∧H=pbx ts r::I4 l
theorem nU (ts:List Wd) (sT:ts.length<1000000) (r:Sr) (hr:r.at_≤ts.length) {H:AH} {id:Nat} (hH:H.at id=some (.box (r.pc ts))) :
  CS zP AG 102 [.ptr id 0] H (itE.av (GA ts r).1) (H.set id (some (.box ((GA ts r).2.pc ts)))):=by
 refine CS.weak (v:=K1 (GA ts r).1) ?_ (nT (Ws ts _ _ _ (by simp)));have zF:∀l,low 0 (K1 l)=true:=fun l=>by unfold K1;split<;>simp [itE.row_lowm]
 refine CS.rd BL Tryz.func102 (by kernel_rfl) 0 (by simp [Tryz.f102]) (fun B hB hG => ?_) (by simp) (zF _) (C3 _ _) (C3 _ _) hH;have hL:([K0 ts sT,Fm ts sT].map (·.f)).Nodup:=show ([127,104]:List Nat).Nodup by decide
 have X:=Bq [K0 ts sT,Fm ts sT] Bw Ae;have f1:=fun q (h:q.at_≤ts.length) H=>B0 hL (show K0 ts sT∈[K0 ts sT,Fm ts sT] by simp) () q (H:=pbx ts q::H) (id:=0) rfl h
 have f2:=fun q H=>N6 sT hL (show Fm ts sT∈[K0 ts sT,Fm ts sT] by simp) q 3 A0 H
 generalize oOf [K0 ts sT,Fm ts sT]=O at X f1 f2;refine Tr.goD X hG ?_;simp only [Gk,Sr.pc,pbx,A0] at f1 f2;simp at f1 f2;simp only [GA];obtain ⟨a1,a2⟩:=RR ts r;have g1:=f1 r hr;have g2:=f2 (DP ts r).2;generalize hm:DP ts r=m at *;obtain ⟨x,r1⟩:=m;have s6:=a2 hr;simp only at g1 g2 s6 ⊢;generalize sV:F9 ts (ts.length+1) [x] r1=res;simp [Tryz.f102,Sr.pc,g1]
 refine LpD.loopN X hG (ItP ts res) (ts.length+1) (t':=mkT 15 [(0,.ptr 0 0),(3,HK [x])]) (H':=[pbx ts r1])
  (AE.mkK 1 (by simp [hB]) (by simp [HK,Enc.row,Gk]) (by simp [HK,Enc.row,Gk,pbx]) (by simp [pbx])) ⟨[x],r1,sV,by omega,s6,by simp;omega,by simp,rfl,by simp [I4]⟩ ?_
 clear sV hm a1 a2 g1 g2 s6;rintro k t H ⟨l,q,sV,uk,hq,yx,ss,rfl,rfl⟩;obtain ⟨k,rfl⟩:∃j,k=j+1:=⟨k-1,by omega⟩
 have sX:F9 ts (k+1) l q=if isW ts q 3 A0 then F9 ts k (l++[(DP ts q.step).1]) (DP ts q.step).2 else (l,q):=rfl
 rw [sX] at sV;have h2:=f2 q;have si:=fun (m:Nat) (l:List It)=>itE.row_lowm m l
 have zAf:=fun (n:Nat) (l:List It)=>itE.row_strip n l
 cases hc:isW ts q 3 A0 with
 |false =>
  rw [hc] at sV;obtain rfl:(l,q)=res:=sV;have hc':isW ts q 3 [44]=false:=hc;have ht':CO ts q 3 [44]=q:=HH hc;rw [hc',ht'] at h2
  by_cases vu:l.length=1
  all_goals
   simp [pbx,h2,Bj,HK,K1,vu,zAf]
 |true =>
  rw [hc] at sV;simp only [if_true] at sV;have hc':isW ts q 3 [44]=true:=hc;have ht':CO ts q 3 [44]=q.step:=HG hc;rw [hc',ht'] at h2;obtain ⟨hl,he⟩:=D8 hc;have hs:q.step.at_=q.at_+1:=rfl;have h1:=f1 q.step (by omega);obtain ⟨a1,a2⟩:=RR ts q.step;have zW:=a2 (by omega);generalize DP ts q.step=m at *;obtain ⟨y,q2⟩:=m;simp only at h1 zW sV a1;simp only [Sr.step] at h1 h2;simp at h1 h2
  by_cases vu:l.length=1
  ·have sb:=fun H=>Pm (P:=zP) (t:=40) (sz:=2) (n:=1) (m:=1) (H:=H) (fid:=1) (ow := .full) (xs:=itE.row l) (ys:=[.str y.name,Ad.av y.dims]) Wr (by decide) (by decide) (by simp)
   have wh:itE.row l++[.str y.name,Ad.av y.dims]=itE.row (l++[y]):=by rw [itE.row_append,itE.row_one1];rfl
   rw [wh] at sb;have ho:HK l = .slice .full 2 1 (itE.row l):=if_pos vu;have uA:HK (l++[y]) = .slice (.tok 1) 2 2 (itE.row (l++[y])):=by unfold HK;rw [if_neg (by simp;omega)];simp [vu]
   have hh:I4 l=[]:=if_pos vu;have yy:I4 (l++[y])=[some (.tok 2)]:=by unfold I4;rw [if_neg (by simp;omega)];simp [vu]
   rw [ho,hh];simp [pbx,h2,h1,sb];exact Nxt.mk k (by omega) (AE.mkK 2 (by simp [hB]) (by simp [uA,si]) (by simp [pbx,yy,uA,si]) (by simp [pbx,yy])) ⟨l++[y],q2,sV,by omega,zW,by simp;omega,by simp,rfl,rfl⟩
  ·have sb:=fun H (h:AH.at H 1=some (.tok l.length))=>Eu (P:=zP) (t:=40) (sz:=2) (n:=l.length) (m:=1) (H:=H) (fid:=2) (ow := .full) (xs:=itE.row l) (ys:=[.str y.name,Ad.av y.dims]) Wr h (by decide) (by omega) (by simp)
   have wh:itE.row l++[.str y.name,Ad.av y.dims]=itE.row (l++[y]):=by rw [itE.row_append,itE.row_one1];rfl
   rw [wh] at sb;have ho:HK l = .slice (.tok 1) 2 l.length (itE.row l):=if_neg vu
   have uA:HK (l++[y]) = .slice (.tok 1) 2 (l.length+1) (itE.row (l++[y])):=by
    have:l.length≠0:=fun h=>ss (List.length_eq_zero_iff.1 h)
    unfold HK;rw [if_neg (by simp;omega)];simp
   have hh:I4 l=[some (.tok l.length)]:=if_neg vu
   have yy:I4 (l++[y])=[some (.tok (l.length+1))]:=by
    have:l.length≠0:=fun h=>ss (List.length_eq_zero_iff.1 h)
    unfold I4;rw [if_neg (by simp;omega)];simp
   rw [ho,hh];simp [pbx,h2,h1,sb];exact Nxt.mk k (by omega) (AE.mkK 2 (by simp [hB]) (by simp [uA,si]) (by simp [pbx,yy,uA,si]) (by simp [pbx,yy])) ⟨l++[y],q2,sV,by omega,zW,by simp;omega,by simp,rfl,rfl⟩
theorem nV (ts:List Wd) (sT:ts.length<1000000) (r:Sr) (hr:r.at_≤ts.length) {H:AH} {id:Nat} (hH:H.at id=some (.box (r.pc ts))) :
  CS zP AG 103 [.ptr id 0] H (.int .i64 (FN ts r).1) (H.set id (some (.box ((FN ts r).2.pc ts)))):=by
 refine CS.rd BL Tryz.func103 (by kernel_rfl) 0 (by simp [Tryz.f103]) (fun B hB hG => ?_) (by simp) (by simp) (C3 _ _) (C3 _ _) hH;have X:=Wq ts sT;have hO:=Wp ts sT;generalize oOf (Lpr ts sT)=O at X hO;refine Tr.goD X hG ?_;have f1:=fun H=>hO.takes r 3 A0 H
 cases hc:isW ts r 3 A0 with
 |false =>rw [hc,HH hc] at f1;simp [pbx,A0] at f1;simp [Tryz.f103,Sr.pc,f1,FN,hc]
 |true =>
  rw [hc,HG hc] at f1;have f2:=fun H=>hO.takes r.step 3 BY H
  have so:pbx ts r.step=some (.box [AD ts,.int .i64 ((r.at_:Int)+1),erI r.err]):=by simp [pbx,Sr.step]
  cases hm:isW ts r.step 3 BY with
  |false =>
   rw [hm,HH hm] at f2;have f3:=fun H=>hO.must r.step 2 [] H
   simp only [FN,hc,hm,if_true,Bool.false_eq_true,if_false];generalize A1 ts r.step 2 []=m at *;rw [so] at f1 f2 f3;simp [pbx,A0] at f1;simp [BY] at f2;simp [BD,pbx] at f3;simp [Tryz.f103,Sr.pc,f1,f2,f3]
  |true =>
   rw [hm,HG hm] at f2;have f3:=fun H=>hO.must r.step.step 2 [] H
   have sh:pbx ts r.step.step=some (.box [AD ts,.int .i64 ((r.at_:Int)+1+1),erI r.err]):=by simp [pbx,Sr.step]
   simp only [FN,hc,hm,if_true];generalize A1 ts r.step.step 2 []=m at *;rw [so] at f1 f2;rw [sh] at f2 f3;simp [pbx,A0] at f1;simp [BY] at f2;simp [BD,pbx] at f3;simp [Tryz.f103,Sr.pc,f1,f2,f3,NL]
noncomputable def Wu (ts:List Wd) (sT:ts.length<1000000):AF zP AG:=AF.meth 102 (Sr.pc ts) (Fl ts) (fun (_:Unit) r=>r.at_≤ts.length) (fun _ _=>[]) (fun _ r=>itE.av (GA ts r).1) (fun _ r=>(GA ts r).2)
 (fun _ r h H id hH=>nU ts sT r h hH) (fun id x y r _ _ h=>⟨rfl,rfl⟩)
noncomputable def Wv (ts:List Wd) (sT:ts.length<1000000):AF zP AG:=AF.meth 103 (Sr.pc ts) (Fl ts) (fun (_:Unit) r=>r.at_≤ts.length) (fun _ _=>[]) (fun _ r => .int .i64 (FN ts r).1) (fun _ r=>(FN ts r).2)
 (fun _ r h H id hH=>nV ts sT r h hH) (fun id x y r _ _ h=>⟨rfl,rfl⟩)
noncomputable def N8 (ts:List Wd) (sT:ts.length<1000000):AF zP AG:=AF.meth 76 (Sr.pc ts) (Fl ts) (fun (_:Unit) r=>r.at_≤ts.length) (fun _ _=>[]) (fun _ r => .agg (tC (Cg ts r).1.tn)) (fun _ r=>(Cg ts r).2)
 (fun _ r h H id hH=>nI ts sT r h hH) (fun id x y r _ _ h=>⟨rfl,rfl⟩)
noncomputable def N9 (ts:List Wd) (sT:ts.length<1000000):AF zP AG:=AF.meth 74 (Sr.pc ts) (Fl ts) (fun (_:Unit) r=>r.at_≤ts.length) (fun _ _=>[]) (fun _ r => .agg (tC (toW ts r).1.tn)) (fun _ r=>(toW ts r).2)
 (fun _ r h H id hH=>nP ts sT r h hH) (fun id x y r _ _ h=>⟨rfl,rfl⟩)
structure KpO (O:Orc) (ts:List Wd):Prop where
 fail:∀(r:Sr) (p c:Nat) (H:AH),O 52 [.ptr 0 0,.int .i64 (p:Int),.int .i64 (c:Int)] (pbx ts r::H)=some (.tup [],pbx ts (r.fail p c)::H)
 takes:∀(r:Sr) (k:Nat) (s:List UInt8) (H:AH),O 104 [.ptr 0 0,.int .i64 (k:Int),.str s] (pbx ts r::H)=some (.bool (isW ts r k s),pbx ts (CO ts r k s)::H)
 must:∀(r:Sr) (k:Nat) (s:List UInt8) (H:AH),O 75 [.ptr 0 0,.int .i64 (k:Int),.str s] (pbx ts r::H)=some (.agg (BD (A1 ts r k s).1),pbx ts (A1 ts r k s).2::H)
 items:∀(r:Sr) (H:AH),r.at_≤ts.length→O 102 [.ptr 0 0] (pbx ts r::H)=some (itE.av (GA ts r).1,pbx ts (GA ts r).2::H)
 step:∀(r:Sr) (H:AH),r.at_≤ts.length→O 103 [.ptr 0 0] (pbx ts r::H)=some (.int .i64 (FN ts r).1,pbx ts (FN ts r).2::H)
 expr:∀(r:Sr) (H:AH),r.at_≤ts.length→O 76 [.ptr 0 0] (pbx ts r::H)=some (.agg (tC (Cg ts r).1.tn),pbx ts (Cg ts r).2::H)
 to:∀(r:Sr) (H:AH),r.at_≤ts.length→O 74 [.ptr 0 0] (pbx ts r::H)=some (.agg (tC (toW ts r).1.tn),pbx ts (toW ts r).2::H)
 cond:∀(r:Sr) (H:AH),r.at_≤ts.length→O 105 [.ptr 0 0,.func (.func 106) [] []] (pbx ts r::H)=some (FQ (Ez ts r).1,pbx ts (Ez ts r).2::H)
noncomputable def Lkp (ts:List Wd) (sT:ts.length<1000000):List (AF zP AG):=[Di ts,Fm ts sT,Jw ts sT,Wu ts sT,Wv ts sT,N8 ts sT,N9 ts sT,Wj ts sT]
theorem nW (ts:List Wd) (sT:ts.length<1000000):KpO (oOf (Lkp ts sT)) ts:=by
 have hL:((Lkp ts sT).map (·.f)).Nodup:=show ([52,104,75,102,103,76,74,105]:List Nat).Nodup by decide
 exact ⟨fun r p c H=>L0 hL (show Di ts∈Lkp ts sT by simp [Lkp]) r p c H,fun r k s H=>N6 sT hL (show Fm ts sT∈Lkp ts sT by simp [Lkp]) r k s H,fun r k s H=>RM sT hL (show Jw ts sT∈Lkp ts sT by simp [Lkp]) r k s H,
  fun r H h=>B0 hL (show Wu ts sT∈Lkp ts sT by simp [Lkp]) () r (H:=pbx ts r::H) (id:=0) rfl h,fun r H h=>B0 hL (show Wv ts sT∈Lkp ts sT by simp [Lkp]) () r (H:=pbx ts r::H) (id:=0) rfl h,
  fun r H h=>B0 hL (show N8 ts sT∈Lkp ts sT by simp [Lkp]) () r (H:=pbx ts r::H) (id:=0) rfl h,fun r H h=>B0 hL (show N9 ts sT∈Lkp ts sT by simp [Lkp]) () r (H:=pbx ts r::H) (id:=0) rfl h,
  fun r H h=>B0 hL (show Wj ts sT∈Lkp ts sT by simp [Lkp]) () r (H:=pbx ts r::H) (id:=0) rfl h⟩
theorem nX (ts:List Wd) (sT:ts.length<1000000):Cx (oOf (Lkp ts sT)) zP AG:=Bq _ Bw Ae
@[simp] theorem buSp0:Ay zP 47 []=some (.agg (Sx.c ⟨0,[],t0,t0,[],t0,t0,[],t0,t0,0⟩)):=by kernel_rfl
theorem nY (ts:List Wd) (sT:ts.length<1000000) (word:List UInt8) (r:Sr) (hr:r.at_≤ts.length) {H:AH} {id:Nat} (hH:H.at id=some (.box (r.pc ts))) :
  CS zP AG 73 [.ptr id 0,.str word] H (.agg (Gb ts word r).1.x.c) (H.set id (some (.box ((Gb ts word r).2.pc ts)))):=by
 refine CS.rd BL Tryz.func73 (by kernel_rfl) 0 (by simp [Tryz.f73]) (fun B hB hG => ?_) (by simp) (by simp [Sx.c_low]) (C3 _ _) (C3 _ _) hH;have X:=nX ts sT;have hO:=nW ts sT;generalize oOf (Lkp ts sT)=O at X hO;refine Tr.goD X hG ?_;unfold Gb
 by_cases h1:word=Io
 ·subst h1
  have f1:=fun H=>hO.items r H hr
  simp only [if_true];generalize GA ts r=m at *;simp only [pbx] at f1;simp [Tryz.f73,Sr.pc,f1,Sx.c,Sm.x,B2,Io]
 rw [if_neg h1]
 by_cases h2:word=doT
 ·subst h2
  rw [if_pos rfl];have f1:=fun H=>hO.must r 1 [] H
  have u1:=(HJ ts r 1 []).2 hr;unfold doW;generalize A1 ts r 1 []=m at *;obtain ⟨nm,r1⟩:=m;simp only at f1 u1 ⊢;have f2:=fun H=>hO.must r1 3 isT H
  have u2:=(HJ ts r1 3 isT).2 u1;generalize A1 ts r1 3 isT=m2 at *;obtain ⟨w2,r2⟩:=m2;simp only at f2 u2 ⊢;have f3:=fun H=>hO.expr r2 H u2
  have u3:=(Wo ts r2).2 u2;generalize Cg ts r2=a at *;obtain ⟨lo,r3⟩:=a;simp only at f3 u3 ⊢;have f4:=fun H=>hO.must r3 3 A0 H
  have u4:=(HJ ts r3 3 A0).2 u3;generalize A1 ts r3 3 A0=m4 at *;obtain ⟨w4,r4⟩:=m4;simp only at f4 u4 ⊢;have f5:=fun H=>hO.expr r4 H u4
  have u5:=(Wo ts r4).2 u4;generalize Cg ts r4=b at *;obtain ⟨hi,r5⟩:=b;simp only at f5 u5 ⊢;have f6:=fun H=>hO.step r5 H u5
  generalize FN ts r5=s at *;obtain ⟨st,r6⟩:=s;simp only [pbx,isT,A0,CY,BD] at f1 f2 f3 f4 f5 f6;simp at f1 f2 f4;simp [Tryz.f73,Sr.pc,f1,f2,f3,f4,f5,f6,Sx.c,Sm.x,B2,doT]
 rw [if_neg h2]
 by_cases h3:word=Hg
 ·subst h3
  rw [if_pos rfl];have f1:=fun H=>hO.takes r 4 ifT H
  cases hc:isW ts r 4 ifT with
  |true =>rw [hc,HG hc] at f1;generalize r.step=r1 at *;simp [pbx,ifT] at f1;simp [Tryz.f73,Sr.pc,f1,Sx.c,Sm.x,B2,Hg,Bj]
  |false =>
   rw [hc,HH hc] at f1;have f2:=fun H=>hO.must r 4 doT H
   simp only [Bool.false_eq_true,if_false];generalize A1 ts r 4 doT=m at *;simp [pbx,ifT] at f1;simp [pbx,doT,BD] at f2;simp [Tryz.f73,Sr.pc,f1,f2,Sx.c,Sm.x,B2,Hg,Bj]
 rw [if_neg h3]
 by_cases h4:word=ifT
 ·subst h4
  rw [if_pos rfl];unfold ifW;have f1:=fun H=>hO.must r 3 Ah H
  have u1:=(HJ ts r 3 Ah).2 hr;generalize A1 ts r 3 Ah=m at *;obtain ⟨w1,r1⟩:=m;simp only at f1 u1 ⊢;have f2:=fun H=>hO.cond r1 H u1
  have u2:=(nQ ts r1).2 u1;generalize Ez ts r1=c at *;obtain ⟨⟨op,ca,cb⟩,r2⟩:=c;simp only at f2 u2 ⊢;have f3:=fun H=>hO.must r2 3 Ao H
  have u3:=(HJ ts r2 3 Ao).2 u2;generalize A1 ts r2 3 Ao=m3 at *;obtain ⟨w3,r3⟩:=m3;simp only at f3 u3 ⊢;have f4:=fun H=>hO.must r3 4 Ga H
  generalize A1 ts r3 4 Ga=m4 at *;obtain ⟨w4,r4⟩:=m4;simp only [pbx,Ah,Ao,Ga,FQ,CY,BD,List.cons_append,List.nil_append] at f1 f2 f3 f4;simp at f1 f3 f4;simp [Tryz.f73,Sr.pc,f1,f2,f3,f4,Sx.c,Sm.x,B2,ifT]
 rw [if_neg h4]
 by_cases h5:word=Ip
 ·subst h5
  rw [if_pos rfl];simp [Tryz.f73,Sr.pc,Sx.c,Sm.x,B2,Ip]
 rw [if_neg h5]
 by_cases h6:word=Iq
 ·subst h6
  rw [if_pos rfl];have f1:=fun H=>hO.to r H hr
  generalize toW ts r=m at *;simp only [pbx,CY] at f1;simp [Tryz.f73,Sr.pc,f1,Sx.c,Sm.x,B2,Iq]
 rw [if_neg h6]
 by_cases h7:word=Ir
 ·subst h7
  rw [if_pos rfl];have f1:=fun H=>hO.expr r H hr
  generalize Cg ts r=m at *;simp only [pbx,CY] at f1;simp [Tryz.f73,Sr.pc,f1,Sx.c,Sm.x,B2,Ir]
 rw [if_neg h7];have f1:=fun H=>hO.fail r 0 2 H
 generalize r.fail 0 2=r1 at *;simp [pbx] at f1;simp only [Io,doT,Hg,ifT,Ip,Iq,Ir] at h1 h2 h3 h4 h5 h6 h7;simp [Tryz.f73,Sr.pc,f1,Sx.c,Sm.x,B2,h1,h2,h3,h4,h5,h6,h7]
def HL (b:UInt8):Bool := !(b.toNat==33)
def Cv (s:List UInt8):Nat:=Aq HL s
def B4 (s:List UInt8):List UInt8:=(CD s).take (Cv (CD s))
def El (s:List UInt8):AV := .tup [.str (B4 s),.str ((CD s).drop (Cv (CD s))),.str (G9 s)]
theorem Ww:∀s:List UInt8,Lib.indexByte s 33=if Cv s<s.length then (Cv s:Int) else -1
 |[]=>rfl
 |b::s=>by
  have ih:=Ww s;have sY:=F2 HL s;simp only [Lib.indexByte]
  by_cases h:b.toNat=33
  ·have hb:(b==33)=true:=by rw [beq_iff_eq];exact UInt8.toNat_inj.1 (by rw [h];rfl)
   have hn:Cv (b::s)=0:=by simp [Cv,Aq,HL,h]
   rw [if_pos hb,hn,if_pos (by simp)];rfl
  ·have hb:(b==33)=false:=by
    rw [beq_eq_false_iff_ne];intro h';exact h (by rw [h'];rfl)
   have hn:Cv (b::s)=Cv s+1:=by simp only [Cv,Aq,List.takeWhile_cons];rw [if_pos (by simp [HL,h])];rfl
   have hns:Cv s≤s.length:=sY;rw [if_neg (by simp [hb]),hn,ih]
   by_cases hl:Cv s<s.length
   ·have h2:((Cv s:Int) == -1)=false:=by simp only [beq_eq_false_iff_ne];omega
    simp only [if_pos hl,h2,Bool.false_eq_true,if_false];rw [if_pos (by simp only [List.length_cons];omega)];rfl
   ·have h1:((-1:Int) == -1)=true:=rfl
    simp only [if_neg hl,List.length_cons,h1,if_true];rw [if_neg (by omega)]
def RT:Orc:=B5 121 (fun args=>match args with
  |[.str s,.str [10]]=>if s.length<B7 then some s else none
  |_=>none) fun s => .bool (DW s)
theorem nZ:AS zP AM RT:=EK fun args x H h=>by
 split at h
 ·split at h
  ·rename_i s hs
   injection h with h;subst h;rw [ER] at hs;exact zAD Ih DN Ae (jI G5 s 0 H (by omega))
  ·cases h
 ·cases h
def OA (s:List UInt8):AV := .tup [.str (CD s),.bool (DW s)]
def RU:Orc:=B5 94 (fun args=>match args with
  |[.str s,.str [10]]=>if s.length<B7 then some s else none
  |_=>none) OA
theorem na:AS zP AM RU:=EK fun args x H h=>by
 split at h
 ·split at h
  ·rename_i s hs
   injection h with h;subst h;have hs':=hs;rw [ER] at hs';exact zAD nZ DN Ae (jJ RT s 0 H (by omega) (by simp [RT,B5,hs]))
  ·cases h
 ·cases h
def RV:Orc:=B5 69 (fun args=>match args with
  |[.str s,.str [10]]=>if s.length<B7 then some s else none
  |_=>none) OA
theorem ne:AS zP AM RV:=EK fun args x H h=>by
 split at h
 ·split at h
  ·rename_i s hs
   injection h with h;subst h;exact zAD na DN Ae (jK RU s 0 H (by simp [RU,B5,hs,OA]))
  ·cases h
 ·cases h
def RW:Orc:=B5 70 (fun args=>match args with
  |[.str s,.int .u8 33]=>some s
  |_=>none) fun s => .int .i64 (Lib.indexByte s 33)
theorem nf:AS zP AM RW:=EK fun args x H h=>by
 split at h
 ·rename_i s
  injection h with h;subst h;exact zAD Ih DN Ae (jL G5 s 33 _ 0 H (by simp [G5]))
 ·cases h
def oPp:Orc:=A5 [(69,RV),(70,RW)]
theorem Wy:AS zP AM oPp:=FZ fun p hp=>by
 simp only [List.mem_cons,List.not_mem_nil,or_false] at hp;rcases hp with rfl|rfl
 ·exact ne
 ·exact nf
theorem ng (s:List UInt8) (hs:s.length<B7) (H:AH):CS zP AM 48 [.str s] H (El s) H:=by
 have wN:oPp 69 [.str s,.str [10]] H=some (.tup [.str (CD s),.bool (DW s)],H):=by simp [oPp,A5,RV,B5,hs,OA]
 have vr:oPp 70 [.str (CD s),.int .u8 33] H=some (.int .i64 (Lib.indexByte (CD s) 33),H):=by simp [oPp,A5,RW,B5]
 have sY:=F2 HL (CD s);rw [Ww] at vr
 by_cases h:Cv (CD s)<(CD s).length
 ·rw [if_pos h] at vr
  exact zAD Wy DN Ae (jX oPp s _ 0 H wN vr (by omega))
 ·rw [if_neg h] at vr
  have uQ:Cv (CD s)=(CD s).length:=by unfold Cv at h ⊢;omega
  have:=zAD Wy DN Ae (jM oPp s _ 0 H wN vr (by omega));simpa [El,B4,uQ] using this
def nh (b e:List UInt8) (k:Nat) (t:List AV) (H:AH):Prop :=∃i,i+k=Cv b∧t=mkT 42 [(0,.str b),(5,.str e),(6,.int .i64 ((i:Nat):Int))]∧H=[]
theorem ni (B:Bs) (hB:B.H=[]) (hG:An AM B.g) (b e:List UInt8) (hb:b.length<B7) (a:List (Nat × AV)) (h0:(a.lookup 0).getD .undef = .str b) (h5:(a.lookup 5).getD .undef = .str e) :
  Tr zP B (Aj (Aj (Aj (At Tryz.f58)))) (mkT 42 a) [] (Fin zP Tryz.f58 0 0 (.tup [.str (b.take (Cv b)),.str (b.drop (Cv b)),.str e]) []):=by
 rw [ER] at hb;refine Tr.less (t':=mkT 42 [(0,.str b),(5,.str e)]) (H':=[]) (AE.mk0 hB (by simp [h0,h5])) ?_;refine Tr.go cxN hG (by kernel_rfl) ?_;simp [Tryz.f58];refine LpT.loop cxN hG (by kernel_rfl) (nh b e) (Cv b) (t':=mkT 42 [(0,.str b),(5,.str e),(6,.int .i64 ((0:Nat):Int))]) (H':=[]) (AE.mk0 hB (by simp)) ⟨0,by omega,rfl,rfl⟩ ?_;rintro k t H ⟨i,sa,rfl,rfl⟩;have sY:=F2 HL b
 change Cv b≤_ at sY
 cases k with
 |succ k =>
  obtain ⟨h1,h2⟩:=M2 HL b i (by show i<Cv b;omega);have f1:(i:Int)<b.length:=by omega
  have f2:¬(b[i].toNat:Int)=33:=by simp only [HL,Bool.not_eq_true',beq_eq_false_iff_ne] at h2;omega
  have w:IntKind.i64.wrap ((i:Int)+1)=(i:Int)+1:=AZ (by omega) (by omega);simp [f1,h1,f2,w];exact ⟨k,by omega,_,_,AE.mk0 hB (l':=[(0,.str b),(5,.str e),(6,.int .i64 ((i+1:Nat):Int))]) (by simp),i+1,by omega,rfl,rfl⟩
 |zero =>
  obtain rfl:i=Cv b:=by omega
  by_cases h:Cv b<b.length
  ·have h2:HL b[Cv b]=false:=M3 HL b h
   have f1:(Cv b:Int)<b.length:=by omega
   have f3:(Cv b:Int)≤b.length:=by omega
   have f2:(b[Cv b].toNat:Int)=33:=by simp only [HL,Bool.not_eq_false',beq_iff_eq] at h2;omega
   simp [f1,h,f2,f3]
  ·have f1:¬(Cv b:Int)<b.length:=by omega
   have h3:Cv b=b.length:=by omega
   simp [h3]
theorem nj {s:List UInt8} (h:0<s.length):DW s=(s[s.length-1].toNat==10):=by
 unfold DW
 have hd:s.drop (s.length-1)=[s[s.length-1]]:=by have:=List.drop_eq_getElem_cons (l:=s) (i:=s.length-1) (by omega);rw [this,List.drop_of_length_le (by omega)]
 rw [hd,decide_eq_true (by omega),Bool.true_and,Bool.eq_iff_iff];simp only [beq_iff_eq,List.cons.injEq,and_true]
 constructor
 ·intro h;rw [h];rfl
 ·intro h;exact UInt8.toNat_inj.1 (by rw [h];rfl)
theorem OB (s:List UInt8):(CD s).length≤s.length:=by
 unfold CD
 split
 ·rw [List.length_take];omega
 ·exact Nat.le_refl _
theorem nk (s:List UInt8) (hs:s.length<B7) (H:AH):CS zP AM 58 [.str s] H (El s) H:=by
 have hs':=hs;rw [ER] at hs';refine CS.tr0 Ew Tryz.func58 (by kernel_rfl) 0 (by simp [Tryz.f58]) (fun B hB hG => ?_) rfl rfl H;obtain ⟨R,hR⟩:∃R,R=Aj (Aj (Aj (At Tryz.f58))):=⟨_,rfl⟩
 have key:=ni B hB hG (CD s) (G9 s) (Nat.lt_of_le_of_lt (OB s) hs);rw [←hR] at key;refine Tr.pre cxN hG 3 (R:=R) (by rw [hR];kernel_rfl) (by kernel_rfl) (by kernel_rfl) ?_;rw [Dy]
 by_cases h0:0<s.length
 ·have f1:(0:Int)<s.length:=by omega
  have f2:IntKind.i64.wrap ((s.length:Int)-1)=(s.length:Int)-1:=AZ (by omega) (by omega);have f3:((s.length:Int)-1).toNat=s.length-1:=by omega
  have f4:(0:Int)≤(s.length:Int)-1:=by omega
  have f5:(s.length:Int)-1≤s.length:=by omega
  have f6:s.length-1<s.length:=by omega
  have f7:(1:Int)≤(s.length:Int):=by omega
  have f8:1≤s.length:=by omega
  have hn:=nj h0
  by_cases h1:s[s.length-1].toNat=10
  ·have g1:(s[s.length-1].toNat:Int)=10:=by omega
   simp [Tryz.f58,f1,f2,f3,f4,f5,f6,f7,f8,h0,h1,g1];refine key _ ?_ ?_
   ·simp [CD,hn,h1]
   ·simp [G9,hn,h1]
  ·have g1:¬(s[s.length-1].toNat:Int)=10:=by omega
   simp [Tryz.f58,f1,f2,f3,f4,f5,f6,f7,f8,h0,h1,g1];refine key _ ?_ ?_
   ·simp [CD,hn,h1]
   ·simp [G9,hn,h1]
 ·have:s=[]:=List.eq_nil_of_length_eq_zero (by omega)
  subst this;simp [Tryz.f58];refine key _ ?_ ?_
  ·simp [CD,DW]
  ·simp [G9,DW]
noncomputable def Wz (ts:List Wd) (sT:ts.length<1000000):AF zP AG:=AF.meth 73 (Sr.pc ts) (Fl ts) (fun (_:List UInt8) r=>r.at_≤ts.length) (fun _ w=>[.str w]) (fun w r => .agg (Gb ts w r).1.x.c) (fun w r=>(Gb ts w r).2)
 (fun w r h H id hH=>nY ts sT w r h hH) (fun id x y r _ _ h=>by
  simp only [List.cons.injEq,AV.str.injEq,and_true] at h;rw [h]
  exact ⟨rfl,rfl⟩)
structure KsO (O:Orc) (ts:List Wd):Prop where
 fail:∀(r:Sr) (p c:Nat) (H:AH),O 52 [.ptr 0 0,.int .i64 (p:Int),.int .i64 (c:Int)] (pbx ts r::H)=some (.tup [],pbx ts (r.fail p c)::H)
 must:∀(r:Sr) (k:Nat) (s:List UInt8) (H:AH),O 75 [.ptr 0 0,.int .i64 (k:Int),.str s] (pbx ts r::H)=some (.agg (BD (A1 ts r k s).1),pbx ts (A1 ts r k s).2::H)
 expr:∀(r:Sr) (H:AH),r.at_≤ts.length→O 76 [.ptr 0 0] (pbx ts r::H)=some (.agg (tC (Cg ts r).1.tn),pbx ts (Cg ts r).2::H)
 to:∀(r:Sr) (H:AH),r.at_≤ts.length→O 74 [.ptr 0 0] (pbx ts r::H)=some (.agg (tC (toW ts r).1.tn),pbx ts (toW ts r).2::H)
 key:∀(w:List UInt8) (r:Sr) (H:AH),r.at_≤ts.length→O 73 [.ptr 0 0,.str w] (pbx ts r::H)=some (.agg (Gb ts w r).1.x.c,pbx ts (Gb ts w r).2::H)
noncomputable def Lks (ts:List Wd) (sT:ts.length<1000000):List (AF zP AG):=[Di ts,Jw ts sT,N8 ts sT,N9 ts sT,Wz ts sT]
theorem nl (ts:List Wd) (sT:ts.length<1000000):KsO (oOf (Lks ts sT)) ts:=by
 have hL:((Lks ts sT).map (·.f)).Nodup:=show ([52,75,76,74,73]:List Nat).Nodup by decide
 exact ⟨fun r p c H=>L0 hL (show Di ts∈Lks ts sT by simp [Lks]) r p c H,fun r k s H=>RM sT hL (show Jw ts sT∈Lks ts sT by simp [Lks]) r k s H,
  fun r H h=>B0 hL (show N8 ts sT∈Lks ts sT by simp [Lks]) () r (H:=pbx ts r::H) (id:=0) rfl h,fun r H h=>B0 hL (show N9 ts sT∈Lks ts sT by simp [Lks]) () r (H:=pbx ts r::H) (id:=0) rfl h,
  fun w r H h=>B0 hL (show Wz ts sT∈Lks ts sT by simp [Lks]) w r (H:=pbx ts r::H) (id:=0) rfl h⟩
theorem no (ts:List Wd) (sT:ts.length<1000000):Cx (oOf (Lks ts sT)) zP AG:=Bq _ Bw Ae
theorem np (t:Tn):Ay zP 47 [(0,.int .i64 2),(2,.agg (tC t))]=some (.agg (Sx.c ⟨2,[],t,t0,[],t0,t0,[],t0,t0,0⟩)):=by cases t<;>kernel_rfl
@[simp] theorem r9 (t:Tn):Ay zP 47 [(0,.int .i64 2),(2,.agg [.int .i64 t.k,.int .i64 t.n,.str t.s,t.ar])]=some (.agg (Sx.c ⟨2,[],t,t0,[],t0,t0,[],t0,t0,0⟩)):=by rw [←CY];exact np t
@[simp high] theorem sB {l:List Wd} (h:0<l.length):Au zP 137 (AD l) (.int .i64 0)=some (.vptr (A7 l) 0):=by simpa using jw (l:=l) (i:=0) h
theorem nq (ts:List Wd) (sT:ts.length<1000000) (h0:0<ts.length) {H:AH} {id:Nat} (hH:H.at id=some (.box ((⟨0,none⟩:Sr).pc ts))) :
  CS zP AG 51 [.ptr id 0] H (.agg (D3 ts).1.x.c) (H.set id (some (.box ((D3 ts).2.pc ts)))):=by
 refine CS.rd BL Tryz.func51 (by kernel_rfl) 0 (by simp [Tryz.f51]) (fun B hB hG => ?_) (by simp) (by simp [Sx.c_low]) (C3 _ _) (C3 _ _) hH;have X:=no ts sT;have hO:=nl ts sT;generalize oOf (Lks ts sT)=O at X hO;refine Tr.goD X hG ?_;obtain ⟨w,hw⟩:∃w,ts[0]? = some w:=⟨_,List.getElem?_eq_getElem h0⟩
 obtain ⟨d1,d2⟩:=Ki _ _ _ hw;simp only [Nat.zero_mul,List.drop_zero,Nat.zero_add] at d1 d2;have hx:D3 ts=if w.kind=4 then Gb ts w.text ⟨1,none⟩ else if w.kind=1 then NM ts ⟨0,none⟩ else ({},⟨0,some ([(Bo,0)],2)⟩):=by simp only [D3,hw]
 rw [hx]
 by_cases h4:w.kind=4
 ·rw [if_pos h4]
  have f1:=fun H=>hO.key w.text ⟨1,none⟩ H h0
  generalize Gb ts w.text ⟨1,none⟩=m at *;obtain ⟨m,r⟩:=m;obtain ⟨M,hM⟩:∃M,M=m.x:=⟨_,rfl⟩
  simp only [←hM,pbx] at f1 ⊢;simp [Sx.c] at f1;have w1:IntKind.i64.wrap 1=1:=by decide
  simp [Tryz.f51,Sr.pc,h0,d1,d2,BD,h4,w1,f1,Sx.c]
 ·rw [if_neg h4]
  have h4':((w.kind:Int)==4)=false:=by rw [beq_eq_false_iff_ne];omega
  have yw:¬(w.kind:Int)=4:=by omega
  by_cases h1:w.kind=1
  ·rw [if_pos h1]
   have f1:=fun H=>hO.to ⟨0,none⟩ H (Nat.zero_le _)
   have u1:=(nR ts ⟨0,none⟩).2 (Nat.zero_le _);unfold NM;generalize toW ts ⟨0,none⟩=a at *;obtain ⟨to,r1⟩:=a;simp only at f1 u1 ⊢;have f2:=fun H=>hO.must r1 3 isT H
   have u2:=(HJ ts r1 3 isT).2 u1;generalize A1 ts r1 3 isT=b at *;obtain ⟨w2,r2⟩:=b;simp only at f2 u2 ⊢;have f3:=fun H=>hO.expr r2 H u2
   generalize Cg ts r2=c at *;simp only [pbx,isT,CY,BD] at f1 f2 f3;simp at f1 f2;simp [Tryz.f51,Sr.pc,h0,d1,d2,BD,h1,f1,f2,f3,Sx.c,Sm.x,B2]
  ·rw [if_neg h1]
   have h1':((w.kind:Int)==1)=false:=by rw [beq_eq_false_iff_ne];omega
   have h1i:¬(w.kind:Int)=1:=by omega
   have f1:=fun H=>hO.fail ⟨0,none⟩ 0 2 H
   have hf:(⟨0,none⟩:Sr).fail 0 2=⟨0,some ([(Bo,0)],2)⟩:=rfl;rw [hf] at f1;simp [pbx] at f1;simp [Tryz.f51,Sr.pc,h0,d1,d2,BD,h1,h4,h1',h4',h1i,yw,f1,Sx.c,Sm.x,B2]
noncomputable def FR:AF zP AG:=AF.pure 48 (fun s:List UInt8=>s.length<B7) (fun s=>[.str s]) El (fun s h H=>CS.toF (CS.toX (CS.toN (ng s h H)))) (fun x y _ _ h=>by
 simp only [List.cons.injEq,AV.str.injEq,and_true] at h
 rw [h])
noncomputable def FS:AF zP AG:=AF.pure 49 (fun s:List UInt8=>s.length<B7) (fun s=>[.str s]) (fun s=>Ey (lex (s.length+1) s 0 false)) (fun s h H=>CS.toF (CS.toX (CS.toN (js s h H)))) (fun x y _ _ h=>by
 simp only [List.cons.injEq,AV.str.injEq,and_true] at h
 rw [h])
noncomputable def I5 (ts:List Wd) (sT:ts.length<1000000):AF zP AG:=AF.meth 51 (Sr.pc ts) (Fl ts) (fun (_:Unit) r=>r=⟨0,none⟩∧0<ts.length) (fun _ _=>[]) (fun _ _ => .agg (D3 ts).1.x.c) (fun _ _=>(D3 ts).2)
 (fun _ r h H id hH=>by obtain ⟨rfl,h0⟩:=h;exact nq ts sT h0 hH) (fun id x y r _ _ h=>⟨rfl,rfl⟩)
def HM (x:Sm × Er):AV := .tup [.agg x.1.x.c,erI x.2]
@[simp] theorem buSrd (ts:List Wd):Ay zP 142 [(0,AD ts)]=some (.agg [AD ts,.int .i64 0,.nilIface]):=by
 unfold AD
 split<;>kernel_rfl
theorem nr (s:List UInt8):(B4 s).length≤s.length:=by have h1:=OB s;unfold B4;rw [List.length_take];omega
theorem nt (s:List UInt8) (hs:s.length<1000000) (H:AH):CS zP AG 30 [.str s] H (HM (Is (B4 s))) H:=by
 have hb:(B4 s).length<1000000:=by have:=nr s;omega
 have tV:s.length<B7:=by rw [ER];omega
 have yz:(B4 s).length<B7:=by rw [ER];omega
 unfold Is;generalize xH:lex ((B4 s).length+1) (B4 s) 0 false=lx;cases lx with
 |error x =>
  obtain ⟨p,e⟩:=x;have hL:([FR,FS,Ca].map (·.f)).Nodup:=show ([48,49,50]:List Nat).Nodup by decide
  have X:=Bq [FR,FS,Ca] Bw Ae;have f1:=fun H=>CV hL (show FR∈[FR,FS,Ca] by simp) s tV H
  have f2:=fun H=>CV hL (show FS∈[FR,FS,Ca] by simp) (B4 s) yz H
  have f3:=fun H=>CV hL (show Ca∈[FR,FS,Ca] by simp) (0,[(DU,(p:Int))],(e:Int)) trivial H
  generalize oOf [FR,FS,Ca]=O at X f1 f2 f3;rw [xH] at f2;simp [Ey,Jg,DU] at f2;simp [El] at f1;simp [AY,Bo,DU] at f3;refine CS.tr0 BL Tryz.func30 (by kernel_rfl) 0 (by simp [Tryz.f30]) (fun B hB hG => ?_) (by simp [HM,Sx.c_low]) (by simp) H;refine Tr.goD X hG ?_;simp [Tryz.f30,f1,f2,f3,Sx.c,HM,Sm.x,B2,erI,AY,CB,Bo,Kb]
 |ok ts =>
  have sT:=Qz hb xH;have hL:([FR,FS,I5 ts sT,Di ts].map (·.f)).Nodup:=show ([48,49,51,52]:List Nat).Nodup by decide
  have X:=Bq [FR,FS,I5 ts sT,Di ts] Bw Ae;have f1:=fun H=>CV hL (show FR∈[FR,FS,I5 ts sT,Di ts] by simp) s tV H
  have f2:=fun H=>CV hL (show FS∈[FR,FS,I5 ts sT,Di ts] by simp) (B4 s) yz H
  have f3:=fun (h:0<ts.length) e0 H=>B0 hL (show I5 ts sT∈[FR,FS,I5 ts sT,Di ts] by simp) () ⟨0,none⟩ (H:=e0::pbx ts ⟨0,none⟩::H) (id:=1) rfl ⟨rfl,h⟩
  have f4:=fun (r:Sr) e0 H=>B0 hL (show Di ts∈[FR,FS,I5 ts sT,Di ts] by simp) (r.at_,2) r (H:=e0::pbx ts r::H) (id:=1) rfl trivial
  generalize oOf [FR,FS,I5 ts sT,Di ts]=O at X f1 f2 f3 f4;rw [xH] at f2;simp [Ey] at f2;simp [El] at f1;refine CS.tr0 BL Tryz.func30 (by kernel_rfl) 0 (by simp [Tryz.f30]) (fun B hB hG => ?_) (by simp [HM,Sx.c_low]) (by simp) H;refine Tr.goD X hG ?_
  by_cases sU:ts=[]
  ·have hp0:Kc ts=({},none):=if_pos sU
   simp only;rw [hp0];simp [Tryz.f30,f1,f2,sU,Sx.c,HM,Sm.x,B2]
  ·have sc:0<ts.length:=List.length_pos_iff.2 sU
   have f3:=f3 sc
   have hp1:Kc ts=match (if (D3 ts).2.at_<ts.length then (D3 ts).2.fail (D3 ts).2.at_ 2 else (D3 ts).2).err with
    |some x=>({},some x)
    |none=>((D3 ts).1,none):=by unfold Kc;rw [if_neg sU];rfl
   simp only;rw [hp1];clear hp1;generalize D3 ts=m at *;obtain ⟨m,r⟩:=m;have f4:=f4 r;obtain ⟨M,hM⟩:∃M,M=m.x:=⟨_,rfl⟩
   have ss:¬(ts.length:Int)=0:=by omega
   have tz:((ts.length:Int)==0)=false:=by rw [beq_eq_false_iff_ne];exact ss
   simp only [←hM,pbx,Sr.pc] at f3 f4;simp [Sx.c] at f3;simp at f4
   by_cases hl:r.at_<ts.length
   ·have hl':(r.at_:Int)<ts.length:=by omega
    simp only [hl,if_true];obtain ⟨y,hy⟩:∃y,(r.fail r.at_ 2).err=some y:=⟨_,rfl⟩
    rw [hy] at f4 ⊢;simp [Tryz.f30,f1,f2,sU,ss,tz,f3,f4,hl,hl',Sx.c];refine LpD.turns X hG [5] zL0 ?_;simp [HM,Sx.c,Sm.x,B2]
   ·have hl':¬(r.at_:Int)<ts.length:=by omega
    simp only [hl,if_false];cases he:r.err with
    |none =>
     rw [he] at f3
     try simp at f3
     simp [Tryz.f30,f1,f2,sU,ss,tz,f3,hl,hl',Sx.c,HM,←hM]
    |some y =>
     rw [he] at f3
     try simp at f3
     simp [Tryz.f30,f1,f2,sU,ss,tz,f3,hl,hl',Sx.c];refine LpD.turns X hG [5] zL0 ?_;simp [HM,Sx.c,Sm.x,B2]
def Cw:List UInt8:=[108,105,110,101]
def Bd.fin (s:Bd) (kind at_:Int):Bd × Nat:=match s.fs with
 |[]=>(s,12)
 |f::r=>if f.st.kind=kind then (Bd.put ⟨s.l,r,s.o⟩ {f with end_:=at_}.nd,0) else (s,12)
def Bd.mark (s:Bd) (x:Sx):Bd:=if x.kind=1 then s else {s with o:=true}
def Nd.lf (a:Int) (x:Sx):Nd := .mk a a x [] [] (-1)
def Bd.add (s0:Bd) (x:Sx) (a:Int):Bd × Nat :=
 let s:=s0.mark x
 if x.kind=4 then s.fin 3 a
 else if x.kind=7 then s.fin 5 a
 else if x.kind=6 then (match s.fs with
  |[]=>(s,12)
  |f::r=>if f.st.kind=5∧f.mid<0 then ({s with fs:={f with mid:=a}::r},0) else (s,12))
 else if x.kind=3∨x.kind=5 then (if s.fs.length=8 then (s,4) else ({s with fs:=⟨a,a,x,[],[],-1⟩::s.fs},0))
 else if x.kind=1 then (if s.o=true∨s.fs≠[] then (s,2) else (s.put (.lf a x),0))
 else (s.put (.lf a x),0)
def bd0:Bd:=⟨[],[],false⟩
def ofL:List (List UInt8)→Nat→Bd→List Nd × Er
 |[],_,s=>(match s.fs with
  |[]=>(s.l,none)
  |f::_=>([],some ([(Cw,f.line.toNat)],11)))
 |b::ls,a,s=>(match Is (B4 b) with
  |(_,some y)=>([],some ((Cw,a)::y.1,y.2))
  |(m,none)=>if m.kind=0 then ofL ls (a+1) s else
   if (s.add m.x a).2=0 then ofL ls (a+1) (s.add m.x a).1 else ([],some ([(Cw,a)],(s.add m.x a).2)))
def ofW (ls:List (List UInt8)):List Nd × Er:=ofL ls 0 bd0
theorem Bd.mark_ok {m:Nat} {s:Bd} (h:s.ok m) (x:Sx):(s.mark x).ok m:=by
 unfold Bd.mark
 split
 ·exact h
 ·exact ⟨h.1,h.2⟩
theorem Bd.fin_ok {m:Nat} {s:Bd} (h:s.ok m) (k a:Int):(s.fin k a).1.ok (m+1):=by
 obtain ⟨l,fs,o⟩:=s;unfold Bd.fin;cases fs with
 |nil=>exact Bd.ok_mono (Nat.le_succ m) h
 |cons f r =>
  simp only
  split
  ·exact Bd.put_ok (s:=⟨l,r,o⟩) ⟨h.1,fun g hg=>h.2 g (List.mem_cons_of_mem _ hg)⟩ _
  ·exact Bd.ok_mono (Nat.le_succ m) h
theorem Bd.add_ok {m:Nat} {s:Bd} (h:s.ok m) (x:Sx) (a:Int):(s.add x a).1.ok (m+1):=by
 unfold Bd.add;have h1:=Bd.mark_ok h x;generalize s.mark x=s at *;have h2:=Bd.ok_mono (Nat.le_succ m) h1;simp only
 split
 ·exact Bd.fin_ok h1 3 a
 split
 ·exact Bd.fin_ok h1 5 a
 split
 ·obtain ⟨l,fs,o⟩:=s
  cases fs with
  |nil=>exact h2
  |cons f r =>
   simp only
   split
   ·refine ⟨h2.1,fun g hg => ?_⟩
    rcases List.mem_cons.1 hg with rfl|hg
    ·exact h2.2 f List.mem_cons_self
    ·exact h2.2 g (List.mem_cons_of_mem _ hg)
   ·exact h2
 split
 ·split
  ·exact h2
  ·refine ⟨h2.1,fun g hg => ?_⟩
   rcases List.mem_cons.1 hg with rfl|hg
   ·exact ⟨Nat.zero_le _,Nat.zero_le _⟩
   ·exact h2.2 g hg
 split
 ·split
  ·exact h2
  ·exact Bd.put_ok h1 _
 ·exact Bd.put_ok h1 _
theorem Bd.put_len (s:Bd) (n:Nd):(s.put n).fs.length=s.fs.length:=by obtain ⟨l,fs,o⟩:=s;cases fs<;>rfl
theorem Bd.fin_len (s:Bd) (k a:Int):(s.fin k a).1.fs.length≤s.fs.length:=by
 obtain ⟨l,fs,o⟩:=s;unfold Bd.fin;cases fs with
 |nil=>exact Nat.le_refl _
 |cons f r =>
  simp only
  split
  ·rw [Bd.put_len];exact Nat.le_succ _
  ·exact Nat.le_refl _
theorem Bd.mark_fs (s:Bd) (x:Sx):(s.mark x).fs=s.fs:=by unfold Bd.mark;split<;>rfl
theorem Bd.add_len {s:Bd} (h:s.fs.length≤8) (x:Sx) (a:Int):(s.add x a).1.fs.length≤8:=by
 unfold Bd.add;have h1:(s.mark x).fs.length≤8:=by rw [Bd.mark_fs];exact h
 generalize s.mark x=s at *;simp only
 split
 ·exact Nat.le_trans (Bd.fin_len s 3 a) h1
 split
 ·exact Nat.le_trans (Bd.fin_len s 5 a) h1
 split
 ·obtain ⟨l,fs,o⟩:=s
  cases fs with
  |nil=>exact h1
  |cons f r =>
   simp only
   split<;>exact h1
 split
 ·split
  ·exact h1
  ·simp only [List.length_cons];omega
 split
 ·split
  ·exact h1
  ·rw [Bd.put_len];exact h1
 ·rw [Bd.put_len];exact h1
def Bd.lin (s:Bd):Prop:=∀f∈s.fs,0≤f.line
theorem Bd.put_lin {s:Bd} (h:s.lin) (n:Nd):(s.put n).lin:=by
 obtain ⟨l,fs,o⟩:=s;cases fs with
 |nil=>exact h
 |cons f r =>
  intro g hg;rcases List.mem_cons.1 hg with rfl|hg
  ·have:=h f List.mem_cons_self
   unfold Fr.put
   split<;>exact this
  ·exact h g (List.mem_cons_of_mem _ hg)
theorem Bd.fin_lin {s:Bd} (h:s.lin) (k a:Int):(s.fin k a).1.lin:=by
 obtain ⟨l,fs,o⟩:=s;unfold Bd.fin;cases fs with
 |nil=>exact h
 |cons f r =>
  simp only
  split
  ·exact Bd.put_lin (s:=⟨l,r,o⟩) (fun g hg=>h g (List.mem_cons_of_mem _ hg)) _
  ·exact h
theorem Bd.add_lin {s:Bd} (h:s.lin) (x:Sx) {a:Int} (ha:0≤a):(s.add x a).1.lin:=by
 unfold Bd.add;have h1:(s.mark x).lin:=by unfold Bd.lin;rw [Bd.mark_fs];exact h
 generalize s.mark x=s at *;simp only
 split
 ·exact Bd.fin_lin h1 3 a
 split
 ·exact Bd.fin_lin h1 5 a
 split
 ·obtain ⟨l,fs,o⟩:=s
  cases fs with
  |nil=>exact h1
  |cons f r =>
   simp only
   split
   ·intro g hg
    rcases List.mem_cons.1 hg with rfl|hg
    ·exact h1 f List.mem_cons_self
    ·exact h1 g (List.mem_cons_of_mem _ hg)
   ·exact h1
 split
 ·split
  ·exact h1
  ·intro g hg
   rcases List.mem_cons.1 hg with rfl|hg
   ·exact ha
   ·exact h1 g hg
 split
 ·split
  ·exact h1
  ·exact Bd.put_lin h1 _
 ·exact Bd.put_lin h1 _
theorem CS.weakA {P:Program} {E:Env} {f:FuncId} {args args':List AV} {H H':AH} {v:AV} (h:CS P E f args' H v H') (hw:∀g cargs,AB g args cargs→AB g args' cargs):CS P E f args H v H':=fun g w cargs R hG hA=>h g w cargs R hG (hw g cargs hA)
theorem W0 {α:Type} (E:Enc α) {g:Gh} {k:Nat} {l:List α} {v:Value} (h:AA g (E.tk k l) v):AA g (E.av l) v:=by
 by_cases h0:l=[]
 ·subst h0;exact h
 ·rw [E.tk_ne k h0] at h
  rw [E.av_ne h0];exact Ls g v h
def Fr.nc (d:Nat) (f:Fr):List AV:=f.pre++[ndE.tk (3+3*d) f.body,ndE.tk (4+3*d) f.els,.int .i64 f.mid]
theorem W1 {g:Gh}:∀{xs bs:List AV} {vs:List Value},AB g (xs++bs) vs→∃us ws,vs=us++ws∧AB g xs us∧AB g bs ws
 |[],bs,vs,h=>⟨[],vs,rfl,by simp [AB],h⟩
 |a::xs,bs,vs,h=>by simp only [List.cons_append,AB] at h;obtain ⟨v,us,rfl,h1,h2⟩:=h;obtain ⟨us,ws,rfl,h3,h4⟩:=W1 h2;exact ⟨v::us,ws,rfl,by simp only [AB];exact ⟨v,us,rfl,h1,h3⟩,h4⟩
theorem nu {g:Gh} {cs:List AV} {v:Value}:AA g (.agg cs) v↔∃vs,v = .agg (List.toArray vs)∧AB g cs vs:=by simp only [AA]
theorem nv {g:Gh} (d:Nat) (f:Fr) {cargs:List Value} (h:AB g [.ptr 0 0,.agg (f.nc d)] cargs):AB g [.ptr 0 0,.agg (ndC f.nd)] cargs:=by simp only [AB] at h ⊢;obtain ⟨v,ws,rfl,h1,v2,ws2,rfl,h2,rfl⟩:=h;refine ⟨v,_,rfl,h1,v2,_,rfl,?_,rfl⟩;rw [nu] at h2 ⊢;obtain ⟨vs,rfl,h2⟩:=h2;refine ⟨vs,rfl,?_⟩;rw [Fr.nc] at h2;obtain ⟨us,ws,rfl,h3,h4⟩:=W1 h2;have:ndC f.nd=f.pre++[ndE.av f.body,ndE.av f.els,.int .i64 f.mid]:=Ch f.nd;rw [this];refine h3.append ?_;simp only [AB] at h4 ⊢;obtain ⟨a,x,rfl,k1,b,y,rfl,k2,c,z,rfl,k3,rfl⟩:=h4;exact ⟨a,_,rfl,W0 ndE k1,b,_,rfl,W0 ndE k2,c,_,rfl,k3,rfl⟩
@[simp ↓ high] theorem sC (d:Nat):(upC d).known=true:=by cases d<;>rfl
@[simp ↓ high] theorem sD (d:Nat):(upC d).one=true:=by cases d<;>rfl
@[simp ↓ high] theorem sE (d:Nat):Aw (upC d)=[upC d]:=by cases d<;>rfl
theorem Jz (n:Nat):upC (n+1) = .ptr (2+3*n) 0:=rfl
theorem J0:upC 0 = .nilPtr:=rfl
theorem DR (H:AH) (e:Option Ent) (B:AH):AH.at (H++e::B) H.length=e:=by rw [HI (Nat.le_refl _),Nat.sub_self];rfl
theorem Dj (H:AH) (e x:Option Ent) (B:AH):(H++e::B).set H.length x=H++x::B:=by rw [List.set_append_right _ _ (Nat.le_refl _)];simp
theorem GF (H:AH) (i:Nat) (y e:Option Ent) (B:AH):AH.at (H.set i y++e::B) H.length=e:=by have:=DR (H.set i y) e B;rwa [List.length_set] at this
theorem GG (H:AH) (i:Nat) (y e x:Option Ent) (B:AH):(H.set i y++e::B).set H.length x=H.set i y++x::B:=by have:=Dj (H.set i y) e x B;rwa [List.length_set] at this
theorem GH (H:AH) (a e:Option Ent) (B:AH):AH.at (H++a::e::B) (H.length+1)=e:=by rw [HI (Nat.le_succ _)];simp [AH.at]
theorem GI (H:AH) (a e x:Option Ent) (B:AH):(H++a::e::B).set (H.length+1) x=H++a::x::B:=by rw [List.set_append_right _ _ (Nat.le_succ _)];simp
theorem Gm (H:AH) (i:Nat) (y a e:Option Ent) (B:AH):AH.at (H.set i y++a::e::B) (H.length+1)=e:=by have:=GH (H.set i y) a e B;rwa [List.length_set] at this
theorem Gn (H:AH) (i:Nat) (y a e x:Option Ent) (B:AH):(H.set i y++a::e::B).set (H.length+1) x=H.set i y++a::x::B:=by have:=GI (H.set i y) a e x B;rwa [List.length_set] at this
theorem Hr (H:AH) (B:AH) (h:0<H.length):AH.at (H++B) 0=H.at 0:=GD h
theorem Hs (H:AH) (B:AH) (e:Option Ent) (h:0<H.length):(H++B).set 0 e=H.set 0 e++B:=List.set_append_left _ _ h
theorem Gp (H:AH) (B:AH) (e:Option Ent) (h:0<H.length):AH.at (H.set 0 e++B) 0=e:=by rw [GD (by rw [List.length_set];exact h),AH.at_set,if_pos ⟨rfl,h⟩]
theorem Ht (H:AH) (B:AH) (e e':Option Ent) (h:0<H.length):(H.set 0 e++B).set 0 e'=H.set 0 e'++B:=by rw [List.set_append_left _ _ (by rw [List.length_set];exact h),List.set_set]
theorem L5 {H:AH} {j:Nat} (B:AH) (e:Option Ent) (h:j<H.length) (h0:j≠0):AH.at (H.set 0 e++B) j=H.at j:=by rw [GD (by rw [List.length_set];exact h),Dx (fun h=>h0 h.symm)]
theorem IM (n:Nat):∀a b:AH,AR n (a++b)=(AR n a&&AR n b)
 |[],b=>by simp [AR]
 |e::a,b=>by simp [AR,IM n a b,Bool.and_assoc]
theorem nw {m n:Nat} (h:m≤n) {e:Option Ent} (k:Av m e=true):Av n e=true:=by
 cases e with
 |none=>rfl
 |some e=>cases e with
  |box cs=>exact Ak h _ k
  |loose n cs=>exact Ak h _ k
  |stk n cs=>exact Ak h _ k
  |_=>rfl
theorem L6 {m n:Nat} (h:m≤n):∀{H:AH},AR m H=true→AR n H=true
 |[],_=>rfl
 |e::H,k=>by simp only [AR,Bool.and_eq_true] at k ⊢;exact ⟨nw h k.1,L6 h k.2⟩
theorem W2 (n:Nat) {α:Type} (l:List α):Av n (AW l)=true:=by unfold AW;split<;>rfl
theorem RX {d n:Nat} (h:3*d<n):low n (upC d)=true:=by
 cases d with
 |zero=>rfl
 |succ d=>simp [upC,low];omega
theorem OC (d n:Nat) (f:Fr) (h:4+3*d<n):AR n (f.h d)=true:=by
 have h1:=Ak (Nat.zero_le n) _ f.pre_low;have t1:=ndE.tk_low (k:=3+3*d) (m:=n) (by omega) f.body;have t2:=ndE.tk_low (k:=4+3*d) (m:=n) (by omega) f.els;simp only [Fr.h,AR,W2,Bool.and_true]
 show lowL n (f.c d)=true
 rw [Fr.c,EC,h1];simp [lowL,t1,t2,RX (d:=d) (n:=n) (by omega),low]
theorem W3:∀(r:List Fr) (n:Nat),2+3*r.length≤n→AR n (frH r)=true
 |[],_,_=>rfl
 |f::r,n,h=>by simp only [List.length_cons] at h;rw [frH,IM,W3 r n (by omega),OC _ _ _ (by omega)];rfl
theorem Em (s:Bd) (n:Nat) (h:2+3*s.fs.length≤n):AR n (bdH s)=true:=by
 have t1:=ndE.tk_low (k:=1) (m:=n) (by omega) s.l;simp only [bdH,AR,W2,W3 s.fs n h,Bool.and_true]
 show lowL n s.c=true
 simp [Bd.c,lowL,t1,RX (d:=s.fs.length) (n:=n) (by omega),low]
theorem BT (s:Bd):(bdH s).length=2+3*s.fs.length:=by simp [bdH,I2];omega
theorem DB:CxW Bl zP Ac []:=CP.toW
def Bt (c:Nat):AV:=if c=0 then .nilIface else .iface 83 (.int .i64 (c:Int))
def Fo (s:Bd) (kind:Int):AH:=match s.fs with
 |[]=>[]
 |f::r=>if f.st.kind=kind then f.h r.length else []
theorem ny (l:List Nd) (f:Fr) (r:List Fr) (o:Bool) (K:AH) (hK:AR 0 K=true) (kind a:Int) {m:Nat} (hs:Bd.ok m ⟨l,f::r,o⟩) (hm:m<137438953472) (hd:r.length<1000) (hk:f.st.kind=kind) :
  CS zP Ac 53 [.ptr 0 0,.int .i64 kind,.int .i64 a] (bdH ⟨l,f::r,o⟩++K) .nilIface (bdH (Bd.put ⟨l,r,o⟩ {f with end_:=a}.nd)++(f.h r.length++K)):=by
 subst hk;have sZ:=Cu l f r o K;have c0:AH.at (bdH ⟨l,f::r,o⟩++K) 0=some (.box (Bd.c ⟨l,f::r,o⟩)):=rfl;have cF:=GE l f r o K;have uw:∀e,(bdH ⟨l,f::r,o⟩++K).set 0 e=(e::AW l::frH r)++(f.h r.length++K):=fun e=>by simp [bdH,frH]
 have zBh:=fun K'=>CS.weakA (RH ⟨l,r,o⟩ {f with end_:=a}.nd K' (m:=m) ⟨hs.1,fun g hg=>hs.2 g (List.mem_cons_of_mem _ hg)⟩ hm) (fun g cargs h=>nv r.length {f with end_:=a} h)
 obtain ⟨H3,uz⟩:∃H3:AH,H3=bdH (Bd.put ⟨l,r,o⟩ {f with end_:=a}.nd)++(f.h r.length++K++[some (.box (({f with end_:=a}:Fr).nc r.length))]):=⟨_,rfl⟩
 have hp:CS zP Ac 54 [.ptr 0 0,.agg (({f with end_:=a}:Fr).nc r.length)] ((bdH ⟨l,f::r,o⟩++K).set 0 (some (.box (Bd.c ⟨l,r,o⟩)))++[some (.box (({f with end_:=a}:Fr).nc r.length))]) (.tup []) H3:=by have:=zBh (f.h r.length++K++[some (.box (({f with end_:=a}:Fr).nc r.length))]);rw [uw,uz,List.append_assoc];exact this
 have wM:(bdH (Bd.put ⟨l,r,o⟩ {f with end_:=a}.nd)).length=2+3*r.length:=by rw [BT,Bd.put_len]
 have tB:H3.take (bdH ⟨l,f::r,o⟩++K).length=bdH (Bd.put ⟨l,r,o⟩ {f with end_:=a}.nd)++(f.h r.length++K):=by rw [uz,←List.append_assoc,List.take_left' (by simp only [List.length_append] at sZ ⊢;rw [wM,sZ];simp [Fr.h];omega)]
 have si:AR (bdH ⟨l,f::r,o⟩++K).length (bdH (Bd.put ⟨l,r,o⟩ {f with end_:=a}.nd)++(f.h r.length++K))=true:=by rw [IM,IM,Em _ _ (by rw [Bd.put_len];simp only;omega),OC _ _ _ (by omega),L6 (Nat.zero_le _) hK];rfl
 generalize bdH (Bd.put ⟨l,r,o⟩ {f with end_:=a}.nd)++(f.h r.length++K)=H1 at *;have X:=FL hp DB;have hO:=Ev 54 [.ptr 0 0,.agg (({f with end_:=a}:Fr).nc r.length)] ((bdH ⟨l,f::r,o⟩++K).set 0 (some (.box (Bd.c ⟨l,r,o⟩)))++[some (.box (({f with end_:=a}:Fr).nc r.length))]) (.tup []) H3 Bl;generalize orP 54 [.ptr 0 0,.agg (({f with end_:=a}:Fr).nc r.length)] ((bdH ⟨l,f::r,o⟩++K).set 0 (some (.box (Bd.c ⟨l,r,o⟩)))++[some (.box (({f with end_:=a}:Fr).nc r.length))]) (.tup []) H3 Bl=O at X hO;clear hp zBh uz uw;refine CS.of_Tr (c:=At Tryz.f53) (H0:=bdH ⟨l,f::r,o⟩++K) (H1:=H1) Tryz.func53 (by kernel_rfl) 0 (by simp [Tryz.f53]) (fun B hB hG => ?_) (by simp) si;generalize bdH ⟨l,f::r,o⟩++K=H at *;have sc:0<H.length:=by omega
 have wk:2+3*r.length<H.length:=by omega
 have y6:2+3*r.length≠0:=by omega
 have w1:IntKind.i64.wrap (r.length:Int)=(r.length:Int):=AZ (by omega) (by omega);simp only [Bd.c,Fr.c,Fr.pre,Fr.nc,Sx.c,List.length_cons,Jz,List.cons_append,List.nil_append] at c0 cF hO;have k0:=fun B=>(Hr H B sc).trans c0
 have kF:=fun B=>(GD (A:=H) (B:=B) wk).trans cF
 have jF:=fun B e=>(L5 (H:=H) B e wk y6).trans cF
 have j0:=fun B e=>Gp H B e sc
 have s0:=fun B e=>Hs H B e sc
 have s1:=fun B e e'=>Ht H B e e' sc
 refine Tr.goW X hG ?_;simp [-AH.at,Tryz.f53,c0,cF,k0,kF,jF,j0,s0,s1,DR,Dj,GF,GG,w1,hO,tB]
theorem W5 (s:Bd) (K:AH) (hK:AR 0 K=true) (kind a:Int) (hd:s.fs.length<1000) (hk:∀f r,s.fs=f::r→f.st.kind≠kind) :
  CS zP Ac 53 [.ptr 0 0,.int .i64 kind,.int .i64 a] (bdH s++K) (Bt 12) (bdH s++K):=by
 obtain ⟨l,fs,o⟩:=s;simp only at hd hk
 have si:AR (bdH ⟨l,fs,o⟩++K).length (bdH ⟨l,fs,o⟩++K)=true:=by rw [IM,Em _ _ (by rw [List.length_append,BT];omega),L6 (Nat.zero_le _) hK];rfl
 have tB:(bdH ⟨l,fs,o⟩++K).take (bdH ⟨l,fs,o⟩++K).length=bdH ⟨l,fs,o⟩++K:=List.take_length;refine CS.of_Tr (c:=At Tryz.f53) (H0:=bdH ⟨l,fs,o⟩++K) (H1:=bdH ⟨l,fs,o⟩++K) Tryz.func53 (by kernel_rfl) 0 (by simp [Tryz.f53]) (fun B hB hG => ?_) (by simp [Bt]) si;have c0:AH.at (bdH ⟨l,fs,o⟩++K) 0=some (.box (Bd.c ⟨l,fs,o⟩)):=rfl;refine Tr.goW DB hG ?_;cases fs with
 |nil =>simp only [Bd.c,J0,List.length_nil] at c0;generalize bdH ⟨l,[],o⟩++K=H at *;simp [-AH.at,Tryz.f53,c0,tB,Bt]
 |cons f r =>have cF:=GE l f r o K;have hk':=hk f r rfl;simp only [Bd.c,Jz,List.length_cons] at c0;simp only [Fr.c,Fr.pre,Sx.c,List.cons_append,List.nil_append] at cF;generalize bdH ⟨l,f::r,o⟩++K=H at *;simp [-AH.at,Tryz.f53,c0,cF,hk',tB,Bt]
theorem nz (s:Bd) (K:AH) (hK:AR 0 K=true) (kind a:Int) {m:Nat} (hs:s.ok m) (hm:m<137438953472) (hd:s.fs.length<1000) :
  CS zP Ac 53 [.ptr 0 0,.int .i64 kind,.int .i64 a] (bdH s++K) (Bt (s.fin kind a).2) (bdH (s.fin kind a).1++(Fo s kind++K)):=by
 obtain ⟨l,fs,o⟩:=s;cases fs with
 |nil=>exact W5 ⟨l,[],o⟩ K hK kind a hd (fun f r h=>by cases h)
 |cons f r =>
  simp only [List.length_cons] at hd
  by_cases hk:f.st.kind=kind
  ·simp only [Bd.fin,Fo,if_pos hk]
   exact ny l f r o K hK kind a hs hm (by omega) hk
  ·simp only [Bd.fin,Fo,if_neg hk]
   exact W5 ⟨l,f::r,o⟩ K hK kind a hd (fun f' r' h=>by
    injection h with h1 h2;subst h1
    exact hk)
theorem fin_len (s:Bd) (k a:Int):(bdH (s.fin k a).1++Fo s k).length=(bdH s).length:=by
 obtain ⟨l,fs,o⟩:=s;cases fs with
 |nil=>simp [Bd.fin,Fo]
 |cons f r =>
  simp only [Bd.fin,Fo]
  split
  ·rw [List.length_append,BT,BT,Bd.put_len]
   simp [Fr.h];omega
  ·simp
@[simp] theorem buNdP (a b z:Int) (c0 c1 c2 c3 c4 c5 c6 c7 c8 c9 c10 c11 c12 c13 c14 c15 c16 c17 c18 c19 c20 c21 c22 c23 c24 c25 c26 c27 c28:AV):Ay zP 49 [(0,.int .i64 a),(1,.int .i64 b),(2,.agg [c0,c1,c2,c3,c4,c5,c6,c7,c8,c9,c10,c11,c12,c13,c14,c15,c16,c17,c18,c19,c20,c21,c22,c23,c24,c25,c26,c27,c28]),(5,.int .i64 z)]=some (.agg [.int .i64 a,.int .i64 b,c0,c1,c2,c3,c4,c5,c6,c7,c8,c9,c10,c11,c12,c13,c14,c15,c16,c17,c18,c19,c20,c21,c22,c23,c24,c25,c26,c27,c28,.nilSlice,.nilSlice,.int .i64 z]):=by kernel_rfl
@[simp] theorem buOp (c0 c1 c2 c3 c4 c5 c6 c7 c8 c9 c10 c11 c12 c13 c14 c15 c16 c17 c18 c19 c20 c21 c22 c23 c24 c25 c26 c27 c28 c29 c30 c31 c32 c33:AV) (d:Nat):Ay zP 100 [(0,.agg [c0,c1,c2,c3,c4,c5,c6,c7,c8,c9,c10,c11,c12,c13,c14,c15,c16,c17,c18,c19,c20,c21,c22,c23,c24,c25,c26,c27,c28,c29,c30,c31,c32,c33]),(1,upC d)]=some (.agg [c0,c1,c2,c3,c4,c5,c6,c7,c8,c9,c10,c11,c12,c13,c14,c15,c16,c17,c18,c19,c20,c21,c22,c23,c24,c25,c26,c27,c28,c29,c30,c31,c32,c33,upC d]):=by cases d<;>kernel_rfl
theorem lfC (a:Int) (x:Sx):ndC (.lf a x) = .int .i64 a :: .int .i64 a::(x.c++[.nilSlice,.nilSlice,.int .i64 (-1)]):=Ch _
def psH (N i:Nat):Nat:=if i<N then i else i+2
theorem n4 {B:Bs} {H:AH} {N:Nat} (hB:B.H=H) (hN:N=H.length) (sc:1<H.length) (hl:AR H.length H=true) {L:List (Nat × AV)} (h6:(L.lookup 6).getD .undef = .nilIface) (l:List Nd) (dn:Int) (o:Bool) {cs:List AV} (vL:lowL H.length cs=true) (e1 e2:Option Ent) :
  AE B (mkT 112 L) (H.set 0 (some (.box [ndE.tk 1 l,.ptr (H.length+2) 0,.int .i64 dn,.bool o]))++[e1,e2,some (.box cs)]) (mkT 112 [(6,.nilIface)]) (H.set 0 (some (.box [ndE.tk 1 l,.ptr N 0,.int .i64 dn,.bool o]))++[some (.box cs),none,none]):=by
 subst hN;have wB:∀i,i<H.length→psH H.length i=i:=fun i hi=>if_pos hi
 have wR:∀i,H.length≤i→psH H.length i=i+2:=fun i hi=>if_neg (by omega)
 have t1:=fun n (h:1<n)=>ndE.tk_low (k:=1) (m:=n) h l
 refine AE.mkV 1000 (psH H.length) (H.length+3) (by rw [hB];omega) (fun i j _ _ h=>by unfold psH at h;split at h<;>split at h<;>omega) (fun i hi=>wB i (by rw [hB] at hi;exact hi)) (by simp) ?_ ?_ ?_
 ·intro i hi
  by_cases h0:i=0
  ·subst h0
   rw [wB 0 (by omega),Gp _ _ _ (by omega),Gp _ _ _ (by omega)];have e1:=wB 1 sc;have e2:=wR H.length (Nat.le_refl _);simp only [Option.map_some,AJ,AN,ren,Enc.tk_ren,e1,e2]
  ·by_cases h1:i<H.length
   ·rw [wB i h1,L5 _ _ h1 h0,L5 _ _ h1 h0,Fb wB (by
     cases he:H.at i with
     |none=>rfl
     |some x=>exact Ib hl he)]
   ·rw [wR i (by omega),HI (by rw [List.length_set];omega),HI (by rw [List.length_set];omega)]
    simp only [List.length_set];rcases (by omega:i=H.length∨i=H.length+1∨i=H.length+2) with rfl|rfl|rfl
    ·rw [show H.length+2-H.length=2 by omega,Nat.sub_self]
     show some (Ent.box cs)=some (Ent.box (AN _ cs))
     rw [FK wB _ vL]
    ·rw [show H.length+1+2-H.length=3 by omega,show H.length+1-H.length=1 by omega]
     rfl
    ·rw [show H.length+2+2-H.length=4 by omega,show H.length+2-H.length=2 by omega]
     rfl
 ·rw [IM]
  have h1:AR (H.length+3) (H.set 0 (some (.box [ndE.tk 1 l,.ptr H.length 0,.int .i64 dn,.bool o])))=true:=by
   cases H with
   |nil=>simp at sc
   |cons x H =>simp only [AR,Bool.and_eq_true] at hl;simp only [List.set_cons_zero,AR,Av,Bool.and_eq_true];refine ⟨?_,L6 (by omega) hl.2⟩;simp only [lowL,low,t1 _ (show 1<(x::H).length+3 by omega)];simp
  rw [h1];simp only [AR,Av,Ak (by omega:H.length≤H.length+3) cs vL];rfl
 ·intro p hp
  simp only [List.mem_singleton] at hp;subst hp;simp only [h6];exact ⟨rfl,rfl⟩
theorem RY (l:List Nd) (fs:List Fr) (o o':Bool):(bdH ⟨l,fs,o⟩).set 0 (some (.box (Bd.c ⟨l,fs,o'⟩)))=bdH ⟨l,fs,o'⟩:=rfl
theorem n5 (l:List Nd) (fs:List Fr) (o:Bool) (x:Sx) (a:Int) (k:Int) (hk:x.kind=4∧k=3∨x.kind=7∧k=5) {m:Nat} (hs:Bd.ok m ⟨l,fs,o⟩) (hm:m<137438953472) (hd:fs.length≤8) :
  CS zP Ac 31 [.ptr 0 0,.agg x.c,.int .i64 a] (bdH ⟨l,fs,o⟩) (Bt (Bd.fin ⟨l,fs,true⟩ k a).2) (bdH (Bd.fin ⟨l,fs,true⟩ k a).1++Fo ⟨l,fs,true⟩ k):=by
 have hK:AR 0 [some (.box x.c),some (.box (ndC (.lf a x)))]=true:=by simp [AR,Av,Sx.c_low,By]
 have he:=nz ⟨l,fs,true⟩ [some (.box x.c),some (.box (ndC (.lf a x)))] hK k a (m:=m) ⟨hs.1,hs.2⟩ hm (by simp only;omega);rw [←RY l fs o true] at he;obtain ⟨H3,uz⟩:∃H3:AH,H3=bdH (Bd.fin ⟨l,fs,true⟩ k a).1++(Fo ⟨l,fs,true⟩ k++[some (.box x.c),some (.box (ndC (.lf a x)))]):=⟨_,rfl⟩
 rw [←uz] at he;have sl:=fin_len ⟨l,fs,true⟩ k a
 have tB:H3.take (bdH ⟨l,fs,o⟩).length=bdH (Bd.fin ⟨l,fs,true⟩ k a).1++Fo ⟨l,fs,true⟩ k:=by rw [uz,←List.append_assoc,List.take_left' (by rw [sl,BT,BT])]
 have si:AR (bdH ⟨l,fs,o⟩).length (bdH (Bd.fin ⟨l,fs,true⟩ k a).1++Fo ⟨l,fs,true⟩ k)=true:=by
  rw [IM,Em _ _ (by have:=Bd.fin_len ⟨l,fs,true⟩ k a;rw [BT];simp only at this ⊢;omega)];cases fs with
  |nil=>rfl
  |cons f r =>
   simp only [Fo]
   split
   ·rw [OC _ _ _ (by rw [BT];simp only [List.length_cons];omega)];rfl
   ·rfl
 generalize bdH (Bd.fin ⟨l,fs,true⟩ k a).1++Fo ⟨l,fs,true⟩ k=H1 at *;have s9:∀n,low n (Bt (Bd.fin ⟨l,fs,true⟩ k a).2)=true:=fun n=>by unfold Bt;split<;>rfl
 have sX:∀n,strip n (Bt (Bd.fin ⟨l,fs,true⟩ k a).2)=Bt (Bd.fin ⟨l,fs,true⟩ k a).2:=fun n=>Ja n _ (s9 0)
 generalize Bt (Bd.fin ⟨l,fs,true⟩ k a).2=rv at *;have X:=FL he DB;have hO:=Ev 53 [.ptr 0 0,.int .i64 k,.int .i64 a] ((bdH ⟨l,fs,o⟩).set 0 (some (.box (Bd.c ⟨l,fs,true⟩)))++[some (.box x.c),some (.box (ndC (.lf a x)))]) rv H3 Bl;generalize orP 53 [.ptr 0 0,.int .i64 k,.int .i64 a] ((bdH ⟨l,fs,o⟩).set 0 (some (.box (Bd.c ⟨l,fs,true⟩)))++[some (.box x.c),some (.box (ndC (.lf a x)))]) rv H3 Bl=O at X hO;clear he uz sl;have sZ:(bdH ⟨l,fs,o⟩).length=2+3*fs.length:=BT _;have c0:AH.at (bdH ⟨l,fs,o⟩) 0=some (.box (Bd.c ⟨l,fs,o⟩)):=rfl;refine CS.of_Tr (c:=At Tryz.f31) (H0:=bdH ⟨l,fs,o⟩) (H1:=H1) Tryz.func31 (by kernel_rfl) 0 (by simp [Tryz.f31]) (fun B hB hG => ?_) (s9 _) si;generalize bdH ⟨l,fs,o⟩=H at *;have sc:0<H.length:=by omega
 simp only [Bd.c] at c0;simp only [Sx.c,lfC,Bd.c,List.cons_append,List.nil_append] at hO;have k0:=fun B=>(Hr H B sc).trans c0
 have j0:=fun B e=>Gp H B e sc
 have s0:=fun B e=>Hs H B e sc
 have s1:=fun B e e'=>Ht H B e e' sc
 refine Tr.goW X hG ?_;rcases hk with ⟨hk,rfl⟩|⟨hk,rfl⟩
 all_goals
  simp only [hk] at hO;simp [-AH.at,Tryz.f31,c0,k0,j0,s0,s1,DR,Dj,GF,GG,GH,GI,Gm,Gn,Sx.c,hO,tB,hk,sX]
theorem n6 (l:List Nd) (fs:List Fr) (o:Bool) (x:Sx) (a:Int) (h1:x.kind≠1) (h3:x.kind≠3) (h4:x.kind≠4) (h5:x.kind≠5) (h6:x.kind≠6) (h7:x.kind≠7) {m:Nat} (hs:Bd.ok m ⟨l,fs,o⟩) (hm:m<137438953472) (hd:fs.length≤8) :
  CS zP Ac 31 [.ptr 0 0,.agg x.c,.int .i64 a] (bdH ⟨l,fs,o⟩) .nilIface (bdH (Bd.put ⟨l,fs,true⟩ (.lf a x))):=by
 have he:=RH ⟨l,fs,true⟩ (.lf a x) [some (.box x.c),some (.box (ndC (.lf a x)))] (m:=m) ⟨hs.1,hs.2⟩ hm;rw [←RY l fs o true] at he;obtain ⟨H3,uz⟩:∃H3:AH,H3=bdH (Bd.put ⟨l,fs,true⟩ (.lf a x))++[some (.box x.c),some (.box (ndC (.lf a x)))]:=⟨_,rfl⟩
 rw [←uz] at he;have wM:(bdH (Bd.put ⟨l,fs,true⟩ (.lf a x))).length=(bdH ⟨l,fs,o⟩).length:=by rw [BT,BT,Bd.put_len]
 have tB:H3.take (bdH ⟨l,fs,o⟩).length=bdH (Bd.put ⟨l,fs,true⟩ (.lf a x)):=by rw [uz,List.take_left' wM]
 have si:AR (bdH ⟨l,fs,o⟩).length (bdH (Bd.put ⟨l,fs,true⟩ (.lf a x)))=true:=Em _ _ (by rw [Bd.put_len,BT];exact Nat.le_refl _);generalize bdH (Bd.put ⟨l,fs,true⟩ (.lf a x))=H1 at *;have X:=FL he DB;have hO:=Ev 54 [.ptr 0 0,.agg (ndC (.lf a x))] ((bdH ⟨l,fs,o⟩).set 0 (some (.box (Bd.c ⟨l,fs,true⟩)))++[some (.box x.c),some (.box (ndC (.lf a x)))]) (.tup []) H3 Bl;generalize orP 54 [.ptr 0 0,.agg (ndC (.lf a x))] ((bdH ⟨l,fs,o⟩).set 0 (some (.box (Bd.c ⟨l,fs,true⟩)))++[some (.box x.c),some (.box (ndC (.lf a x)))]) (.tup []) H3 Bl=O at X hO;clear he uz wM;have sZ:(bdH ⟨l,fs,o⟩).length=2+3*fs.length:=BT _;have c0:AH.at (bdH ⟨l,fs,o⟩) 0=some (.box (Bd.c ⟨l,fs,o⟩)):=rfl;refine CS.of_Tr (c:=At Tryz.f31) (H0:=bdH ⟨l,fs,o⟩) (H1:=H1) Tryz.func31 (by kernel_rfl) 0 (by simp [Tryz.f31]) (fun B hB hG => ?_) rfl si;generalize bdH ⟨l,fs,o⟩=H at *;have sc:0<H.length:=by omega
 simp only [Bd.c] at c0;simp only [Sx.c,lfC,Bd.c,List.cons_append,List.nil_append] at hO;have k0:=fun B=>(Hr H B sc).trans c0
 have j0:=fun B e=>Gp H B e sc
 have s0:=fun B e=>Hs H B e sc
 have s1:=fun B e e'=>Ht H B e e' sc
 refine Tr.goW X hG ?_;simp [-AH.at,Tryz.f31,c0,k0,j0,s0,s1,DR,Dj,GF,GG,GH,GI,Gm,Gn,Sx.c,hO,tB,h1,h3,h4,h5,h6,h7]
theorem n7 (l:List Nd) (fs:List Fr) (o:Bool) (x:Sx) (a:Int) (h1:x.kind=1) (ho:o=false) (hf:fs=[]) {m:Nat} (hs:Bd.ok m ⟨l,fs,o⟩) (hm:m<137438953472) (hd:fs.length≤8) :
  CS zP Ac 31 [.ptr 0 0,.agg x.c,.int .i64 a] (bdH ⟨l,fs,o⟩) .nilIface (bdH (Bd.put ⟨l,fs,o⟩ (.lf a x))):=by
 have he:=RH ⟨l,fs,o⟩ (.lf a x) [some (.box x.c),some (.box (ndC (.lf a x)))] (m:=m) ⟨hs.1,hs.2⟩ hm;obtain ⟨H3,uz⟩:∃H3:AH,H3=bdH (Bd.put ⟨l,fs,o⟩ (.lf a x))++[some (.box x.c),some (.box (ndC (.lf a x)))]:=⟨_,rfl⟩
 rw [←uz] at he;have wM:(bdH (Bd.put ⟨l,fs,o⟩ (.lf a x))).length=(bdH ⟨l,fs,o⟩).length:=by rw [BT,BT,Bd.put_len]
 have tB:H3.take (bdH ⟨l,fs,o⟩).length=bdH (Bd.put ⟨l,fs,o⟩ (.lf a x)):=by rw [uz,List.take_left' wM]
 have si:AR (bdH ⟨l,fs,o⟩).length (bdH (Bd.put ⟨l,fs,o⟩ (.lf a x)))=true:=Em _ _ (by rw [Bd.put_len,BT];exact Nat.le_refl _);generalize bdH (Bd.put ⟨l,fs,o⟩ (.lf a x))=H1 at *;have X:=FL he DB;have hO:=Ev 54 [.ptr 0 0,.agg (ndC (.lf a x))] (bdH ⟨l,fs,o⟩++[some (.box x.c),some (.box (ndC (.lf a x)))]) (.tup []) H3 Bl;generalize orP 54 [.ptr 0 0,.agg (ndC (.lf a x))] (bdH ⟨l,fs,o⟩++[some (.box x.c),some (.box (ndC (.lf a x)))]) (.tup []) H3 Bl=O at X hO;clear he uz wM;have sZ:(bdH ⟨l,fs,o⟩).length=2+3*fs.length:=BT _;have c0:AH.at (bdH ⟨l,fs,o⟩) 0=some (.box (Bd.c ⟨l,fs,o⟩)):=rfl;refine CS.of_Tr (c:=At Tryz.f31) (H0:=bdH ⟨l,fs,o⟩) (H1:=H1) Tryz.func31 (by kernel_rfl) 0 (by simp [Tryz.f31]) (fun B hB hG => ?_) rfl si;generalize bdH ⟨l,fs,o⟩=H at *;have sc:0<H.length:=by omega
 simp only [Bd.c] at c0;simp only [Sx.c,lfC,Bd.c,List.cons_append,List.nil_append] at hO;have k0:=fun B=>(Hr H B sc).trans c0
 have j0:=fun B e=>Gp H B e sc
 have s0:=fun B e=>Hs H B e sc
 have s1:=fun B e e'=>Ht H B e e' sc
 refine Tr.goW X hG ?_;subst ho;subst hf;simp only [J0,List.length_nil] at c0 k0;simp only [h1] at hO;simp [-AH.at,Tryz.f31,c0,k0,j0,s0,s1,DR,Dj,GF,GG,GH,GI,Gm,Gn,Sx.c,hO,tB,h1]
theorem n9 (l:List Nd) (fs:List Fr) (o:Bool) (x:Sx) (a:Int) (h6:x.kind=6) (hf:fs=[]) (hd:fs.length≤8) :
  CS zP Ac 31 [.ptr 0 0,.agg x.c,.int .i64 a] (bdH ⟨l,fs,o⟩) (Bt 12) (bdH ⟨l,fs,true⟩):=by
 have si:AR (bdH ⟨l,fs,o⟩).length (bdH ⟨l,fs,true⟩)=true:=Em _ _ (by rw [BT];exact Nat.le_refl _);have hO:bdH ⟨l,fs,true⟩=(bdH ⟨l,fs,o⟩).set 0 (some (.box (Bd.c ⟨l,fs,true⟩))):=rfl;have X:CxW Bl zP Ac []:=DB;have sZ:(bdH ⟨l,fs,o⟩).length=2+3*fs.length:=BT _;have c0:AH.at (bdH ⟨l,fs,o⟩) 0=some (.box (Bd.c ⟨l,fs,o⟩)):=rfl;refine CS.of_Tr (c:=At Tryz.f31) (H0:=bdH ⟨l,fs,o⟩) (H1:=bdH ⟨l,fs,true⟩) Tryz.func31 (by kernel_rfl) 0 (by simp [Tryz.f31]) (fun B hB hG => ?_) rfl si;rw [hO];have tB:∀(H:AH) e B,(H.set 0 e++B).take H.length=H.set 0 e:=fun H e B=>List.take_left' (by rw [List.length_set])
 have wl:∀(H B:AH),(H++B).take H.length=H:=fun H B=>List.take_left' rfl
 generalize bdH ⟨l,fs,o⟩=H at *;have sc:0<H.length:=by omega
 simp only [Bd.c] at c0;simp only [Sx.c,lfC,Bd.c,List.cons_append,List.nil_append] at hO;have k0:=fun B=>(Hr H B sc).trans c0
 have j0:=fun B e=>Gp H B e sc
 have s0:=fun B e=>Hs H B e sc
 have s1:=fun B e e'=>Ht H B e e' sc
 refine Tr.goW X hG ?_;subst hf;simp only [J0,List.length_nil] at c0 k0;simp [-AH.at,Tryz.f31,c0,k0,j0,s0,s1,DR,Dj,GF,GG,GH,GI,Gm,Gn,Sx.c,hO,tB,wl,Bt,h6];rfl
theorem oA (l:List Nd) (fs:List Fr) (o:Bool) (x:Sx) (a:Int) (h6:x.kind=6) (hf:∃f r,fs=f::r∧(f.st.kind≠5∨0≤f.mid)) (hd:fs.length≤8) :
  CS zP Ac 31 [.ptr 0 0,.agg x.c,.int .i64 a] (bdH ⟨l,fs,o⟩) (Bt 12) (bdH ⟨l,fs,true⟩):=by
 have si:AR (bdH ⟨l,fs,o⟩).length (bdH ⟨l,fs,true⟩)=true:=Em _ _ (by rw [BT];exact Nat.le_refl _);have hO:bdH ⟨l,fs,true⟩=(bdH ⟨l,fs,o⟩).set 0 (some (.box (Bd.c ⟨l,fs,true⟩))):=rfl;have X:CxW Bl zP Ac []:=DB;have sZ:(bdH ⟨l,fs,o⟩).length=2+3*fs.length:=BT _;have c0:AH.at (bdH ⟨l,fs,o⟩) 0=some (.box (Bd.c ⟨l,fs,o⟩)):=rfl;have hf':=hf;obtain ⟨f,r,rfl,hf⟩:=hf;have cF:=GE l f r o [];rw [List.append_nil] at cF;simp only [Fr.c,Fr.pre,Sx.c,List.cons_append,List.nil_append] at cF;refine CS.of_Tr (c:=At Tryz.f31) (H0:=bdH ⟨l,f::r,o⟩) (H1:=bdH ⟨l,f::r,true⟩) Tryz.func31 (by kernel_rfl) 0 (by simp [Tryz.f31]) (fun B hB hG => ?_) rfl si;rw [hO];have tB:∀(H:AH) e B,(H.set 0 e++B).take H.length=H.set 0 e:=fun H e B=>List.take_left' (by rw [List.length_set])
 have wl:∀(H B:AH),(H++B).take H.length=H:=fun H B=>List.take_left' rfl
 generalize bdH ⟨l,f::r,o⟩=H at *;have sc:0<H.length:=by omega
 simp only [Bd.c] at c0;simp only [Sx.c,lfC,Bd.c,List.cons_append,List.nil_append] at hO;have k0:=fun B=>(Hr H B sc).trans c0
 have j0:=fun B e=>Gp H B e sc
 have s0:=fun B e=>Hs H B e sc
 have s1:=fun B e e'=>Ht H B e e' sc
 refine Tr.goW X hG ?_;simp only [Jz,List.length_cons] at c0 k0;simp only [List.length_cons] at sZ hd;have wk:2+3*r.length<H.length:=by omega
 have y6:2+3*r.length≠0:=by omega
 have kF:=fun B=>(GD (A:=H) (B:=B) wk).trans cF
 have jF:=fun B e=>(L5 (H:=H) B e wk y6).trans cF
 by_cases hk:f.st.kind=5
 ·have tu:0≤f.mid:=by rcases hf with h|h;exact absurd hk h;exact h
  simp [-AH.at,Tryz.f31,c0,k0,j0,s0,s1,DR,Dj,GF,GG,GH,GI,Gm,Gn,Sx.c,hO,tB,wl,Bt,h6,cF,kF,jF,hk,tu];rfl
 ·simp [-AH.at,Tryz.f31,c0,k0,j0,s0,s1,DR,Dj,GF,GG,GH,GI,Gm,Gn,Sx.c,hO,tB,wl,Bt,h6,cF,kF,jF,hk]
  rfl
theorem oB (l:List Nd) (fs:List Fr) (o:Bool) (x:Sx) (a:Int) (h3:x.kind=3∨x.kind=5) (hf:fs.length=8) (hd:fs.length≤8) :
  CS zP Ac 31 [.ptr 0 0,.agg x.c,.int .i64 a] (bdH ⟨l,fs,o⟩) (Bt 4) (bdH ⟨l,fs,true⟩):=by
 have si:AR (bdH ⟨l,fs,o⟩).length (bdH ⟨l,fs,true⟩)=true:=Em _ _ (by rw [BT];exact Nat.le_refl _);have hO:bdH ⟨l,fs,true⟩=(bdH ⟨l,fs,o⟩).set 0 (some (.box (Bd.c ⟨l,fs,true⟩))):=rfl;have X:CxW Bl zP Ac []:=DB;have sZ:(bdH ⟨l,fs,o⟩).length=2+3*fs.length:=BT _;have c0:AH.at (bdH ⟨l,fs,o⟩) 0=some (.box (Bd.c ⟨l,fs,o⟩)):=rfl;refine CS.of_Tr (c:=At Tryz.f31) (H0:=bdH ⟨l,fs,o⟩) (H1:=bdH ⟨l,fs,true⟩) Tryz.func31 (by kernel_rfl) 0 (by simp [Tryz.f31]) (fun B hB hG => ?_) rfl si;rw [hO];have tB:∀(H:AH) e B,(H.set 0 e++B).take H.length=H.set 0 e:=fun H e B=>List.take_left' (by rw [List.length_set])
 have wl:∀(H B:AH),(H++B).take H.length=H:=fun H B=>List.take_left' rfl
 generalize bdH ⟨l,fs,o⟩=H at *;have sc:0<H.length:=by omega
 simp only [Bd.c] at c0;simp only [Sx.c,lfC,Bd.c,List.cons_append,List.nil_append] at hO;have k0:=fun B=>(Hr H B sc).trans c0
 have j0:=fun B e=>Gp H B e sc
 have s0:=fun B e=>Hs H B e sc
 have s1:=fun B e e'=>Ht H B e e' sc
 refine Tr.goW X hG ?_;have xP:(fs.length:Int)=8:=by omega
 have e8:Bd.c ⟨l,fs,true⟩=[ndE.tk 1 l,upC fs.length,.int .i64 8,.bool true]:=by simp only [Bd.c,xP]
 rw [e8];rcases h3 with h3|h3
 all_goals
  simp [-AH.at,Tryz.f31,c0,k0,j0,s0,s1,DR,Dj,GF,GG,GH,GI,Gm,Gn,Sx.c,hO,tB,wl,Bt,h3,xP]
theorem oC (l:List Nd) (fs:List Fr) (o:Bool) (x:Sx) (a:Int) (h1:x.kind=1) (hf:o=true∨fs≠[]) (hd:fs.length≤8) :
  CS zP Ac 31 [.ptr 0 0,.agg x.c,.int .i64 a] (bdH ⟨l,fs,o⟩) (Bt 2) (bdH ⟨l,fs,o⟩):=by
 have si:AR (bdH ⟨l,fs,o⟩).length (bdH ⟨l,fs,o⟩)=true:=Em _ _ (by rw [BT];exact Nat.le_refl _);have hO:bdH ⟨l,fs,o⟩=bdH ⟨l,fs,o⟩:=rfl;have X:CxW Bl zP Ac []:=DB;have sZ:(bdH ⟨l,fs,o⟩).length=2+3*fs.length:=BT _;have c0:AH.at (bdH ⟨l,fs,o⟩) 0=some (.box (Bd.c ⟨l,fs,o⟩)):=rfl;refine CS.of_Tr (c:=At Tryz.f31) (H0:=bdH ⟨l,fs,o⟩) (H1:=bdH ⟨l,fs,o⟩) Tryz.func31 (by kernel_rfl) 0 (by simp [Tryz.f31]) (fun B hB hG => ?_) rfl si;rw [hO];have tB:∀(H:AH) e B,(H.set 0 e++B).take H.length=H.set 0 e:=fun H e B=>List.take_left' (by rw [List.length_set])
 have wl:∀(H B:AH),(H++B).take H.length=H:=fun H B=>List.take_left' rfl
 generalize bdH ⟨l,fs,o⟩=H at *;have sc:0<H.length:=by omega
 simp only [Bd.c] at c0;simp only [Sx.c,lfC,Bd.c,List.cons_append,List.nil_append] at hO;have k0:=fun B=>(Hr H B sc).trans c0
 have j0:=fun B e=>Gp H B e sc
 have s0:=fun B e=>Hs H B e sc
 have s1:=fun B e e'=>Ht H B e e' sc
 refine Tr.goW X hG ?_;cases o with
 |true=>simp [-AH.at,Tryz.f31,c0,k0,j0,s0,s1,DR,Dj,GF,GG,GH,GI,Gm,Gn,Sx.c,hO,tB,wl,Bt,h1]
 |false =>
  obtain ⟨d,sk⟩:∃d,fs.length=d+1:=by
   cases fs with
   |nil=>simp at hf
   |cons f r=>exact ⟨r.length,rfl⟩
  simp only [sk,Jz] at c0 k0;simp [-AH.at,Tryz.f31,c0,k0,j0,s0,s1,DR,Dj,GF,GG,GH,GI,Gm,Gn,Sx.c,hO,tB,wl,Bt,h1]
theorem oD (l:List Nd) (f:Fr) (r:List Fr) (o:Bool) (x:Sx) (a:Int) (h6:x.kind=6) (hk:f.st.kind=5) (tu:f.mid<0) (hd:r.length<8) :
  CS zP Ac 31 [.ptr 0 0,.agg x.c,.int .i64 a] (bdH ⟨l,f::r,o⟩) .nilIface (bdH ⟨l,{f with mid:=a}::r,true⟩):=by
 have si:AR (bdH ⟨l,f::r,o⟩).length (bdH ⟨l,{f with mid:=a}::r,true⟩)=true:=Em _ _ (by rw [BT];exact Nat.le_refl _)
 have uw:((bdH ⟨l,f::r,o⟩).set 0 (some (.box (Bd.c ⟨l,f::r,true⟩)))).set (2+3*r.length) (some (.box (Fr.c r.length {f with mid:=a})))=bdH ⟨l,{f with mid:=a}::r,true⟩:=by
  rw [RY];have h1:bdH ⟨l,f::r,true⟩=(some (.box (Bd.c ⟨l,f::r,true⟩))::AW l::frH r)++f.h r.length:=by simp [bdH,frH]
  rw [h1,List.set_append_right _ _ (by simp [I2];omega)];have h2:(2+3*r.length)-(some (Ent.box (Bd.c ⟨l,f::r,true⟩))::AW l::frH r).length=0:=by simp [I2];omega
  rw [h2];simp [bdH,frH,Fr.h];rfl
 obtain ⟨H1,hO⟩:∃H1,H1=bdH ⟨l,{f with mid:=a}::r,true⟩:=⟨_,rfl⟩
 rw [←hO] at uw si ⊢;have X:CxW Bl zP Ac []:=DB;have sZ:(bdH ⟨l,f::r,o⟩).length=2+3*(f::r).length:=BT _;have c0:AH.at (bdH ⟨l,f::r,o⟩) 0=some (.box (Bd.c ⟨l,f::r,o⟩)):=rfl;have cF:=GE l f r o [];rw [List.append_nil] at cF;simp only [Fr.c,Fr.pre,Sx.c,List.cons_append,List.nil_append] at cF uw;refine CS.of_Tr (c:=At Tryz.f31) (H0:=bdH ⟨l,f::r,o⟩) (H1:=H1) Tryz.func31 (by kernel_rfl) 0 (by simp [Tryz.f31]) (fun B hB hG => ?_) rfl si;clear hO si;generalize bdH ⟨l,f::r,o⟩=H at *;have sc:0<H.length:=by omega
 simp only [Bd.c,Jz,List.length_cons] at c0 uw;have k0:=fun B=>(Hr H B sc).trans c0
 have j0:=fun B e=>Gp H B e sc
 have s0:=fun B e=>Hs H B e sc
 have s1:=fun B e e'=>Ht H B e e' sc
 simp only [List.length_cons] at sZ;have wk:2+3*r.length<H.length:=by omega
 have y6:2+3*r.length≠0:=by omega
 have kF:=fun B=>(GD (A:=H) (B:=B) wk).trans cF
 have jF:=fun B e=>(L5 (H:=H) B e wk y6).trans cF
 have sF:∀B e e',(H.set 0 e++B).set (2+3*r.length) e'=(H.set 0 e).set (2+3*r.length) e'++B:=fun B e e'=>List.set_append_left _ _ (by rw [List.length_set];exact wk)
 have tF:∀B e e',((H.set 0 e).set (2+3*r.length) e'++B).take H.length=(H.set 0 e).set (2+3*r.length) e':=fun B e e'=>List.take_left' (by rw [List.length_set,List.length_set])
 have hm0:¬0≤f.mid:=by omega
 have ec:(((r.length+1:Nat):Int))=(r.length:Int)+1:=rfl;have tz:H1.length=H.length:=by rw [←uw];simp
 have tH:∀B,(H1++B).take H.length=H1:=fun B=>List.take_left' tz
 simp only [hk,ec] at uw cF kF jF;refine Tr.goW X hG ?_;simp [-AH.at,Tryz.f31,c0,k0,j0,s0,s1,kF,jF,sF,tF,cF,DR,Dj,GF,GG,GH,GI,Gm,Gn,Sx.c,h6,hk,tu,hm0,uw,tH]
theorem oE (l:List Nd) (fs:List Fr) (o:Bool) (x:Sx) (a:Int) (h3:x.kind=3∨x.kind=5) (hd:fs.length<8) :
  CS zP Ac 31 [.ptr 0 0,.agg x.c,.int .i64 a] (bdH ⟨l,fs,o⟩) .nilIface (bdH ⟨l,⟨a,a,x,[],[],-1⟩::fs,true⟩):=by
 have si:AR ((bdH ⟨l,fs,o⟩).length+3) (bdH ⟨l,⟨a,a,x,[],[],-1⟩::fs,true⟩)=true:=Em _ _ (by rw [BT];simp only [List.length_cons];omega);have sZ:(bdH ⟨l,fs,o⟩).length=2+3*fs.length:=BT _;obtain ⟨N,hN⟩:∃N,(bdH ⟨l,fs,o⟩).length=N:=⟨_,rfl⟩
 have c0:AH.at (bdH ⟨l,fs,o⟩) 0=some (.box (Bd.c ⟨l,fs,o⟩)):=rfl;have zCQ:bdH ⟨l,⟨a,a,x,[],[],-1⟩::fs,true⟩=(bdH ⟨l,fs,o⟩).set 0 (some (.box (Bd.c ⟨l,⟨a,a,x,[],[],-1⟩::fs,true⟩)))++[some (.box (Fr.c fs.length ⟨a,a,x,[],[],-1⟩)),none,none]:=by simp [bdH,frH,Fr.h]
 have hX:Cx Bl zP Ac:=CP;have X:CxW Bl zP Ac []:=DB;refine CS.of_TrN (c:=At Tryz.f31) (H0:=bdH ⟨l,fs,o⟩) (H1:=bdH ⟨l,⟨a,a,x,[],[],-1⟩::fs,true⟩) ((bdH ⟨l,fs,o⟩).length+3) (by omega) Tryz.func31 (by kernel_rfl) 0 (by simp [Tryz.f31]) (fun B hB hG => ?_) rfl si;refine Tr.post ?_;rw [zCQ] at si ⊢;simp only [Bd.c,Fr.c,Fr.pre,Sx.c,List.length_cons,List.cons_append,List.nil_append,Jz,Enc.tk_nil] at c0 si ⊢;have hHl:AR (bdH ⟨l,fs,o⟩).length (bdH ⟨l,fs,o⟩)=true:=Em _ _ (by rw [BT];exact Nat.le_refl _);generalize bdH ⟨l,fs,o⟩=H at *;have sc:0<H.length:=by omega
 have k0:=fun B=>(Hr H B sc).trans c0
 have j0:=fun B e=>Gp H B e sc
 have s0:=fun B e=>Hs H B e sc
 have s1:=fun B e e'=>Ht H B e e' sc
 have uL:=RX (d:=fs.length) (n:=H.length) (by omega);have ec:(((fs.length+1:Nat):Int))=(fs.length:Int)+1:=rfl;have xP:¬(fs.length:Int)=8:=by omega
 have w1:IntKind.i64.wrap ((fs.length:Int)+1)=(fs.length:Int)+1:=AZ (by omega) (by omega);refine Tr.goW X hG ?_;rcases h3 with h3|h3
 all_goals
  simp [-AH.at,Tryz.f31,c0,k0,j0,s0,s1,DR,Dj,GF,GG,GH,GI,Gm,Gn,Sx.c,h3,xP,w1];refine LpD.turnsW hX hG [7,10] [(0,7)] ?_;simp [-AH.at,c0,k0,j0,s0,s1,DR,Dj,GF,GG,GH,GI,Gm,Gn];refine ⟨mkT 112 [(6,.nilIface)],_,?_,by simp,List.take_of_length_le (by simp)⟩;exact n4 hB sZ.symm (by omega) hHl (by simp) l _ _ (by simp [uL]) _ _
theorem oF (s:Bd) (x:Sx) (a:Int) {m:Nat} (hs:s.ok m) (hm:m<137438953472) (hd:s.fs.length≤8) :
  ∃X:AH,CS zP Ac 31 [.ptr 0 0,.agg x.c,.int .i64 a] (bdH s) (Bt (s.add x a).2) (bdH (s.add x a).1++X)∧(bdH s).length≤(bdH (s.add x a).1++X).length∧AR (bdH (s.add x a).1++X).length (bdH (s.add x a).1++X)=true:=by
 have nil:∀{s':Bd} {c:Nat},s.add x a=(s',c)→(bdH s).length≤(bdH s').length→CS zP Ac 31 [.ptr 0 0,.agg x.c,.int .i64 a] (bdH s) (Bt c) (bdH s') →
   ∃X:AH,CS zP Ac 31 [.ptr 0 0,.agg x.c,.int .i64 a] (bdH s) (Bt (s.add x a).2) (bdH (s.add x a).1++X)∧(bdH s).length≤(bdH (s.add x a).1++X).length∧AR (bdH (s.add x a).1++X).length (bdH (s.add x a).1++X)=true:=by
  intro s' c he hl h;refine ⟨[],?_⟩;rw [he,List.append_nil];exact ⟨h,hl,Em _ _ (by rw [BT];exact Nat.le_refl _)⟩
 obtain ⟨l,fs,o⟩:=s
 have fin:∀k:Int,(x.kind=4∧k=3∨x.kind=7∧k=5)→Bd.add ⟨l,fs,o⟩ x a=Bd.fin ⟨l,fs,true⟩ k a →
   ∃X:AH,CS zP Ac 31 [.ptr 0 0,.agg x.c,.int .i64 a] (bdH ⟨l,fs,o⟩) (Bt (Bd.add ⟨l,fs,o⟩ x a).2) (bdH (Bd.add ⟨l,fs,o⟩ x a).1++X)∧(bdH ⟨l,fs,o⟩).length≤(bdH (Bd.add ⟨l,fs,o⟩ x a).1++X).length∧AR (bdH (Bd.add ⟨l,fs,o⟩ x a).1++X).length (bdH (Bd.add ⟨l,fs,o⟩ x a).1++X)=true:=by
  intro k hk he;refine ⟨Fo ⟨l,fs,true⟩ k,?_⟩;rw [he];have h1:=fin_len ⟨l,fs,true⟩ k a;refine ⟨n5 l fs o x a k hk hs hm hd,by rw [h1,BT,BT];exact Nat.le_refl _,?_⟩;rw [h1,IM,Em _ _ (by have:=Bd.fin_len ⟨l,fs,true⟩ k a;rw [BT];simp only at this ⊢;omega)];cases fs with
  |nil=>rfl
  |cons f r =>
   simp only [Fo]
   split
   ·rw [OC _ _ _ (by rw [BT];simp only [List.length_cons];omega)];rfl
   ·rfl
 have mk1:x.kind≠1→Bd.mark ⟨l,fs,o⟩ x=⟨l,fs,true⟩:=fun h=>by unfold Bd.mark;rw [if_neg h]
 have mk0:x.kind=1→Bd.mark ⟨l,fs,o⟩ x=⟨l,fs,o⟩:=fun h=>by unfold Bd.mark;rw [if_pos h]
 by_cases h4:x.kind=4
 ·exact fin 3 (.inl ⟨h4,rfl⟩) (by simp [Bd.add,h4,mk1 (by omega)])
 by_cases h7:x.kind=7
 ·exact fin 5 (.inr ⟨h7,rfl⟩) (by simp [Bd.add,h7,mk1 (by omega)])
 by_cases h6:x.kind=6
 ·cases fs with
  |nil=>exact nil (s':=⟨l,[],true⟩) (c:=12) (by simp [Bd.add,h6,mk1 (by omega)]) (by rw [BT,BT];exact Nat.le_refl _) (n9 l [] o x a h6 rfl hd)
  |cons f r =>
   by_cases hc:f.st.kind=5∧f.mid<0
   ·exact nil (s':=⟨l,{f with mid:=a}::r,true⟩) (c:=0) (by simp [Bd.add,h6,mk1 (by omega),hc]) (by rw [BT,BT];exact Nat.le_refl _) (oD l f r o x a h6 hc.1 hc.2 (by simp only [List.length_cons] at hd;omega))
   ·exact nil (s':=⟨l,f::r,true⟩) (c:=12) (by simp [Bd.add,h6,mk1 (by omega)];intro h1;have:¬f.mid<0:=fun h2=>hc ⟨h1,h2⟩;omega) (by rw [BT,BT];exact Nat.le_refl _)
     (oA l (f::r) o x a h6 ⟨f,r,rfl,by
      by_cases h5:f.st.kind=5
      ·exact .inr (by have:¬f.mid<0:=fun hm=>hc ⟨h5,hm⟩;omega)
      ·exact .inl h5⟩ hd)
 by_cases h3:x.kind=3∨x.kind=5
 ·have vQ:=mk1 (by rcases h3 with h|h<;>rw [h]<;>decide)
  by_cases h8:fs.length=8
  ·exact nil (s':=⟨l,fs,true⟩) (c:=4) (by simp [Bd.add,h4,h7,h6,h3,vQ,h8]) (by rw [BT,BT];exact Nat.le_refl _) (oB l fs o x a h3 h8 hd)
  ·exact nil (s':=⟨l,⟨a,a,x,[],[],-1⟩::fs,true⟩) (c:=0) (by simp [Bd.add,h4,h7,h6,h3,vQ,h8]) (by rw [BT,BT];simp only [List.length_cons];omega) (oE l fs o x a h3 (by simp only at hd;omega))
 by_cases h1:x.kind=1
 ·by_cases hl:o=true∨fs≠[]
  ·exact nil (s':=⟨l,fs,o⟩) (c:=2) (by simp [Bd.add,h1,mk0 h1];intro h2 h3;simp [h2,h3] at hl) (Nat.le_refl _) (oC l fs o x a h1 hl hd)
  ·have ho:o=false:=by cases o;rfl;simp at hl
   have hf:fs=[]:=by cases fs;rfl;simp at hl
   subst ho;subst hf;exact nil (s':=Bd.put ⟨l,[],false⟩ (.lf a x)) (c:=0) (by simp [Bd.add,h1,mk0 h1]) (by rw [BT,BT,Bd.put_len];exact Nat.le_refl _) (n7 l [] false x a h1 rfl rfl hs hm hd)
 ·exact nil (s':=Bd.put ⟨l,fs,true⟩ (.lf a x)) (c:=0) (by simp [Bd.add,h4,h7,h6,h3,h1,mk1 h1]) (by rw [BT,BT,Bd.put_len];exact Nat.le_refl _) (n6 l fs o x a h1 (fun h=>h3 (.inl h)) h4 (fun h=>h3 (.inr h)) h6 h7 hs hm hd)
def psB (N:Nat) (i:Nat):Nat:=if i<N then i else i+1
def I6 (N:Nat) (e:Option Ent) (H:AH):AH:=(H.take N).map (Option.map (AJ (psB N)))++e::(H.drop N).map (Option.map (AJ (psB N)))
theorem W6 (N:Nat) (i j:Nat) (h:psB N i=psB N j):i=j:=by unfold psB at h;split at h<;>split at h<;>omega
theorem oG {H:AH} {n i:Nat}:AH.at (List.drop n H) i=H.at (n+i):=by unfold AH.at;rw [List.getElem?_drop]
theorem W7 (N:Nat) (e:Option Ent) (H:AH) (h:N≤H.length) (i:Nat):AH.at (I6 N e H) (psB N i)=(H.at i).map (AJ (psB N)):=by
 have hn:Option.map (AJ (psB N)) none=none:=rfl;have hl:((H.take N).map (Option.map (AJ (psB N)))).length=N:=by simp [h]
 unfold I6
 by_cases hi:i<N
 ·have:psB N i=i:=if_pos hi
  rw [this,GD (by rw [hl];exact hi),Pr hn,Gy,if_pos hi]
 ·have:psB N i=i+1:=if_neg hi
  rw [this,HI (by rw [hl];omega),hl,show i+1-N=(i-N)+1 by omega];have:∀(B:AH) (x:Option Ent) (j:Nat),AH.at (x::B) (j+1)=B.at j:=fun B x j=>rfl
  rw [this,Pr hn,oG,show N+(i-N)=i by omega]
theorem oH (N:Nat) (e:Option Ent) (H:AH) (h:N≤H.length):AH.at (I6 N e H) N=e:=by
 have hl:((H.take N).map (Option.map (AJ (psB N)))).length=N:=by simp [h]
 unfold I6;rw [HI (by rw [hl];exact Nat.le_refl _),hl,Nat.sub_self];rfl
theorem CS.behind1 {f:FuncId} {args:List AV} {v:AV} {H0 H0':AH} (e:Option Ent) (h:CS zP Ac f args H0 v H0') (sY:H0.length≤H0'.length) (ha:lowL H0.length args=true) (hv:low 0 v=true) (hl:AR H0.length H0=true) (hl':AR H0'.length H0'=true) :
  CS zP Ac f args (H0++[e]) v (I6 H0.length e H0'):=by
 have wB:∀i,i<H0.length→psB H0.length i=i:=fun i hi=>if_pos hi
 have:=CS.grow (k:=H0.length) (n:=H0'.length) (psB H0.length) (H:=H0++[e]) (H':=I6 H0.length e H0') h rfl rfl sY (fun i j _ _ h=>W6 _ i j h) Dg ha (Cd (Nat.zero_le _) v hv) hl hl' (by
  intro i hi
  rw [wB i hi,GD hi,Fb wB (by
   cases he:H0.at i with
   |none=>rfl
   |some x=>exact Ib hl he)]) (by
  intro i h1 h2;have:psB H0.length i=i+1:=if_neg (by omega);rw [this]
  exact Cy (by simp;omega)) (fun i _=>W7 _ e _ sY i) (by
  intro j hj
  by_cases hjN:j=H0.length
  ·subst hjN
   rw [oH _ e _ sY,HI (Nat.le_refl _),Nat.sub_self];rfl
  ·have h1:H0'.length<j:=by
    rcases Nat.lt_or_ge H0'.length j with h|h
    ·exact h
    ·exfalso
     rcases Nat.lt_or_ge j H0.length with h2|h2
     ·exact hj j (by omega) (wB j h2)
     ·refine hj (j-1) (by omega) ?_
      have:psB H0.length (j-1)=(j-1)+1:=if_neg (by omega);rw [this];omega
   rw [Cy (by simp [I6];omega),Cy (by simp;omega)])
 rwa [FK wB _ ha,F3 _ _ hv] at this
noncomputable def CQ (F:AF zP AG):AF zP Ac where
 f:=F.f
 α:=F.α
 ok:=F.ok
 args:=F.args
 out:=F.out
 up:=F.up
 cs:=fun x H h=>⟨CS.toS (F.cs x H h).1,(F.cs x H h).2⟩
 same:=F.same
theorem oI (p:Int) (l:List (List UInt8 × Int)) (c:Int) (H:AH):CS zP AG 32 [.int .i64 p,AY l c] H (AY ((Cw,p)::l) c) H:=by refine CS.tr0 BL Tryz.func32 (by kernel_rfl) 0 (by simp [Tryz.f32]) (fun B hB hG => ?_) (by simp) (by simp) H;refine Tr.goD DX hG ?_;simp [Tryz.f32,AY,Cw]
noncomputable def OD:AF zP AG:=AF.pure 32 (fun _:Int × List (List UInt8 × Int) × Int=>True) (fun x=>[.int .i64 x.1,AY x.2.1 x.2.2]) (fun x=>AY ((Cw,x.1)::x.2.1) x.2.2)
 (fun x _ H=>oI x.1 x.2.1 x.2.2 H) (fun x y _ _ h=>by
  obtain ⟨a,b,c⟩:=x;obtain ⟨a',b',c'⟩:=y;simp only [List.cons.injEq,AV.int.injEq,true_and,and_true] at h;obtain ⟨h1,h2⟩:=N5 h.2;simp only
  rw [h.1,h1,h2])
noncomputable def OE:AF zP AG:=AF.pure 30 (fun s:List UInt8=>s.length<1000000) (fun s=>[.str s]) (fun s=>HM (Is (B4 s))) (fun s h H=>nt s h H) (fun x y _ _ h=>by
 simp only [List.cons.injEq,AV.str.injEq,and_true] at h
 rw [h])
theorem W8 {c:Nat} (h:c≠0):Bt c=AY [] (c:Int):=if_neg h
set_option maxHeartbeats 1000000
def Bp (ts:List Wd) (r:Sr) (k:Nat) (s:List UInt8):Sr:=(if isW ts r k s then r else r.fail r.at_ 2).step
def B8 (ts:List Wd) (r:Sr):List UInt8 × Sr:=if isW ts r 1 [] then (((ts[r.at_]?).getD wd0).text,r.step) else ([],r.fail r.at_ 2)
def CI (ts:List Wd) (r:Sr):Nat × Sr:=if isW ts r 2 [] then (((ts[r.at_]?).getD wd0).n,r.step) else (0,r.fail r.at_ 2)
def Ci (r:Sr) (n:Nat) (w:Option (Nat × Nat)):Sr:=match r.err with
 |some _=>r
 |none=>(match w with
  |some (p,c)=>⟨r.at_,some ([(Bo,r.at_+p),(Hf,p)],c)⟩
  |none=>⟨r.at_+n,none⟩)
def B9 (ts:List Wd) (r:Sr):Ex × Sr:=match r.err with
 |some _=>(.none,r)
 |none=>((Bb (ts.drop r.at_)).1,Ci r (Bb (ts.drop r.at_)).2.1 (Bb (ts.drop r.at_)).2.2)
def CM (ts:List Wd) (r:Sr):Ex × Sr :=
 if isW ts r 1 [] then
  (if isK ts (r.at_+1) 3 Ah then
   (.elem ((ts[r.at_]?).getD wd0).text (Bv (ts.drop r.at_) (Bn (ts.drop r.at_)) ⟨2,0,none⟩).1,Ci r (Bv (ts.drop r.at_) (Bn (ts.drop r.at_)) ⟨2,0,none⟩).2.at_ (Bv (ts.drop r.at_) (Bn (ts.drop r.at_)) ⟨2,0,none⟩).2.err)
  else (.var ((ts[r.at_]?).getD wd0).text,r.step))
 else (.none,r.fail r.at_ 2)
def DC (ts:List Wd):Nat→List Int→Sr→List Int × Sr
 |0,d,r=>(d,r)
 |n+1,d,r =>
  let r1:=if 4≤d.length then r.fail (r.at_-1) 4 else r
  let m:=CI ts r1
  let r2:=if m.2.err=none∧m.1=0 then m.2.fail r1.at_ 1 else m.2
  if isW ts r2 3 A0 then DC ts n (d++[(m.1:Int)]) r2.step else (d++[(m.1:Int)],r2)
def CA (ts:List Wd) (r:Sr):It × Sr :=
 let m:=B8 ts r
 if isW ts m.2 3 Ah then (⟨m.1,(DC ts 6 [] m.2.step).1⟩,Bp ts (DC ts 6 [] m.2.step).2 3 Ao) else (⟨m.1,[]⟩,m.2)
def Dv (ts:List Wd):Nat→List It→Sr→List It × Sr
 |0,l,r=>(l,r)
 |n+1,l,r=>if isW ts (CA ts r).2 3 A0 then Dv ts n (l++[(CA ts r).1]) (CA ts r).2.step else (l++[(CA ts r).1],(CA ts r).2)
def E6 (ts:List Wd) (r:Sr):List It × Sr:=Dv ts (ts.length+1) [] r
def J1 (ts:List Wd) (r:Sr):Int × Sr :=
 if isW ts r 3 A0 then
  ((if isW ts r.step 3 BY then NL (CI ts (CO ts r.step 3 BY)).1 else ((CI ts (CO ts r.step 3 BY)).1:Int)),(CI ts (CO ts r.step 3 BY)).2)
 else (1,r)
def FT (ts:List Wd) (r:Sr):Sm × Sr :=
 let m:=B8 ts r
 let a:=B9 ts (Bp ts m.2 3 isT)
 let b:=B9 ts (Bp ts a.2 3 A0)
 let s:=J1 ts b.2
 ({kind:=3,name:=m.1,lo:=a.1,hi:=b.1,step:=s.1},s.2)
def Fp (ts:List Wd) (r:Sr):(List UInt8 × Ex × Ex) × Sr:=match r.err with
 |some _=>(([],.none,.none),r)
 |none=>((CK (ts.drop r.at_)).1,Ci r (CK (ts.drop r.at_)).2.1 (CK (ts.drop r.at_)).2.2)
def OF (ts:List Wd) (r:Sr):Sm × Sr :=
 let c:=Fp ts (Bp ts r 3 Ah)
 ({kind:=5,op:=c.1.1,ca:=c.1.2.1,cb:=c.1.2.2},Bp ts (Bp ts c.2 3 Ao) 4 Ga)
def Cb (ts:List Wd) (word:List UInt8) (r:Sr):Sm × Sr :=
 if word=Io then ({kind:=1,items:=(E6 ts r).1},(E6 ts r).2)
 else if word=doT then FT ts r
 else if word=Hg then (if isW ts r 4 doT then ({kind:=4},r.step) else ({kind:=7},Bp ts r 4 ifT))
 else if word=ifT then OF ts r
 else if word=Ip then ({kind:=6},r)
 else if word=Iq then ({kind:=8,to:=(CM ts r).1},(CM ts r).2)
 else if word=Ir then ({kind:=9,e:=(B9 ts r).1},(B9 ts r).2)
 else ({},r.fail (r.at_-1) 2)
def OG (ts:List Wd) (r:Sr):Sm × Sr :=
 let a:=CM ts r
 let b:=B9 ts (Bp ts a.2 3 isT)
 ({kind:=2,to:=a.1,e:=b.1},b.2)
def Dk (ts:List Wd) (w:Wd):Sm × Sr :=if w.kind=4 then Cb ts w.text ⟨1,none⟩ else if w.kind=1 then OG ts ⟨0,none⟩ else ({},⟨0,some ([(Bo,0)],2)⟩)
def I7 (ts:List Wd):Sm × Er:=match ts with
 |[]=>({},none)
 |w::_ =>
  let x:=Dk ts w
  let r:=if x.2.err=none∧x.2.at_<ts.length then x.2.fail x.2.at_ 2 else x.2
  match r.err with
  |some y=>({},some y)
  |none=>(x.1,none)
def Dl (body:List UInt8):Sm × Er:=match lex (body.length+1) body 0 false with
 |.error (p,e)=>({},some ([(Bo,0),(Kb,p)],e))
 |.ok ts=>I7 ts
@[simp] theorem immFM:AG.imm 168=false:=by decide
@[simp] theorem sG:AG.imm 204=false:=by decide
@[simp] theorem immFW:AG.imm 33=true:=by decide
@[simp] theorem sH:AG.imm 55=true:=by decide
def erP:Er→AV
 |none => .nilSlice
 |some (l,_) => .slice (if l.length=1 then .full else .unk) 2 l.length (B3 (CB l))
def erC:Er→Int
 |none=>0
 |some (_,c)=>(c:Int)
theorem E7 {e:Er} (h:AO e):(erC e=0)↔e=none:=by
 cases e with
 |none=>simp [erC]
 |some y =>obtain ⟨l,c⟩:=y;have:=(h l c rfl).2;simp [erC];omega
theorem Hu {e:Er} (h:AO e):((erC e==0):Bool)=e.isNone:=by
 cases e with
 |none=>rfl
 |some y =>rw [Option.isNone_some,beq_eq_false_iff_ne];intro h0;have:=(E7 h).1 h0;cases this
theorem L7:∀l,lowL 0 (B3 l)=true
 |[]=>rfl
 |(w,p)::l=>by simp [B3,L7 l]
@[simp ↓ high] theorem RZ (e:Er):low 0 (erP e)=true:=by
 cases e with
 |none=>rfl
 |some x =>
  simp only [erP]
  split
  ·exact L7 _
  ·exact L7 _
@[simp ↓ high] theorem sI (m:Nat) (e:Er):low m (erP e)=true:=Cd (Nat.zero_le m) _ (RZ e)
@[simp ↓ high] theorem sJ (e:Er):Bh (erP e)=[]:=LV _ (RZ e)
@[simp ↓ high] theorem sK (e:Er):(erP e).known=true:=by cases e<;>rfl
@[simp ↓ high] theorem sL (e:Er):(erP e).one=true:=by cases e<;>rfl
@[simp ↓ high] theorem sM (e:Er):Aw (erP e)=[erP e]:=by cases e<;>rfl
theorem W9:∀{a b:List (List UInt8 × Int)},B3 a=B3 b→a=b
 |[],[],_=>rfl
 |[],(w,p)::b,h=>by simp [B3] at h
 |(w,p)::a,[],h=>by simp [B3] at h
 |(w,p)::a,(w',p')::b,h=>by simp only [B3,List.cons.injEq,AV.str.injEq,AV.int.injEq,true_and] at h;rw [h.1,h.2.1,W9 h.2.2]
theorem OH {x y:Er} (h1:erP x=erP y) (h2:erC x=erC y):x=y:=by
 cases x with
 |none=>cases y with
  |none=>rfl
  |some y=>simp [erP] at h1
 |some x=>cases y with
  |none=>simp [erP] at h1
  |some y =>
   obtain ⟨l,c⟩:=x;obtain ⟨m,d⟩:=y;simp only [erP,AV.slice.injEq] at h1;simp only [erC] at h2;have e2:c=d:=by omega
   rw [Q9 (W9 h1.2.2.2),e2]
def mkC (ts:List Wd) (a:Int) (e:Er):List AV:=[AD ts,.int .i64 a,erP e,.int .i64 (erC e)]
@[simp] theorem oJ (ts:List Wd) (a:Int) (e:Er):mkC ts a e=[AD ts,.int .i64 a,erP e,.int .i64 (erC e)]:=AP rfl
theorem oK (ts:List Wd) (a:Int) (e:Er):lowL 0 (mkC ts a e)=true:=by simp
def Sr.mc (ts:List Wd) (r:Sr):List AV:=mkC ts r.at_ r.err
theorem GJ (ts:List Wd) (r s:Sr) (h:r.mc ts=s.mc ts):r=s:=by
 obtain ⟨a,x⟩:=r;obtain ⟨b,y⟩:=s;simp only [Sr.mc,oJ,List.cons.injEq,AV.int.injEq,true_and,and_true] at h;have:=OH h.2.1 h.2.2;subst this;have:a=b:=by omega
 subst this;rfl
theorem DD (ts:List Wd) (r:Sr):lowL 0 (r.mc ts)=true:=oK _ _ _
theorem Ra:Cx Jl zP AG:=⟨AS.toF (AS.toX (AS.toN Nl)),Bw,Ae⟩
theorem oL (ts:List Wd) (r:Sr) (he:AO r.err) (p c:Nat) {H:AH} {id:Nat} (hH:H.at id=some (.box (r.mc ts))) :
  CS zP AG 65 [.ptr id 0,.int .i64 (p:Int),.int .i64 (c:Int)] H (.tup []) (H.set id (some (.box ((r.fail p c).mc ts)))):=by
 obtain ⟨a,e⟩:=r;refine CS.rd BL Tryz.func65 (by kernel_rfl) 0 (by simp [Tryz.f65]) (fun B hB hG => ?_) (by simp) rfl (DD _ _) (DD _ _) hH;refine Tr.goD Ra hG ?_;cases e with
 |none=>simp [Tryz.f65,Sr.mc,Sr.fail,erC,erP,Ln,Bo,CB,B3]
 |some y =>
  have h0:¬erC (some y)=0:=fun h=>by have:=(E7 he).1 h;cases this
  simp [Tryz.f65,Sr.mc,Sr.fail,h0]
theorem oM (ts:List Wd) (r:Sr) (he:AO r.err) (k:Nat) (s:List UInt8) (hs:s≠[]) {H:AH} {id:Nat} (hH:H.at id=some (.box (r.mc ts))) :
  CS zP AG 88 [.ptr id 0,.int .i64 (k:Int),.str s] H (.bool (isW ts r k s)) (H.set id (some (.box (r.mc ts)))):=by
 obtain ⟨a,e⟩:=r;refine CS.rd BL Tryz.func88 (by kernel_rfl) 0 (by simp [Tryz.f88]) (fun B hB hG => ?_) (by simp) rfl (DD _ _) (DD _ _) hH;refine Tr.goD DX hG ?_;simp [Tryz.f88,Sr.mc];refine LpD.turns DX hG [] [] ?_;cases e with
 |some y =>
  have h0:(erC (some y)==0)=false:=by rw [Hu he];rfl
  simp [isW,h0]
 |none =>
  by_cases hl:a<ts.length
  ·have hl':(a:Int)<ts.length:=by omega
   obtain ⟨w,hw⟩:∃w,ts[a]? = some w:=⟨_,List.getElem?_eq_getElem hl⟩
   obtain ⟨c0,c1,c3⟩:=Eh hw;have hn:=WT hw hs k
   by_cases hk:w.kind=k
   ·simp [isW,hn,erC,hl,hl',hk,c0,c1]
   ·have hk':((w.kind:Int)==(k:Int))=false:=by rw [beq_eq_false_iff_ne];omega
    simp [isW,hn,erC,hl,hl',hk,hk',c0,c1]
  ·have hl':¬((a:Int)<ts.length):=by omega
   have hw:ts[a]? = none:=List.getElem?_eq_none (by omega);have hn:isK ts a k s=false:=by simp only [isK,hw]
   simp [isW,hn,erC,hl',hw]
end Go.Proofs.YtffcldkblcmmiaaGreatDoor
