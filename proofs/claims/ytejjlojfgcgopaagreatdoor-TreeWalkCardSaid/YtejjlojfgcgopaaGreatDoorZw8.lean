/- The program's trees: the builder's state aS it lies, and put .. The program's trees: Of. -/
import Derived.Test.YtejjlojfgcgopaaGreatDoorZw7
set_option linter.unusedSimpArgs false
set_option linter.unusedVariables false
namespace Go.Proofs.YtejjlojfgcgopaaGreatDoor
open Go.RowKit Go.Proofs.Fw
set_option maxRecDepth 100000
set_option maxHeartbeats 4000000
structure Fr where
 line:Int
 end_:Int
 st:Sx
 body:List Nd
 els:List Nd
 mid:Int
def Fr.nd (f:Fr):Nd := .mk f.line f.end_ f.st f.body f.els f.mid
def Fr.pre (f:Fr):List AV := .int .i64 f.line :: .int .i64 f.end_::f.st.c
def upC:Nat→AV
 | 0 => .nilPtr
 | n+1 => .ptr (2+3*n) 0
def Fr.c (d:Nat) (f:Fr):List AV:=f.pre++[ndE.tk (3+3*d) f.body,ndE.tk (4+3*d) f.els,.int .i64 f.mid,upC d]
def Fr.h (d:Nat) (f:Fr):AH:=[some (.box (f.c d)),AW f.body,AW f.els]
def frH:List Fr→AH
 | []=>[]
 | f::r=>frH r++f.h r.length
structure Bd where
 l:List Nd
 fs:List Fr
 o:Bool
def Bd.c (s:Bd):List AV:=[ndE.tk 1 s.l,upC s.fs.length,.int .i64 (s.fs.length:Int),.bool s.o]
def bdH (s:Bd):AH:=some (.box s.c)::AW s.l::frH s.fs
def Fr.put (f:Fr) (n:Nd):Fr:=if 0≤f.mid then {f with els:=f.els++[n]} else {f with body:=f.body++[n]}
def Bd.put (s:Bd) (n:Nd):Bd:=match s.fs with
 | []=>{s with l:=s.l++[n]}
 | f::r=>{s with fs:=f.put n::r}
def Fr.ok (m:Nat) (f:Fr):Prop:=f.body.length≤m∧f.els.length≤m
def Bd.ok (m:Nat) (s:Bd):Prop:=s.l.length≤m∧∀f∈s.fs,f.ok m
theorem Bd.put_ok {m:Nat} {s:Bd} (h:s.ok m) (n:Nd):(s.put n).ok (m+1):=by
 obtain ⟨l,fs,o⟩:=s;obtain ⟨h1,h2⟩:=h;cases fs with
 | nil =>simp only [Bd.put];exact ⟨by simp only [List.length_append,List.length_cons,List.length_nil] at h1 ⊢;omega,fun f hf=>by cases hf⟩
 | cons f r =>
  simp only [Bd.put];refine ⟨by simp only at h1 ⊢;omega,fun g hg => ?_⟩;rcases List.mem_cons.1 hg with rfl|hg
  ·have h3:=h2 f List.mem_cons_self
   unfold Fr.ok at h3 ⊢;unfold Fr.put
   split<;>simp only [List.length_append,List.length_cons,List.length_nil]<;>omega
  ·have h3:=h2 g (List.mem_cons_of_mem _ hg)
   unfold Fr.ok at h3 ⊢;omega
theorem Bd.ok_mono {m n:Nat} (sL:m≤n) {s:Bd} (h:s.ok m):s.ok n:=⟨by have:=h.1;omega,fun f hf=>by have:=h.2 f hf;unfold Fr.ok at this ⊢;omega⟩
theorem Ik:∀r:List Fr,(frH r).length=3*r.length
 | []=>rfl
 | f::r=>by simp only [frH,List.length_append,Ik r,Fr.h,List.length_cons,List.length_nil];omega
theorem Fr.pre_len (f:Fr):f.pre.length=31:=rfl
theorem Fr.pre_low (f:Fr):lowL 0 f.pre=true:=by have:=Sx.c_low f.st;simp [Fr.pre,this]
theorem Fr.c_len (d:Nat) (f:Fr):(f.c d).length=35:=rfl
theorem Fa {A B:AH} {i:Nat} (h:i<A.length):AH.at (A++B) i=A.at i:=by unfold AH.at;rw [List.getElem?_append_left h]
theorem G4 {A B:AH} {i:Nat} (h:A.length≤i):AH.at (A++B) i=B.at (i-A.length):=by unfold AH.at;rw [List.getElem?_append_right h]
theorem QX (l:List Nd) (f:Fr) (r:List Fr) (o:Bool) (K:AH):bdH ⟨l,f::r,o⟩++K=([some (.box (Bd.c ⟨l,f::r,o⟩)),AW l]++frH r)++(f.h r.length++K):=by simp [bdH,frH]
theorem Lc (l:List Nd) (f:Fr) (r:List Fr) (o:Bool) (K:AH) (i:Nat):(bdH ⟨l,f::r,o⟩++K).at (2+3*r.length+i)=(f.h r.length++K).at i:=by
 rw [QX,G4 (by simp [Ik];omega)]
 congr 1
 simp [Ik];omega
theorem F3 (l:List Nd) (f:Fr) (r:List Fr) (o:Bool) (K:AH):(bdH ⟨l,f::r,o⟩++K).at (2+3*r.length)=some (.box (f.c r.length)):=Lc l f r o K 0
theorem NX (l:List Nd) (f:Fr) (r:List Fr) (o:Bool) (K:AH):(bdH ⟨l,f::r,o⟩++K).at (3+3*r.length)=AW f.body:=by have:=Lc l f r o K 1;rw [show 3+3*r.length=2+3*r.length+1 by omega,this];rfl
theorem NY (l:List Nd) (f:Fr) (r:List Fr) (o:Bool) (K:AH):(bdH ⟨l,f::r,o⟩++K).at (4+3*r.length)=AW f.els:=by have:=Lc l f r o K 2;rw [show 4+3*r.length=2+3*r.length+2 by omega,this];rfl
theorem Cl (l:List Nd) (f:Fr) (r:List Fr) (o:Bool) (K:AH):(bdH ⟨l,f::r,o⟩++K).length=5+3*r.length+K.length:=by rw [QX];simp [Ik,Fr.h];omega
theorem Il (l:List Nd) (f f':Fr) (r:List Fr) (o:Bool) (K:AH) {j:Nat} (h1:j≠2+3*r.length) (h2:j=3+3*r.length→AW f'.body=AW f.body) (h3:j=4+3*r.length→AW f'.els=AW f.els) :
  (bdH ⟨l,f'::r,o⟩++K).at j=(bdH ⟨l,f::r,o⟩++K).at j:=by
 rcases Nat.lt_or_ge j (2+3*r.length) with h|h
 ·have e:∀g:Fr,(bdH ⟨l,g::r,o⟩++K).at j=AH.at ([some (.box (Bd.c ⟨l,g::r,o⟩)),AW l]++frH r) j:=fun g=>by rw [QX,Fa (by simp [Ik];omega)]
  rw [e f',e f];rfl
 ·obtain ⟨i,rfl⟩:=Nat.exists_eq_add_of_le h
  rw [Lc,Lc];rcases (by omega:i=0∨i=1∨i=2∨3≤i) with rfl|rfl|rfl|hi
  ·exact absurd rfl h1
  ·exact h2 (by omega)
  ·exact h3 (by omega)
  ·rw [G4 (show (f'.h r.length).length≤i from hi),G4 (show (f.h r.length).length≤i from hi)]
   rfl
theorem DA (φ:Nat→Nat):∀a b:List AV,AM φ (a++b)=AM φ a++AM φ b
 | [],b=>rfl
 | x::a,b=>by simp [AM,DA φ a b]
def Aa (N d T2 T:Nat) (i:Nat):Nat:=if i=0 then 0 else if i=1 then 2+3*d else if i=2 then 1 else if i=3 then (if d=0 then N else 3*d-1) else if i=4 then T2 else T
theorem NZ {N d T2 T:Nat} (h:(T2=3+3*d∧T=4+3*d)∨(T2=4+3*d∧T=3+3*d)) (hN:5+3*d≤N):∀i j,i<6→j<6→Aa N d T2 T i=Aa N d T2 T j→i=j:=by intro i j hi hj he;unfold Aa at he;rcases (by omega:i=0∨i=1∨i=2∨i=3∨i=4∨i=5) with rfl|rfl|rfl|rfl|rfl|rfl<;>rcases (by omega:j=0∨j=1∨j=2∨j=3∨j=4∨j=5) with rfl|rfl|rfl|rfl|rfl|rfl<;>simp at he ⊢ <;> (try split at he)<;>omega
theorem kT (l:List Nd) (f:Fr) (r:List Fr) (o:Bool) (n:Nd) (K:AH) (qx:f.mid<0) (h0:f.body=[]) :
  CS zP AY 128 [.ptr 0 0,.agg (ndC n)] (bdH ⟨l,f::r,o⟩++K) (.tup []) (bdH ⟨l,{f with body:=f.body++[n]}::r,o⟩++K):=by
 have hs:=kO (ndC n) f.pre (ndE.tk 2 l) (ndE.tk 4 f.els) (if r.length=0 then .nilPtr else .ptr 3 0) (some .hid) (if r.length=0 then none else some .hid) (some .hid) f.mid qx f.pre_len (HZ n) (H9 n) (Br n) (Enc.tk_low _ (by decide) _) (Enc.tk_low _ (by decide) _) (by split<;>rfl) f.pre_low rfl (by split<;>rfl) rfl ((f::r).length:Int) o;generalize hf':({f with body:=f.body++[n]}:Fr)=f';have hN:=Cl l f r o K;have hN':=Cl l f' r o K;have e1:f'.body=f.body++[n]:=by subst hf';rfl
 have e2:f'.els=f.els:=by subst hf';rfl
 have e3:f'.pre=f.pre:=by subst hf';rfl
 have e4:f'.mid=f.mid:=by subst hf';rfl
 have uj:=NZ (N:=(bdH ⟨l,f::r,o⟩++K).length) (d:=r.length) (T2:=(4+3*r.length)) (T:=(3+3*r.length)) (by omega) (by omega);have six:∀{i:Nat},i<6→i=0∨i=1∨i=2∨i=3∨i=4∨i=5:=fun h=>by omega
 have low6:=fun (l:List AV) (h:lowL 0 l=true) (m:Nat)=>Ah (Nat.zero_le m) l h
 have rq:ren (Aa (bdH ⟨l,f::r,o⟩++K).length r.length (4+3*r.length) (3+3*r.length)) (if r.length=0 then .nilPtr else .ptr 3 0)=upC r.length:=by
  cases hd:r.length with
  | zero=>rfl
  | succ d =>simp [ren,upC,Aa];omega
 have qg:∀f0:Fr,∀i,i∈[0,2+3*r.length,(3+3*r.length)]→(mask (bdH ⟨l,f0::r,o⟩++K) [0,2+3*r.length,(3+3*r.length)]).at i=(bdH ⟨l,f0::r,o⟩++K).at i:=fun f0 i hi=>Ft hi
 have qf:∀f0:Fr,∀i,i ∉ [0,2+3*r.length,(3+3*r.length)]→i<5+3*r.length→(mask (bdH ⟨l,f0::r,o⟩++K) [0,2+3*r.length,(3+3*r.length)]).at i=some .hid:=fun f0 i hi hl=>Hm hi (by rw [Cl];omega)
 have uk:∀f0:Fr,(mask (bdH ⟨l,f0::r,o⟩++K) [0,2+3*r.length,(3+3*r.length)]).at (bdH ⟨l,f::r,o⟩++K).length=none:=fun f0=>Cp (by rw [Fk,Cl,Cl];omega)
 have g3:∀f0:Fr,(mask (bdH ⟨l,f0::r,o⟩++K) [0,2+3*r.length,(3+3*r.length)]).at (Aa (bdH ⟨l,f::r,o⟩++K).length r.length (4+3*r.length) (3+3*r.length) 3)=Option.map (AI (Aa (bdH ⟨l,f::r,o⟩++K).length r.length (4+3*r.length) (3+3*r.length))) (if r.length=0 then none else some .hid):=by
  intro f0
  by_cases hd:r.length=0
  ·have:Aa (bdH ⟨l,f::r,o⟩++K).length r.length (4+3*r.length) (3+3*r.length) 3=(bdH ⟨l,f::r,o⟩++K).length:=by simp [Aa,hd]
   rw [this,uk,if_pos hd];rfl
  ·have:Aa (bdH ⟨l,f::r,o⟩++K).length r.length (4+3*r.length) (3+3*r.length) 3=3*r.length-1:=by simp [Aa,hd]
   rw [this,if_neg hd,qf f0 _ (by simp<;>omega) (by omega)];rfl
 have:=CS.graft (k:=5) (n:=6) (Aa (bdH ⟨l,f::r,o⟩++K).length r.length (4+3*r.length) (3+3*r.length)) [0,2+3*r.length,(3+3*r.length)] (H:=bdH ⟨l,f::r,o⟩++K) (H':=bdH ⟨l,f'::r,o⟩++K) hs rfl rfl (by decide) uj DQ (by simp [low6 _ (Br n)]) rfl
  (by simp [AP,Aq,Dt,low6 _ f.pre_low,Enc.tk_low]<;>split<;>simp [low])
  (by simp [AP,Aq,Dt,low6 _ f.pre_low,Enc.tk_low,low6 _ (Br n)]<;>split<;>simp [low]) (by rw [Cl,Cl]) ?_ ?_ ?_ ?_ ?_
 ·simpa [AM,ren,BA _ _ (Br n),Aa] using this
 ·intro i hi
  rcases six (show i<6 by omega) with rfl|rfl|rfl|rfl|rfl|rfl
  ·rw [show Aa (bdH ⟨l,f::r,o⟩++K).length r.length (4+3*r.length) (3+3*r.length) 0=0 from rfl,qg f 0 (by simp)]
   show some (Ent.box (Bd.c ⟨l,f::r,o⟩))=_
   simp [AH.at,AI,AM,ren,Bd.c,Enc.tk_ren,Aa,upC]
  ·rw [show Aa (bdH ⟨l,f::r,o⟩++K).length r.length (4+3*r.length) (3+3*r.length) 1=2+3*r.length from rfl,qg f _ (by simp),F3]
   simp only [AH.at,List.getElem?_cons_succ,List.getElem?_cons_zero,Option.join_some,Option.map_some,AI,DA,BA _ _ f.pre_low,AM,rq,Enc.tk_ren,ren];simp [Fr.c,h0,Aa]
   first|done|rfl
  ·rw [show Aa (bdH ⟨l,f::r,o⟩++K).length r.length (4+3*r.length) (3+3*r.length) 2=1 from rfl,qf f 1 (by simp<;>omega) (by omega)]
   rfl
  ·exact g3 f
  ·rw [show Aa (bdH ⟨l,f::r,o⟩++K).length r.length (4+3*r.length) (3+3*r.length) 4=(4+3*r.length) from rfl,qf f _ (by simp<;>omega) (by omega)]
   rfl
  ·omega
 ·intro i yA uH
  obtain rfl:i=5:=by omega
  rw [show Aa (bdH ⟨l,f::r,o⟩++K).length r.length (4+3*r.length) (3+3*r.length) 5=(3+3*r.length) from rfl,qg f _ (by simp),NX,h0];rfl
 ·intro i hi
  rcases six hi with rfl|rfl|rfl|rfl|rfl|rfl
  ·rw [show Aa (bdH ⟨l,f::r,o⟩++K).length r.length (4+3*r.length) (3+3*r.length) 0=0 from rfl,qg f' 0 (by simp)]
   show some (Ent.box (Bd.c ⟨l,f'::r,o⟩))=_
   simp [AH.at,AI,AM,ren,Bd.c,Enc.tk_ren,Aa,upC]
  ·rw [show Aa (bdH ⟨l,f::r,o⟩++K).length r.length (4+3*r.length) (3+3*r.length) 1=2+3*r.length from rfl,qg f' _ (by simp),F3]
   simp only [AH.at,List.getElem?_cons_succ,List.getElem?_cons_zero,Option.join_some,Option.map_some,AI,DA,BA _ _ f.pre_low,AM,rq,Enc.tk_ren,ren];simp [Fr.c,e1,e2,e3,e4,Aa,Enc.tk_ne,BA _ _ (Br n),DA,Enc.row_append,Enc.row_one1,h0,BA _ _ (ndE.row_low _)]
   first|done|rfl|exact ⟨rfl,rfl⟩
  ·rw [show Aa (bdH ⟨l,f::r,o⟩++K).length r.length (4+3*r.length) (3+3*r.length) 2=1 from rfl,qf f' 1 (by simp<;>omega) (by omega)]
   rfl
  ·exact g3 f'
  ·rw [show Aa (bdH ⟨l,f::r,o⟩++K).length r.length (4+3*r.length) (3+3*r.length) 4=(4+3*r.length) from rfl,qf f' _ (by simp<;>omega) (by omega)]
   rfl
  ·rw [show Aa (bdH ⟨l,f::r,o⟩++K).length r.length (4+3*r.length) (3+3*r.length) 5=(3+3*r.length) from rfl,qg f' _ (by simp),NX,e1,Cs (by simp)]
   simp [AH.at,AI,h0]
 ·intro j hj
  have h1:=hj 1 (by decide);have h5:=hj 5 (by decide);rw [show Aa (bdH ⟨l,f::r,o⟩++K).length r.length (4+3*r.length) (3+3*r.length) 1=2+3*r.length from rfl] at h1;rw [show Aa (bdH ⟨l,f::r,o⟩++K).length r.length (4+3*r.length) (3+3*r.length) 5=(3+3*r.length) from rfl] at h5;exact Il l f f' r o K (fun h=>h1 h.symm) (fun h=>absurd h.symm h5) (fun _=>by rw [e2])
 ·intro j hj _
  simp only [List.mem_cons,List.not_mem_nil,or_false,not_or] at hj;obtain ⟨h0',h1,h5⟩:=hj;exact Il l f f' r o K h1 (fun h=>absurd h h5) (fun _=>by rw [e2])
theorem kU (l:List Nd) (f:Fr) (r:List Fr) (o:Bool) (n:Nd) (K:AH) (qx:f.mid<0) (h0:f.body≠[]) (hm:f.body.length<137438953472) :
  CS zP AY 128 [.ptr 0 0,.agg (ndC n)] (bdH ⟨l,f::r,o⟩++K) (.tup []) (bdH ⟨l,{f with body:=f.body++[n]}::r,o⟩++K):=by
 have hs:=kP (ndC n) f.pre (ndE.row f.body) f.body.length hm (ndE.row_low _) (ndE.tk 2 l) (ndE.tk 4 f.els) (if r.length=0 then .nilPtr else .ptr 3 0) (some .hid) (if r.length=0 then none else some .hid) (some .hid) f.mid qx f.pre_len (HZ n) (H9 n) (Br n) (Enc.tk_low _ (by decide) _) (Enc.tk_low _ (by decide) _) (by split<;>rfl) f.pre_low rfl (by split<;>rfl) rfl ((f::r).length:Int) o;generalize hf':({f with body:=f.body++[n]}:Fr)=f';have hN:=Cl l f r o K;have hN':=Cl l f' r o K;have e1:f'.body=f.body++[n]:=by subst hf';rfl
 have e2:f'.els=f.els:=by subst hf';rfl
 have e3:f'.pre=f.pre:=by subst hf';rfl
 have e4:f'.mid=f.mid:=by subst hf';rfl
 have uj:=NZ (N:=(bdH ⟨l,f::r,o⟩++K).length) (d:=r.length) (T2:=(4+3*r.length)) (T:=(3+3*r.length)) (by omega) (by omega);have six:∀{i:Nat},i<6→i=0∨i=1∨i=2∨i=3∨i=4∨i=5:=fun h=>by omega
 have low6:=fun (l:List AV) (h:lowL 0 l=true) (m:Nat)=>Ah (Nat.zero_le m) l h
 have rq:ren (Aa (bdH ⟨l,f::r,o⟩++K).length r.length (4+3*r.length) (3+3*r.length)) (if r.length=0 then .nilPtr else .ptr 3 0)=upC r.length:=by
  cases hd:r.length with
  | zero=>rfl
  | succ d =>simp [ren,upC,Aa];omega
 have qg:∀f0:Fr,∀i,i∈[0,2+3*r.length,(3+3*r.length)]→(mask (bdH ⟨l,f0::r,o⟩++K) [0,2+3*r.length,(3+3*r.length)]).at i=(bdH ⟨l,f0::r,o⟩++K).at i:=fun f0 i hi=>Ft hi
 have qf:∀f0:Fr,∀i,i ∉ [0,2+3*r.length,(3+3*r.length)]→i<5+3*r.length→(mask (bdH ⟨l,f0::r,o⟩++K) [0,2+3*r.length,(3+3*r.length)]).at i=some .hid:=fun f0 i hi hl=>Hm hi (by rw [Cl];omega)
 have uk:∀f0:Fr,(mask (bdH ⟨l,f0::r,o⟩++K) [0,2+3*r.length,(3+3*r.length)]).at (bdH ⟨l,f::r,o⟩++K).length=none:=fun f0=>Cp (by rw [Fk,Cl,Cl];omega)
 have g3:∀f0:Fr,(mask (bdH ⟨l,f0::r,o⟩++K) [0,2+3*r.length,(3+3*r.length)]).at (Aa (bdH ⟨l,f::r,o⟩++K).length r.length (4+3*r.length) (3+3*r.length) 3)=Option.map (AI (Aa (bdH ⟨l,f::r,o⟩++K).length r.length (4+3*r.length) (3+3*r.length))) (if r.length=0 then none else some .hid):=by
  intro f0
  by_cases hd:r.length=0
  ·have:Aa (bdH ⟨l,f::r,o⟩++K).length r.length (4+3*r.length) (3+3*r.length) 3=(bdH ⟨l,f::r,o⟩++K).length:=by simp [Aa,hd]
   rw [this,uk,if_pos hd];rfl
  ·have:Aa (bdH ⟨l,f::r,o⟩++K).length r.length (4+3*r.length) (3+3*r.length) 3=3*r.length-1:=by simp [Aa,hd]
   rw [this,if_neg hd,qf f0 _ (by simp<;>omega) (by omega)];rfl
 have:=CS.graft (k:=6) (n:=6) (Aa (bdH ⟨l,f::r,o⟩++K).length r.length (4+3*r.length) (3+3*r.length)) [0,2+3*r.length,(3+3*r.length)] (H:=bdH ⟨l,f::r,o⟩++K) (H':=bdH ⟨l,f'::r,o⟩++K) hs rfl rfl (by decide) uj DQ (by simp [low6 _ (Br n)]) rfl
  (by simp [AP,Aq,Dt,low6 _ f.pre_low,Enc.tk_low]<;>split<;>simp [low])
  (by simp [AP,Aq,Dt,low6 _ f.pre_low,Enc.tk_low,low6 _ (Br n)]<;>split<;>simp [low]) (by rw [Cl,Cl]) ?_ ?_ ?_ ?_ ?_
 ·simpa [AM,ren,BA _ _ (Br n),Aa] using this
 ·intro i hi
  rcases six (show i<6 by omega) with rfl|rfl|rfl|rfl|rfl|rfl
  ·rw [show Aa (bdH ⟨l,f::r,o⟩++K).length r.length (4+3*r.length) (3+3*r.length) 0=0 from rfl,qg f 0 (by simp)]
   show some (Ent.box (Bd.c ⟨l,f::r,o⟩))=_
   simp [AH.at,AI,AM,ren,Bd.c,Enc.tk_ren,Aa,upC]
  ·rw [show Aa (bdH ⟨l,f::r,o⟩++K).length r.length (4+3*r.length) (3+3*r.length) 1=2+3*r.length from rfl,qg f _ (by simp),F3]
   simp only [AH.at,List.getElem?_cons_succ,List.getElem?_cons_zero,Option.join_some,Option.map_some,AI,DA,BA _ _ f.pre_low,AM,rq,Enc.tk_ren,ren];simp [Fr.c,h0,Aa,Enc.tk_ne,ren,BA _ _ (ndE.row_low _)]
   first|done|rfl
  ·rw [show Aa (bdH ⟨l,f::r,o⟩++K).length r.length (4+3*r.length) (3+3*r.length) 2=1 from rfl,qf f 1 (by simp<;>omega) (by omega)]
   rfl
  ·exact g3 f
  ·rw [show Aa (bdH ⟨l,f::r,o⟩++K).length r.length (4+3*r.length) (3+3*r.length) 4=(4+3*r.length) from rfl,qf f _ (by simp<;>omega) (by omega)]
   rfl
  ·rw [show Aa (bdH ⟨l,f::r,o⟩++K).length r.length (4+3*r.length) (3+3*r.length) 5=(3+3*r.length) from rfl,qg f _ (by simp),NX,Cs h0]
   rfl
 ·intro i yA uH
  omega
 ·intro i hi
  rcases six hi with rfl|rfl|rfl|rfl|rfl|rfl
  ·rw [show Aa (bdH ⟨l,f::r,o⟩++K).length r.length (4+3*r.length) (3+3*r.length) 0=0 from rfl,qg f' 0 (by simp)]
   show some (Ent.box (Bd.c ⟨l,f'::r,o⟩))=_
   simp [AH.at,AI,AM,ren,Bd.c,Enc.tk_ren,Aa,upC]
  ·rw [show Aa (bdH ⟨l,f::r,o⟩++K).length r.length (4+3*r.length) (3+3*r.length) 1=2+3*r.length from rfl,qg f' _ (by simp),F3]
   simp only [AH.at,List.getElem?_cons_succ,List.getElem?_cons_zero,Option.join_some,Option.map_some,AI,DA,BA _ _ f.pre_low,AM,rq,Enc.tk_ren,ren];simp [Fr.c,e1,e2,e3,e4,Aa,Enc.tk_ne,BA _ _ (Br n),DA,Enc.row_append,Enc.row_one1,h0,BA _ _ (ndE.row_low _)]
   first|done|rfl|exact ⟨rfl,rfl⟩
  ·rw [show Aa (bdH ⟨l,f::r,o⟩++K).length r.length (4+3*r.length) (3+3*r.length) 2=1 from rfl,qf f' 1 (by simp<;>omega) (by omega)]
   rfl
  ·exact g3 f'
  ·rw [show Aa (bdH ⟨l,f::r,o⟩++K).length r.length (4+3*r.length) (3+3*r.length) 4=(4+3*r.length) from rfl,qf f' _ (by simp<;>omega) (by omega)]
   rfl
  ·rw [show Aa (bdH ⟨l,f::r,o⟩++K).length r.length (4+3*r.length) (3+3*r.length) 5=(3+3*r.length) from rfl,qg f' _ (by simp),NX,e1,Cs (by simp)]
   simp [AH.at,AI,h0]
 ·intro j hj
  have h1:=hj 1 (by decide);have h5:=hj 5 (by decide);rw [show Aa (bdH ⟨l,f::r,o⟩++K).length r.length (4+3*r.length) (3+3*r.length) 1=2+3*r.length from rfl] at h1;rw [show Aa (bdH ⟨l,f::r,o⟩++K).length r.length (4+3*r.length) (3+3*r.length) 5=(3+3*r.length) from rfl] at h5;exact Il l f f' r o K (fun h=>h1 h.symm) (fun h=>absurd h.symm h5) (fun _=>by rw [e2])
 ·intro j hj _
  simp only [List.mem_cons,List.not_mem_nil,or_false,not_or] at hj;obtain ⟨h0',h1,h5⟩:=hj;exact Il l f f' r o K h1 (fun h=>absurd h h5) (fun _=>by rw [e2])
theorem kV (l:List Nd) (f:Fr) (r:List Fr) (o:Bool) (n:Nd) (K:AH) (qx:0≤f.mid) (h0:f.els=[]) :
  CS zP AY 128 [.ptr 0 0,.agg (ndC n)] (bdH ⟨l,f::r,o⟩++K) (.tup []) (bdH ⟨l,{f with els:=f.els++[n]}::r,o⟩++K):=by
 have hs:=kQ (ndC n) f.pre (ndE.tk 2 l) (ndE.tk 4 f.body) (if r.length=0 then .nilPtr else .ptr 3 0) (some .hid) (if r.length=0 then none else some .hid) (some .hid) f.mid qx f.pre_len (HZ n) (H9 n) (Br n) (Enc.tk_low _ (by decide) _) (Enc.tk_low _ (by decide) _) (by split<;>rfl) f.pre_low rfl (by split<;>rfl) rfl ((f::r).length:Int) o;generalize hf':({f with els:=f.els++[n]}:Fr)=f';have hN:=Cl l f r o K;have hN':=Cl l f' r o K;have e1:f'.els=f.els++[n]:=by subst hf';rfl
 have e2:f'.body=f.body:=by subst hf';rfl
 have e3:f'.pre=f.pre:=by subst hf';rfl
 have e4:f'.mid=f.mid:=by subst hf';rfl
 have uj:=NZ (N:=(bdH ⟨l,f::r,o⟩++K).length) (d:=r.length) (T2:=(3+3*r.length)) (T:=(4+3*r.length)) (by omega) (by omega);have six:∀{i:Nat},i<6→i=0∨i=1∨i=2∨i=3∨i=4∨i=5:=fun h=>by omega
 have low6:=fun (l:List AV) (h:lowL 0 l=true) (m:Nat)=>Ah (Nat.zero_le m) l h
 have rq:ren (Aa (bdH ⟨l,f::r,o⟩++K).length r.length (3+3*r.length) (4+3*r.length)) (if r.length=0 then .nilPtr else .ptr 3 0)=upC r.length:=by
  cases hd:r.length with
  | zero=>rfl
  | succ d =>simp [ren,upC,Aa];omega
 have qg:∀f0:Fr,∀i,i∈[0,2+3*r.length,(4+3*r.length)]→(mask (bdH ⟨l,f0::r,o⟩++K) [0,2+3*r.length,(4+3*r.length)]).at i=(bdH ⟨l,f0::r,o⟩++K).at i:=fun f0 i hi=>Ft hi
 have qf:∀f0:Fr,∀i,i ∉ [0,2+3*r.length,(4+3*r.length)]→i<5+3*r.length→(mask (bdH ⟨l,f0::r,o⟩++K) [0,2+3*r.length,(4+3*r.length)]).at i=some .hid:=fun f0 i hi hl=>Hm hi (by rw [Cl];omega)
 have uk:∀f0:Fr,(mask (bdH ⟨l,f0::r,o⟩++K) [0,2+3*r.length,(4+3*r.length)]).at (bdH ⟨l,f::r,o⟩++K).length=none:=fun f0=>Cp (by rw [Fk,Cl,Cl];omega)
 have g3:∀f0:Fr,(mask (bdH ⟨l,f0::r,o⟩++K) [0,2+3*r.length,(4+3*r.length)]).at (Aa (bdH ⟨l,f::r,o⟩++K).length r.length (3+3*r.length) (4+3*r.length) 3)=Option.map (AI (Aa (bdH ⟨l,f::r,o⟩++K).length r.length (3+3*r.length) (4+3*r.length))) (if r.length=0 then none else some .hid):=by
  intro f0
  by_cases hd:r.length=0
  ·have:Aa (bdH ⟨l,f::r,o⟩++K).length r.length (3+3*r.length) (4+3*r.length) 3=(bdH ⟨l,f::r,o⟩++K).length:=by simp [Aa,hd]
   rw [this,uk,if_pos hd];rfl
  ·have:Aa (bdH ⟨l,f::r,o⟩++K).length r.length (3+3*r.length) (4+3*r.length) 3=3*r.length-1:=by simp [Aa,hd]
   rw [this,if_neg hd,qf f0 _ (by simp<;>omega) (by omega)];rfl
 have:=CS.graft (k:=5) (n:=6) (Aa (bdH ⟨l,f::r,o⟩++K).length r.length (3+3*r.length) (4+3*r.length)) [0,2+3*r.length,(4+3*r.length)] (H:=bdH ⟨l,f::r,o⟩++K) (H':=bdH ⟨l,f'::r,o⟩++K) hs rfl rfl (by decide) uj DQ (by simp [low6 _ (Br n)]) rfl
  (by simp [AP,Aq,Dt,low6 _ f.pre_low,Enc.tk_low]<;>split<;>simp [low])
  (by simp [AP,Aq,Dt,low6 _ f.pre_low,Enc.tk_low,low6 _ (Br n)]<;>split<;>simp [low]) (by rw [Cl,Cl]) ?_ ?_ ?_ ?_ ?_
 ·simpa [AM,ren,BA _ _ (Br n),Aa] using this
 ·intro i hi
  rcases six (show i<6 by omega) with rfl|rfl|rfl|rfl|rfl|rfl
  ·rw [show Aa (bdH ⟨l,f::r,o⟩++K).length r.length (3+3*r.length) (4+3*r.length) 0=0 from rfl,qg f 0 (by simp)]
   show some (Ent.box (Bd.c ⟨l,f::r,o⟩))=_
   simp [AH.at,AI,AM,ren,Bd.c,Enc.tk_ren,Aa,upC]
  ·rw [show Aa (bdH ⟨l,f::r,o⟩++K).length r.length (3+3*r.length) (4+3*r.length) 1=2+3*r.length from rfl,qg f _ (by simp),F3]
   simp only [AH.at,List.getElem?_cons_succ,List.getElem?_cons_zero,Option.join_some,Option.map_some,AI,DA,BA _ _ f.pre_low,AM,rq,Enc.tk_ren,ren];simp [Fr.c,h0,Aa]
   first|done|rfl
  ·rw [show Aa (bdH ⟨l,f::r,o⟩++K).length r.length (3+3*r.length) (4+3*r.length) 2=1 from rfl,qf f 1 (by simp<;>omega) (by omega)]
   rfl
  ·exact g3 f
  ·rw [show Aa (bdH ⟨l,f::r,o⟩++K).length r.length (3+3*r.length) (4+3*r.length) 4=(3+3*r.length) from rfl,qf f _ (by simp<;>omega) (by omega)]
   rfl
  ·omega
 ·intro i yA uH
  obtain rfl:i=5:=by omega
  rw [show Aa (bdH ⟨l,f::r,o⟩++K).length r.length (3+3*r.length) (4+3*r.length) 5=(4+3*r.length) from rfl,qg f _ (by simp),NY,h0];rfl
 ·intro i hi
  rcases six hi with rfl|rfl|rfl|rfl|rfl|rfl
  ·rw [show Aa (bdH ⟨l,f::r,o⟩++K).length r.length (3+3*r.length) (4+3*r.length) 0=0 from rfl,qg f' 0 (by simp)]
   show some (Ent.box (Bd.c ⟨l,f'::r,o⟩))=_
   simp [AH.at,AI,AM,ren,Bd.c,Enc.tk_ren,Aa,upC]
  ·rw [show Aa (bdH ⟨l,f::r,o⟩++K).length r.length (3+3*r.length) (4+3*r.length) 1=2+3*r.length from rfl,qg f' _ (by simp),F3]
   simp only [AH.at,List.getElem?_cons_succ,List.getElem?_cons_zero,Option.join_some,Option.map_some,AI,DA,BA _ _ f.pre_low,AM,rq,Enc.tk_ren,ren];simp [Fr.c,e1,e2,e3,e4,Aa,Enc.tk_ne,BA _ _ (Br n),DA,Enc.row_append,Enc.row_one1,h0,BA _ _ (ndE.row_low _)]
   first|done|rfl|exact ⟨rfl,rfl⟩
  ·rw [show Aa (bdH ⟨l,f::r,o⟩++K).length r.length (3+3*r.length) (4+3*r.length) 2=1 from rfl,qf f' 1 (by simp<;>omega) (by omega)]
   rfl
  ·exact g3 f'
  ·rw [show Aa (bdH ⟨l,f::r,o⟩++K).length r.length (3+3*r.length) (4+3*r.length) 4=(3+3*r.length) from rfl,qf f' _ (by simp<;>omega) (by omega)]
   rfl
  ·rw [show Aa (bdH ⟨l,f::r,o⟩++K).length r.length (3+3*r.length) (4+3*r.length) 5=(4+3*r.length) from rfl,qg f' _ (by simp),NY,e1,Cs (by simp)]
   simp [AH.at,AI,h0]
 ·intro j hj
  have h1:=hj 1 (by decide);have h5:=hj 5 (by decide);rw [show Aa (bdH ⟨l,f::r,o⟩++K).length r.length (3+3*r.length) (4+3*r.length) 1=2+3*r.length from rfl] at h1;rw [show Aa (bdH ⟨l,f::r,o⟩++K).length r.length (3+3*r.length) (4+3*r.length) 5=(4+3*r.length) from rfl] at h5;exact Il l f f' r o K (fun h=>h1 h.symm) (fun _=>by rw [e2]) (fun h=>absurd h.symm h5)
 ·intro j hj _
  simp only [List.mem_cons,List.not_mem_nil,or_false,not_or] at hj;obtain ⟨h0',h1,h5⟩:=hj;exact Il l f f' r o K h1 (fun _=>by rw [e2]) (fun h=>absurd h h5)
theorem kW (l:List Nd) (f:Fr) (r:List Fr) (o:Bool) (n:Nd) (K:AH) (qx:0≤f.mid) (h0:f.els≠[]) (hm:f.els.length<137438953472) :
  CS zP AY 128 [.ptr 0 0,.agg (ndC n)] (bdH ⟨l,f::r,o⟩++K) (.tup []) (bdH ⟨l,{f with els:=f.els++[n]}::r,o⟩++K):=by
 have hs:=kR (ndC n) f.pre (ndE.row f.els) f.els.length hm (ndE.row_low _) (ndE.tk 2 l) (ndE.tk 4 f.body) (if r.length=0 then .nilPtr else .ptr 3 0) (some .hid) (if r.length=0 then none else some .hid) (some .hid) f.mid qx f.pre_len (HZ n) (H9 n) (Br n) (Enc.tk_low _ (by decide) _) (Enc.tk_low _ (by decide) _) (by split<;>rfl) f.pre_low rfl (by split<;>rfl) rfl ((f::r).length:Int) o;generalize hf':({f with els:=f.els++[n]}:Fr)=f';have hN:=Cl l f r o K;have hN':=Cl l f' r o K;have e1:f'.els=f.els++[n]:=by subst hf';rfl
 have e2:f'.body=f.body:=by subst hf';rfl
 have e3:f'.pre=f.pre:=by subst hf';rfl
 have e4:f'.mid=f.mid:=by subst hf';rfl
 have uj:=NZ (N:=(bdH ⟨l,f::r,o⟩++K).length) (d:=r.length) (T2:=(3+3*r.length)) (T:=(4+3*r.length)) (by omega) (by omega);have six:∀{i:Nat},i<6→i=0∨i=1∨i=2∨i=3∨i=4∨i=5:=fun h=>by omega
 have low6:=fun (l:List AV) (h:lowL 0 l=true) (m:Nat)=>Ah (Nat.zero_le m) l h
 have rq:ren (Aa (bdH ⟨l,f::r,o⟩++K).length r.length (3+3*r.length) (4+3*r.length)) (if r.length=0 then .nilPtr else .ptr 3 0)=upC r.length:=by
  cases hd:r.length with
  | zero=>rfl
  | succ d =>simp [ren,upC,Aa];omega
 have qg:∀f0:Fr,∀i,i∈[0,2+3*r.length,(4+3*r.length)]→(mask (bdH ⟨l,f0::r,o⟩++K) [0,2+3*r.length,(4+3*r.length)]).at i=(bdH ⟨l,f0::r,o⟩++K).at i:=fun f0 i hi=>Ft hi
 have qf:∀f0:Fr,∀i,i ∉ [0,2+3*r.length,(4+3*r.length)]→i<5+3*r.length→(mask (bdH ⟨l,f0::r,o⟩++K) [0,2+3*r.length,(4+3*r.length)]).at i=some .hid:=fun f0 i hi hl=>Hm hi (by rw [Cl];omega)
 have uk:∀f0:Fr,(mask (bdH ⟨l,f0::r,o⟩++K) [0,2+3*r.length,(4+3*r.length)]).at (bdH ⟨l,f::r,o⟩++K).length=none:=fun f0=>Cp (by rw [Fk,Cl,Cl];omega)
 have g3:∀f0:Fr,(mask (bdH ⟨l,f0::r,o⟩++K) [0,2+3*r.length,(4+3*r.length)]).at (Aa (bdH ⟨l,f::r,o⟩++K).length r.length (3+3*r.length) (4+3*r.length) 3)=Option.map (AI (Aa (bdH ⟨l,f::r,o⟩++K).length r.length (3+3*r.length) (4+3*r.length))) (if r.length=0 then none else some .hid):=by
  intro f0
  by_cases hd:r.length=0
  ·have:Aa (bdH ⟨l,f::r,o⟩++K).length r.length (3+3*r.length) (4+3*r.length) 3=(bdH ⟨l,f::r,o⟩++K).length:=by simp [Aa,hd]
   rw [this,uk,if_pos hd];rfl
  ·have:Aa (bdH ⟨l,f::r,o⟩++K).length r.length (3+3*r.length) (4+3*r.length) 3=3*r.length-1:=by simp [Aa,hd]
   rw [this,if_neg hd,qf f0 _ (by simp<;>omega) (by omega)];rfl
 have:=CS.graft (k:=6) (n:=6) (Aa (bdH ⟨l,f::r,o⟩++K).length r.length (3+3*r.length) (4+3*r.length)) [0,2+3*r.length,(4+3*r.length)] (H:=bdH ⟨l,f::r,o⟩++K) (H':=bdH ⟨l,f'::r,o⟩++K) hs rfl rfl (by decide) uj DQ (by simp [low6 _ (Br n)]) rfl
  (by simp [AP,Aq,Dt,low6 _ f.pre_low,Enc.tk_low]<;>split<;>simp [low])
  (by simp [AP,Aq,Dt,low6 _ f.pre_low,Enc.tk_low,low6 _ (Br n)]<;>split<;>simp [low]) (by rw [Cl,Cl]) ?_ ?_ ?_ ?_ ?_
 ·simpa [AM,ren,BA _ _ (Br n),Aa] using this
 ·intro i hi
  rcases six (show i<6 by omega) with rfl|rfl|rfl|rfl|rfl|rfl
  ·rw [show Aa (bdH ⟨l,f::r,o⟩++K).length r.length (3+3*r.length) (4+3*r.length) 0=0 from rfl,qg f 0 (by simp)]
   show some (Ent.box (Bd.c ⟨l,f::r,o⟩))=_
   simp [AH.at,AI,AM,ren,Bd.c,Enc.tk_ren,Aa,upC]
  ·rw [show Aa (bdH ⟨l,f::r,o⟩++K).length r.length (3+3*r.length) (4+3*r.length) 1=2+3*r.length from rfl,qg f _ (by simp),F3]
   simp only [AH.at,List.getElem?_cons_succ,List.getElem?_cons_zero,Option.join_some,Option.map_some,AI,DA,BA _ _ f.pre_low,AM,rq,Enc.tk_ren,ren];simp [Fr.c,h0,Aa,Enc.tk_ne,ren,BA _ _ (ndE.row_low _)]
   first|done|rfl
  ·rw [show Aa (bdH ⟨l,f::r,o⟩++K).length r.length (3+3*r.length) (4+3*r.length) 2=1 from rfl,qf f 1 (by simp<;>omega) (by omega)]
   rfl
  ·exact g3 f
  ·rw [show Aa (bdH ⟨l,f::r,o⟩++K).length r.length (3+3*r.length) (4+3*r.length) 4=(3+3*r.length) from rfl,qf f _ (by simp<;>omega) (by omega)]
   rfl
  ·rw [show Aa (bdH ⟨l,f::r,o⟩++K).length r.length (3+3*r.length) (4+3*r.length) 5=(4+3*r.length) from rfl,qg f _ (by simp),NY,Cs h0]
   rfl
 ·intro i yA uH
  omega
 ·intro i hi
  rcases six hi with rfl|rfl|rfl|rfl|rfl|rfl
  ·rw [show Aa (bdH ⟨l,f::r,o⟩++K).length r.length (3+3*r.length) (4+3*r.length) 0=0 from rfl,qg f' 0 (by simp)]
   show some (Ent.box (Bd.c ⟨l,f'::r,o⟩))=_
   simp [AH.at,AI,AM,ren,Bd.c,Enc.tk_ren,Aa,upC]
  ·rw [show Aa (bdH ⟨l,f::r,o⟩++K).length r.length (3+3*r.length) (4+3*r.length) 1=2+3*r.length from rfl,qg f' _ (by simp),F3]
   simp only [AH.at,List.getElem?_cons_succ,List.getElem?_cons_zero,Option.join_some,Option.map_some,AI,DA,BA _ _ f.pre_low,AM,rq,Enc.tk_ren,ren];simp [Fr.c,e1,e2,e3,e4,Aa,Enc.tk_ne,BA _ _ (Br n),DA,Enc.row_append,Enc.row_one1,h0,BA _ _ (ndE.row_low _)]
   first|done|rfl|exact ⟨rfl,rfl⟩
  ·rw [show Aa (bdH ⟨l,f::r,o⟩++K).length r.length (3+3*r.length) (4+3*r.length) 2=1 from rfl,qf f' 1 (by simp<;>omega) (by omega)]
   rfl
  ·exact g3 f'
  ·rw [show Aa (bdH ⟨l,f::r,o⟩++K).length r.length (3+3*r.length) (4+3*r.length) 4=(3+3*r.length) from rfl,qf f' _ (by simp<;>omega) (by omega)]
   rfl
  ·rw [show Aa (bdH ⟨l,f::r,o⟩++K).length r.length (3+3*r.length) (4+3*r.length) 5=(4+3*r.length) from rfl,qg f' _ (by simp),NY,e1,Cs (by simp)]
   simp [AH.at,AI,h0]
 ·intro j hj
  have h1:=hj 1 (by decide);have h5:=hj 5 (by decide);rw [show Aa (bdH ⟨l,f::r,o⟩++K).length r.length (3+3*r.length) (4+3*r.length) 1=2+3*r.length from rfl] at h1;rw [show Aa (bdH ⟨l,f::r,o⟩++K).length r.length (3+3*r.length) (4+3*r.length) 5=(4+3*r.length) from rfl] at h5;exact Il l f f' r o K (fun h=>h1 h.symm) (fun _=>by rw [e2]) (fun h=>absurd h.symm h5)
 ·intro j hj _
  simp only [List.mem_cons,List.not_mem_nil,or_false,not_or] at hj;obtain ⟨h0',h1,h5⟩:=hj;exact Il l f f' r o K h1 (fun _=>by rw [e2]) (fun h=>absurd h h5)
theorem kX (n:Nd) (o:Bool) (K:AH):CS zP AY 128 [.ptr 0 0,.agg (ndC n)] (bdH ⟨[],[],o⟩++K) (.tup []) (bdH ⟨[n],[],o⟩++K):=by
 have hs:=kH (HZ n) (H9 n) (Br n) 0 o;have low6:=fun (l:List AV) (h:lowL 0 l=true) (m:Nat)=>Ah (Nat.zero_le m) l h
 have:=CS.grow (k:=1) (n:=2) (fun i=>i) (H:=bdH ⟨[],[],o⟩++K) (H':=bdH ⟨[n],[],o⟩++K) hs rfl rfl (by decide) (fun i j _ _ h=>h) DQ (by simp [low6 _ (Br n)]) rfl (by simp [AP,Aq]) (by simp [AP,Aq,low6 _ (Br n)]) (by
   intro i hi;obtain rfl:i=0:=by omega
   simp [bdH,AH.at,Bd.c,AI,AM,ren,upC]) (by
   intro i hi uH;obtain rfl:i=1:=by omega
   simp [bdH,AH.at]) (by
   intro i hi;rcases (by omega:i=0∨i=1) with rfl|rfl
   ·simp [bdH,AH.at,Bd.c,AI,AM,ren,upC,Enc.tk_ne,BA _ _ (Br n),Enc.row_one1]
    exact ⟨rfl,rfl⟩
   ·simp [bdH,AH.at,Cs,AI]) (by
   intro j hj;have h0:=hj 0 (by decide);have h1:=hj 1 (by decide);obtain ⟨i,rfl⟩:∃i,j=i+2:=⟨j-2,by omega⟩
   simp [bdH,AH.at,frH])
 simpa [AM,ren,BA _ _ (Br n)] using this
theorem QY (s:Bd) (n:Nd) (K:AH) {m:Nat} (hs:s.ok m) (hm:m<137438953472):CS zP AY 128 [.ptr 0 0,.agg (ndC n)] (bdH s++K) (.tup []) (bdH (s.put n)++K):=by
 obtain ⟨l,fs,o⟩:=s;obtain ⟨h1,h2⟩:=hs;simp only at h1;cases fs with
 | nil =>
  by_cases h0:l=[]
  ·subst h0
   exact kX n o K
  ·have:=kS (H:=bdH ⟨l,[],o⟩++K) (b:=0) (T:=1) (ndC n) (ndE.row l) l.length (by omega) (HZ n) (H9 n) (Br n) (ndE.row_low _) 0 o (by simp [bdH,AH.at,Bd.c,upC,Enc.tk_ne _ _ h0];rfl) (by simp [bdH,AH.at,Cs h0])
   have e5:ndE.sz=34:=rfl;have e6:ndE.c n=ndC n:=rfl;simpa [bdH,Bd.put,frH,Bd.c,upC,Enc.tk_ne,Cs,Enc.row_append,Enc.row_one1,e5,e6,h0] using this
 | cons f r =>
  obtain ⟨h3,h4⟩:=h2 f List.mem_cons_self;simp only [Bd.put,Fr.put]
  by_cases qx:0≤f.mid
  ·rw [if_pos qx]
   by_cases h0:f.els=[]
   ·exact kV l f r o n K qx h0
   ·exact kW l f r o n K qx h0 (by omega)
  ·rw [if_neg qx]
   by_cases h0:f.body=[]
   ·exact kT l f r o n K (by omega) h0
   ·exact kU l f r o n K (by omega) h0 (by omega)
@[simp] theorem o8:AJ.imm 131=false:=by decide
@[simp] theorem o9:AJ.imm 156=true:=by decide
theorem Na:∀{a b:List (List UInt8 × Int)} {c d:Int},AZ a c=AZ b d→a=b∧c=d
 | [],[],c,d,h=>by simp only [AZ,AV.iface.injEq,AV.int.injEq,true_and] at h;exact ⟨rfl,h⟩
 | [],(w,p)::b,c,d,h=>by simp [AZ] at h
 | (w,p)::a,[],c,d,h=>by simp [AZ] at h
 | (w,p)::a,(w',p')::b,c,d,h=>by simp only [AZ,AV.iface.injEq,AV.vptr.injEq,List.cons.injEq,AV.str.injEq,AV.int.injEq,true_and,and_true] at h;obtain ⟨h1,h2,h3⟩:=h;obtain ⟨h4,h5⟩:=Na h3;rw [h1,h2,h4,h5];exact ⟨rfl,rfl⟩
def erI:Er→AV
 | none => .nilIface
 | some (l,c)=>AZ (CO l) (c:Int)
@[simp] theorem QZ:erI none = .nilIface:=AR rfl
theorem VG (l:List (List UInt8 × Nat)) (c:Nat):erI (some (l,c))=AZ (CO l) (c:Int):=rfl
@[simp ↓ high] theorem pA (m:Nat) (l:List (List UInt8 × Int)) (c:Int):low m (AZ l c)=true:=CY (Nat.zero_le m) _ (GO l c)
@[simp ↓ high] theorem kY (l:List (List UInt8 × Int)) (c:Int):(AZ l c).known=true:=by cases l<;>rfl
@[simp ↓ high] theorem kZ (l:List (List UInt8 × Int)) (c:Int):(AZ l c).one=true:=by cases l<;>rfl
@[simp ↓ high] theorem ka (l:List (List UInt8 × Int)) (c:Int):At (AZ l c)=[AZ l c]:=by cases l<;>rfl
@[simp ↓ high] theorem VH (e:Er):low 0 (erI e)=true:=by
 cases e with
 | none=>rfl
 | some x=>exact GO _ _
@[simp ↓ high] theorem pC (m:Nat) (e:Er):low m (erI e)=true:=CY (Nat.zero_le m) _ (VH e)
@[simp ↓ high] theorem pD (e:Er):Bg (erI e)=[]:=K9 _ (VH e)
@[simp ↓ high] theorem pE (e:Er):(erI e).known=true:=by cases e with
 | none=>rfl
 | some x=>exact kY _ _
@[simp ↓ high] theorem pF (e:Er):(erI e).one=true:=by cases e with
 | none=>rfl
 | some x=>exact kZ _ _
@[simp ↓ high] theorem pG (e:Er):At (erI e)=[erI e]:=by cases e with
 | none=>rfl
 | some x=>exact ka _ _
@[simp high] theorem pH (e:Er):aeq zP 33 (erI e) .nilIface=some e.isNone:=by
 cases e with
 | none=>simp [erI,aeq]
 | some x=>simp [erI]
@[simp high] theorem pI (e:Er):BI zP .eql 33 true (erI e) .nilIface=some (.bool e.isNone):=by
 cases e with
 | none=>simp [erI]
 | some x=>simp [erI]
@[simp high] theorem pJ (e:Er):BI zP .neq 33 true (erI e) .nilIface=some (.bool e.isSome):=by
 cases e with
 | none=>simp [erI]
 | some x=>simp [erI]
theorem kb {x y:Er} (h:erI x=erI y):x=y:=by
 cases x with
 | none=>cases y with
  | none=>rfl
  | some y=>obtain ⟨l,c⟩:=y;cases l<;>simp [erI,AZ,CO] at h
 | some x=>cases y with
  | none=>obtain ⟨l,c⟩:=x;cases l<;>simp [erI,AZ,CO] at h
  | some y =>
   obtain ⟨l,c⟩:=x;obtain ⟨m,d⟩:=y;obtain ⟨h1,h2⟩:=Na h;have e2:c=d:=by omega
   rw [QP h1,e2]
def Sr.pc (ts:List Wd) (r:Sr):List AV:=[AD ts,.int .i64 r.at_,erI r.err]
theorem Cu (ts:List Wd) (r:Sr):lowL 0 (r.pc ts)=true:=by simp [Sr.pc]
theorem Fb (ts:List Wd) (r s:Sr) (h:r.pc ts=s.pc ts):r=s:=by
 obtain ⟨a,x⟩:=r;obtain ⟨b,y⟩:=s;simp only [Sr.pc,List.cons.injEq,AV.int.injEq,true_and,and_true] at h;have:=kb h.2;subst this;have:a=b:=by omega
 subst this;rfl
abbrev pbx (ts:List Wd) (r:Sr):Option Ent:=some (.box [AD ts,.int .i64 (r.at_:Int),erI r.err])
@[simp] theorem pK (w:List UInt8) (p:Int) (l:List (List UInt8 × Int)) (c:Int):A3 zP 156 [(0,.str w),(1,.int .i64 p),(2,AZ l c)]=some (.agg [.str w,.int .i64 p,AZ l c]):=by cases l<;>kernel_rfl
theorem kc (p:Int) (l:List (List UInt8 × Int)) (c:Int) (H:AH):CS zP AJ 52 [.int .i64 p,AZ l c] H (AZ ((Bo,p)::l) c) H:=by refine CS.tr0 BY Tryz.func52 (by kernel_rfl) 0 (by simp [Tryz.f52]) (fun B hB hG => ?_) (by simp) (by simp) H;refine Tr.goD FF hG (by kernel_rfl) ?_;simp [Tryz.f52,AZ,Bo]
noncomputable def CU:AG zP AJ:=AG.pure 52 (fun _:Int × List (List UInt8 × Int) × Int=>True) (fun x=>[.int .i64 x.1,AZ x.2.1 x.2.2]) (fun x=>AZ ((Bo,x.1)::x.2.1) x.2.2)
 (fun x _ H=>kc x.1 x.2.1 x.2.2 H) (fun x y _ _ h=>by
  obtain ⟨a,b,c⟩:=x;obtain ⟨a',b',c'⟩:=y;simp only [List.cons.injEq,AV.int.injEq,true_and,and_true] at h;obtain ⟨h1,h2⟩:=Na h.2;simp only
  rw [h.1,h1,h2])
theorem ke (ts:List Wd) (r:Sr) (p c:Nat) {H:AH} {id:Nat} (hH:H.at id=some (.box (r.pc ts))) :
  CS zP AJ 54 [.ptr id 0,.int .i64 (p:Int),.int .i64 (c:Int)] H (.tup []) (H.set id (some (.box ((r.fail p c).pc ts)))):=by
 obtain ⟨a,e⟩:=r;refine CS.rd BY Tryz.func54 (by kernel_rfl) 0 (by simp [Tryz.f54]) (fun B hB hG => ?_) (by simp) rfl (Cu _ _) (Cu _ _) hH;have hL:([CU].map (·.f)).Nodup:=show ([52]:List Nat).Nodup by decide
 have X:=Bv [CU] Bz Af;have h1:=fun H=>Cr hL (show CU∈[CU] by simp) ((p:Int),[],(c:Int)) trivial H
 generalize oOf [CU]=O at X h1;refine Tr.goD X hG (by kernel_rfl) ?_;simp [AZ,Bo] at h1;cases e with
 | none=>simp [Tryz.f54,Sr.pc,Sr.fail,h1,erI,AZ,CO,Bo]
 | some y=>simp [Tryz.f54,Sr.pc,Sr.fail]
noncomputable def Da (ts:List Wd):AG zP AJ:=AG.meth 54 (Sr.pc ts) (Fb ts) (fun (_:Nat × Nat) _=>True) (fun _ x=>[.int .i64 (x.1:Int),.int .i64 (x.2:Int)]) (fun _ _ => .tup []) (fun x r=>r.fail x.1 x.2)
 (fun x r _ H id hH=>ke ts r x.1 x.2 hH) (fun id x y r _ _ h=>by
  obtain ⟨a,b⟩:=x;obtain ⟨c,d⟩:=y;simp only [List.cons.injEq,AV.int.injEq,true_and,and_true] at h;have e1:a=c:=by omega
  have e2:b=d:=by omega
  rw [e1,e2]
  exact ⟨rfl,rfl⟩)
theorem kf (ts:List Wd) (r:Sr) (k:Nat) (s:List UInt8) {H:AH} {id:Nat} (hH:H.at id=some (.box (r.pc ts))) :
  CS zP AJ 142 [.ptr id 0,.int .i64 (k:Int),.str s] H (.bool (isW ts r k s)) (H.set id (some (.box (r.pc ts)))):=by
 obtain ⟨a,e⟩:=r;refine CS.rd BY Tryz.func142 (by kernel_rfl) 0 (by simp [Tryz.f142]) (fun B hB hG => ?_) (by simp) rfl (Cu _ _) (Cu _ _) hH;refine Tr.goD FF hG (by kernel_rfl) ?_;simp [Tryz.f142,Sr.pc];refine LpD.turns FF hG [] [] (by kernel_rfl) ?_;cases e with
 | some y=>simp [isW]
 | none =>
  by_cases hl:a<ts.length
  ·have hl':(a:Int)<ts.length:=by omega
   obtain ⟨w,hw⟩:∃w,ts[a]? = some w:=⟨_,List.getElem?_eq_getElem hl⟩
   obtain ⟨c0,c1,c3⟩:=Ea hw;have tu:ts[a]=w:=by rw [List.getElem?_eq_getElem hl] at hw;injection hw
   by_cases hk:w.kind=k
   ·cases s with
    | nil=>simp [isW,isK,hw,tu,hl,hl',hk,c0,c1]
    | cons b s=>simp [isW,isK,hw,tu,hl,hl',hk,c0,c1]
   ·have hk':((w.kind:Int)==(k:Int))=false:=by rw [beq_eq_false_iff_ne];omega
    simp [isW,isK,hw,tu,hl,hl',hk,hk',c0,c1]
  ·have hl':¬((a:Int)<ts.length):=by omega
   have hw:ts[a]? = none:=List.getElem?_eq_none (by omega);simp [isW,isK,hl',hw]
noncomputable def Hb (ts:List Wd):AG zP AJ:=AG.meth 142 (Sr.pc ts) (Fb ts) (fun (_:Nat × List UInt8) _=>True) (fun _ x=>[.int .i64 (x.1:Int),.str x.2]) (fun x r => .bool (isW ts r x.1 x.2)) (fun _ r=>r)
 (fun x r _ H id hH=>kf ts r x.1 x.2 hH) (fun id x y r _ _ h=>by
  obtain ⟨a,b⟩:=x;obtain ⟨c,d⟩:=y;simp only [List.cons.injEq,AV.int.injEq,AV.str.injEq,true_and,and_true] at h;have e1:a=c:=by omega
  rw [e1,h.2]
  exact ⟨rfl,rfl⟩)
section
variable {L:List (AG zP AJ)} {ts:List Wd}
theorem Ld (hL:(L.map (·.f)).Nodup) (hF:Da ts∈L) (r:Sr) (p c:Nat) (H:AH):oOf L 54 [.ptr 0 0,.int .i64 (p:Int),.int .i64 (c:Int)] (pbx ts r::H)=some (.tup [],pbx ts (r.fail p c)::H):=Bn hL hF (p,c) r (H:=pbx ts r::H) (id:=0) rfl trivial
theorem Qa (hL:(L.map (·.f)).Nodup) (hF:Hb ts∈L) (r:Sr) (k:Nat) (s:List UInt8) (H:AH):oOf L 142 [.ptr 0 0,.int .i64 (k:Int),.str s] (pbx ts r::H)=some (.bool (isW ts r k s),pbx ts r::H):=Bn hL hF (k,s) r (H:=pbx ts r::H) (id:=0) rfl trivial
end
theorem kg (ts:List Wd) (po:ts.length<1000000) (r:Sr) (k:Nat) (s:List UInt8) {H:AH} {id:Nat} (hH:H.at id=some (.box (r.pc ts))) :
  CS zP AJ 139 [.ptr id 0,.int .i64 (k:Int),.str s] H (.bool (isW ts r k s)) (H.set id (some (.box ((CM ts r k s).pc ts)))):=by
 refine CS.rd BY Tryz.func139 (by kernel_rfl) 0 (by simp [Tryz.f139]) (fun B hB hG => ?_) (by simp) rfl (Cu _ _) (Cu _ _) hH;have hL:([Hb ts].map (·.f)).Nodup:=show ([142]:List Nat).Nodup by decide
 have X:=Bv [Hb ts] Bz Af;have h2:=fun H=>Qa (ts:=ts) hL (by simp) r k s H
 generalize oOf [Hb ts]=O at X h2;refine Tr.goD X hG (by kernel_rfl) ?_;cases hw:isW ts r k s with
 | true =>have hl:=(D1 hw).1;have w1:IntKind.i64.wrap ((r.at_:Int)+1)=(r.at_:Int)+1:=Ab (by omega) (by omega);rw [hw] at h2;rw [G2 hw];simp [Tryz.f139,Sr.pc,h2,w1,Sr.step]
 | false =>rw [hw] at h2;rw [G3 hw];simp [Tryz.f139,Sr.pc,h2]
noncomputable def Fc (ts:List Wd) (po:ts.length<1000000):AG zP AJ:=AG.meth 139 (Sr.pc ts) (Fb ts) (fun (_:Nat × List UInt8) _=>True) (fun _ x=>[.int .i64 (x.1:Int),.str x.2]) (fun x r => .bool (isW ts r x.1 x.2)) (fun x r=>CM ts r x.1 x.2)
 (fun x r _ H id hH=>kg ts po r x.1 x.2 hH) (fun id x y r _ _ h=>by
  obtain ⟨a,b⟩:=x;obtain ⟨c,d⟩:=y;simp only [List.cons.injEq,AV.int.injEq,AV.str.injEq,true_and,and_true] at h;have e1:a=c:=by omega
  rw [e1,h.2]
  exact ⟨rfl,rfl⟩)
section
variable {L:List (AG zP AJ)} {ts:List Wd}
theorem Nb (po:ts.length<1000000) (hL:(L.map (·.f)).Nodup) (hF:Fc ts po∈L) (r:Sr) (k:Nat) (s:List UInt8) (H:AH):oOf L 139 [.ptr 0 0,.int .i64 (k:Int),.str s] (pbx ts r::H)=some (.bool (isW ts r k s),pbx ts (CM ts r k s)::H):=Bn hL hF (k,s) r (H:=pbx ts r::H) (id:=0) rfl trivial
end
@[simp] theorem pL:A3 zP 192 []=some (.agg [.int .i64 0,.str [],.int .i64 0,.int .i64 0]):=by kernel_rfl
theorem kh (ts:List Wd) (po:ts.length<1000000) (r:Sr) (k:Nat) (s:List UInt8) {H:AH} {id:Nat} (hH:H.at id=some (.box (r.pc ts))) :
  CS zP AJ 91 [.ptr id 0,.int .i64 (k:Int),.str s] H (.agg (BD (BM ts r k s).1)) (H.set id (some (.box ((BM ts r k s).2.pc ts)))):=by
 refine CS.rd BY Tryz.func91 (by kernel_rfl) 0 (by simp [Tryz.f91]) (fun B hB hG => ?_) (by simp) rfl (Cu _ _) (Cu _ _) hH;have hL:([Da ts,Fc ts po].map (·.f)).Nodup:=show ([54,139]:List Nat).Nodup by decide
 have X:=Bv [Da ts,Fc ts po] Bz Af;have h1:=fun H=>Ld (ts:=ts) hL (by simp) r r.at_ 2 H
 have h2:=fun H=>Nb (ts:=ts) po hL (by simp) r k s H
 generalize oOf [Da ts,Fc ts po]=O at X h1 h2;refine Tr.goD X hG (by kernel_rfl) ?_;cases hw:isW ts r k s with
 | true =>
  obtain ⟨hl,he⟩:=D1 hw;have w1:IntKind.i64.wrap (r.at_:Int)=(r.at_:Int):=Ab (by omega) (by omega);rw [hw,G2 hw] at h2;obtain ⟨w,hx⟩:∃w,ts[r.at_]? = some w:=⟨_,List.getElem?_eq_getElem hl⟩
  obtain ⟨d1,d2⟩:=KN _ _ _ hx;have hm:BM ts r k s=(w,r.step):=by simp [BM,hw,hx]
  rw [hm];simp [pbx,Sr.step] at h2;simp [Tryz.f91,Sr.pc,h2,Sr.step];refine LpD.turns X hG [11] [] (by kernel_rfl) ?_;simp [hl,w1,d1,d2,BD]
 | false =>
  rw [hw,G3 hw] at h2;have hm:BM ts r k s=(wd0,r.fail r.at_ 2):=by simp [BM,hw]
  rw [hm];simp [pbx] at h1 h2;simp [Tryz.f91,Sr.pc,h1,h2,BD,wd0]
noncomputable def Jc (ts:List Wd) (po:ts.length<1000000):AG zP AJ:=AG.meth 91 (Sr.pc ts) (Fb ts) (fun (_:Nat × List UInt8) _=>True) (fun _ x=>[.int .i64 (x.1:Int),.str x.2]) (fun x r => .agg (BD (BM ts r x.1 x.2).1)) (fun x r=>(BM ts r x.1 x.2).2)
 (fun x r _ H id hH=>kh ts po r x.1 x.2 hH) (fun id x y r _ _ h=>by
  obtain ⟨a,b⟩:=x;obtain ⟨c,d⟩:=y;simp only [List.cons.injEq,AV.int.injEq,AV.str.injEq,true_and,and_true] at h;have e1:a=c:=by omega
  rw [e1,h.2]
  exact ⟨rfl,rfl⟩)
section
variable {L:List (AG zP AJ)} {ts:List Wd}
theorem Qb (po:ts.length<1000000) (hL:(L.map (·.f)).Nodup) (hF:Jc ts po∈L) (r:Sr) (k:Nat) (s:List UInt8) (H:AH):oOf L 91 [.ptr 0 0,.int .i64 (k:Int),.str s] (pbx ts r::H)=some (.agg (BD (BM ts r k s).1),pbx ts (BM ts r k s).2::H):=Bn hL hF (k,s) r (H:=pbx ts r::H) (id:=0) rfl trivial
end
theorem ki {id:Nat} {x:AV} (hx:low 0 x=true) {H:AH} (hH:H.at id=some (.box [x])):CS zP AJ 71 [.nilIface,.iface 154 (.ptr id 0)] H (.bool false) H:=by
 have h:=CS.rd1 (P:=zP) (E:=AJ) (f:=71) (args:=[.nilIface,.iface 154 (.ptr 0 0)]) (cs:=[x]) (cs':=[x]) (v := .bool false) (H:=H) (id:=id) BY Tryz.func71 (by kernel_rfl) 0 (by simp [Tryz.f71]) (fun B hB hG=>by
  refine Tr.goD FF hG (by kernel_rfl) ?_
  simp [Tryz.f71]) rfl rfl (by simp [hx]) (by simp [hx]) hH
 rw [AH.set_at hH] at h;exact h
noncomputable def fAs:AG zP AJ where
 f:=71
 α:=Option (List AV) × Nat
 ok:=fun x H=>∃y,low 0 y=true∧H.at x.2=some (.box [y])
 args:=fun x=>[match x.1 with
  | none => .nilIface
  | some cs => .iface 152 (.vptr cs 0),.iface 154 (.ptr x.2 0)]
 out:=fun x => .bool x.1.isSome
 up:=fun x H=>match x.1 with
  | none=>H
  | some cs=>H.set x.2 (some (.box [.vptr cs 0]))
 cs:=fun x H ⟨y,hy,h⟩=>by
  obtain ⟨o,id⟩:=x;cases o with
  | none=>exact ⟨ki hy h,Ci.refl H⟩
  | some cs=>exact ⟨CS.toF (CS.toX (T7 h)),Ci.set h⟩
 same:=fun x y H _ _ h=>by
  obtain ⟨o,id⟩:=x;obtain ⟨o',id'⟩:=y;cases o<;>cases o'<;>simp at h ⊢
  ·obtain ⟨rfl,rfl⟩:=h
   rfl
section
variable {L:List (AG zP AJ)}
theorem Qc (hL:(L.map (·.f)).Nodup) (hF:fAs∈L) (o:Option (List AV)) (id:Nat) (y:AV) (hy:low 0 y=true) (H:AH) (hH:H.at id=some (.box [y])) :
  oOf L 71 [match o with|none => .nilIface|some cs => .iface 152 (.vptr cs 0),.iface 154 (.ptr id 0)] H=some (.bool o.isSome,match o with|none=>H|some cs=>H.set id (some (.box [.vptr cs 0]))):=DL hL fAs hF (x:=(o,id)) ⟨y,hy,hH⟩
end
def Dj (ts:List Wd) (a:Nat):AV:=if a=ts.length∧ts≠[] then .slice .unk 4 0 [] else AD (ts.drop a)
theorem VI:∀(l:List Wd) (a:Nat),(A6 l).drop (a*4)=A6 (l.drop a)
 | [],a=>by simp [A6]
 | w::l,0=>by simp
 | w::l,a+1=>by have hc:A6 (w::l)=BD w++A6 l:=rfl;have hw:(BD w).length=4:=rfl;rw [hc,List.drop_append,List.drop_of_length_le (by omega),hw,List.nil_append,show (a+1)*4-4=a*4 by omega,VI l a,List.drop_succ_cons]
theorem VJ:∀(l:List Wd) (a:Nat),(A6 l).take (a*4)=A6 (l.take a)
 | [],a=>by simp [A6]
 | w::l,0=>by simp [A6]
 | w::l,a+1=>by have hc:A6 (w::l)=BD w++A6 l:=rfl;have hd:A6 (w::l.take a)=BD w++A6 (l.take a):=rfl;have hw:(BD w).length=4:=rfl;rw [hc,List.take_append,List.take_of_length_le (by omega),hw,show (a+1)*4-4=a*4 by omega,VJ l a,List.take_succ_cons,hd]
@[simp high] theorem pM {ts:List Wd} {a:Nat} (h:a≤ts.length):BG zP 125 (AD ts) (some (.int .i64 (a:Int))) none none=some (Dj ts a):=by
 unfold Dj AD;have h1:(a:Int)≤ts.length:=by omega
 by_cases po:ts=[]
 ·subst po
  have:a=0:=by simpa using h
  subst this;simp [BG]
 ·by_cases ha:a=ts.length
  ·subst ha
   simp [po,BG,KC]
  ·have hd:ts.drop a≠[]:=by
    intro h2;have:=congrArg List.length h2;rw [List.length_drop] at this;simp at this;omega
   have hl:=List.length_drop (i:=a) (l:=ts);simp [po,ha,hd,BG,h1,hl];rw [VI,List.take_of_length_le (by rw [KC,hl];exact Nat.le_refl _)]
@[simp ↓ high] theorem kj (m:Nat) (ts:List Wd) (a:Nat):low m (Dj ts a)=true:=by
 unfold Dj
 split
 ·rfl
 ·exact CY (Nat.zero_le m) _ (Pf _)
@[simp ↓ high] theorem pN (ts:List Wd) (a:Nat):Bg (Dj ts a)=[]:=by
 unfold Dj
 split
 ·rfl
 ·exact gl _
def VK:AV := .slice .unk 4 0 []
set_option maxRecDepth 100000 in
theorem kk:run fzN Bk zP AJ 100 20 145 [VK] []=some (Ez (B1 []),[]):=by kernel_rfl
set_option maxRecDepth 100000 in
theorem kl:run fzN Bk zP AJ 100 20 141 [VK] []=some (KX (CE []),[]):=by kernel_rfl
theorem VL {ts us:List Wd} {a b:Nat} (ha:a≤ts.length) (hb:b≤us.length) (h:Dj ts a=Dj us b):ts.drop a=us.drop b:=by
 unfold Dj at h
 have key:∀l:List Wd,AD l ≠ .slice .unk 4 0 []:=by
  intro l h;unfold AD at h
  split at h
  ·cases h
  ·rename_i hl
   injection h with _ _ h;exact hl (List.length_eq_zero_iff.1 h)
 split at h
 ·rename_i h1
  split at h
  ·rename_i h2
   rw [h1.1,h2.1,List.drop_length,List.drop_length]
  ·exact absurd h.symm (key _)
 ·split at h
  ·exact absurd h (key _)
  ·exact QF h
noncomputable def GW:AG zP AJ:=AG.pure 145 (fun x:List Wd × Nat=>x.1.length<1000000∧x.2≤x.1.length) (fun x=>[Dj x.1 x.2]) (fun x=>Ez (B1 (x.1.drop x.2)))
 (fun x h H=>by
  unfold Dj
  split
  ·rename_i hx
   rw [hx.1,List.drop_length];exact (K2 (base:=Bk) JI Bz Af 100 20 _ _ _ _ _ kk).1.frame BY rfl H
  ·exact jv _ (by rw [List.length_drop];omega) H) (fun x y hx hy h=>by
  simp only [List.cons.injEq,and_true] at h
  rw [VL hx.2 hy.2 h])
noncomputable def Jd:AG zP AJ:=AG.pure 141 (fun x:List Wd × Nat=>x.1.length<1000000∧x.2≤x.1.length) (fun x=>[Dj x.1 x.2]) (fun x=>KX (CE (x.1.drop x.2)))
 (fun x h H=>by
  unfold Dj
  split
  ·rename_i hx
   rw [hx.1,List.drop_length];exact (K2 (base:=Bk) JI Bz Af 100 20 _ _ _ _ _ kl).1.frame BY rfl H
  ·exact jx _ (by rw [List.length_drop];omega) H) (fun x y hx hy h=>by
  simp only [List.cons.injEq,and_true] at h
  rw [VL hx.2 hy.2 h])
theorem km (ts:List Wd) (po:ts.length<1000000) (r:Sr) (hr:r.at_≤ts.length) {H:AH} {id:Nat} (hH:H.at id=some (.box (r.pc ts))) :
  CS zP AJ 143 [.ptr id 0,.func (.func 145) [] []] H (.agg (tC (C2 ts r).1.tn)) (H.set id (some (.box ((C2 ts r).2.pc ts)))):=by
 refine CS.rd BY Tryz.func143 (by kernel_rfl) 0 (by simp [Tryz.f143]) (fun B hB hG => ?_) (by simp) (by simp) (Cu _ _) (Cu _ _) hH;have hL:([CU,fAs,GW].map (·.f)).Nodup:=show ([52,71,145]:List Nat).Nodup by decide
 have X:=Bv [CU,fAs,GW] Bz Af;have h1:=fun p l c H=>Cr hL (show CU∈[CU,fAs,GW] by simp) (p,l,c) trivial H
 have h2:=fun o e0 e1 e2 e3 H=>Qc hL (show fAs∈[CU,fAs,GW] by simp) o 4 .nilPtr rfl (e0::e1::e2::e3::some (.box [.nilPtr])::H) rfl
 have h3:=fun H=>Cr hL (show GW∈[CU,fAs,GW] by simp) (ts,r.at_) ⟨po,hr⟩ H
 generalize oOf [CU,fAs,GW]=O at X h1 h2 h3;refine Tr.goD X hG (by kernel_rfl) ?_;obtain ⟨a,e⟩:=r;obtain ⟨qF,qA⟩:=KZ (ts.drop a);rw [List.length_drop] at qF qA;simp only at hr;cases e with
 | some y=>simp [Tryz.f143,Sr.pc,C2,Fz,Bq]
 | none =>
  simp only [Ez] at h3;generalize hq:B1 (ts.drop a)=q at *;obtain ⟨ex,n,x⟩:=q;simp only at qF qA h3;simp only [CT] at h3
  have hx:C2 ts ⟨a,none⟩=match x with
   | some (p,c)=>(.none,⟨a,some ([(Bo,a+p),(Hv,p)],c)⟩)
   | none=>(ex,⟨a+n,none⟩):=by
   simp only [C2,Fz,hq];cases x<;>rfl
  rw [hx];simp [Tryz.f143,Sr.pc];refine LpD.turns X hG [10,15,16] [(0,15),(1,15),(2,15),(3,15),(4,15),(5,15),(6,15),(7,15),(8,15),(9,15),(10,15),(11,15),(12,15),(13,15),(13,16),(14,15),(14,16)] (by kernel_rfl) ?_;simp [hr,h3];cases x with
  | none =>have h2:=h2 none;simp at h2;have w1:IntKind.i64.wrap ((a:Int)+(n:Int))=(a:Int)+(n:Int):=Ab (by omega) (by omega);simp [eAV,h2,w1]
  | some y =>obtain ⟨p,c⟩:=y;have hp:=qA p c rfl;have w1:IntKind.i64.wrap ((a:Int)+(p:Int))=(a:Int)+(p:Int):=Ab (by omega) (by omega);have h2:=h2 (some [.str Dy,.int .i64 (p:Int),AZ [] (c:Int)]);have h1:=h1 ((a:Int)+(p:Int)) [(Dy,(p:Int))] (c:Int);simp [AZ,Dy,Bo] at h1 h2;simp [eAV,AZ,Dy,h2];refine LpD.turns X hG [11,14] [(0,11)] (by kernel_rfl) ?_;simp [w1,h1,erI,AZ,CO,Bo,Hv,Dy,Bq]
theorem kn (ts:List Wd) (po:ts.length<1000000) (r:Sr) (hr:r.at_≤ts.length) {H:AH} {id:Nat} (hH:H.at id=some (.box (r.pc ts))) :
  CS zP AJ 140 [.ptr id 0,.func (.func 141) [] []] H (FG (F0 ts r).1) (H.set id (some (.box ((F0 ts r).2.pc ts)))):=by
 refine CS.rd BY Tryz.func140 (by kernel_rfl) 0 (by simp [Tryz.f140]) (fun B hB hG => ?_) (by simp) (by simp [FG]) (Cu _ _) (Cu _ _) hH;have hL:([CU,fAs,Jd].map (·.f)).Nodup:=show ([52,71,141]:List Nat).Nodup by decide
 have X:=Bv [CU,fAs,Jd] Bz Af;have h1:=fun p l c H=>Cr hL (show CU∈[CU,fAs,Jd] by simp) (p,l,c) trivial H
 have h2:=fun o e0 e1 e2 e3 H=>Qc hL (show fAs∈[CU,fAs,Jd] by simp) o 4 .nilPtr rfl (e0::e1::e2::e3::some (.box [.nilPtr])::H) rfl
 have h3:=fun H=>Cr hL (show Jd∈[CU,fAs,Jd] by simp) (ts,r.at_) ⟨po,hr⟩ H
 generalize oOf [CU,fAs,Jd]=O at X h1 h2 h3;refine Tr.goD X hG (by kernel_rfl) ?_;obtain ⟨a,e⟩:=r;obtain ⟨qF,qA⟩:=NV (ts.drop a);rw [List.length_drop] at qF qA;simp only at hr;cases e with
 | some y=>simp [Tryz.f140,Sr.pc,F0,Fz,FG,Bq]
 | none =>
  simp only [KX] at h3;generalize hq:CE (ts.drop a)=q at *;obtain ⟨⟨op,ea,eb⟩,n,x⟩:=q;simp only at qF qA h3;simp only [FG,CT,List.cons_append,List.nil_append] at h3
  have hx:F0 ts ⟨a,none⟩=match x with
   | some (p,c)=>(([],.none,.none),⟨a,some ([(Bo,a+p),(Hv,p)],c)⟩)
   | none=>((op,ea,eb),⟨a+n,none⟩):=by
   simp only [F0,Fz,hq];cases x<;>rfl
  rw [hx];simp [Tryz.f140,Sr.pc];refine LpD.turns X hG [10,15,16] [(0,15),(1,15),(2,15),(3,15),(4,15),(5,15),(6,15),(7,15),(8,15),(9,15),(10,15),(11,15),(12,15),(13,15),(13,16),(14,15),(14,16)] (by kernel_rfl) ?_;simp [hr,h3];cases x with
  | none =>have h2:=h2 none;simp at h2;have w1:IntKind.i64.wrap ((a:Int)+(n:Int))=(a:Int)+(n:Int):=Ab (by omega) (by omega);simp [eAV,h2,w1,FG]
  | some y =>obtain ⟨p,c⟩:=y;have hp:=qA p c rfl;have w1:IntKind.i64.wrap ((a:Int)+(p:Int))=(a:Int)+(p:Int):=Ab (by omega) (by omega);have h2:=h2 (some [.str Dy,.int .i64 (p:Int),AZ [] (c:Int)]);have h1:=h1 ((a:Int)+(p:Int)) [(Dy,(p:Int))] (c:Int);simp [AZ,Dy,Bo] at h1 h2;simp [eAV,AZ,Dy,h2];refine LpD.turns X hG [11,14] [(0,11)] (by kernel_rfl) ?_;simp [w1,h1,erI,AZ,CO,Bo,Hv,Dy,FG,Bq]
noncomputable def VM (ts:List Wd) (po:ts.length<1000000):AG zP AJ:=AG.meth 140 (Sr.pc ts) (Fb ts) (fun (_:Unit) r=>r.at_≤ts.length) (fun _ _=>[.func (.func 141) [] []]) (fun _ r=>FG (F0 ts r).1) (fun _ r=>(F0 ts r).2)
 (fun _ r h H id hH=>kn ts po r h hH) (fun id x y r _ _ h=>⟨rfl,rfl⟩)
noncomputable def Le (ts:List Wd) (po:ts.length<1000000):AG zP AJ:=AG.meth 143 (Sr.pc ts) (Fb ts) (fun (_:Unit) r=>r.at_≤ts.length) (fun _ _=>[.func (.func 145) [] []]) (fun _ r => .agg (tC (C2 ts r).1.tn)) (fun _ r=>(C2 ts r).2)
 (fun _ r h H id hH=>km ts po r h hH) (fun id x y r _ _ h=>⟨rfl,rfl⟩)
theorem ko (ts:List Wd) (po:ts.length<1000000) (r:Sr) (hr:r.at_≤ts.length) {H:AH} {id:Nat} (hH:H.at id=some (.box (r.pc ts))) :
  CS zP AJ 92 [.ptr id 0] H (.agg (tC (C2 ts r).1.tn)) (H.set id (some (.box ((C2 ts r).2.pc ts)))):=by
 refine CS.rd BY Tryz.func92 (by kernel_rfl) 0 (by simp [Tryz.f92]) (fun B hB hG => ?_) (by simp) (by simp) (Cu _ _) (Cu _ _) hH;have hL:([Le ts po].map (·.f)).Nodup:=show ([143]:List Nat).Nodup by decide
 have X:=Bv [Le ts po] Bz Af;have h1:=fun e0 H=>Bn hL (show Le ts po∈[Le ts po] by simp) () r (H:=some (.box (r.pc ts))::e0::H) (id:=0) rfl hr
 generalize oOf [Le ts po]=O at X h1;refine Tr.goD X hG (by kernel_rfl) ?_;simp only [CT,Sr.pc] at h1;simp at h1;simp [Tryz.f92,Sr.pc,h1]
theorem kp (us:List Wd):Dj us 0=AD us:=by unfold Dj;rw [if_neg (by rintro ⟨h1,h2⟩;exact h2 (List.length_eq_zero_iff.1 h1.symm)),List.drop_zero]
@[simp high] theorem pO {ts:List Wd} {a e:Nat} (ha:a<ts.length) (h:a≤e) (he:e≤ts.length):BG zP 125 (Dj ts a) none (some (.int .i64 ((e-a:Nat):Int))) none=some (if e=a then .slice .unk 4 0 [] else AD ((ts.drop a).take (e-a))):=by
 have hd:ts.drop a≠[]:=by intro h2;have:=congrArg List.length h2;rw [List.length_drop] at this;simp at this;omega
 have hl:=List.length_drop (i:=a) (l:=ts);have h1:((e-a:Nat):Int)≤((ts.length-a:Nat):Int):=by omega
 unfold Dj;rw [if_neg (by omega)];unfold AD;rw [if_neg hd]
 by_cases zN:e=a
 ·subst zN
  simp [BG,hl]
 ·have ht:(ts.drop a).take (e-a)≠[]:=by
   intro h2;have:=congrArg List.length h2;rw [List.length_take,hl] at this;simp at this;omega
  have p9:((ts.drop a).take (e-a)).length=e-a:=by rw [List.length_take,hl];omega
  rw [if_neg zN,if_neg ht,p9];simp [BG,hl,h1];rw [←VJ]
def upW (ts:List Wd) (r:Sr) (e:Nat):Ex × Sr:=Fz ts .none (fun l=>B1 (l.take (e-r.at_))) r
structure Ka (ts:List Wd) (H:AH) (r:Sr) (e i0 i1 i2:Nat):Prop where
 d01:i0≠i1
 d02:i0≠i2
 d12:i1≠i2
 h0:H.at i0=some (.box (r.pc ts))
 h1:H.at i1=some (.box [.ptr i0 0])
 h2:H.at i2=some (.box [.int .i64 (e:Int)])
 lt:r.at_<ts.length
 le:r.at_<e
 up:e≤ts.length
def φ3 (i0 i1 i2:Nat):Nat→Nat:=fun i=>if i=0 then i0 else if i=1 then i1 else i2
theorem VN {i0 i1 i2:Nat} (h1:i0≠i1) (h2:i0≠i2) (h3:i1≠i2):∀i j,i<3→j<3→φ3 i0 i1 i2 i=φ3 i0 i1 i2 j→i=j:=by intro i j hi hj h;rcases (by omega:i=0∨i=1∨i=2) with rfl|rfl|rfl<;>rcases (by omega:j=0∨j=1∨j=2) with rfl|rfl|rfl<;>simp [φ3] at h ⊢ <;> omega
theorem VO {ts:List Wd} {H:AH} {r r':Sr} {e e' i0 i0' i1 i2:Nat} (h:Ka ts H r e i0 i1 i2) (k:Ka ts H r' e' i0' i1 i2):r=r'∧e=e'∧i0=i0':=by have e1:=h.h1.symm.trans k.h1;simp only [Option.some.injEq,Ent.box.injEq,List.cons.injEq,AV.ptr.injEq,and_true] at e1;subst e1;have e0:=h.h0.symm.trans k.h0;simp only [Option.some.injEq,Ent.box.injEq] at e0;have e2:=h.h2.symm.trans k.h2;simp only [Option.some.injEq,Ent.box.injEq,List.cons.injEq,AV.int.injEq,true_and,and_true] at e2;exact ⟨Fb ts _ _ e0,by omega,rfl⟩
theorem Nc (ψ:Nat→Nat) (ts:List Wd) (r:Sr):AM ψ (r.pc ts)=r.pc ts:=BA ψ _ (Cu ts r)
theorem kq (ts:List Wd) (po:ts.length<1000000) {r:Sr} {e i0 i1 i2:Nat} {H:AH} (h:Ka ts H r e i0 i1 i2) :
  CS zP AJ 144 [Dj ts r.at_,.ptr i2 0,.ptr i1 0] H (Ez (B1 ((ts.drop r.at_).take (e-r.at_)))) H:=by
 obtain ⟨d01,d02,d12,h0,h1,h2,p9,pv,rq⟩:=h;have hL:([GW].map (·.f)).Nodup:=show ([145]:List Nat).Nodup by decide
 have X:=Bv [GW] Bz Af;have hl:((ts.drop r.at_).take (e-r.at_)).length<1000000:=by rw [List.length_take,List.length_drop];omega
 have h3:=fun H=>Cr hL (show GW∈[GW] by simp) ((ts.drop r.at_).take (e-r.at_),0) ⟨hl,Nat.zero_le _⟩ H
 simp only [kp,List.drop_zero] at h3;generalize oOf [GW]=O at X h3
 have key:=CS.of_Tr (P:=zP) (E:=AJ) (f:=144) (c:=Ar Tryz.f144) (args:=[Dj ts r.at_,.ptr 2 0,.ptr 1 0]) (H0:=[some (.box (r.pc ts)),some (.box [.ptr 0 0]),some (.box [.int .i64 (e:Int)])]) (H1:=[some (.box (r.pc ts)),some (.box [.ptr 0 0]),some (.box [.int .i64 (e:Int)])])
  (v:=Ez (B1 ((ts.drop r.at_).take (e-r.at_)))) Tryz.func144 (by kernel_rfl) 0 (by simp [Tryz.f144]) (fun B hB hG=>by
   refine Tr.goD X hG (by kernel_rfl) ?_;have w1:IntKind.i64.wrap ((e:Int)-(r.at_:Int))=((e-r.at_:Nat):Int):=by rw [Ab (by omega) (by omega)];omega
   have pp:¬e=r.at_:=by omega
   have zAA:r.at_≤e:=by omega
   simp only [Ez,CT] at h3;generalize wv:(ts.drop r.at_).take (e-r.at_)=us at *;generalize B1 us=q at *;simp [Tryz.f144,Sr.pc];refine LpD.turns X hG [8,12] [] (by kernel_rfl) ?_
   simp [w1,p9,zAA,rq,pp,wv,h3,Ez]) (by simp [Ez]) (by simp [Sr.pc])
 have:=CS.embed (φ3 i0 i1 i2) (k:=3) (H:=H) (H':=H) key rfl rfl (VN d01 d02 d12) BY (by simp) (by simp [Ez]) (by simp [Sr.pc]) (by simp [Sr.pc]) (by
  intro i hi;rcases (by omega:i=0∨i=1∨i=2) with rfl|rfl|rfl
  ·simp [φ3,AH.at,AI,Nc];exact h0
  ·simp [φ3,AH.at,AI,AM,ren];exact h1
  ·simp [φ3,AH.at,AI,AM,ren];exact h2) (by
  intro i hi;rcases (by omega:i=0∨i=1∨i=2) with rfl|rfl|rfl
  ·simp [φ3,AH.at,AI,Nc];exact h0
  ·simp [φ3,AH.at,AI,AM,ren];exact h1
  ·simp [φ3,AH.at,AI,AM,ren];exact h2) (fun j hj=>rfl)
 rw [FN _ _ (by simp [Ez]:low 0 (Ez (B1 ((ts.drop r.at_).take (e-r.at_))))=true)] at this;simpa [AM,ren,φ3,FN _ (Dj ts r.at_) (kj 0 ts r.at_)] using this
noncomputable def IA (ts:List Wd) (po:ts.length<1000000):AG zP AJ where
 f:=144
 α:=Sr × Nat × Nat × Nat × Nat
 ok:=fun x H=>Ka ts H x.1 x.2.1 x.2.2.1 x.2.2.2.1 x.2.2.2.2
 args:=fun x=>[Dj ts x.1.at_,.ptr x.2.2.2.2 0,.ptr x.2.2.2.1 0]
 out:=fun x=>Ez (B1 ((ts.drop x.1.at_).take (x.2.1-x.1.at_)))
 up:=fun _ H=>H
 cs:=fun x H h=>⟨kq ts po h,Ci.refl H⟩
 same:=fun x y H hx hy h=>by obtain ⟨r,e,i0,i1,i2⟩:=x;obtain ⟨r',e',i0',i1',i2'⟩:=y;simp only [List.cons.injEq,AV.ptr.injEq,and_true] at h hx hy;obtain ⟨_,rfl,rfl⟩:=h;obtain ⟨rfl,rfl,_⟩:=VO hx hy;exact ⟨rfl,rfl⟩
theorem kr (ts:List Wd) (po:ts.length<1000000) {r:Sr} {e i0 i1 i2:Nat} {H:AH} (h:Ka ts H r e i0 i1 i2) :
  CS zP AJ 143 [.ptr i0 0,.func (.func 144) [] [.ptr i2 0,.ptr i1 0]] H (.agg (tC (upW ts r e).1.tn)) (H.set i0 (some (.box ((upW ts r e).2.pc ts)))):=by
 obtain ⟨d01,d02,d12,h0,qF,qA,p9,pv,rq⟩:=h;have hL:([CU,fAs,IA ts po].map (·.f)).Nodup:=show ([52,71,144]:List Nat).Nodup by decide
 have X:=Bv [CU,fAs,IA ts po] Bz Af;have h1:=fun p l c H=>Cr hL (show CU∈[CU,fAs,IA ts po] by simp) (p,l,c) trivial H
 have h2:=fun o e0 e1 e2 e3 e4 e5 H=>Qc hL (show fAs∈[CU,fAs,IA ts po] by simp) o 6 .nilPtr rfl (e0::e1::e2::e3::e4::e5::some (.box [.nilPtr])::H) rfl
 have h3:=fun H=>DL hL (IA ts po) (show IA ts po∈[CU,fAs,IA ts po] by simp) (x:=(r,e,0,1,2)) (H:=some (.box (r.pc ts))::some (.box [.ptr 0 0])::some (.box [.int .i64 (e:Int)])::H) ⟨Nat.zero_ne_one,(by simp),(by simp),rfl,rfl,rfl,p9,pv,rq⟩
 generalize oOf [CU,fAs,IA ts po]=O at X h1 h2 h3
 have key:=CS.of_Tr (P:=zP) (E:=AJ) (f:=143) (c:=Ar Tryz.f143) (args:=[.ptr 0 0,.func (.func 144) [] [.ptr 2 0,.ptr 1 0]]) (H0:=[some (.box (r.pc ts)),some (.box [.ptr 0 0]),some (.box [.int .i64 (e:Int)])]) (H1:=[some (.box ((upW ts r e).2.pc ts)),some (.box [.ptr 0 0]),some (.box [.int .i64 (e:Int)])])
  (v := .agg (tC (upW ts r e).1.tn)) Tryz.func143 (by kernel_rfl) 0 (by simp [Tryz.f143]) (fun B hB hG=>by
   refine Tr.goD X hG (by kernel_rfl) ?_;obtain ⟨a,er⟩:=r;obtain ⟨qF,qA⟩:=KZ ((ts.drop a).take (e-a));rw [List.length_take,List.length_drop] at qF qA;simp only at p9 pv;have hr:a≤ts.length:=by omega
   cases er with
   | some y=>simp [Tryz.f143,Sr.pc,upW,Fz,Bq]
   | none =>
    simp only [IA,Ez] at h3;generalize hq:B1 ((ts.drop a).take (e-a))=q at *;obtain ⟨ex,n,x⟩:=q;simp only at qF qA h3;simp only [CT,Sr.pc,QZ] at h3
    have hx:upW ts ⟨a,none⟩ e=match x with
     | some (p,c)=>(.none,⟨a,some ([(Bo,a+p),(Hv,p)],c)⟩)
     | none=>(ex,⟨a+n,none⟩):=by
     simp only [upW,Fz,hq];cases x<;>rfl
    rw [hx];simp [Tryz.f143,Sr.pc];refine LpD.turns X hG [10,15,16] [(0,15),(1,15),(2,15),(3,15),(4,15),(5,15),(6,15),(7,15),(8,15),(9,15),(10,15),(11,15),(12,15),(13,15),(13,16),(14,15),(14,16)] (by kernel_rfl) ?_;simp [hr,h3];cases x with
    | none =>have h2:=h2 none;simp at h2;have w1:IntKind.i64.wrap ((a:Int)+(n:Int))=(a:Int)+(n:Int):=Ab (by omega) (by omega);simp [eAV,h2,w1]
    | some y =>
     obtain ⟨p,c⟩:=y;have hp:=qA p c rfl;have w1:IntKind.i64.wrap ((a:Int)+(p:Int))=(a:Int)+(p:Int):=Ab (by omega) (by omega);have h2:=h2 (some [.str Dy,.int .i64 (p:Int),AZ [] (c:Int)]);have h1:=h1 ((a:Int)+(p:Int)) [(Dy,(p:Int))] (c:Int);simp [AZ,Dy,Bo] at h1 h2;simp [eAV,AZ,Dy,h2];refine LpD.turns X hG [11,14] [(0,11)] (by kernel_rfl) ?_
     simp [w1,h1,erI,AZ,CO,Bo,Hv,Dy,Bq]) (by simp) (by simp [Sr.pc])
 have:=CS.embed (φ3 i0 i1 i2) (k:=3) (H:=H) (H':=H.set i0 (some (.box ((upW ts r e).2.pc ts)))) key rfl rfl (VN d01 d02 d12) BY (by simp) (by simp) (by simp [Sr.pc]) (by simp [Sr.pc]) (by
  intro i hi;rcases (by omega:i=0∨i=1∨i=2) with rfl|rfl|rfl
  ·simp [φ3,AH.at,AI,Nc];exact h0
  ·simp [φ3,AH.at,AI,AM,ren];exact qF
  ·simp [φ3,AH.at,AI,AM,ren];exact qA) (by
  intro i hi;rcases (by omega:i=0∨i=1∨i=2) with rfl|rfl|rfl
  ·have:φ3 i0 i1 i2 0=i0:=rfl
   rw [this,Fs h0];simp [AH.at,AI,Nc]
  ·have:φ3 i0 i1 i2 1=i1:=rfl
   rw [this,CZ d01];simp [φ3,AH.at,AI,AM,ren];exact qF
  ·have:φ3 i0 i1 i2 2=i2:=rfl
   rw [this,CZ d02]
   simp [φ3,AH.at,AI,AM,ren];exact qA) (fun j hj=>CZ (hj 0 (by omega)))
 rw [FN _ _ (by simp:low 0 (.agg (tC (upW ts r e).1.tn))=true)] at this;simpa [AM,ren,φ3] using this
noncomputable def Je (ts:List Wd) (po:ts.length<1000000):AG zP AJ where
 f:=143
 α:=Sr × Nat × Nat × Nat × Nat
 ok:=fun x H=>Ka ts H x.1 x.2.1 x.2.2.1 x.2.2.2.1 x.2.2.2.2
 args:=fun x=>[.ptr x.2.2.1 0,.func (.func 144) [] [.ptr x.2.2.2.2 0,.ptr x.2.2.2.1 0]]
 out:=fun x => .agg (tC (upW ts x.1 x.2.1).1.tn)
 up:=fun x H=>H.set x.2.2.1 (some (.box ((upW ts x.1 x.2.1).2.pc ts)))
 cs:=fun x H h=>⟨kr ts po h,Ci.set h.h0⟩
 same:=fun x y H hx hy h=>by obtain ⟨r,e,i0,i1,i2⟩:=x;obtain ⟨r',e',i0',i1',i2'⟩:=y;simp only [List.cons.injEq,AV.ptr.injEq,AV.func.injEq,and_true,true_and] at h hx hy;obtain ⟨rfl,rfl,rfl⟩:=h;obtain ⟨rfl,rfl,_⟩:=VO hx hy;exact ⟨rfl,rfl⟩
@[simp] theorem pP:AJ.imm 129=false:=by decide
@[simp] theorem pQ:AJ.imm 31=false:=by decide
theorem kt {ts:List Wd} {e:Nat} {w:Wd} (h:ts[e]? = some w):ts.drop e=w::ts.drop (e+1):=by obtain ⟨hl,he⟩:=List.getElem?_eq_some_iff.1 h;rw [←he];exact List.drop_eq_getElem_cons hl
def TopI (ts:List Wd) (r:Sr) (E:Nat) (k:Nat) (t:List AV) (H:AH):Prop :=
 ∃(e d:Nat),e+k=ts.length∧r.at_<e∧e+Hw (ts.drop e) d=E∧(d=0→isK ts e 3 Ay=true)∧d≤e ∧
  t=mkT 90 [(1,.ptr 1 0),(2,.ptr 2 0),(3,.ptr 3 0),(4,.int .i64 (d:Int))]∧H=[pbx ts r,some (.box [.ptr 0 0]),some (.box [.int .i64 0,.int .i64 0,.str [],.nilSlice]),some (.box [.int .i64 (e:Int)])]
theorem Qd:∀(l:List Wd) (d:Nat),Hw l d≤l.length
 | [],d=>Nat.le_refl _
 | w::l,d=>by
  have h1:=Qd l;have h2:=Qd l d;simp only [Hw,List.length_cons];generalize (if w.text=Ay then d+1 else if w.text=A0 then d-1 else d)=d2;have h3:=h1 d2
  split
  ·split<;>omega
  ·omega
theorem ku {ts:List Wd} {i:Nat} (h:i<ts.length):i<HQ ts i∧HQ ts i≤ts.length:=by
 unfold HQ
 split
 ·have h1:=Qd (ts.drop (i+1)) 0
  rw [List.length_drop] at h1;omega
 ·omega
theorem kv {ts:List Wd} {r:Sr} (h:isW ts r 1 []=true):toW ts r=upW ts r (HQ ts r.at_):=by simp [toW,upW,h]
theorem VP {ts:List Wd} {i:Nat} {w:Wd} (h:ts[i]? = some w) (k:Nat) (s:List UInt8):isK ts i k s=(w.kind==k&&(s==[] || w.text==s)):=by simp only [isK,h]
theorem kw (ts:List Wd) (po:ts.length<1000000) (r:Sr) (hr:r.at_≤ts.length) {H:AH} {id:Nat} (hH:H.at id=some (.box (r.pc ts))) :
  CS zP AJ 90 [.ptr id 0] H (.agg (tC (toW ts r).1.tn)) (H.set id (some (.box ((toW ts r).2.pc ts)))):=by
 refine CS.rd BY Tryz.func90 (by kernel_rfl) 0 (by simp [Tryz.f90]) (fun B hB hG => ?_) (by simp) (by simp) (Cu _ _) (Cu _ _) hH;have hL:([Da ts,Hb ts,Je ts po].map (·.f)).Nodup:=show ([54,142,143]:List Nat).Nodup by decide
 have X:=Bv [Da ts,Hb ts,Je ts po] Bz Af;have h0:=fun H=>Ld (ts:=ts) hL (by simp) r r.at_ 2 H
 have h1:=fun H=>Qa (ts:=ts) hL (by simp) r 1 [] H
 have h2:=fun (e:Nat) (e2:Option Ent) (h:r.at_<ts.length) (h':r.at_<e) (h'':e≤ts.length) H=>DL hL (Je ts po) (show Je ts po∈[Da ts,Hb ts,Je ts po] by simp) (x:=(r,e,0,1,3)) (H:=pbx ts r::some (.box [.ptr 0 0])::e2::some (.box [.int .i64 (e:Int)])::H) ⟨Nat.zero_ne_one,(by simp),(by simp),rfl,rfl,rfl,h,h',h''⟩
 generalize oOf [Da ts,Hb ts,Je ts po]=O at X h0 h1 h2;refine Tr.goD X hG (by kernel_rfl) ?_;simp [pbx] at h0 h1;cases hw:isW ts r 1 [] with
 | false =>
  rw [hw] at h1;have hx:toW ts r=(.none,r.fail r.at_ 2):=by simp [toW,hw]
  rw [hx];simp [Tryz.f90,Sr.pc,h1];refine LpD.turns X hG [5] [] (by kernel_rfl) ?_;simp [h0,Bq]
 | true =>
  rw [hw] at h1;obtain ⟨p9,he⟩:=D1 hw;rw [kv hw];obtain ⟨b1,b2⟩:=ku p9;have h2':=h2 (HQ ts r.at_) (some (.box [.int .i64 0,.int .i64 0,.str [],.nilSlice])) p9 b1 b2;simp only [Je,CT,Sr.pc] at h2';obtain ⟨E1,hE1⟩:∃E1,E1=r.at_+1:=⟨_,rfl⟩
  have hE:HQ ts r.at_=if isK ts E1 3 Ay then E1+Hw (ts.drop E1) 0 else E1:=by rw [hE1];rfl
  have w1:IntKind.i64.wrap ((r.at_:Int)+1)=(E1:Int):=by rw [Ab (by omega) (by omega)];omega
  simp [Tryz.f90,Sr.pc,h1,w1];generalize upW ts r (HQ ts r.at_)=res at *;refine LpD.turns X hG [] [] (by kernel_rfl) ?_
  by_cases hl:E1<ts.length
  ·have hl':(E1:Int)<ts.length:=by omega
   obtain ⟨w,hx⟩:∃w,ts[E1]? = some w:=⟨_,List.getElem?_eq_getElem hl⟩
   obtain ⟨c0,c1,c3⟩:=Ea hx;have hk:=VP hx 3 Ay
   by_cases rV:w.kind=3
   ·by_cases sd:w.text=[40]
    ·have tw:isK ts E1 3 Ay=true:=by rw [hk];simp [rV,sd,Ay]
     rw [tw] at hE;simp only [if_true] at hE;simp [hl,hl',c0,c1,rV,sd];generalize hEn:HQ ts r.at_=En at *
     refine LpD.loopN X hG (by kernel_rfl) (TopI ts r En) (ts.length-E1) (t':=mkT 90 [(1,.ptr 1 0),(2,.ptr 2 0),(3,.ptr 3 0),(4,.int .i64 ((0:Nat):Int))])
      (H':=[pbx ts r,some (.box [.ptr 0 0]),some (.box [.int .i64 0,.int .i64 0,.str [],.nilSlice]),some (.box [.int .i64 (E1:Int)])])
      (AF.mkK 4 (by simp [hB]) (by simp) (by simp [pbx]) (by simp [pbx])) ⟨E1,0,by omega,by omega,hE.symm,fun _=>tw,by omega,rfl,rfl⟩ ?_
     clear hk rV sd tw c0 c1 c3 hx hl hl' hE w;rintro k t H ⟨e,d,hek,hre,qM,tP,hdb,rfl,rfl⟩;cases k with
     | zero =>
      have hn:¬(e:Int)<ts.length:=by omega
      rw [List.drop_of_length_le (by omega)] at qM;have qM:e=En:=qM;subst qM;simp at h2';simp [pbx];refine LpD.turns X hG [] [] (by kernel_rfl) ?_;simp [Bt,hn,h2']
     | succ k =>
      have hl:e<ts.length:=by omega
      have hl':(e:Int)<ts.length:=by omega
      obtain ⟨w,hx⟩:∃w,ts[e]? = some w:=⟨_,List.getElem?_eq_getElem hl⟩
      obtain ⟨c0,c1,c3⟩:=Ea hx;have hk:=VP hx 3 Ay;have we:IntKind.i64.wrap ((e:Int)+1)=((e+1:Nat):Int):=by rw [Ab (by omega) (by omega)];omega
      rw [kt hx] at qM;simp [pbx];refine LpD.turns X hG [] [] (by kernel_rfl) ?_;simp [hl,hl'];refine LpD.turns X hG [] [] (by kernel_rfl) ?_
      by_cases rV:w.kind=3
      ·simp only [Hw,rV,if_true] at qM
       simp [hl,c0,rV];refine LpD.turns X hG [] [] (by kernel_rfl) ?_
       by_cases sd:w.text=[40]
       ·have yB:w.text=Ay:=sd
        rw [if_pos yB,if_neg (by omega)] at qM;have wd:IntKind.i64.wrap ((d:Int)+1)=((d+1:Nat):Int):=by rw [Ab (by omega) (by omega)];omega
        have qJ:¬((d+1:Nat):Int)=0:=by omega
        have qD:(((d+1:Nat):Int)==0)=false:=by rw [beq_eq_false_iff_ne];exact qJ
        simp [hl,c1,sd,wd,we,qJ,qD,Bt,-Int.natCast_add];exact Nxt.mk k (by omega) (AF.mkK 4 (by simp [hB]) (by simp) (by simp [pbx]) (by simp [pbx])) ⟨e+1,d+1,by omega,by omega,by omega,fun h=>by omega,by omega,rfl,rfl⟩
       ·have yB:¬w.text=Ay:=sd
        have hd:d≠0:=fun h=>by have:=tP h;rw [hk] at this;simp [Ay,sd] at this
        rw [if_neg yB] at qM
        by_cases tl:w.text=[41]
        ·have yC:w.text=A0:=tl
         rw [if_pos yC] at qM;have wd:IntKind.i64.wrap ((d:Int)-1)=((d-1:Nat):Int):=by rw [Ab (by omega) (by omega)];omega
         by_cases hz:d-1=0
         ·rw [if_pos hz] at qM
          subst qM;have hz':((d-1:Nat):Int)=0:=by omega
          simp [hl,c1,sd,tl,wd,hz',we,Bt,h2',-Int.natCast_add]
         ·rw [if_neg hz] at qM
          have qJ:¬((d-1:Nat):Int)=0:=by omega
          have qD:(((d-1:Nat):Int)==0)=false:=by rw [beq_eq_false_iff_ne];exact qJ
          simp [hl,c1,sd,tl,wd,we,qJ,qD,Bt,-Int.natCast_add];exact Nxt.mk k (by omega) (AF.mkK 4 (by simp [hB]) (by simp) (by simp [pbx]) (by simp [pbx])) ⟨e+1,d-1,by omega,by omega,by omega,fun h=>by omega,by omega,rfl,rfl⟩
        ·have yC:¬w.text=A0:=tl
         rw [if_neg yC,if_neg hd] at qM;have qJ:¬((d:Nat):Int)=0:=by omega
         have qD:(((d:Nat):Int)==0)=false:=by rw [beq_eq_false_iff_ne];exact qJ
         simp [hl,c1,sd,tl,we,qJ,qD,hd,Bt,-Int.natCast_add];exact Nxt.mk k (by omega) (AF.mkK 4 (by simp [hB]) (by simp) (by simp [pbx]) (by simp [pbx])) ⟨e+1,d,by omega,by omega,by omega,fun h=>by omega,by omega,rfl,rfl⟩
      ·simp only [Hw,rV,if_false] at qM
       have hd:d≠0:=fun h=>by have:=tP h;rw [hk] at this;simp [rV] at this
       have yD:((w.kind:Int)==3)=false:=by rw [beq_eq_false_iff_ne];omega
       have sS:¬(w.kind:Int)=3:=by omega
       simp [hl,c0,rV,yD,sS,we,Bt,-Int.natCast_add];exact Nxt.mk k (by omega) (AF.mkK 4 (by simp [hB]) (by simp) (by simp [pbx]) (by simp [pbx])) ⟨e+1,d,by omega,by omega,by omega,fun h=>by omega,by omega,rfl,rfl⟩
    ·have tw:isK ts E1 3 Ay=false:=by rw [hk];simp [sd,Ay]
     rw [tw] at hE;simp only [Bool.false_eq_true,if_false] at hE;rw [hE] at h2';simp at h2';simp [hl,hl',c0,c1,rV,sd,h2']
   ·have tw:isK ts E1 3 Ay=false:=by rw [hk];simp [rV]
    have yD:((w.kind:Int)==3)=false:=by rw [beq_eq_false_iff_ne];omega
    have sS:¬(w.kind:Int)=3:=by omega
    rw [tw] at hE;simp only [Bool.false_eq_true,if_false] at hE;rw [hE] at h2';simp at h2';simp [hl,hl',c0,c1,rV,yD,sS,h2']
  ·have hl':¬(E1:Int)<ts.length:=by omega
   have hx:ts[E1]? = none:=List.getElem?_eq_none (by omega);have tw:isK ts E1 3 Ay=false:=by simp only [isK,hx]
   rw [tw] at hE;simp only [Bool.false_eq_true,if_false] at hE;rw [hE] at h2';simp at h2';simp [hl,hl',h2']
theorem G5 (ts:List Wd) (r:Sr) (k:Nat) (s:List UInt8):r.at_≤(BM ts r k s).2.at_∧(r.at_≤ts.length→(BM ts r k s).2.at_≤ts.length):=by
 unfold BM
 split
 ·rename_i h
  have:=(D1 h).1;exact ⟨Nat.le_succ _,fun _=>this⟩
 ·exact ⟨Nat.le_refl _,fun h=>h⟩
theorem Qe {α:Type} {ts:List Wd} {z:α} {of:List Wd→α × Nat × Option (Nat × Nat)} (h:∀l,(of l).2.1≤l.length) (r:Sr):r.at_≤(Fz ts z of r).2.at_∧(r.at_≤ts.length→(Fz ts z of r).2.at_≤ts.length):=by
 unfold Fz
 split
 ·exact ⟨Nat.le_refl _,fun h=>h⟩
 ·split
  ·exact ⟨Nat.le_refl _,fun h=>h⟩
  ·have:=h (ts.drop r.at_)
   rw [List.length_drop] at this;exact ⟨Nat.le_add_right _ _,fun h=>by simp only;omega⟩
theorem VQ (ts:List Wd) (r:Sr):r.at_≤(C2 ts r).2.at_∧(r.at_≤ts.length→(C2 ts r).2.at_≤ts.length):=Qe (fun l=>(KZ l).1) r
theorem kx (ts:List Wd) (r:Sr):r.at_≤(F0 ts r).2.at_∧(r.at_≤ts.length→(F0 ts r).2.at_≤ts.length):=Qe (fun l=>(NV l).1) r
theorem ky (ts:List Wd) (r:Sr):r.at_≤(toW ts r).2.at_∧(r.at_≤ts.length→(toW ts r).2.at_≤ts.length):=by
 unfold toW
 split
 ·refine Qe (fun l => ?_) r
  have:=(KZ (l.take (HQ ts r.at_-r.at_))).1;rw [List.length_take] at this;omega
 ·exact ⟨Nat.le_refl _,fun h=>h⟩
theorem Qf (ts:List Wd):∀(n:Nat) (d:List Int) (r:Sr),r.at_≤(ED ts n d r).2.at_∧(r.at_≤ts.length→(ED ts n d r).2.at_≤ts.length)
 | 0,d,r=>⟨Nat.le_refl _,fun h=>h⟩
 | n+1,d,r=>by
  unfold ED
  split
  ·exact ⟨Nat.le_refl _,fun h=>h⟩
  ·obtain ⟨a1,a2⟩:=G5 ts r 2 []
   generalize BM ts r 2 []=m at *;simp only;obtain ⟨r1,qP⟩:∃r1,r1=if m.1.n=0 then m.2.fail r.at_ 1 else m.2:=⟨_,rfl⟩
   rw [←qP];have h1:r1.at_=m.2.at_:=by rw [qP];split<;>rfl
   split
   ·rename_i hc
    have hl:=(D1 hc).1;obtain ⟨r2,qN⟩:∃r2,r2=(if (d++[(m.1.n:Int)]).length=4 then r1.fail r1.at_ 4 else r1).step:=⟨_,rfl⟩
    rw [←qN];have h2:r2.at_=r1.at_+1:=by rw [qN];split<;>rfl
    obtain ⟨b1,b2⟩:=Qf ts n (d++[(m.1.n:Int)]) r2;exact ⟨by omega,fun h=>b2 (by omega)⟩
   ·exact ⟨by simp only;omega,fun h=>by have:=a2 h;simp only;omega⟩
theorem VR (ts:List Wd) (r:Sr):r.at_≤(EY ts r).2.at_∧(r.at_≤ts.length→(EY ts r).2.at_≤ts.length):=by
 simp only [EY];obtain ⟨a1,a2⟩:=G5 ts r 1 [];generalize BM ts r 1 []=m at *
 split
 ·rename_i hc
  have hl:=(D1 hc).1;obtain ⟨b1,b2⟩:=Qf ts 5 [] m.2.step;obtain ⟨c1,c2⟩:=G5 ts (ED ts 5 [] m.2.step).2 3 A0;have hs:m.2.step.at_=m.2.at_+1:=rfl;exact ⟨by simp only;omega,fun h=>c2 (b2 (by omega))⟩
 ·exact ⟨a1,a2⟩
structure PrO (O:Orc) (ts:List Wd):Prop where
 fail:∀(r:Sr) (p c:Nat) (H:AH),O 54 [.ptr 0 0,.int .i64 (p:Int),.int .i64 (c:Int)] (pbx ts r::H)=some (.tup [],pbx ts (r.fail p c)::H)
 is:∀(r:Sr) (k:Nat) (s:List UInt8) (H:AH),O 142 [.ptr 0 0,.int .i64 (k:Int),.str s] (pbx ts r::H)=some (.bool (isW ts r k s),pbx ts r::H)
 takes:∀(r:Sr) (k:Nat) (s:List UInt8) (H:AH),O 139 [.ptr 0 0,.int .i64 (k:Int),.str s] (pbx ts r::H)=some (.bool (isW ts r k s),pbx ts (CM ts r k s)::H)
 must:∀(r:Sr) (k:Nat) (s:List UInt8) (H:AH),O 91 [.ptr 0 0,.int .i64 (k:Int),.str s] (pbx ts r::H)=some (.agg (BD (BM ts r k s).1),pbx ts (BM ts r k s).2::H)
noncomputable def Lpr (ts:List Wd) (po:ts.length<1000000):List (AG zP AJ):=[Da ts,Hb ts,Fc ts po,Jc ts po]
theorem VS (ts:List Wd) (po:ts.length<1000000):PrO (oOf (Lpr ts po)) ts:=by
 have hL:((Lpr ts po).map (·.f)).Nodup:=show ([54,142,139,91]:List Nat).Nodup by decide
 exact ⟨fun r p c H=>Ld hL (show Da ts∈Lpr ts po by simp [Lpr]) r p c H,fun r k s H=>Qa hL (show Hb ts∈Lpr ts po by simp [Lpr]) r k s H,fun r k s H=>Nb po hL (show Fc ts po∈Lpr ts po by simp [Lpr]) r k s H,
  fun r k s H=>Qb po hL (show Jc ts po∈Lpr ts po by simp [Lpr]) r k s H⟩
theorem VT (ts:List Wd) (po:ts.length<1000000):Cx (oOf (Lpr ts po)) zP AJ:=Bv _ Bz Af
def Qg {α:Type} (l:List α):AH:=if l=[] then [] else [some (.tok l.length)]
@[simp] theorem pR {α:Type}:Qg ([]:List α)=[]:=AR rfl
@[simp] theorem pS {α:Type} (x:α) (l:List α):Qg (x::l)=[some (.tok (l.length+1))]:=AR rfl
@[simp] theorem buSit (s:List UInt8):A3 zP 121 [(0,.str s)]=some (.agg [.str s,.nilSlice]):=by kernel_rfl
@[simp] theorem bsSit (s:List UInt8) (v:AV):Ch zP 24 1 [(0,.agg [.str s,v])]=some (.slice .full 2 1 [.str s,v]):=by kernel_rfl
theorem yNe:Bu zP 24 2=true:=by kernel_rfl
def DimP (ts:List Wd) (nm:List UInt8) (res:List Int × Sr) (k:Nat) (t:List AV) (H:AH):Prop :=
 ∃(d:List Int) (r:Sr),ED ts k d r=res∧k+d.length=5∧(r.err=none→d.length<4)∧r.at_≤ts.length ∧
  t=mkT 60 [(0,.ptr 0 0),(2,.ptr 1 0),(3,.ptr 2 0)]∧H=pbx ts r::some (.box [.str [],.nilSlice])::some (.box [.str nm,Ak.tk 3 d])::Qg d
theorem kz (ts:List Wd) (po:ts.length<1000000) (r:Sr) (hr:r.at_≤ts.length) {H:AH} {id:Nat} (hH:H.at id=some (.box (r.pc ts))) :
  CS zP AJ 177 [.ptr id 0] H (.agg (itE.c (EY ts r).1)) (H.set id (some (.box ((EY ts r).2.pc ts)))):=by
 refine CS.rd BY Tryz.func177 (by kernel_rfl) 0 (by simp [Tryz.f177]) (fun B hB hG => ?_) (by simp) (by simp [GU]) (Cu _ _) (Cu _ _) hH;have X:=VT ts po;have hO:=VS ts po;generalize oOf (Lpr ts po)=O at X hO;have f1:=fun H=>hO.must r 1 [] H
 obtain ⟨a1,a2⟩:=G5 ts r 1 [];have hi:EY ts r=if isW ts (BM ts r 1 []).2 3 Ay then (⟨(BM ts r 1 []).1.text,(ED ts 5 [] (BM ts r 1 []).2.step).1⟩,(BM ts (ED ts 5 [] (BM ts r 1 []).2.step).2 3 A0).2) else (⟨(BM ts r 1 []).1.text,[]⟩,(BM ts r 1 []).2):=rfl
 rw [hi];generalize BM ts r 1 []=m at *;obtain ⟨w,r1⟩:=m;have f2:=fun H=>hO.takes r1 3 Ay H
 refine Tr.goD X hG (by kernel_rfl) ?_;simp [pbx,BD] at f1;cases qX:isW ts r1 3 Ay with
 | false =>rw [qX,G3 qX] at f2;simp [pbx,Ay] at f2;simp [Tryz.f177,Sr.pc,f1,f2,GU]
 | true =>
  rw [qX,G2 qX] at f2;have qz:=(D1 qX).1;have hs:r1.step.at_=r1.at_+1:=rfl;have qF:pbx ts r1.step=some (.box [AD ts,.int .i64 ((r1.at_:Int)+1),erI r1.err]):=by simp [pbx,Sr.step]
  rw [qF] at f2;simp [pbx,Ay] at f2;simp only [if_true];generalize pq:ED ts 5 [] r1.step=res;obtain ⟨u1,u2⟩:=Qf ts 5 [] r1.step;rw [pq] at u1 u2;have hu:=u2 (by omega);simp [Tryz.f177,Sr.pc,f1,f2]
  refine LpD.loopN X hG (by kernel_rfl) (DimP ts w.text res) 5 (t':=mkT 60 [(0,.ptr 0 0),(2,.ptr 1 0),(3,.ptr 2 0)]) (H':=pbx ts r1.step::some (.box [.str [],.nilSlice])::some (.box [.str w.text,.nilSlice])::[])
   (AF.mkK 3 (by simp [hB]) (by simp) (by simp [qF]) (by simp [qF])) ⟨[],r1.step,pq,rfl,fun _=>by decide,by omega,rfl,by simp⟩ ?_
  clear f1 f2 qX qz hs qF u1 u2 a1 a2 hi pq;rintro k t H ⟨d,q,pq,yE,rz,hq,rfl,rfl⟩;have fin:=fun (q:Sr) H=>hO.must q 3 A0 H
  have qV:=Ak.tk_cut (show ¬3<1 by omega);simp [A0,pbx] at fin;cases he:q.err with
  | some y =>
   obtain rfl:res=(d,q):=by
    rw [←pq];cases k with
    | zero=>rfl
    | succ k=>simp only [ED,he]
   have fin:=fun H=>fin q H
   rw [he] at fin;simp [Bt,pbx,he,fin,GU,qV,A0]
  | none =>
   have rz:=rz he;obtain ⟨k,rfl⟩:∃j,k=j+1:=⟨k-1,by omega⟩
   have fm:=fun H=>hO.must q 2 [] H
   obtain ⟨a1,a2⟩:=G5 ts q 2 [];obtain ⟨m,hm⟩:∃m,m=BM ts q 2 []:=⟨_,rfl⟩
   obtain ⟨q2,rh⟩:∃q2,q2=if m.1.n=0 then m.2.fail q.at_ 1 else m.2:=⟨_,rfl⟩
   have tV:ED ts (k+1) d q=if isW ts q2 3 A7 then ED ts k (d++[(m.1.n:Int)]) (if (d++[(m.1.n:Int)]).length=4 then q2.fail q2.at_ 4 else q2).step else (d++[(m.1.n:Int)],q2):=by rw [rh,hm];simp only [ED,he]
   rw [tV] at pq;rw [←hm] at fm a1 a2
   have wy:q2.at_≤ts.length:=by
    have:q2.at_=m.2.at_:=by rw [rh];split<;>rfl
    have:=a2 hq;omega
   have ff:=fun H=>hO.fail m.2 q.at_ 1 H
   have fi:=fun H=>hO.is q2 3 A7 H
   have f4:=fun H=>hO.fail q2 q2.at_ 4 H
   clear hm tV a1 a2;obtain ⟨w2,q1⟩:=m;simp only at rh pq ff fm;simp [pbx,BD,he] at fm;simp [pbx] at ff;simp [pbx,A7] at fi;simp [pbx] at f4;have fin:=fun H=>fin q2 H
   have wG:BM ts q2 3 [41]=BM ts q2 3 A0:=rfl
   have hz:(w2.n=0∧q2=q1.fail q.at_ 1)∨(¬w2.n=0∧q2=q1):=by
    by_cases h:w2.n=0
    ·exact .inl ⟨h,by rw [rh,if_pos h]⟩
    ·exact .inr ⟨h,by rw [rh,if_neg h]⟩
   clear rh;have zO:∀z:Int,Ak.av [z] = .slice .unk 1 1 [.int .i64 z]:=fun z=>rfl
   have py:=fun (z:Int) H ow=>GI (P:=zP) (t:=49) (sz:=1) (m:=1) (H:=H) (fid:=3) (ow:=ow) (ys:=[.int .i64 z]) Ij (by decide) (by decide) (by simp)
   have vN:=fun (z x:Int) (d:List Int) H ow (h:AH.at H 3=some (.tok (x::d).length)) (hd:d.length<4)=>Em (P:=zP) (t:=49) (sz:=1) (n:=(x::d).length) (m:=1) (H:=H) (fid:=4) (ow:=ow) (xs:=Ak.row (x::d)) (ys:=[.int .i64 z]) Ij h (by decide) (by simp;omega) (by simp)
   have tz:∀(z x:Int) (d:List Int),Ak.row (x::d)++[.int .i64 z]=Ak.row (x::d++[z]):=fun z x d=>by rw [Ak.row_append];rfl
   have qS:∀(x:Int) (d:List Int),Ak.tk 3 (x::d) = .slice (.tok 3) 1 (d.length+1) (Ak.row (x::d)):=fun x d=>rfl
   have yF:∀(z x:Int) (d:List Int),Ak.av (x::(d++[z])) = .slice .unk 1 (d.length+1+1) (Ak.row (x::d++[z])):=fun z x d=>by rw [Ak.av_cons,List.length_append];rfl
   have pu:=fun l=>Ak.row_strip 1 l
   simp only [tz] at vN;simp at vN yF pu;cases hc:isW ts q2 3 A7 with
   | false =>
    rw [hc] at pq;obtain rfl:(d++[(w2.n:Int)],q2)=res:=pq;have hc':isW ts q2 3 [44]=false:=hc;rw [hc'] at fi;simp only;rcases hz with ⟨hz,rfl⟩|⟨hz,rfl⟩
    ·cases d with
     | nil=>simp [pbx,he,fm,ff,hz,py,fi,fin,Bt,GU,zO,A0]
     | cons x d =>
      have uX:d.length<4:=by simp at rz;omega
      simp [pbx,he,fm,ff,hz,qS,vN,uX,fi,fin,Bt,GU,yF,pu,A0]
    ·have hz':((w2.n:Int)==0)=false:=by rw [beq_eq_false_iff_ne];omega
     cases d with
     | nil=>simp [pbx,he,fm,ff,hz,hz',py,fi,fin,Bt,GU,zO,A0]
     | cons x d =>
      have uX:d.length<4:=by simp at rz;omega
      simp [pbx,he,fm,ff,hz,hz',qS,vN,uX,fi,fin,Bt,GU,yF,pu,A0]
   | true =>
    obtain ⟨p6,qT⟩:=D1 hc
    have sW:¬w2.n=0∧q2=q1:=by
     rcases hz with ⟨_,h⟩|h
     ·rw [h] at qT
      simp [Sr.fail] at qT
     ·exact h
    clear hz;obtain ⟨hz,rfl⟩:=sW;have hz':((w2.n:Int)==0)=false:=by rw [beq_eq_false_iff_ne];omega
    rw [hc] at pq;simp only [if_true] at pq;have hc':isW ts q2 3 [44]=true:=hc;rw [hc'] at fi;simp only [qT,QZ] at fi fm f4;have wa:IntKind.i64.wrap ((q2.at_:Int)+1)=(q2.at_:Int)+1:=Ab (by omega) (by omega);have rR:∀(m:Nat) (l:List Int),lowL m (Ak.row l)=true:=fun m l=>Ak.row_lowm m l
    cases d with
    | nil =>
     have pq:ED ts k [(w2.n:Int)] q2.step=res:=by simpa using pq
     simp [pbx,he,qT,fm,hz,hz',py,fi,wa];exact Nxt.mk k (by omega) (AF.mkK 4 (by simp [hB]) (by simp) (by simp [pbx,Sr.step,qT,qS,La,Enc.row]) (by simp [pbx,Sr.step,qT,qS,La,Enc.row])) ⟨[(w2.n:Int)],q2.step,pq,by simp at yE ⊢;omega,fun _=>by simp,by simp only [Sr.step];omega,rfl,rfl⟩
    | cons x d =>
     have uX:d.length<4:=by simp at rz;omega
     have hd5:d.length<3:=by simp at rz;omega
     have rr:∀z:Int,Ak.tk 3 (x::(d++[z])) = .slice (.tok 3) 1 (d.length+1+1) (Ak.row (x::(d++[z]))):=fun z=>by rw [Ak.tk_ne 3 (by simp),List.length_cons,List.length_append];rfl
     by_cases h4:d.length+1+1=4
     ·have h4':((d.length:Int)+1+1==4)=true:=by rw [beq_iff_eq];omega
      have wI:(d.length:Int)+1+1=4:=by omega
      have pq:ED ts k (x::d++[(w2.n:Int)]) (q2.fail q2.at_ 4).step=res:=by
       have:(x::d++[(w2.n:Int)]).length=4:=by simp;omega
       rwa [if_pos this] at pq
      have tW:(q2.fail q2.at_ 4).at_=q2.at_:=rfl;simp only [tW] at f4;simp [pbx,he,qT,fm,hz,hz',qS,vN,uX,fi,wa,wI,f4];exact Nxt.mk k (by omega) (AF.mkK 4 (by simp [hB]) (by simp) (by simp [rR,pbx,Sr.step,Sr.fail,qT,rr]) (by simp [rR,pbx,Sr.step,Sr.fail,qT,rr])) ⟨x::d++[(w2.n:Int)],(q2.fail q2.at_ 4).step,pq,by simp at yE ⊢;omega,fun h=>by simp [Sr.step,Sr.fail] at h,by simp only [Sr.step,Sr.fail];omega,rfl,rfl⟩
     ·have wI:¬(d.length:Int)+1+1=4:=by omega
      have pq:ED ts k (x::d++[(w2.n:Int)]) q2.step=res:=by
       have:¬(x::d++[(w2.n:Int)]).length=4:=by simp;omega
       rwa [if_neg this] at pq
      simp [pbx,he,qT,fm,hz,hz',qS,vN,uX,fi,wa,wI];exact Nxt.mk k (by omega) (AF.mkK 4 (by simp [hB]) (by simp) (by simp [rR,pbx,Sr.step,Sr.fail,qT,rr]) (by simp [rR,pbx,Sr.step,Sr.fail,qT,rr])) ⟨x::d++[(w2.n:Int)],q2.step,pq,by simp at yE ⊢;omega,fun _=>by simp;omega,by simp only [Sr.step];omega,rfl,rfl⟩
noncomputable def Kb (ts:List Wd) (po:ts.length<1000000):AG zP AJ:=AG.meth 177 (Sr.pc ts) (Fb ts) (fun (_:Unit) r=>r.at_≤ts.length) (fun _ _=>[]) (fun _ r => .agg (itE.c (EY ts r).1)) (fun _ r=>(EY ts r).2)
 (fun _ r h H id hH=>kz ts po r h hH) (fun id x y r _ _ h=>⟨rfl,rfl⟩)
def G6 (l:List It):AV:=if l.length=1 then .slice .full 2 1 (itE.row l) else .slice (.tok 1) 2 l.length (itE.row l)
def Im (l:List It):AH:=if l.length=1 then [] else [some (.tok l.length)]
def Kc (l:List It):AV:=if l.length=1 then .slice .full 2 1 (itE.row l) else .slice .unk 2 l.length (itE.row l)
theorem k8 {l:List It} (h:l≠[]) (g:Gh) (cv:Value) (hr:AA g (Kc l) cv):AA g (itE.av l) cv:=by
 rw [itE.av_ne h,QR];unfold Kc at hr
 split at hr
 ·rename_i h1;rw [h1];exact NJ g cv hr
 ·exact hr
theorem VU (ts:List Wd):∀(n:Nat) (l:List It) (r:Sr),l≠[]→(IX ts n l r).1≠[]
 | 0,l,r,h=>h
 | n+1,l,r,h=>by
  simp only [IX]
  split
  ·exact VU ts n _ _ (by simp)
  ·exact h
def ItP (ts:List Wd) (res:List It × Sr) (k:Nat) (t:List AV) (H:AH):Prop :=
 ∃(l:List It) (r:Sr),IX ts k l r=res∧ts.length<k+r.at_∧r.at_≤ts.length∧l.length+k≤ts.length+2∧l≠[] ∧
  t=mkT 15 [(0,.ptr 0 0),(3,G6 l)]∧H=pbx ts r::Im l
theorem k9 (ts:List Wd) (po:ts.length<1000000) (r:Sr) (hr:r.at_≤ts.length) {H:AH} {id:Nat} (hH:H.at id=some (.box (r.pc ts))) :
  CS zP AJ 137 [.ptr id 0] H (itE.av (Gs ts r).1) (H.set id (some (.box ((Gs ts r).2.pc ts)))):=by
 refine CS.weak (v:=Kc (Gs ts r).1) ?_ (k8 (VU ts _ _ _ (by simp)));have wX:∀l,low 0 (Kc l)=true:=fun l=>by unfold Kc;split<;>simp [itE.row_lowm]
 refine CS.rd BY Tryz.func137 (by kernel_rfl) 0 (by simp [Tryz.f137]) (fun B hB hG => ?_) (by simp) (wX _) (Cu _ _) (Cu _ _) hH;have hL:([Kb ts po,Fc ts po].map (·.f)).Nodup:=show ([177,139]:List Nat).Nodup by decide
 have X:=Bv [Kb ts po,Fc ts po] Bz Af;have f1:=fun q (h:q.at_≤ts.length) H=>Bn hL (show Kb ts po∈[Kb ts po,Fc ts po] by simp) () q (H:=pbx ts q::H) (id:=0) rfl h
 have f2:=fun q H=>Nb po hL (show Fc ts po∈[Kb ts po,Fc ts po] by simp) q 3 A7 H
 generalize oOf [Kb ts po,Fc ts po]=O at X f1 f2;refine Tr.goD X hG (by kernel_rfl) ?_;simp only [GU,Sr.pc,pbx,A7] at f1 f2;simp at f1 f2;simp only [Gs];obtain ⟨a1,a2⟩:=VR ts r;have g1:=f1 r hr;have g2:=f2 (EY ts r).2;generalize hm:EY ts r=m at *;obtain ⟨x,r1⟩:=m;have qP:=a2 hr;simp only at g1 g2 qP ⊢;generalize pq:IX ts (ts.length+1) [x] r1=res;simp [Tryz.f137,Sr.pc,g1]
 refine LpD.loopN X hG (by kernel_rfl) (ItP ts res) (ts.length+1) (t':=mkT 15 [(0,.ptr 0 0),(3,G6 [x])]) (H':=[pbx ts r1])
  (AF.mkK 1 (by simp [hB]) (by simp [G6,Enc.row,GU]) (by simp [G6,Enc.row,GU,pbx]) (by simp [pbx])) ⟨[x],r1,pq,by omega,qP,by simp;omega,by simp,rfl,by simp [Im]⟩ ?_
 clear pq hm a1 a2 g1 g2 qP;rintro k t H ⟨l,q,pq,sN,hq,wJ,qK,rfl,rfl⟩;obtain ⟨k,rfl⟩:∃j,k=j+1:=⟨k-1,by omega⟩
 have pu:IX ts (k+1) l q=if isW ts q 3 A7 then IX ts k (l++[(EY ts q.step).1]) (EY ts q.step).2 else (l,q):=rfl
 rw [pu] at pq;have h2:=f2 q;have qB:=fun (m:Nat) (l:List It)=>itE.row_lowm m l
 have yG:=fun (n:Nat) (l:List It)=>itE.row_strip n l
 cases hc:isW ts q 3 A7 with
 | false =>
  rw [hc] at pq;obtain rfl:(l,q)=res:=pq;have hc':isW ts q 3 [44]=false:=hc;have ht':CM ts q 3 [44]=q:=G3 hc;rw [hc',ht'] at h2
  by_cases tB:l.length=1
  all_goals
   simp [pbx,h2,Bt,G6,Kc,tB,yG]
 | true =>
  rw [hc] at pq;simp only [if_true] at pq;have hc':isW ts q 3 [44]=true:=hc;have ht':CM ts q 3 [44]=q.step:=G2 hc;rw [hc',ht'] at h2;obtain ⟨hl,he⟩:=D1 hc;have hs:q.step.at_=q.at_+1:=rfl;have h1:=f1 q.step (by omega);obtain ⟨a1,a2⟩:=VR ts q.step;have wy:=a2 (by omega);generalize EY ts q.step=m at *;obtain ⟨y,q2⟩:=m;simp only at h1 wy pq a1;simp only [Sr.step] at h1 h2;simp at h1 h2
  by_cases tB:l.length=1
  ·have py:=fun H=>O5 (P:=zP) (t:=24) (sz:=2) (n:=1) (m:=1) (H:=H) (fid:=1) (ow := .full) (xs:=itE.row l) (ys:=[.str y.name,Ak.av y.dims]) yNe (by decide) (by decide) (by simp)
   have tz:itE.row l++[.str y.name,Ak.av y.dims]=itE.row (l++[y]):=by rw [itE.row_append,itE.row_one1];rfl
   rw [tz] at py;have ho:G6 l = .slice .full 2 1 (itE.row l):=if_pos tB;have rB:G6 (l++[y]) = .slice (.tok 1) 2 2 (itE.row (l++[y])):=by unfold G6;rw [if_neg (by simp;omega)];simp [tB]
   have hh:Im l=[]:=if_pos tB;have wK:Im (l++[y])=[some (.tok 2)]:=by unfold Im;rw [if_neg (by simp;omega)];simp [tB]
   rw [ho,hh];simp [pbx,h2,h1,py];exact Nxt.mk k (by omega) (AF.mkK 2 (by simp [hB]) (by simp [rB,qB]) (by simp [pbx,wK,rB,qB]) (by simp [pbx,wK])) ⟨l++[y],q2,pq,by omega,wy,by simp;omega,by simp,rfl,rfl⟩
  ·have py:=fun H (h:AH.at H 1=some (.tok l.length))=>Em (P:=zP) (t:=24) (sz:=2) (n:=l.length) (m:=1) (H:=H) (fid:=2) (ow := .full) (xs:=itE.row l) (ys:=[.str y.name,Ak.av y.dims]) yNe h (by decide) (by omega) (by simp)
   have tz:itE.row l++[.str y.name,Ak.av y.dims]=itE.row (l++[y]):=by rw [itE.row_append,itE.row_one1];rfl
   rw [tz] at py;have ho:G6 l = .slice (.tok 1) 2 l.length (itE.row l):=if_neg tB
   have rB:G6 (l++[y]) = .slice (.tok 1) 2 (l.length+1) (itE.row (l++[y])):=by
    have:l.length≠0:=fun h=>qK (List.length_eq_zero_iff.1 h)
    unfold G6;rw [if_neg (by simp;omega)];simp
   have hh:Im l=[some (.tok l.length)]:=if_neg tB
   have wK:Im (l++[y])=[some (.tok (l.length+1))]:=by
    have:l.length≠0:=fun h=>qK (List.length_eq_zero_iff.1 h)
    unfold Im;rw [if_neg (by simp;omega)];simp
   rw [ho,hh];simp [pbx,h2,h1,py];exact Nxt.mk k (by omega) (AF.mkK 2 (by simp [hB]) (by simp [rB,qB]) (by simp [pbx,wK,rB,qB]) (by simp [pbx,wK])) ⟨l++[y],q2,pq,by omega,wy,by simp;omega,by simp,rfl,rfl⟩
theorem lA (ts:List Wd) (po:ts.length<1000000) (r:Sr) (hr:r.at_≤ts.length) {H:AH} {id:Nat} (hH:H.at id=some (.box (r.pc ts))) :
  CS zP AJ 138 [.ptr id 0] H (.int .i64 (Gt ts r).1) (H.set id (some (.box ((Gt ts r).2.pc ts)))):=by
 refine CS.rd BY Tryz.func138 (by kernel_rfl) 0 (by simp [Tryz.f138]) (fun B hB hG => ?_) (by simp) (by simp) (Cu _ _) (Cu _ _) hH;have X:=VT ts po;have hO:=VS ts po;generalize oOf (Lpr ts po)=O at X hO;refine Tr.goD X hG (by kernel_rfl) ?_;have f1:=fun H=>hO.takes r 3 A7 H
 cases hc:isW ts r 3 A7 with
 | false =>rw [hc,G3 hc] at f1;simp [pbx,A7] at f1;simp [Tryz.f138,Sr.pc,f1,Gt,hc]
 | true =>
  rw [hc,G2 hc] at f1;have f2:=fun H=>hO.takes r.step 3 Bb H
  have qF:pbx ts r.step=some (.box [AD ts,.int .i64 ((r.at_:Int)+1),erI r.err]):=by simp [pbx,Sr.step]
  cases hm:isW ts r.step 3 Bb with
  | false =>
   rw [hm,G3 hm] at f2;have f3:=fun H=>hO.must r.step 2 [] H
   simp only [Gt,hc,hm,if_true,Bool.false_eq_true,if_false];generalize BM ts r.step 2 []=m at *;rw [qF] at f1 f2 f3;simp [pbx,A7] at f1;simp [Bb] at f2;simp [BD,pbx] at f3;simp [Tryz.f138,Sr.pc,f1,f2,f3]
  | true =>
   rw [hm,G2 hm] at f2;have f3:=fun H=>hO.must r.step.step 2 [] H
   have qA:pbx ts r.step.step=some (.box [AD ts,.int .i64 ((r.at_:Int)+1+1),erI r.err]):=by simp [pbx,Sr.step]
   simp only [Gt,hc,hm,if_true];generalize BM ts r.step.step 2 []=m at *;rw [qF] at f1 f2;rw [qA] at f2 f3;simp [pbx,A7] at f1;simp [Bb] at f2;simp [BD,pbx] at f3;simp [Tryz.f138,Sr.pc,f1,f2,f3,Mp]
noncomputable def VV (ts:List Wd) (po:ts.length<1000000):AG zP AJ:=AG.meth 137 (Sr.pc ts) (Fb ts) (fun (_:Unit) r=>r.at_≤ts.length) (fun _ _=>[]) (fun _ r=>itE.av (Gs ts r).1) (fun _ r=>(Gs ts r).2)
 (fun _ r h H id hH=>k9 ts po r h hH) (fun id x y r _ _ h=>⟨rfl,rfl⟩)
noncomputable def VW (ts:List Wd) (po:ts.length<1000000):AG zP AJ:=AG.meth 138 (Sr.pc ts) (Fb ts) (fun (_:Unit) r=>r.at_≤ts.length) (fun _ _=>[]) (fun _ r => .int .i64 (Gt ts r).1) (fun _ r=>(Gt ts r).2)
 (fun _ r h H id hH=>lA ts po r h hH) (fun id x y r _ _ h=>⟨rfl,rfl⟩)
noncomputable def Nf (ts:List Wd) (po:ts.length<1000000):AG zP AJ:=AG.meth 92 (Sr.pc ts) (Fb ts) (fun (_:Unit) r=>r.at_≤ts.length) (fun _ _=>[]) (fun _ r => .agg (tC (C2 ts r).1.tn)) (fun _ r=>(C2 ts r).2)
 (fun _ r h H id hH=>ko ts po r h hH) (fun id x y r _ _ h=>⟨rfl,rfl⟩)
noncomputable def Ng (ts:List Wd) (po:ts.length<1000000):AG zP AJ:=AG.meth 90 (Sr.pc ts) (Fb ts) (fun (_:Unit) r=>r.at_≤ts.length) (fun _ _=>[]) (fun _ r => .agg (tC (toW ts r).1.tn)) (fun _ r=>(toW ts r).2)
 (fun _ r h H id hH=>kw ts po r h hH) (fun id x y r _ _ h=>⟨rfl,rfl⟩)
structure KpO (O:Orc) (ts:List Wd):Prop where
 fail:∀(r:Sr) (p c:Nat) (H:AH),O 54 [.ptr 0 0,.int .i64 (p:Int),.int .i64 (c:Int)] (pbx ts r::H)=some (.tup [],pbx ts (r.fail p c)::H)
 takes:∀(r:Sr) (k:Nat) (s:List UInt8) (H:AH),O 139 [.ptr 0 0,.int .i64 (k:Int),.str s] (pbx ts r::H)=some (.bool (isW ts r k s),pbx ts (CM ts r k s)::H)
 must:∀(r:Sr) (k:Nat) (s:List UInt8) (H:AH),O 91 [.ptr 0 0,.int .i64 (k:Int),.str s] (pbx ts r::H)=some (.agg (BD (BM ts r k s).1),pbx ts (BM ts r k s).2::H)
 items:∀(r:Sr) (H:AH),r.at_≤ts.length→O 137 [.ptr 0 0] (pbx ts r::H)=some (itE.av (Gs ts r).1,pbx ts (Gs ts r).2::H)
 step:∀(r:Sr) (H:AH),r.at_≤ts.length→O 138 [.ptr 0 0] (pbx ts r::H)=some (.int .i64 (Gt ts r).1,pbx ts (Gt ts r).2::H)
 expr:∀(r:Sr) (H:AH),r.at_≤ts.length→O 92 [.ptr 0 0] (pbx ts r::H)=some (.agg (tC (C2 ts r).1.tn),pbx ts (C2 ts r).2::H)
 to:∀(r:Sr) (H:AH),r.at_≤ts.length→O 90 [.ptr 0 0] (pbx ts r::H)=some (.agg (tC (toW ts r).1.tn),pbx ts (toW ts r).2::H)
 cond:∀(r:Sr) (H:AH),r.at_≤ts.length→O 140 [.ptr 0 0,.func (.func 141) [] []] (pbx ts r::H)=some (FG (F0 ts r).1,pbx ts (F0 ts r).2::H)
noncomputable def Lkp (ts:List Wd) (po:ts.length<1000000):List (AG zP AJ):=[Da ts,Fc ts po,Jc ts po,VV ts po,VW ts po,Nf ts po,Ng ts po,VM ts po]
theorem lB (ts:List Wd) (po:ts.length<1000000):KpO (oOf (Lkp ts po)) ts:=by
 have hL:((Lkp ts po).map (·.f)).Nodup:=show ([54,139,91,137,138,92,90,140]:List Nat).Nodup by decide
 exact ⟨fun r p c H=>Ld hL (show Da ts∈Lkp ts po by simp [Lkp]) r p c H,fun r k s H=>Nb po hL (show Fc ts po∈Lkp ts po by simp [Lkp]) r k s H,fun r k s H=>Qb po hL (show Jc ts po∈Lkp ts po by simp [Lkp]) r k s H,
  fun r H h=>Bn hL (show VV ts po∈Lkp ts po by simp [Lkp]) () r (H:=pbx ts r::H) (id:=0) rfl h,fun r H h=>Bn hL (show VW ts po∈Lkp ts po by simp [Lkp]) () r (H:=pbx ts r::H) (id:=0) rfl h,
  fun r H h=>Bn hL (show Nf ts po∈Lkp ts po by simp [Lkp]) () r (H:=pbx ts r::H) (id:=0) rfl h,fun r H h=>Bn hL (show Ng ts po∈Lkp ts po by simp [Lkp]) () r (H:=pbx ts r::H) (id:=0) rfl h,
  fun r H h=>Bn hL (show VM ts po∈Lkp ts po by simp [Lkp]) () r (H:=pbx ts r::H) (id:=0) rfl h⟩
theorem lC (ts:List Wd) (po:ts.length<1000000):Cx (oOf (Lkp ts po)) zP AJ:=Bv _ Bz Af
@[simp] theorem buSp0:A3 zP 31 []=some (.agg (Sx.c ⟨0,[],t0,t0,[],t0,t0,[],t0,t0,0⟩)):=by kernel_rfl
theorem lD (ts:List Wd) (po:ts.length<1000000) (word:List UInt8) (r:Sr) (hr:r.at_≤ts.length) {H:AH} {id:Nat} (hH:H.at id=some (.box (r.pc ts))) :
  CS zP AJ 89 [.ptr id 0,.str word] H (.agg (HT ts word r).1.x.c) (H.set id (some (.box ((HT ts word r).2.pc ts)))):=by
 refine CS.rd BY Tryz.func89 (by kernel_rfl) 0 (by simp [Tryz.f89]) (fun B hB hG => ?_) (by simp) (by simp [Sx.c_low]) (Cu _ _) (Cu _ _) hH;have X:=lC ts po;have hO:=lB ts po;generalize oOf (Lkp ts po)=O at X hO;refine Tr.goD X hG (by kernel_rfl) ?_;unfold HT
 by_cases h1:word=IY
 ·subst h1
  have f1:=fun H=>hO.items r H hr
  simp only [if_true];generalize Gs ts r=m at *;simp only [pbx] at f1;simp [Tryz.f89,Sr.pc,f1,Sx.c,Sm.x,Bq,IY]
 rw [if_neg h1]
 by_cases h2:word=doT
 ·subst h2
  rw [if_pos rfl];have f1:=fun H=>hO.must r 1 [] H
  have u1:=(G5 ts r 1 []).2 hr;unfold doW;generalize BM ts r 1 []=m at *;obtain ⟨nm,r1⟩:=m;simp only at f1 u1 ⊢;have f2:=fun H=>hO.must r1 3 isT H
  have u2:=(G5 ts r1 3 isT).2 u1;generalize BM ts r1 3 isT=m2 at *;obtain ⟨w2,r2⟩:=m2;simp only at f2 u2 ⊢;have f3:=fun H=>hO.expr r2 H u2
  have u3:=(VQ ts r2).2 u2;generalize C2 ts r2=a at *;obtain ⟨lo,r3⟩:=a;simp only at f3 u3 ⊢;have f4:=fun H=>hO.must r3 3 A7 H
  have u4:=(G5 ts r3 3 A7).2 u3;generalize BM ts r3 3 A7=m4 at *;obtain ⟨w4,r4⟩:=m4;simp only at f4 u4 ⊢;have f5:=fun H=>hO.expr r4 H u4
  have u5:=(VQ ts r4).2 u4;generalize C2 ts r4=b at *;obtain ⟨hi,r5⟩:=b;simp only at f5 u5 ⊢;have f6:=fun H=>hO.step r5 H u5
  generalize Gt ts r5=s at *;obtain ⟨st,r6⟩:=s;simp only [pbx,isT,A7,CT,BD] at f1 f2 f3 f4 f5 f6;simp at f1 f2 f4;simp [Tryz.f89,Sr.pc,f1,f2,f3,f4,f5,f6,Sx.c,Sm.x,Bq,doT]
 rw [if_neg h2]
 by_cases h3:word=HS
 ·subst h3
  rw [if_pos rfl];have f1:=fun H=>hO.takes r 4 ifT H
  cases hc:isW ts r 4 ifT with
  | true =>rw [hc,G2 hc] at f1;generalize r.step=r1 at *;simp [pbx,ifT] at f1;simp [Tryz.f89,Sr.pc,f1,Sx.c,Sm.x,Bq,HS,Bt]
  | false =>
   rw [hc,G3 hc] at f1;have f2:=fun H=>hO.must r 4 doT H
   simp only [Bool.false_eq_true,if_false];generalize BM ts r 4 doT=m at *;simp [pbx,ifT] at f1;simp [pbx,doT,BD] at f2;simp [Tryz.f89,Sr.pc,f1,f2,Sx.c,Sm.x,Bq,HS,Bt]
 rw [if_neg h3]
 by_cases h4:word=ifT
 ·subst h4
  rw [if_pos rfl];unfold ifW;have f1:=fun H=>hO.must r 3 Ay H
  have u1:=(G5 ts r 3 Ay).2 hr;generalize BM ts r 3 Ay=m at *;obtain ⟨w1,r1⟩:=m;simp only at f1 u1 ⊢;have f2:=fun H=>hO.cond r1 H u1
  have u2:=(kx ts r1).2 u1;generalize F0 ts r1=c at *;obtain ⟨⟨op,ca,cb⟩,r2⟩:=c;simp only at f2 u2 ⊢;have f3:=fun H=>hO.must r2 3 A0 H
  have u3:=(G5 ts r2 3 A0).2 u2;generalize BM ts r2 3 A0=m3 at *;obtain ⟨w3,r3⟩:=m3;simp only at f3 u3 ⊢;have f4:=fun H=>hO.must r3 4 Gu H
  generalize BM ts r3 4 Gu=m4 at *;obtain ⟨w4,r4⟩:=m4;simp only [pbx,Ay,A0,Gu,FG,CT,BD,List.cons_append,List.nil_append] at f1 f2 f3 f4;simp at f1 f3 f4;simp [Tryz.f89,Sr.pc,f1,f2,f3,f4,Sx.c,Sm.x,Bq,ifT]
 rw [if_neg h4]
 by_cases h5:word=IZ
 ·subst h5
  rw [if_pos rfl];simp [Tryz.f89,Sr.pc,Sx.c,Sm.x,Bq,IZ]
 rw [if_neg h5]
 by_cases h6:word=Ia
 ·subst h6
  rw [if_pos rfl];have f1:=fun H=>hO.to r H hr
  generalize toW ts r=m at *;simp only [pbx,CT] at f1;simp [Tryz.f89,Sr.pc,f1,Sx.c,Sm.x,Bq,Ia]
 rw [if_neg h6]
 by_cases h7:word=Ib
 ·subst h7
  rw [if_pos rfl];have f1:=fun H=>hO.expr r H hr
  generalize C2 ts r=m at *;simp only [pbx,CT] at f1;simp [Tryz.f89,Sr.pc,f1,Sx.c,Sm.x,Bq,Ib]
 rw [if_neg h7];have f1:=fun H=>hO.fail r 0 2 H
 generalize r.fail 0 2=r1 at *;simp [pbx] at f1;simp only [IY,doT,HS,ifT,IZ,Ia,Ib] at h1 h2 h3 h4 h5 h6 h7;simp [Tryz.f89,Sr.pc,f1,Sx.c,Sm.x,Bq,h1,h2,h3,h4,h5,h6,h7]
def G7 (b:UInt8):Bool := !(b.toNat==33)
def Cm (s:List UInt8):Nat:=Ap G7 s
def B8 (s:List UInt8):List UInt8:=(B4 s).take (Cm (B4 s))
def Ee (s:List UInt8):AV := .tup [.str (B8 s),.str ((B4 s).drop (Cm (B4 s))),.str (Gv s)]
theorem VX:∀s:List UInt8,Lib.indexByte s 33=if Cm s<s.length then (Cm s:Int) else -1
 | []=>rfl
 | b::s=>by
  have ih:=VX s;have pv:=Fq G7 s;simp only [Lib.indexByte]
  by_cases h:b.toNat=33
  ·have hb:(b==33)=true:=by rw [beq_iff_eq];exact UInt8.toNat_inj.1 (by rw [h];rfl)
   have hn:Cm (b::s)=0:=by simp [Cm,Ap,G7,h]
   rw [if_pos hb,hn,if_pos (by simp)];rfl
  ·have hb:(b==33)=false:=by
    rw [beq_eq_false_iff_ne];intro h';exact h (by rw [h'];rfl)
   have hn:Cm (b::s)=Cm s+1:=by simp only [Cm,Ap,List.takeWhile_cons];rw [if_pos (by simp [G7,h])];rfl
   have hns:Cm s≤s.length:=pv;rw [if_neg (by simp [hb]),hn,ih]
   by_cases hl:Cm s<s.length
   ·have h2:((Cm s:Int) == -1)=false:=by simp only [beq_eq_false_iff_ne];omega
    simp only [if_pos hl,h2,Bool.false_eq_true,if_false];rw [if_pos (by simp only [List.length_cons];omega)];rfl
   ·have h1:((-1:Int) == -1)=true:=rfl
    simp only [if_neg hl,List.length_cons,h1,if_true];rw [if_neg (by omega)]
def Qh:Orc:=Bw 171 (fun args=>match args with
  | [.str s,.str [10]]=>if s.length<By then some s else none
  | _=>none) fun s => .bool (DN s)
theorem lF:AS zP AN Qh:=D7 fun args x H h=>by
 split at h
 ·split at h
  ·rename_i s hs
   injection h with h;subst h;rw [EE] at hs;exact Ej IS DD Af (ft Gp s 0 H (by omega))
  ·cases h
 ·cases h
def Nh (s:List UInt8):AV := .tup [.str (B4 s),.bool (DN s)]
def Qi:Orc:=Bw 129 (fun args=>match args with
  | [.str s,.str [10]]=>if s.length<By then some s else none
  | _=>none) Nh
theorem lG:AS zP AN Qi:=D7 fun args x H h=>by
 split at h
 ·split at h
  ·rename_i s hs
   injection h with h;subst h;have hs':=hs;rw [EE] at hs';exact Ej lF DD Af (fu Qh s 0 H (by omega) (by simp [Qh,Bw,hs]))
  ·cases h
 ·cases h
def Qj:Orc:=Bw 85 (fun args=>match args with
  | [.str s,.str [10]]=>if s.length<By then some s else none
  | _=>none) Nh
theorem lH:AS zP AN Qj:=D7 fun args x H h=>by
 split at h
 ·split at h
  ·rename_i s hs
   injection h with h;subst h;exact Ej lG DD Af (fw Qi s 0 H (by simp [Qi,Bw,hs,Nh]))
  ·cases h
 ·cases h
def Qk:Orc:=Bw 86 (fun args=>match args with
  | [.str s,.int .u8 33]=>some s
  | _=>none) fun s => .int .i64 (Lib.indexByte s 33)
theorem lI:AS zP AN Qk:=D7 fun args x H h=>by
 split at h
 ·rename_i s
  injection h with h;subst h;exact Ej IS DD Af (fx Gp s 33 _ 0 H (by simp [Gp]))
 ·cases h
def oPp:Orc:=A4 [(85,Qj),(86,Qk)]
theorem VY:AS zP AN oPp:=FM fun p hp=>by
 simp only [List.mem_cons,List.not_mem_nil,or_false] at hp;rcases hp with rfl|rfl
 ·exact lH
 ·exact lI
theorem lJ (s:List UInt8) (hs:s.length<By) (H:AH):CS zP AN 50 [.str s] H (Ee s) H:=by
 have tU:oPp 85 [.str s,.str [10]] H=some (.tup [.str (B4 s),.bool (DN s)],H):=by simp [oPp,A4,Qj,Bw,hs,Nh]
 have s9:oPp 86 [.str (B4 s),.int .u8 33] H=some (.int .i64 (Lib.indexByte (B4 s) 33),H):=by simp [oPp,A4,Qk,Bw]
 have pv:=Fq G7 (B4 s);rw [VX] at s9
 by_cases h:Cm (B4 s)<(B4 s).length
 ·rw [if_pos h] at s9
  exact Ej VY DD Af (gK oPp s _ 0 H tU s9 (by omega))
 ·rw [if_neg h] at s9
  have rf:Cm (B4 s)=(B4 s).length:=by unfold Cm at h ⊢;omega
  have:=Ej VY DD Af (fy oPp s _ 0 H tU s9 (by omega));simpa [Ee,B8,rf] using this
def lK (b e:List UInt8) (k:Nat) (t:List AV) (H:AH):Prop :=∃i,i+k=Cm b∧t=mkT 42 [(0,.str b),(5,.str e),(6,.int .i64 ((i:Nat):Int))]∧H=[]
theorem lL (B:Bs) (hB:B.H=[]) (hG:An AN B.g) (b e:List UInt8) (hb:b.length<By) (a:List (Nat × AV)) (h0:(a.lookup 0).getD .undef = .str b) (h5:(a.lookup 5).getD .undef = .str e) :
  Tr zP B (Aj (Aj (Aj (Ar Tryz.f116)))) (mkT 42 a) [] (Fin zP Tryz.f116 0 0 (.tup [.str (b.take (Cm b)),.str (b.drop (Cm b)),.str e]) []):=by
 rw [EE] at hb;refine Tr.less (t':=mkT 42 [(0,.str b),(5,.str e)]) (H':=[]) (AF.mk0 hB (by simp [h0,h5])) ?_;refine Tr.go cxN hG (by kernel_rfl) ?_;simp [Tryz.f116];refine LpT.loop cxN hG (by kernel_rfl) (lK b e) (Cm b) (t':=mkT 42 [(0,.str b),(5,.str e),(6,.int .i64 ((0:Nat):Int))]) (H':=[]) (AF.mk0 hB (by simp)) ⟨0,by omega,rfl,rfl⟩ ?_;rintro k t H ⟨i,px,rfl,rfl⟩;have pv:=Fq G7 b
 change Cm b≤_ at pv
 cases k with
 | succ k =>
  obtain ⟨h1,h2⟩:=MU G7 b i (by show i<Cm b;omega);have f1:(i:Int)<b.length:=by omega
  have f2:¬(b[i].toNat:Int)=33:=by simp only [G7,Bool.not_eq_true',beq_eq_false_iff_ne] at h2;omega
  have w:IntKind.i64.wrap ((i:Int)+1)=(i:Int)+1:=Ab (by omega) (by omega);simp [f1,h1,f2,w];exact ⟨k,by omega,_,_,AF.mk0 hB (l':=[(0,.str b),(5,.str e),(6,.int .i64 ((i+1:Nat):Int))]) (by simp),i+1,by omega,rfl,rfl⟩
 | zero =>
  obtain rfl:i=Cm b:=by omega
  by_cases h:Cm b<b.length
  ·have h2:G7 b[Cm b]=false:=MV G7 b h
   have f1:(Cm b:Int)<b.length:=by omega
   have f3:(Cm b:Int)≤b.length:=by omega
   have f2:(b[Cm b].toNat:Int)=33:=by simp only [G7,Bool.not_eq_false',beq_iff_eq] at h2;omega
   simp [f1,h,f2,f3]
  ·have f1:¬(Cm b:Int)<b.length:=by omega
   have h3:Cm b=b.length:=by omega
   simp [h3]
theorem lM {s:List UInt8} (h:0<s.length):DN s=(s[s.length-1].toNat==10):=by
 unfold DN
 have hd:s.drop (s.length-1)=[s[s.length-1]]:=by have:=List.drop_eq_getElem_cons (l:=s) (i:=s.length-1) (by omega);rw [this,List.drop_of_length_le (by omega)]
 rw [hd,decide_eq_true (by omega),Bool.true_and,Bool.eq_iff_iff];simp only [beq_iff_eq,List.cons.injEq,and_true]
 constructor
 ·intro h;rw [h];rfl
 ·intro h;exact UInt8.toNat_inj.1 (by rw [h];rfl)
theorem Ni (s:List UInt8):(B4 s).length≤s.length:=by
 unfold B4
 split
 ·rw [List.length_take];omega
 ·exact Nat.le_refl _
theorem lN (s:List UInt8) (hs:s.length<By) (H:AH):CS zP AN 116 [.str s] H (Ee s) H:=by
 have hs':=hs;rw [EE] at hs';refine CS.tr0 yEq Tryz.func116 (by kernel_rfl) 0 (by simp [Tryz.f116]) (fun B hB hG => ?_) rfl rfl H;obtain ⟨R,hR⟩:∃R,R=Aj (Aj (Aj (Ar Tryz.f116))):=⟨_,rfl⟩
 have key:=lL B hB hG (B4 s) (Gv s) (Nat.lt_of_le_of_lt (Ni s) hs);rw [←hR] at key;refine Tr.pre cxN hG 3 (R:=R) (by rw [hR];kernel_rfl) (by kernel_rfl) (by kernel_rfl) ?_;rw [Dm]
 by_cases h0:0<s.length
 ·have f1:(0:Int)<s.length:=by omega
  have f2:IntKind.i64.wrap ((s.length:Int)-1)=(s.length:Int)-1:=Ab (by omega) (by omega);have f3:((s.length:Int)-1).toNat=s.length-1:=by omega
  have f4:(0:Int)≤(s.length:Int)-1:=by omega
  have f5:(s.length:Int)-1≤s.length:=by omega
  have f6:s.length-1<s.length:=by omega
  have f7:(1:Int)≤(s.length:Int):=by omega
  have f8:1≤s.length:=by omega
  have hn:=lM h0
  by_cases h1:s[s.length-1].toNat=10
  ·have g1:(s[s.length-1].toNat:Int)=10:=by omega
   simp [Tryz.f116,f1,f2,f3,f4,f5,f6,f7,f8,h0,h1,g1];refine key _ ?_ ?_
   ·simp [B4,hn,h1]
   ·simp [Gv,hn,h1]
  ·have g1:¬(s[s.length-1].toNat:Int)=10:=by omega
   simp [Tryz.f116,f1,f2,f3,f4,f5,f6,f7,f8,h0,h1,g1];refine key _ ?_ ?_
   ·simp [B4,hn,h1]
   ·simp [Gv,hn,h1]
 ·have:s=[]:=List.eq_nil_of_length_eq_zero (by omega)
  subst this;simp [Tryz.f116];refine key _ ?_ ?_
  ·simp [B4,DN]
  ·simp [Gv,DN]
noncomputable def VZ (ts:List Wd) (po:ts.length<1000000):AG zP AJ:=AG.meth 89 (Sr.pc ts) (Fb ts) (fun (_:List UInt8) r=>r.at_≤ts.length) (fun _ w=>[.str w]) (fun w r => .agg (HT ts w r).1.x.c) (fun w r=>(HT ts w r).2)
 (fun w r h H id hH=>lD ts po w r h hH) (fun id x y r _ _ h=>by
  simp only [List.cons.injEq,AV.str.injEq,and_true] at h;rw [h]
  exact ⟨rfl,rfl⟩)
structure KsO (O:Orc) (ts:List Wd):Prop where
 fail:∀(r:Sr) (p c:Nat) (H:AH),O 54 [.ptr 0 0,.int .i64 (p:Int),.int .i64 (c:Int)] (pbx ts r::H)=some (.tup [],pbx ts (r.fail p c)::H)
 must:∀(r:Sr) (k:Nat) (s:List UInt8) (H:AH),O 91 [.ptr 0 0,.int .i64 (k:Int),.str s] (pbx ts r::H)=some (.agg (BD (BM ts r k s).1),pbx ts (BM ts r k s).2::H)
 expr:∀(r:Sr) (H:AH),r.at_≤ts.length→O 92 [.ptr 0 0] (pbx ts r::H)=some (.agg (tC (C2 ts r).1.tn),pbx ts (C2 ts r).2::H)
 to:∀(r:Sr) (H:AH),r.at_≤ts.length→O 90 [.ptr 0 0] (pbx ts r::H)=some (.agg (tC (toW ts r).1.tn),pbx ts (toW ts r).2::H)
 key:∀(w:List UInt8) (r:Sr) (H:AH),r.at_≤ts.length→O 89 [.ptr 0 0,.str w] (pbx ts r::H)=some (.agg (HT ts w r).1.x.c,pbx ts (HT ts w r).2::H)
noncomputable def Lks (ts:List Wd) (po:ts.length<1000000):List (AG zP AJ):=[Da ts,Jc ts po,Nf ts po,Ng ts po,VZ ts po]
theorem lO (ts:List Wd) (po:ts.length<1000000):KsO (oOf (Lks ts po)) ts:=by
 have hL:((Lks ts po).map (·.f)).Nodup:=show ([54,91,92,90,89]:List Nat).Nodup by decide
 exact ⟨fun r p c H=>Ld hL (show Da ts∈Lks ts po by simp [Lks]) r p c H,fun r k s H=>Qb po hL (show Jc ts po∈Lks ts po by simp [Lks]) r k s H,
  fun r H h=>Bn hL (show Nf ts po∈Lks ts po by simp [Lks]) () r (H:=pbx ts r::H) (id:=0) rfl h,fun r H h=>Bn hL (show Ng ts po∈Lks ts po by simp [Lks]) () r (H:=pbx ts r::H) (id:=0) rfl h,
  fun w r H h=>Bn hL (show VZ ts po∈Lks ts po by simp [Lks]) w r (H:=pbx ts r::H) (id:=0) rfl h⟩
theorem lP (ts:List Wd) (po:ts.length<1000000):Cx (oOf (Lks ts po)) zP AJ:=Bv _ Bz Af
theorem lQ (t:Tn):A3 zP 31 [(0,.int .i64 2),(2,.agg (tC t))]=some (.agg (Sx.c ⟨2,[],t,t0,[],t0,t0,[],t0,t0,0⟩)):=by cases t<;>kernel_rfl
@[simp] theorem pT (t:Tn):A3 zP 31 [(0,.int .i64 2),(2,.agg [.int .i64 t.k,.int .i64 t.n,.str t.s,t.ar])]=some (.agg (Sx.c ⟨2,[],t,t0,[],t0,t0,[],t0,t0,0⟩)):=by rw [←CT];exact lQ t
@[simp high] theorem pU {l:List Wd} (h:0<l.length):Av zP 125 (AD l) (.int .i64 0)=some (.vptr (A6 l) 0):=by simpa using gm (l:=l) (i:=0) h
theorem lR (ts:List Wd) (po:ts.length<1000000) (h0:0<ts.length) {H:AH} {id:Nat} (hH:H.at id=some (.box ((⟨0,none⟩:Sr).pc ts))) :
  CS zP AJ 53 [.ptr id 0] H (.agg (EZ ts).1.x.c) (H.set id (some (.box ((EZ ts).2.pc ts)))):=by
 refine CS.rd BY Tryz.func53 (by kernel_rfl) 0 (by simp [Tryz.f53]) (fun B hB hG => ?_) (by simp) (by simp [Sx.c_low]) (Cu _ _) (Cu _ _) hH;have X:=lP ts po;have hO:=lO ts po;generalize oOf (Lks ts po)=O at X hO;refine Tr.goD X hG (by kernel_rfl) ?_;obtain ⟨w,hw⟩:∃w,ts[0]? = some w:=⟨_,List.getElem?_eq_getElem h0⟩
 obtain ⟨d1,d2⟩:=KN _ _ _ hw;simp only [Nat.zero_mul,List.drop_zero,Nat.zero_add] at d1 d2;have hx:EZ ts=if w.kind=4 then HT ts w.text ⟨1,none⟩ else if w.kind=1 then PO ts ⟨0,none⟩ else ({},⟨0,some ([(Bo,0)],2)⟩):=by simp only [EZ,hw]
 rw [hx]
 by_cases h4:w.kind=4
 ·rw [if_pos h4]
  have f1:=fun H=>hO.key w.text ⟨1,none⟩ H h0
  generalize HT ts w.text ⟨1,none⟩=m at *;obtain ⟨m,r⟩:=m;obtain ⟨M,hM⟩:∃M,M=m.x:=⟨_,rfl⟩
  simp only [←hM,pbx] at f1 ⊢;simp [Sx.c] at f1;have w1:IntKind.i64.wrap 1=1:=by decide
  simp [Tryz.f53,Sr.pc,h0,d1,d2,BD,h4,w1,f1,Sx.c]
 ·rw [if_neg h4]
  have h4':((w.kind:Int)==4)=false:=by rw [beq_eq_false_iff_ne];omega
  have wI:¬(w.kind:Int)=4:=by omega
  by_cases h1:w.kind=1
  ·rw [if_pos h1]
   have f1:=fun H=>hO.to ⟨0,none⟩ H (Nat.zero_le _)
   have u1:=(ky ts ⟨0,none⟩).2 (Nat.zero_le _);unfold PO;generalize toW ts ⟨0,none⟩=a at *;obtain ⟨to,r1⟩:=a;simp only at f1 u1 ⊢;have f2:=fun H=>hO.must r1 3 isT H
   have u2:=(G5 ts r1 3 isT).2 u1;generalize BM ts r1 3 isT=b at *;obtain ⟨w2,r2⟩:=b;simp only at f2 u2 ⊢;have f3:=fun H=>hO.expr r2 H u2
   generalize C2 ts r2=c at *;simp only [pbx,isT,CT,BD] at f1 f2 f3;simp at f1 f2;simp [Tryz.f53,Sr.pc,h0,d1,d2,BD,h1,f1,f2,f3,Sx.c,Sm.x,Bq]
  ·rw [if_neg h1]
   have h1':((w.kind:Int)==1)=false:=by rw [beq_eq_false_iff_ne];omega
   have h1i:¬(w.kind:Int)=1:=by omega
   have f1:=fun H=>hO.fail ⟨0,none⟩ 0 2 H
   have hf:(⟨0,none⟩:Sr).fail 0 2=⟨0,some ([(Bo,0)],2)⟩:=rfl;rw [hf] at f1;simp [pbx] at f1;simp [Tryz.f53,Sr.pc,h0,d1,d2,BD,h1,h4,h1',h4',h1i,wI,f1,Sx.c,Sm.x,Bq]
noncomputable def FH:AG zP AJ:=AG.pure 50 (fun s:List UInt8=>s.length<By) (fun s=>[.str s]) Ee (fun s h H=>CS.toF (CS.toX (CS.toN (lJ s h H)))) (fun x y _ _ h=>by
 simp only [List.cons.injEq,AV.str.injEq,and_true] at h
 rw [h])
noncomputable def FI:AG zP AJ:=AG.pure 51 (fun s:List UInt8=>s.length<By) (fun s=>[.str s]) (fun s=>Es (lex (s.length+1) s 0 false)) (fun s h H=>CS.toF (CS.toX (CS.toN (gi s h H)))) (fun x y _ _ h=>by
 simp only [List.cons.injEq,AV.str.injEq,and_true] at h
 rw [h])
noncomputable def In (ts:List Wd) (po:ts.length<1000000):AG zP AJ:=AG.meth 53 (Sr.pc ts) (Fb ts) (fun (_:Unit) r=>r=⟨0,none⟩∧0<ts.length) (fun _ _=>[]) (fun _ _ => .agg (EZ ts).1.x.c) (fun _ _=>(EZ ts).2)
 (fun _ r h H id hH=>by obtain ⟨rfl,h0⟩:=h;exact lR ts po h0 hH) (fun id x y r _ _ h=>⟨rfl,rfl⟩)
def G8 (x:Sm × Er):AV := .tup [.agg x.1.x.c,erI x.2]
@[simp] theorem buSrd (ts:List Wd):A3 zP 131 [(0,AD ts)]=some (.agg [AD ts,.int .i64 0,.nilIface]):=by
 unfold AD
 split<;>kernel_rfl
theorem lS (s:List UInt8):(B8 s).length≤s.length:=by have h1:=Ni s;unfold B8;rw [List.length_take];omega
theorem lT (s:List UInt8) (hs:s.length<1000000) (H:AH):CS zP AJ 16 [.str s] H (G8 (KH (B8 s))) H:=by
 have hb:(B8 s).length<1000000:=by have:=lS s;omega
 have qj:s.length<By:=by rw [EE];omega
 have wL:(B8 s).length<By:=by rw [EE];omega
 unfold KH;generalize uQ:lex ((B8 s).length+1) (B8 s) 0 false=lx;cases lx with
 | error x =>
  obtain ⟨p,e⟩:=x;have hL:([FH,FI,CU].map (·.f)).Nodup:=show ([50,51,52]:List Nat).Nodup by decide
  have X:=Bv [FH,FI,CU] Bz Af;have f1:=fun H=>Cr hL (show FH∈[FH,FI,CU] by simp) s qj H
  have f2:=fun H=>Cr hL (show FI∈[FH,FI,CU] by simp) (B8 s) wL H
  have f3:=fun H=>Cr hL (show CU∈[FH,FI,CU] by simp) (0,[(DM,(p:Int))],(e:Int)) trivial H
  generalize oOf [FH,FI,CU]=O at X f1 f2 f3;rw [uQ] at f2;simp [Es,JM,DM] at f2;simp [Ee] at f1;simp [AZ,Bo,DM] at f3;refine CS.tr0 BY Tryz.func16 (by kernel_rfl) 0 (by simp [Tryz.f16]) (fun B hB hG => ?_) (by simp [G8,Sx.c_low]) (by simp) H;refine Tr.goD X hG (by kernel_rfl) ?_;simp [Tryz.f16,f1,f2,f3,Sx.c,G8,Sm.x,Bq,erI,AZ,CO,Bo,KG]
 | ok ts =>
  have po:=QG hb uQ;have hL:([FH,FI,In ts po,Da ts].map (·.f)).Nodup:=show ([50,51,53,54]:List Nat).Nodup by decide
  have X:=Bv [FH,FI,In ts po,Da ts] Bz Af;have f1:=fun H=>Cr hL (show FH∈[FH,FI,In ts po,Da ts] by simp) s qj H
  have f2:=fun H=>Cr hL (show FI∈[FH,FI,In ts po,Da ts] by simp) (B8 s) wL H
  have f3:=fun (h:0<ts.length) e0 H=>Bn hL (show In ts po∈[FH,FI,In ts po,Da ts] by simp) () ⟨0,none⟩ (H:=e0::pbx ts ⟨0,none⟩::H) (id:=1) rfl ⟨rfl,h⟩
  have f4:=fun (r:Sr) e0 H=>Bn hL (show Da ts∈[FH,FI,In ts po,Da ts] by simp) (r.at_,2) r (H:=e0::pbx ts r::H) (id:=1) rfl trivial
  generalize oOf [FH,FI,In ts po,Da ts]=O at X f1 f2 f3 f4;rw [uQ] at f2;simp [Es] at f2;simp [Ee] at f1;refine CS.tr0 BY Tryz.func16 (by kernel_rfl) 0 (by simp [Tryz.f16]) (fun B hB hG => ?_) (by simp [G8,Sx.c_low]) (by simp) H;refine Tr.goD X hG (by kernel_rfl) ?_
  by_cases pp:ts=[]
  ·have yH:Mq ts=({},none):=if_pos pp
   simp only;rw [yH];simp [Tryz.f16,f1,f2,pp,Sx.c,G8,Sm.x,Bq]
  ·have pz:0<ts.length:=List.length_pos_iff.2 pp
   have f3:=f3 pz
   have zP:Mq ts=match (if (EZ ts).2.at_<ts.length then (EZ ts).2.fail (EZ ts).2.at_ 2 else (EZ ts).2).err with
    | some x=>({},some x)
    | none=>((EZ ts).1,none):=by unfold Mq;rw [if_neg pp];rfl
   simp only;rw [zP];clear zP;generalize EZ ts=m at *;obtain ⟨m,r⟩:=m;have f4:=f4 r;obtain ⟨M,hM⟩:∃M,M=m.x:=⟨_,rfl⟩
   have qK:¬(ts.length:Int)=0:=by omega
   have qz:((ts.length:Int)==0)=false:=by rw [beq_eq_false_iff_ne];exact qK
   simp only [←hM,pbx,Sr.pc] at f3 f4;simp [Sx.c] at f3;simp at f4
   by_cases hl:r.at_<ts.length
   ·have hl':(r.at_:Int)<ts.length:=by omega
    simp only [hl,if_true];obtain ⟨y,hy⟩:∃y,(r.fail r.at_ 2).err=some y:=⟨_,rfl⟩
    rw [hy] at f4 ⊢;simp [Tryz.f16,f1,f2,pp,qK,qz,f3,f4,hl,hl',Sx.c];refine LpD.turns X hG [5] [(1,5),(2,5),(3,5),(4,5)] (by kernel_rfl) ?_;simp [G8,Sx.c,Sm.x,Bq]
   ·have hl':¬(r.at_:Int)<ts.length:=by omega
    simp only [hl,if_false];cases he:r.err with
    | none =>
     rw [he] at f3
     try simp at f3
     simp [Tryz.f16,f1,f2,pp,qK,qz,f3,hl,hl',Sx.c,G8,←hM]
    | some y =>
     rw [he] at f3
     try simp at f3
     simp [Tryz.f16,f1,f2,pp,qK,qz,f3,hl,hl',Sx.c];refine LpD.turns X hG [5] [(1,5),(2,5),(3,5),(4,5)] (by kernel_rfl) ?_;simp [G8,Sx.c,Sm.x,Bq]
def DH:List UInt8:=[108,105,110,101]
def Bd.fin (s:Bd) (kind at_:Int):Bd × Nat:=match s.fs with
 | []=>(s,12)
 | f::r=>if f.st.kind=kind then (Bd.put ⟨s.l,r,s.o⟩ {f with end_:=at_}.nd,0) else (s,12)
def Bd.mark (s:Bd) (x:Sx):Bd:=if x.kind=1 then s else {s with o:=true}
def Nd.lf (a:Int) (x:Sx):Nd := .mk a a x [] [] (-1)
def Bd.add (s0:Bd) (x:Sx) (a:Int):Bd × Nat :=
 let s:=s0.mark x
 if x.kind=4 then s.fin 3 a
 else if x.kind=7 then s.fin 5 a
 else if x.kind=6 then (match s.fs with
  | []=>(s,12)
  | f::r=>if f.st.kind=5∧f.mid<0 then ({s with fs:={f with mid:=a}::r},0) else (s,12))
 else if x.kind=3∨x.kind=5 then (if s.fs.length=8 then (s,4) else ({s with fs:=⟨a,a,x,[],[],-1⟩::s.fs},0))
 else if x.kind=1 then (if s.o=true∨s.fs≠[] then (s,2) else (s.put (.lf a x),0))
 else (s.put (.lf a x),0)
def bd0:Bd:=⟨[],[],false⟩
def ofL:List (List UInt8)→Nat→Bd→List Nd × Er
 | [],_,s=>(match s.fs with
  | []=>(s.l,none)
  | f::_=>([],some ([(DH,f.line.toNat)],11)))
 | b::ls,a,s=>(match KH (B8 b) with
  | (_,some y)=>([],some ((DH,a)::y.1,y.2))
  | (m,none)=>if m.kind=0 then ofL ls (a+1) s else
   if (s.add m.x a).2=0 then ofL ls (a+1) (s.add m.x a).1 else ([],some ([(DH,a)],(s.add m.x a).2)))
def ofW (ls:List (List UInt8)):List Nd × Er:=ofL ls 0 bd0
theorem Bd.mark_ok {m:Nat} {s:Bd} (h:s.ok m) (x:Sx):(s.mark x).ok m:=by
 unfold Bd.mark
 split
 ·exact h
 ·exact ⟨h.1,h.2⟩
theorem Bd.fin_ok {m:Nat} {s:Bd} (h:s.ok m) (k a:Int):(s.fin k a).1.ok (m+1):=by
 obtain ⟨l,fs,o⟩:=s;unfold Bd.fin;cases fs with
 | nil=>exact Bd.ok_mono (Nat.le_succ m) h
 | cons f r =>
  simp only
  split
  ·exact Bd.put_ok (s:=⟨l,r,o⟩) ⟨h.1,fun g hg=>h.2 g (List.mem_cons_of_mem _ hg)⟩ _
  ·exact Bd.ok_mono (Nat.le_succ m) h
theorem Bd.add_ok {m:Nat} {s:Bd} (h:s.ok m) (x:Sx) (a:Int):(s.add x a).1.ok (m+1):=by
 unfold Bd.add;have h1:=Bd.mark_ok h x;generalize s.mark x=s at *;have h2:=Bd.ok_mono (Nat.le_succ m) h1;simp only
 split
 ·exact Bd.fin_ok h1 3 a
 split
 ·exact Bd.fin_ok h1 5 a
 split
 ·obtain ⟨l,fs,o⟩:=s
  cases fs with
  | nil=>exact h2
  | cons f r =>
   simp only
   split
   ·refine ⟨h2.1,fun g hg => ?_⟩
    rcases List.mem_cons.1 hg with rfl|hg
    ·exact h2.2 f List.mem_cons_self
    ·exact h2.2 g (List.mem_cons_of_mem _ hg)
   ·exact h2
 split
 ·split
  ·exact h2
  ·refine ⟨h2.1,fun g hg => ?_⟩
   rcases List.mem_cons.1 hg with rfl|hg
   ·exact ⟨Nat.zero_le _,Nat.zero_le _⟩
   ·exact h2.2 g hg
 split
 ·split
  ·exact h2
  ·exact Bd.put_ok h1 _
 ·exact Bd.put_ok h1 _
theorem Bd.put_len (s:Bd) (n:Nd):(s.put n).fs.length=s.fs.length:=by obtain ⟨l,fs,o⟩:=s;cases fs<;>rfl
theorem Bd.fin_len (s:Bd) (k a:Int):(s.fin k a).1.fs.length≤s.fs.length:=by
 obtain ⟨l,fs,o⟩:=s;unfold Bd.fin;cases fs with
 | nil=>exact Nat.le_refl _
 | cons f r =>
  simp only
  split
  ·rw [Bd.put_len];exact Nat.le_succ _
  ·exact Nat.le_refl _
theorem Bd.mark_fs (s:Bd) (x:Sx):(s.mark x).fs=s.fs:=by unfold Bd.mark;split<;>rfl
theorem Bd.add_len {s:Bd} (h:s.fs.length≤8) (x:Sx) (a:Int):(s.add x a).1.fs.length≤8:=by
 unfold Bd.add;have h1:(s.mark x).fs.length≤8:=by rw [Bd.mark_fs];exact h
 generalize s.mark x=s at *;simp only
 split
 ·exact Nat.le_trans (Bd.fin_len s 3 a) h1
 split
 ·exact Nat.le_trans (Bd.fin_len s 5 a) h1
 split
 ·obtain ⟨l,fs,o⟩:=s
  cases fs with
  | nil=>exact h1
  | cons f r =>
   simp only
   split<;>exact h1
 split
 ·split
  ·exact h1
  ·simp only [List.length_cons];omega
 split
 ·split
  ·exact h1
  ·rw [Bd.put_len];exact h1
 ·rw [Bd.put_len];exact h1
def Bd.lin (s:Bd):Prop:=∀f∈s.fs,0≤f.line
theorem Bd.put_lin {s:Bd} (h:s.lin) (n:Nd):(s.put n).lin:=by
 obtain ⟨l,fs,o⟩:=s;cases fs with
 | nil=>exact h
 | cons f r =>
  intro g hg;rcases List.mem_cons.1 hg with rfl|hg
  ·have:=h f List.mem_cons_self
   unfold Fr.put
   split<;>exact this
  ·exact h g (List.mem_cons_of_mem _ hg)
theorem Bd.fin_lin {s:Bd} (h:s.lin) (k a:Int):(s.fin k a).1.lin:=by
 obtain ⟨l,fs,o⟩:=s;unfold Bd.fin;cases fs with
 | nil=>exact h
 | cons f r =>
  simp only
  split
  ·exact Bd.put_lin (s:=⟨l,r,o⟩) (fun g hg=>h g (List.mem_cons_of_mem _ hg)) _
  ·exact h
theorem Bd.add_lin {s:Bd} (h:s.lin) (x:Sx) {a:Int} (ha:0≤a):(s.add x a).1.lin:=by
 unfold Bd.add;have h1:(s.mark x).lin:=by unfold Bd.lin;rw [Bd.mark_fs];exact h
 generalize s.mark x=s at *;simp only
 split
 ·exact Bd.fin_lin h1 3 a
 split
 ·exact Bd.fin_lin h1 5 a
 split
 ·obtain ⟨l,fs,o⟩:=s
  cases fs with
  | nil=>exact h1
  | cons f r =>
   simp only
   split
   ·intro g hg
    rcases List.mem_cons.1 hg with rfl|hg
    ·exact h1 f List.mem_cons_self
    ·exact h1 g (List.mem_cons_of_mem _ hg)
   ·exact h1
 split
 ·split
  ·exact h1
  ·intro g hg
   rcases List.mem_cons.1 hg with rfl|hg
   ·exact ha
   ·exact h1 g hg
 split
 ·split
  ·exact h1
  ·exact Bd.put_lin h1 _
 ·exact Bd.put_lin h1 _
theorem CS.weakA {P:Program} {E:Env} {f:FuncId} {args args':List AV} {H H':AH} {v:AV} (h:CS P E f args' H v H') (hw:∀g cargs,AB g args cargs→AB g args' cargs):CS P E f args H v H':=fun g w cargs R hG hA=>h g w cargs R hG (hw g cargs hA)
theorem Va {α:Type} (E:Enc α) {g:Gh} {k:Nat} {l:List α} {v:Value} (h:AA g (E.tk k l) v):AA g (E.av l) v:=by
 by_cases h0:l=[]
 ·subst h0;exact h
 ·rw [E.tk_ne k h0] at h
  rw [E.av_ne h0];exact NJ g v h
def Fr.nc (d:Nat) (f:Fr):List AV:=f.pre++[ndE.tk (3+3*d) f.body,ndE.tk (4+3*d) f.els,.int .i64 f.mid]
theorem Vb {g:Gh}:∀{xs bs:List AV} {vs:List Value},AB g (xs++bs) vs→∃us ws,vs=us++ws∧AB g xs us∧AB g bs ws
 | [],bs,vs,h=>⟨[],vs,rfl,by simp [AB],h⟩
 | a::xs,bs,vs,h=>by simp only [List.cons_append,AB] at h;obtain ⟨v,us,rfl,h1,h2⟩:=h;obtain ⟨us,ws,rfl,h3,h4⟩:=Vb h2;exact ⟨v::us,ws,rfl,by simp only [AB];exact ⟨v,us,rfl,h1,h3⟩,h4⟩
theorem lU {g:Gh} {cs:List AV} {v:Value}:AA g (.agg cs) v↔∃vs,v = .agg (List.toArray vs)∧AB g cs vs:=by simp only [AA]
theorem lV {g:Gh} (d:Nat) (f:Fr) {cargs:List Value} (h:AB g [.ptr 0 0,.agg (f.nc d)] cargs):AB g [.ptr 0 0,.agg (ndC f.nd)] cargs:=by simp only [AB] at h ⊢;obtain ⟨v,ws,rfl,h1,v2,ws2,rfl,h2,rfl⟩:=h;refine ⟨v,_,rfl,h1,v2,_,rfl,?_,rfl⟩;rw [lU] at h2 ⊢;obtain ⟨vs,rfl,h2⟩:=h2;refine ⟨vs,rfl,?_⟩;rw [Fr.nc] at h2;obtain ⟨us,ws,rfl,h3,h4⟩:=Vb h2;have:ndC f.nd=f.pre++[ndE.av f.body,ndE.av f.els,.int .i64 f.mid]:=C9 f.nd;rw [this];refine h3.append ?_;simp only [AB] at h4 ⊢;obtain ⟨a,x,rfl,k1,b,y,rfl,k2,c,z,rfl,k3,rfl⟩:=h4;exact ⟨a,_,rfl,Va ndE k1,b,_,rfl,Va ndE k2,c,_,rfl,k3,rfl⟩
@[simp ↓ high] theorem pV (d:Nat):(upC d).known=true:=by cases d<;>rfl
@[simp ↓ high] theorem pW (d:Nat):(upC d).one=true:=by cases d<;>rfl
@[simp ↓ high] theorem pX (d:Nat):At (upC d)=[upC d]:=by cases d<;>rfl
theorem Jf (n:Nat):upC (n+1) = .ptr (2+3*n) 0:=rfl
theorem Jg:upC 0 = .nilPtr:=rfl
theorem DI (H:AH) (e:Option Ent) (B:AH):AH.at (H++e::B) H.length=e:=by rw [G4 (Nat.le_refl _),Nat.sub_self];rfl
theorem Db (H:AH) (e x:Option Ent) (B:AH):(H++e::B).set H.length x=H++x::B:=by rw [List.set_append_right _ _ (Nat.le_refl _)];simp
theorem F4 (H:AH) (i:Nat) (y e:Option Ent) (B:AH):AH.at (H.set i y++e::B) H.length=e:=by have:=DI (H.set i y) e B;rwa [List.length_set] at this
theorem F5 (H:AH) (i:Nat) (y e x:Option Ent) (B:AH):(H.set i y++e::B).set H.length x=H.set i y++x::B:=by have:=Db (H.set i y) e x B;rwa [List.length_set] at this
theorem F6 (H:AH) (a e:Option Ent) (B:AH):AH.at (H++a::e::B) (H.length+1)=e:=by rw [G4 (Nat.le_succ _)];simp [AH.at]
theorem F7 (H:AH) (a e x:Option Ent) (B:AH):(H++a::e::B).set (H.length+1) x=H++a::x::B:=by rw [List.set_append_right _ _ (Nat.le_succ _)];simp
theorem GX (H:AH) (i:Nat) (y a e:Option Ent) (B:AH):AH.at (H.set i y++a::e::B) (H.length+1)=e:=by have:=F6 (H.set i y) a e B;rwa [List.length_set] at this
theorem GY (H:AH) (i:Nat) (y a e x:Option Ent) (B:AH):(H.set i y++a::e::B).set (H.length+1) x=H.set i y++a::x::B:=by have:=F7 (H.set i y) a e x B;rwa [List.length_set] at this
theorem Hc (H:AH) (B:AH) (h:0<H.length):AH.at (H++B) 0=H.at 0:=Fa h
theorem Hd (H:AH) (B:AH) (e:Option Ent) (h:0<H.length):(H++B).set 0 e=H.set 0 e++B:=List.set_append_left _ _ h
theorem GZ (H:AH) (B:AH) (e:Option Ent) (h:0<H.length):AH.at (H.set 0 e++B) 0=e:=by rw [Fa (by rw [List.length_set];exact h),AH.at_set,if_pos ⟨rfl,h⟩]
theorem He (H:AH) (B:AH) (e e':Option Ent) (h:0<H.length):(H.set 0 e++B).set 0 e'=H.set 0 e'++B:=by rw [List.set_append_left _ _ (by rw [List.length_set];exact h),List.set_set]
theorem Lf {H:AH} {j:Nat} (B:AH) (e:Option Ent) (h:j<H.length) (h0:j≠0):AH.at (H.set 0 e++B) j=H.at j:=by rw [Fa (by rw [List.length_set];exact h),CZ (fun h=>h0 h.symm)]
theorem IB (n:Nat):∀a b:AH,AP n (a++b)=(AP n a&&AP n b)
 | [],b=>by simp [AP]
 | e::a,b=>by simp [AP,IB n a b,Bool.and_assoc]
theorem lW {m n:Nat} (h:m≤n) {e:Option Ent} (k:Aq m e=true):Aq n e=true:=by
 cases e with
 | none=>rfl
 | some e=>cases e with
  | box cs=>exact Ah h _ k
  | loose n cs=>exact Ah h _ k
  | stk n cs=>exact Ah h _ k
  | _=>rfl
theorem Lg {m n:Nat} (h:m≤n):∀{H:AH},AP m H=true→AP n H=true
 | [],_=>rfl
 | e::H,k=>by simp only [AP,Bool.and_eq_true] at k ⊢;exact ⟨lW h k.1,Lg h k.2⟩
theorem Vc (n:Nat) {α:Type} (l:List α):Aq n (AW l)=true:=by unfold AW;split<;>rfl
theorem Ql {d n:Nat} (h:3*d<n):low n (upC d)=true:=by
 cases d with
 | zero=>rfl
 | succ d=>simp [upC,low];omega
theorem Nj (d n:Nat) (f:Fr) (h:4+3*d<n):AP n (f.h d)=true:=by
 have h1:=Ah (Nat.zero_le n) _ f.pre_low;have t1:=ndE.tk_low (k:=3+3*d) (m:=n) (by omega) f.body;have t2:=ndE.tk_low (k:=4+3*d) (m:=n) (by omega) f.els;simp only [Fr.h,AP,Vc,Bool.and_true]
 show lowL n (f.c d)=true
 rw [Fr.c,Dt,h1];simp [lowL,t1,t2,Ql (d:=d) (n:=n) (by omega),low]
theorem Vd:∀(r:List Fr) (n:Nat),2+3*r.length≤n→AP n (frH r)=true
 | [],_,_=>rfl
 | f::r,n,h=>by simp only [List.length_cons] at h;rw [frH,IB,Vd r n (by omega),Nj _ _ _ (by omega)];rfl
theorem Ef (s:Bd) (n:Nat) (h:2+3*s.fs.length≤n):AP n (bdH s)=true:=by
 have t1:=ndE.tk_low (k:=1) (m:=n) (by omega) s.l;simp only [bdH,AP,Vc,Vd s.fs n h,Bool.and_true]
 show lowL n s.c=true
 simp [Bd.c,lowL,t1,Ql (d:=s.fs.length) (n:=n) (by omega),low]
theorem BT (s:Bd):(bdH s).length=2+3*s.fs.length:=by simp [bdH,Ik];omega
theorem Cv:CxW Bk zP AY []:=CG.toW
def Bl (c:Nat):AV:=if c=0 then .nilIface else .iface 134 (.int .i64 (c:Int))
def Fd (s:Bd) (kind:Int):AH:=match s.fs with
 | []=>[]
 | f::r=>if f.st.kind=kind then f.h r.length else []
theorem lX (l:List Nd) (f:Fr) (r:List Fr) (o:Bool) (K:AH) (hK:AP 0 K=true) (kind a:Int) {m:Nat} (hs:Bd.ok m ⟨l,f::r,o⟩) (hm:m<137438953472) (hd:r.length<1000) (hk:f.st.kind=kind) :
  CS zP AY 127 [.ptr 0 0,.int .i64 kind,.int .i64 a] (bdH ⟨l,f::r,o⟩++K) .nilIface (bdH (Bd.put ⟨l,r,o⟩ {f with end_:=a}.nd)++(f.h r.length++K)):=by
 subst hk;have pw:=Cl l f r o K;have c0:AH.at (bdH ⟨l,f::r,o⟩++K) 0=some (.box (Bd.c ⟨l,f::r,o⟩)):=rfl;have cF:=F3 l f r o K;have sG:∀e,(bdH ⟨l,f::r,o⟩++K).set 0 e=(e::AW l::frH r)++(f.h r.length++K):=fun e=>by simp [bdH,frH]
 have zQ:=fun K'=>CS.weakA (QY ⟨l,r,o⟩ {f with end_:=a}.nd K' (m:=m) ⟨hs.1,fun g hg=>hs.2 g (List.mem_cons_of_mem _ hg)⟩ hm) (fun g cargs h=>lV r.length {f with end_:=a} h)
 obtain ⟨H3,sH⟩:∃H3:AH,H3=bdH (Bd.put ⟨l,r,o⟩ {f with end_:=a}.nd)++(f.h r.length++K++[some (.box (({f with end_:=a}:Fr).nc r.length))]):=⟨_,rfl⟩
 have hp:CS zP AY 128 [.ptr 0 0,.agg (({f with end_:=a}:Fr).nc r.length)] ((bdH ⟨l,f::r,o⟩++K).set 0 (some (.box (Bd.c ⟨l,r,o⟩)))++[some (.box (({f with end_:=a}:Fr).nc r.length))]) (.tup []) H3:=by have:=zQ (f.h r.length++K++[some (.box (({f with end_:=a}:Fr).nc r.length))]);rw [sG,sH,List.append_assoc];exact this
 have uK:(bdH (Bd.put ⟨l,r,o⟩ {f with end_:=a}.nd)).length=2+3*r.length:=by rw [BT,Bd.put_len]
 have qW:H3.take (bdH ⟨l,f::r,o⟩++K).length=bdH (Bd.put ⟨l,r,o⟩ {f with end_:=a}.nd)++(f.h r.length++K):=by rw [sH,←List.append_assoc,List.take_left' (by simp only [List.length_append] at pw ⊢;rw [uK,pw];simp [Fr.h];omega)]
 have qB:AP (bdH ⟨l,f::r,o⟩++K).length (bdH (Bd.put ⟨l,r,o⟩ {f with end_:=a}.nd)++(f.h r.length++K))=true:=by rw [IB,IB,Ef _ _ (by rw [Bd.put_len];simp only;omega),Nj _ _ _ (by omega),Lg (Nat.zero_le _) hK];rfl
 generalize bdH (Bd.put ⟨l,r,o⟩ {f with end_:=a}.nd)++(f.h r.length++K)=H1 at *;have X:=Ep hp Cv;have hO:=EV 128 [.ptr 0 0,.agg (({f with end_:=a}:Fr).nc r.length)] ((bdH ⟨l,f::r,o⟩++K).set 0 (some (.box (Bd.c ⟨l,r,o⟩)))++[some (.box (({f with end_:=a}:Fr).nc r.length))]) (.tup []) H3 Bk;generalize orP 128 [.ptr 0 0,.agg (({f with end_:=a}:Fr).nc r.length)] ((bdH ⟨l,f::r,o⟩++K).set 0 (some (.box (Bd.c ⟨l,r,o⟩)))++[some (.box (({f with end_:=a}:Fr).nc r.length))]) (.tup []) H3 Bk=O at X hO;clear hp zQ sH sG;refine CS.of_Tr (c:=Ar Tryz.f127) (H0:=bdH ⟨l,f::r,o⟩++K) (H1:=H1) Tryz.func127 (by kernel_rfl) 0 (by simp [Tryz.f127]) (fun B hB hG => ?_) (by simp) qB;generalize bdH ⟨l,f::r,o⟩++K=H at *;have pz:0<H.length:=by omega
 have t6:2+3*r.length<H.length:=by omega
 have wM:2+3*r.length≠0:=by omega
 have w1:IntKind.i64.wrap (r.length:Int)=(r.length:Int):=Ab (by omega) (by omega);simp only [Bd.c,Fr.c,Fr.pre,Fr.nc,Sx.c,List.length_cons,Jf,List.cons_append,List.nil_append] at c0 cF hO;have k0:=fun B=>(Hc H B pz).trans c0
 have kF:=fun B=>(Fa (A:=H) (B:=B) t6).trans cF
 have jF:=fun B e=>(Lf (H:=H) B e t6 wM).trans cF
 have j0:=fun B e=>GZ H B e pz
 have s0:=fun B e=>Hd H B e pz
 have s1:=fun B e e'=>He H B e e' pz
 refine Tr.goW X hG (by kernel_rfl) ?_;simp [-AH.at,Tryz.f127,c0,cF,k0,kF,jF,j0,s0,s1,DI,Db,F4,F5,w1,hO,qW]
theorem Ve (s:Bd) (K:AH) (hK:AP 0 K=true) (kind a:Int) (hd:s.fs.length<1000) (hk:∀f r,s.fs=f::r→f.st.kind≠kind) :
  CS zP AY 127 [.ptr 0 0,.int .i64 kind,.int .i64 a] (bdH s++K) (Bl 12) (bdH s++K):=by
 obtain ⟨l,fs,o⟩:=s;simp only at hd hk
 have qB:AP (bdH ⟨l,fs,o⟩++K).length (bdH ⟨l,fs,o⟩++K)=true:=by rw [IB,Ef _ _ (by rw [List.length_append,BT];omega),Lg (Nat.zero_le _) hK];rfl
 have qW:(bdH ⟨l,fs,o⟩++K).take (bdH ⟨l,fs,o⟩++K).length=bdH ⟨l,fs,o⟩++K:=List.take_length;refine CS.of_Tr (c:=Ar Tryz.f127) (H0:=bdH ⟨l,fs,o⟩++K) (H1:=bdH ⟨l,fs,o⟩++K) Tryz.func127 (by kernel_rfl) 0 (by simp [Tryz.f127]) (fun B hB hG => ?_) (by simp [Bl]) qB;have c0:AH.at (bdH ⟨l,fs,o⟩++K) 0=some (.box (Bd.c ⟨l,fs,o⟩)):=rfl;refine Tr.goW Cv hG (by kernel_rfl) ?_;cases fs with
 | nil =>simp only [Bd.c,Jg,List.length_nil] at c0;generalize bdH ⟨l,[],o⟩++K=H at *;simp [-AH.at,Tryz.f127,c0,qW,Bl]
 | cons f r =>have cF:=F3 l f r o K;have hk':=hk f r rfl;simp only [Bd.c,Jf,List.length_cons] at c0;simp only [Fr.c,Fr.pre,Sx.c,List.cons_append,List.nil_append] at cF;generalize bdH ⟨l,f::r,o⟩++K=H at *;simp [-AH.at,Tryz.f127,c0,cF,hk',qW,Bl]
theorem lY (s:Bd) (K:AH) (hK:AP 0 K=true) (kind a:Int) {m:Nat} (hs:s.ok m) (hm:m<137438953472) (hd:s.fs.length<1000) :
  CS zP AY 127 [.ptr 0 0,.int .i64 kind,.int .i64 a] (bdH s++K) (Bl (s.fin kind a).2) (bdH (s.fin kind a).1++(Fd s kind++K)):=by
 obtain ⟨l,fs,o⟩:=s;cases fs with
 | nil=>exact Ve ⟨l,[],o⟩ K hK kind a hd (fun f r h=>by cases h)
 | cons f r =>
  simp only [List.length_cons] at hd
  by_cases hk:f.st.kind=kind
  ·simp only [Bd.fin,Fd,if_pos hk]
   exact lX l f r o K hK kind a hs hm (by omega) hk
  ·simp only [Bd.fin,Fd,if_neg hk]
   exact Ve ⟨l,f::r,o⟩ K hK kind a hd (fun f' r' h=>by
    injection h with h1 h2;subst h1
    exact hk)
theorem fin_len (s:Bd) (k a:Int):(bdH (s.fin k a).1++Fd s k).length=(bdH s).length:=by
 obtain ⟨l,fs,o⟩:=s;cases fs with
 | nil=>simp [Bd.fin,Fd]
 | cons f r =>
  simp only [Bd.fin,Fd]
  split
  ·rw [List.length_append,BT,BT,Bd.put_len]
   simp [Fr.h];omega
  ·simp
@[simp] theorem buNdP (a b z:Int) (c0 c1 c2 c3 c4 c5 c6 c7 c8 c9 c10 c11 c12 c13 c14 c15 c16 c17 c18 c19 c20 c21 c22 c23 c24 c25 c26 c27 c28:AV):A3 zP 104 [(0,.int .i64 a),(1,.int .i64 b),(2,.agg [c0,c1,c2,c3,c4,c5,c6,c7,c8,c9,c10,c11,c12,c13,c14,c15,c16,c17,c18,c19,c20,c21,c22,c23,c24,c25,c26,c27,c28]),(5,.int .i64 z)]=some (.agg [.int .i64 a,.int .i64 b,c0,c1,c2,c3,c4,c5,c6,c7,c8,c9,c10,c11,c12,c13,c14,c15,c16,c17,c18,c19,c20,c21,c22,c23,c24,c25,c26,c27,c28,.nilSlice,.nilSlice,.int .i64 z]):=by kernel_rfl
@[simp] theorem buOp (c0 c1 c2 c3 c4 c5 c6 c7 c8 c9 c10 c11 c12 c13 c14 c15 c16 c17 c18 c19 c20 c21 c22 c23 c24 c25 c26 c27 c28 c29 c30 c31 c32 c33:AV) (d:Nat):A3 zP 188 [(0,.agg [c0,c1,c2,c3,c4,c5,c6,c7,c8,c9,c10,c11,c12,c13,c14,c15,c16,c17,c18,c19,c20,c21,c22,c23,c24,c25,c26,c27,c28,c29,c30,c31,c32,c33]),(1,upC d)]=some (.agg [c0,c1,c2,c3,c4,c5,c6,c7,c8,c9,c10,c11,c12,c13,c14,c15,c16,c17,c18,c19,c20,c21,c22,c23,c24,c25,c26,c27,c28,c29,c30,c31,c32,c33,upC d]):=by cases d<;>kernel_rfl
theorem lfC (a:Int) (x:Sx):ndC (.lf a x) = .int .i64 a :: .int .i64 a::(x.c++[.nilSlice,.nilSlice,.int .i64 (-1)]):=C9 _
def psH (N i:Nat):Nat:=if i<N then i else i+2
theorem lZ {B:Bs} {H:AH} {N:Nat} (hB:B.H=H) (hN:N=H.length) (pz:1<H.length) (hl:AP H.length H=true) {L:List (Nat × AV)} (h6:(L.lookup 6).getD .undef = .nilIface) (l:List Nd) (dn:Int) (o:Bool) {cs:List AV} (sV:lowL H.length cs=true) (e1 e2:Option Ent) :
  AF B (mkT 112 L) (H.set 0 (some (.box [ndE.tk 1 l,.ptr (H.length+2) 0,.int .i64 dn,.bool o]))++[e1,e2,some (.box cs)]) (mkT 112 [(6,.nilIface)]) (H.set 0 (some (.box [ndE.tk 1 l,.ptr N 0,.int .i64 dn,.bool o]))++[some (.box cs),none,none]):=by
 subst hN;have tG:∀i,i<H.length→psH H.length i=i:=fun i hi=>if_pos hi
 have tY:∀i,H.length≤i→psH H.length i=i+2:=fun i hi=>if_neg (by omega)
 have t1:=fun n (h:1<n)=>ndE.tk_low (k:=1) (m:=n) h l
 refine AF.mkV 1000 (psH H.length) (H.length+3) (by rw [hB];omega) (fun i j _ _ h=>by unfold psH at h;split at h<;>split at h<;>omega) (fun i hi=>tG i (by rw [hB] at hi;exact hi)) (by simp) ?_ ?_ ?_
 ·intro i hi
  by_cases h0:i=0
  ·subst h0
   rw [tG 0 (by omega),GZ _ _ _ (by omega),GZ _ _ _ (by omega)];have e1:=tG 1 pz;have e2:=tY H.length (Nat.le_refl _);simp only [Option.map_some,AI,AM,ren,Enc.tk_ren,e1,e2]
  ·by_cases h1:i<H.length
   ·rw [tG i h1,Lf _ _ h1 h0,Lf _ _ h1 h0,FP tG (by
     cases he:H.at i with
     | none=>rfl
     | some x=>exact IN hl he)]
   ·rw [tY i (by omega),G4 (by rw [List.length_set];omega),G4 (by rw [List.length_set];omega)]
    simp only [List.length_set];rcases (by omega:i=H.length∨i=H.length+1∨i=H.length+2) with rfl|rfl|rfl
    ·rw [show H.length+2-H.length=2 by omega,Nat.sub_self]
     show some (Ent.box cs)=some (Ent.box (AM _ cs))
     rw [FB tG _ sV]
    ·rw [show H.length+1+2-H.length=3 by omega,show H.length+1-H.length=1 by omega]
     rfl
    ·rw [show H.length+2+2-H.length=4 by omega,show H.length+2-H.length=2 by omega]
     rfl
 ·rw [IB]
  have h1:AP (H.length+3) (H.set 0 (some (.box [ndE.tk 1 l,.ptr H.length 0,.int .i64 dn,.bool o])))=true:=by
   cases H with
   | nil=>simp at pz
   | cons x H =>simp only [AP,Bool.and_eq_true] at hl;simp only [List.set_cons_zero,AP,Aq,Bool.and_eq_true];refine ⟨?_,Lg (by omega) hl.2⟩;simp only [lowL,low,t1 _ (show 1<(x::H).length+3 by omega)];simp
  rw [h1];simp only [AP,Aq,Ah (by omega:H.length≤H.length+3) cs sV];rfl
 ·intro p hp
  simp only [List.mem_singleton] at hp;subst hp;simp only [h6];exact ⟨rfl,rfl⟩
theorem Qm (l:List Nd) (fs:List Fr) (o o':Bool):(bdH ⟨l,fs,o⟩).set 0 (some (.box (Bd.c ⟨l,fs,o'⟩)))=bdH ⟨l,fs,o'⟩:=rfl
theorem la (l:List Nd) (fs:List Fr) (o:Bool) (x:Sx) (a:Int) (k:Int) (hk:x.kind=4∧k=3∨x.kind=7∧k=5) {m:Nat} (hs:Bd.ok m ⟨l,fs,o⟩) (hm:m<137438953472) (hd:fs.length≤8) :
  CS zP AY 83 [.ptr 0 0,.agg x.c,.int .i64 a] (bdH ⟨l,fs,o⟩) (Bl (Bd.fin ⟨l,fs,true⟩ k a).2) (bdH (Bd.fin ⟨l,fs,true⟩ k a).1++Fd ⟨l,fs,true⟩ k):=by
 have hK:AP 0 [some (.box x.c),some (.box (ndC (.lf a x)))]=true:=by simp [AP,Aq,Sx.c_low,Br]
 have he:=lY ⟨l,fs,true⟩ [some (.box x.c),some (.box (ndC (.lf a x)))] hK k a (m:=m) ⟨hs.1,hs.2⟩ hm (by simp only;omega);rw [←Qm l fs o true] at he;obtain ⟨H3,sH⟩:∃H3:AH,H3=bdH (Bd.fin ⟨l,fs,true⟩ k a).1++(Fd ⟨l,fs,true⟩ k++[some (.box x.c),some (.box (ndC (.lf a x)))]):=⟨_,rfl⟩
 rw [←sH] at he;have qG:=fin_len ⟨l,fs,true⟩ k a
 have qW:H3.take (bdH ⟨l,fs,o⟩).length=bdH (Bd.fin ⟨l,fs,true⟩ k a).1++Fd ⟨l,fs,true⟩ k:=by rw [sH,←List.append_assoc,List.take_left' (by rw [qG,BT,BT])]
 have qB:AP (bdH ⟨l,fs,o⟩).length (bdH (Bd.fin ⟨l,fs,true⟩ k a).1++Fd ⟨l,fs,true⟩ k)=true:=by
  rw [IB,Ef _ _ (by have:=Bd.fin_len ⟨l,fs,true⟩ k a;rw [BT];simp only at this ⊢;omega)];cases fs with
  | nil=>rfl
  | cons f r =>
   simp only [Fd]
   split
   ·rw [Nj _ _ _ (by rw [BT];simp only [List.length_cons];omega)];rfl
   ·rfl
 generalize bdH (Bd.fin ⟨l,fs,true⟩ k a).1++Fd ⟨l,fs,true⟩ k=H1 at *;have qM:∀n,low n (Bl (Bd.fin ⟨l,fs,true⟩ k a).2)=true:=fun n=>by unfold Bl;split<;>rfl
 have pu:∀n,strip n (Bl (Bd.fin ⟨l,fs,true⟩ k a).2)=Bl (Bd.fin ⟨l,fs,true⟩ k a).2:=fun n=>JG n _ (qM 0)
 generalize Bl (Bd.fin ⟨l,fs,true⟩ k a).2=rv at *;have X:=Ep he Cv;have hO:=EV 127 [.ptr 0 0,.int .i64 k,.int .i64 a] ((bdH ⟨l,fs,o⟩).set 0 (some (.box (Bd.c ⟨l,fs,true⟩)))++[some (.box x.c),some (.box (ndC (.lf a x)))]) rv H3 Bk;generalize orP 127 [.ptr 0 0,.int .i64 k,.int .i64 a] ((bdH ⟨l,fs,o⟩).set 0 (some (.box (Bd.c ⟨l,fs,true⟩)))++[some (.box x.c),some (.box (ndC (.lf a x)))]) rv H3 Bk=O at X hO;clear he sH qG;have pw:(bdH ⟨l,fs,o⟩).length=2+3*fs.length:=BT _;have c0:AH.at (bdH ⟨l,fs,o⟩) 0=some (.box (Bd.c ⟨l,fs,o⟩)):=rfl;refine CS.of_Tr (c:=Ar Tryz.f83) (H0:=bdH ⟨l,fs,o⟩) (H1:=H1) Tryz.func83 (by kernel_rfl) 0 (by simp [Tryz.f83]) (fun B hB hG => ?_) (qM _) qB;generalize bdH ⟨l,fs,o⟩=H at *;have pz:0<H.length:=by omega
 simp only [Bd.c] at c0;simp only [Sx.c,lfC,Bd.c,List.cons_append,List.nil_append] at hO;have k0:=fun B=>(Hc H B pz).trans c0
 have j0:=fun B e=>GZ H B e pz
 have s0:=fun B e=>Hd H B e pz
 have s1:=fun B e e'=>He H B e e' pz
 refine Tr.goW X hG (by kernel_rfl) ?_;rcases hk with ⟨hk,rfl⟩|⟨hk,rfl⟩
 all_goals
  simp only [hk] at hO;simp [-AH.at,Tryz.f83,c0,k0,j0,s0,s1,DI,Db,F4,F5,F6,F7,GX,GY,Sx.c,hO,qW,hk,pu]
theorem lb (l:List Nd) (fs:List Fr) (o:Bool) (x:Sx) (a:Int) (h1:x.kind≠1) (h3:x.kind≠3) (h4:x.kind≠4) (h5:x.kind≠5) (h6:x.kind≠6) (h7:x.kind≠7) {m:Nat} (hs:Bd.ok m ⟨l,fs,o⟩) (hm:m<137438953472) (hd:fs.length≤8) :
  CS zP AY 83 [.ptr 0 0,.agg x.c,.int .i64 a] (bdH ⟨l,fs,o⟩) .nilIface (bdH (Bd.put ⟨l,fs,true⟩ (.lf a x))):=by
 have he:=QY ⟨l,fs,true⟩ (.lf a x) [some (.box x.c),some (.box (ndC (.lf a x)))] (m:=m) ⟨hs.1,hs.2⟩ hm;rw [←Qm l fs o true] at he;obtain ⟨H3,sH⟩:∃H3:AH,H3=bdH (Bd.put ⟨l,fs,true⟩ (.lf a x))++[some (.box x.c),some (.box (ndC (.lf a x)))]:=⟨_,rfl⟩
 rw [←sH] at he;have uK:(bdH (Bd.put ⟨l,fs,true⟩ (.lf a x))).length=(bdH ⟨l,fs,o⟩).length:=by rw [BT,BT,Bd.put_len]
 have qW:H3.take (bdH ⟨l,fs,o⟩).length=bdH (Bd.put ⟨l,fs,true⟩ (.lf a x)):=by rw [sH,List.take_left' uK]
 have qB:AP (bdH ⟨l,fs,o⟩).length (bdH (Bd.put ⟨l,fs,true⟩ (.lf a x)))=true:=Ef _ _ (by rw [Bd.put_len,BT];exact Nat.le_refl _);generalize bdH (Bd.put ⟨l,fs,true⟩ (.lf a x))=H1 at *;have X:=Ep he Cv;have hO:=EV 128 [.ptr 0 0,.agg (ndC (.lf a x))] ((bdH ⟨l,fs,o⟩).set 0 (some (.box (Bd.c ⟨l,fs,true⟩)))++[some (.box x.c),some (.box (ndC (.lf a x)))]) (.tup []) H3 Bk;generalize orP 128 [.ptr 0 0,.agg (ndC (.lf a x))] ((bdH ⟨l,fs,o⟩).set 0 (some (.box (Bd.c ⟨l,fs,true⟩)))++[some (.box x.c),some (.box (ndC (.lf a x)))]) (.tup []) H3 Bk=O at X hO;clear he sH uK;have pw:(bdH ⟨l,fs,o⟩).length=2+3*fs.length:=BT _;have c0:AH.at (bdH ⟨l,fs,o⟩) 0=some (.box (Bd.c ⟨l,fs,o⟩)):=rfl;refine CS.of_Tr (c:=Ar Tryz.f83) (H0:=bdH ⟨l,fs,o⟩) (H1:=H1) Tryz.func83 (by kernel_rfl) 0 (by simp [Tryz.f83]) (fun B hB hG => ?_) rfl qB;generalize bdH ⟨l,fs,o⟩=H at *;have pz:0<H.length:=by omega
 simp only [Bd.c] at c0;simp only [Sx.c,lfC,Bd.c,List.cons_append,List.nil_append] at hO;have k0:=fun B=>(Hc H B pz).trans c0
 have j0:=fun B e=>GZ H B e pz
 have s0:=fun B e=>Hd H B e pz
 have s1:=fun B e e'=>He H B e e' pz
 refine Tr.goW X hG (by kernel_rfl) ?_;simp [-AH.at,Tryz.f83,c0,k0,j0,s0,s1,DI,Db,F4,F5,F6,F7,GX,GY,Sx.c,hO,qW,h1,h3,h4,h5,h6,h7]
theorem lc (l:List Nd) (fs:List Fr) (o:Bool) (x:Sx) (a:Int) (h1:x.kind=1) (ho:o=false) (hf:fs=[]) {m:Nat} (hs:Bd.ok m ⟨l,fs,o⟩) (hm:m<137438953472) (hd:fs.length≤8) :
  CS zP AY 83 [.ptr 0 0,.agg x.c,.int .i64 a] (bdH ⟨l,fs,o⟩) .nilIface (bdH (Bd.put ⟨l,fs,o⟩ (.lf a x))):=by
 have he:=QY ⟨l,fs,o⟩ (.lf a x) [some (.box x.c),some (.box (ndC (.lf a x)))] (m:=m) ⟨hs.1,hs.2⟩ hm;obtain ⟨H3,sH⟩:∃H3:AH,H3=bdH (Bd.put ⟨l,fs,o⟩ (.lf a x))++[some (.box x.c),some (.box (ndC (.lf a x)))]:=⟨_,rfl⟩
 rw [←sH] at he;have uK:(bdH (Bd.put ⟨l,fs,o⟩ (.lf a x))).length=(bdH ⟨l,fs,o⟩).length:=by rw [BT,BT,Bd.put_len]
 have qW:H3.take (bdH ⟨l,fs,o⟩).length=bdH (Bd.put ⟨l,fs,o⟩ (.lf a x)):=by rw [sH,List.take_left' uK]
 have qB:AP (bdH ⟨l,fs,o⟩).length (bdH (Bd.put ⟨l,fs,o⟩ (.lf a x)))=true:=Ef _ _ (by rw [Bd.put_len,BT];exact Nat.le_refl _);generalize bdH (Bd.put ⟨l,fs,o⟩ (.lf a x))=H1 at *;have X:=Ep he Cv;have hO:=EV 128 [.ptr 0 0,.agg (ndC (.lf a x))] (bdH ⟨l,fs,o⟩++[some (.box x.c),some (.box (ndC (.lf a x)))]) (.tup []) H3 Bk;generalize orP 128 [.ptr 0 0,.agg (ndC (.lf a x))] (bdH ⟨l,fs,o⟩++[some (.box x.c),some (.box (ndC (.lf a x)))]) (.tup []) H3 Bk=O at X hO;clear he sH uK;have pw:(bdH ⟨l,fs,o⟩).length=2+3*fs.length:=BT _;have c0:AH.at (bdH ⟨l,fs,o⟩) 0=some (.box (Bd.c ⟨l,fs,o⟩)):=rfl;refine CS.of_Tr (c:=Ar Tryz.f83) (H0:=bdH ⟨l,fs,o⟩) (H1:=H1) Tryz.func83 (by kernel_rfl) 0 (by simp [Tryz.f83]) (fun B hB hG => ?_) rfl qB;generalize bdH ⟨l,fs,o⟩=H at *;have pz:0<H.length:=by omega
 simp only [Bd.c] at c0;simp only [Sx.c,lfC,Bd.c,List.cons_append,List.nil_append] at hO;have k0:=fun B=>(Hc H B pz).trans c0
 have j0:=fun B e=>GZ H B e pz
 have s0:=fun B e=>Hd H B e pz
 have s1:=fun B e e'=>He H B e e' pz
 refine Tr.goW X hG (by kernel_rfl) ?_;subst ho;subst hf;simp only [Jg,List.length_nil] at c0 k0;simp only [h1] at hO;simp [-AH.at,Tryz.f83,c0,k0,j0,s0,s1,DI,Db,F4,F5,F6,F7,GX,GY,Sx.c,hO,qW,h1]
theorem ld (l:List Nd) (fs:List Fr) (o:Bool) (x:Sx) (a:Int) (h6:x.kind=6) (hf:fs=[]) (hd:fs.length≤8) :
  CS zP AY 83 [.ptr 0 0,.agg x.c,.int .i64 a] (bdH ⟨l,fs,o⟩) (Bl 12) (bdH ⟨l,fs,true⟩):=by
 have qB:AP (bdH ⟨l,fs,o⟩).length (bdH ⟨l,fs,true⟩)=true:=Ef _ _ (by rw [BT];exact Nat.le_refl _);have hO:bdH ⟨l,fs,true⟩=(bdH ⟨l,fs,o⟩).set 0 (some (.box (Bd.c ⟨l,fs,true⟩))):=rfl;have X:CxW Bk zP AY []:=Cv;have pw:(bdH ⟨l,fs,o⟩).length=2+3*fs.length:=BT _;have c0:AH.at (bdH ⟨l,fs,o⟩) 0=some (.box (Bd.c ⟨l,fs,o⟩)):=rfl;refine CS.of_Tr (c:=Ar Tryz.f83) (H0:=bdH ⟨l,fs,o⟩) (H1:=bdH ⟨l,fs,true⟩) Tryz.func83 (by kernel_rfl) 0 (by simp [Tryz.f83]) (fun B hB hG => ?_) rfl qB;rw [hO];have qW:∀(H:AH) e B,(H.set 0 e++B).take H.length=H.set 0 e:=fun H e B=>List.take_left' (by rw [List.length_set])
 have t7:∀(H B:AH),(H++B).take H.length=H:=fun H B=>List.take_left' rfl
 generalize bdH ⟨l,fs,o⟩=H at *;have pz:0<H.length:=by omega
 simp only [Bd.c] at c0;simp only [Sx.c,lfC,Bd.c,List.cons_append,List.nil_append] at hO;have k0:=fun B=>(Hc H B pz).trans c0
 have j0:=fun B e=>GZ H B e pz
 have s0:=fun B e=>Hd H B e pz
 have s1:=fun B e e'=>He H B e e' pz
 refine Tr.goW X hG (by kernel_rfl) ?_;subst hf;simp only [Jg,List.length_nil] at c0 k0;simp [-AH.at,Tryz.f83,c0,k0,j0,s0,s1,DI,Db,F4,F5,F6,F7,GX,GY,Sx.c,hO,qW,t7,Bl,h6];rfl
theorem lg (l:List Nd) (fs:List Fr) (o:Bool) (x:Sx) (a:Int) (h6:x.kind=6) (hf:∃f r,fs=f::r∧(f.st.kind≠5∨0≤f.mid)) (hd:fs.length≤8) :
  CS zP AY 83 [.ptr 0 0,.agg x.c,.int .i64 a] (bdH ⟨l,fs,o⟩) (Bl 12) (bdH ⟨l,fs,true⟩):=by
 have qB:AP (bdH ⟨l,fs,o⟩).length (bdH ⟨l,fs,true⟩)=true:=Ef _ _ (by rw [BT];exact Nat.le_refl _);have hO:bdH ⟨l,fs,true⟩=(bdH ⟨l,fs,o⟩).set 0 (some (.box (Bd.c ⟨l,fs,true⟩))):=rfl;have X:CxW Bk zP AY []:=Cv;have pw:(bdH ⟨l,fs,o⟩).length=2+3*fs.length:=BT _;have c0:AH.at (bdH ⟨l,fs,o⟩) 0=some (.box (Bd.c ⟨l,fs,o⟩)):=rfl;have hf':=hf;obtain ⟨f,r,rfl,hf⟩:=hf;have cF:=F3 l f r o [];rw [List.append_nil] at cF;simp only [Fr.c,Fr.pre,Sx.c,List.cons_append,List.nil_append] at cF;refine CS.of_Tr (c:=Ar Tryz.f83) (H0:=bdH ⟨l,f::r,o⟩) (H1:=bdH ⟨l,f::r,true⟩) Tryz.func83 (by kernel_rfl) 0 (by simp [Tryz.f83]) (fun B hB hG => ?_) rfl qB;rw [hO];have qW:∀(H:AH) e B,(H.set 0 e++B).take H.length=H.set 0 e:=fun H e B=>List.take_left' (by rw [List.length_set])
 have t7:∀(H B:AH),(H++B).take H.length=H:=fun H B=>List.take_left' rfl
 generalize bdH ⟨l,f::r,o⟩=H at *;have pz:0<H.length:=by omega
 simp only [Bd.c] at c0;simp only [Sx.c,lfC,Bd.c,List.cons_append,List.nil_append] at hO;have k0:=fun B=>(Hc H B pz).trans c0
 have j0:=fun B e=>GZ H B e pz
 have s0:=fun B e=>Hd H B e pz
 have s1:=fun B e e'=>He H B e e' pz
 refine Tr.goW X hG (by kernel_rfl) ?_;simp only [Jf,List.length_cons] at c0 k0;simp only [List.length_cons] at pw hd;have t6:2+3*r.length<H.length:=by omega
 have wM:2+3*r.length≠0:=by omega
 have kF:=fun B=>(Fa (A:=H) (B:=B) t6).trans cF
 have jF:=fun B e=>(Lf (H:=H) B e t6 wM).trans cF
 by_cases hk:f.st.kind=5
 ·have qx:0≤f.mid:=by rcases hf with h|h;exact absurd hk h;exact h
  simp [-AH.at,Tryz.f83,c0,k0,j0,s0,s1,DI,Db,F4,F5,F6,F7,GX,GY,Sx.c,hO,qW,t7,Bl,h6,cF,kF,jF,hk,qx];rfl
 ·simp [-AH.at,Tryz.f83,c0,k0,j0,s0,s1,DI,Db,F4,F5,F6,F7,GX,GY,Sx.c,hO,qW,t7,Bl,h6,cF,kF,jF,hk]
  rfl
theorem lh (l:List Nd) (fs:List Fr) (o:Bool) (x:Sx) (a:Int) (h3:x.kind=3∨x.kind=5) (hf:fs.length=8) (hd:fs.length≤8) :
  CS zP AY 83 [.ptr 0 0,.agg x.c,.int .i64 a] (bdH ⟨l,fs,o⟩) (Bl 4) (bdH ⟨l,fs,true⟩):=by
 have qB:AP (bdH ⟨l,fs,o⟩).length (bdH ⟨l,fs,true⟩)=true:=Ef _ _ (by rw [BT];exact Nat.le_refl _);have hO:bdH ⟨l,fs,true⟩=(bdH ⟨l,fs,o⟩).set 0 (some (.box (Bd.c ⟨l,fs,true⟩))):=rfl;have X:CxW Bk zP AY []:=Cv;have pw:(bdH ⟨l,fs,o⟩).length=2+3*fs.length:=BT _;have c0:AH.at (bdH ⟨l,fs,o⟩) 0=some (.box (Bd.c ⟨l,fs,o⟩)):=rfl;refine CS.of_Tr (c:=Ar Tryz.f83) (H0:=bdH ⟨l,fs,o⟩) (H1:=bdH ⟨l,fs,true⟩) Tryz.func83 (by kernel_rfl) 0 (by simp [Tryz.f83]) (fun B hB hG => ?_) rfl qB;rw [hO];have qW:∀(H:AH) e B,(H.set 0 e++B).take H.length=H.set 0 e:=fun H e B=>List.take_left' (by rw [List.length_set])
 have t7:∀(H B:AH),(H++B).take H.length=H:=fun H B=>List.take_left' rfl
 generalize bdH ⟨l,fs,o⟩=H at *;have pz:0<H.length:=by omega
 simp only [Bd.c] at c0;simp only [Sx.c,lfC,Bd.c,List.cons_append,List.nil_append] at hO;have k0:=fun B=>(Hc H B pz).trans c0
 have j0:=fun B e=>GZ H B e pz
 have s0:=fun B e=>Hd H B e pz
 have s1:=fun B e e'=>He H B e e' pz
 refine Tr.goW X hG (by kernel_rfl) ?_;have uY:(fs.length:Int)=8:=by omega
 have e8:Bd.c ⟨l,fs,true⟩=[ndE.tk 1 l,upC fs.length,.int .i64 8,.bool true]:=by simp only [Bd.c,uY]
 rw [e8];rcases h3 with h3|h3
 all_goals
  simp [-AH.at,Tryz.f83,c0,k0,j0,s0,s1,DI,Db,F4,F5,F6,F7,GX,GY,Sx.c,hO,qW,t7,Bl,h3,uY]
theorem li (l:List Nd) (fs:List Fr) (o:Bool) (x:Sx) (a:Int) (h1:x.kind=1) (hf:o=true∨fs≠[]) (hd:fs.length≤8) :
  CS zP AY 83 [.ptr 0 0,.agg x.c,.int .i64 a] (bdH ⟨l,fs,o⟩) (Bl 2) (bdH ⟨l,fs,o⟩):=by
 have qB:AP (bdH ⟨l,fs,o⟩).length (bdH ⟨l,fs,o⟩)=true:=Ef _ _ (by rw [BT];exact Nat.le_refl _);have hO:bdH ⟨l,fs,o⟩=bdH ⟨l,fs,o⟩:=rfl;have X:CxW Bk zP AY []:=Cv;have pw:(bdH ⟨l,fs,o⟩).length=2+3*fs.length:=BT _;have c0:AH.at (bdH ⟨l,fs,o⟩) 0=some (.box (Bd.c ⟨l,fs,o⟩)):=rfl;refine CS.of_Tr (c:=Ar Tryz.f83) (H0:=bdH ⟨l,fs,o⟩) (H1:=bdH ⟨l,fs,o⟩) Tryz.func83 (by kernel_rfl) 0 (by simp [Tryz.f83]) (fun B hB hG => ?_) rfl qB;rw [hO];have qW:∀(H:AH) e B,(H.set 0 e++B).take H.length=H.set 0 e:=fun H e B=>List.take_left' (by rw [List.length_set])
 have t7:∀(H B:AH),(H++B).take H.length=H:=fun H B=>List.take_left' rfl
 generalize bdH ⟨l,fs,o⟩=H at *;have pz:0<H.length:=by omega
 simp only [Bd.c] at c0;simp only [Sx.c,lfC,Bd.c,List.cons_append,List.nil_append] at hO;have k0:=fun B=>(Hc H B pz).trans c0
 have j0:=fun B e=>GZ H B e pz
 have s0:=fun B e=>Hd H B e pz
 have s1:=fun B e e'=>He H B e e' pz
 refine Tr.goW X hG (by kernel_rfl) ?_;cases o with
 | true=>simp [-AH.at,Tryz.f83,c0,k0,j0,s0,s1,DI,Db,F4,F5,F6,F7,GX,GY,Sx.c,hO,qW,t7,Bl,h1]
 | false =>
  obtain ⟨d,qD⟩:∃d,fs.length=d+1:=by
   cases fs with
   | nil=>simp at hf
   | cons f r=>exact ⟨r.length,rfl⟩
  simp only [qD,Jf] at c0 k0;simp [-AH.at,Tryz.f83,c0,k0,j0,s0,s1,DI,Db,F4,F5,F6,F7,GX,GY,Sx.c,hO,qW,t7,Bl,h1]
theorem lj (l:List Nd) (f:Fr) (r:List Fr) (o:Bool) (x:Sx) (a:Int) (h6:x.kind=6) (hk:f.st.kind=5) (qx:f.mid<0) (hd:r.length<8) :
  CS zP AY 83 [.ptr 0 0,.agg x.c,.int .i64 a] (bdH ⟨l,f::r,o⟩) .nilIface (bdH ⟨l,{f with mid:=a}::r,true⟩):=by
 have qB:AP (bdH ⟨l,f::r,o⟩).length (bdH ⟨l,{f with mid:=a}::r,true⟩)=true:=Ef _ _ (by rw [BT];exact Nat.le_refl _)
 have sG:((bdH ⟨l,f::r,o⟩).set 0 (some (.box (Bd.c ⟨l,f::r,true⟩)))).set (2+3*r.length) (some (.box (Fr.c r.length {f with mid:=a})))=bdH ⟨l,{f with mid:=a}::r,true⟩:=by
  rw [Qm];have h1:bdH ⟨l,f::r,true⟩=(some (.box (Bd.c ⟨l,f::r,true⟩))::AW l::frH r)++f.h r.length:=by simp [bdH,frH]
  rw [h1,List.set_append_right _ _ (by simp [Ik];omega)];have h2:(2+3*r.length)-(some (Ent.box (Bd.c ⟨l,f::r,true⟩))::AW l::frH r).length=0:=by simp [Ik];omega
  rw [h2];simp [bdH,frH,Fr.h];rfl
 obtain ⟨H1,hO⟩:∃H1,H1=bdH ⟨l,{f with mid:=a}::r,true⟩:=⟨_,rfl⟩
 rw [←hO] at sG qB ⊢;have X:CxW Bk zP AY []:=Cv;have pw:(bdH ⟨l,f::r,o⟩).length=2+3*(f::r).length:=BT _;have c0:AH.at (bdH ⟨l,f::r,o⟩) 0=some (.box (Bd.c ⟨l,f::r,o⟩)):=rfl;have cF:=F3 l f r o [];rw [List.append_nil] at cF;simp only [Fr.c,Fr.pre,Sx.c,List.cons_append,List.nil_append] at cF sG;refine CS.of_Tr (c:=Ar Tryz.f83) (H0:=bdH ⟨l,f::r,o⟩) (H1:=H1) Tryz.func83 (by kernel_rfl) 0 (by simp [Tryz.f83]) (fun B hB hG => ?_) rfl qB;clear hO qB;generalize bdH ⟨l,f::r,o⟩=H at *;have pz:0<H.length:=by omega
 simp only [Bd.c,Jf,List.length_cons] at c0 sG;have k0:=fun B=>(Hc H B pz).trans c0
 have j0:=fun B e=>GZ H B e pz
 have s0:=fun B e=>Hd H B e pz
 have s1:=fun B e e'=>He H B e e' pz
 simp only [List.length_cons] at pw;have t6:2+3*r.length<H.length:=by omega
 have wM:2+3*r.length≠0:=by omega
 have kF:=fun B=>(Fa (A:=H) (B:=B) t6).trans cF
 have jF:=fun B e=>(Lf (H:=H) B e t6 wM).trans cF
 have sF:∀B e e',(H.set 0 e++B).set (2+3*r.length) e'=(H.set 0 e).set (2+3*r.length) e'++B:=fun B e e'=>List.set_append_left _ _ (by rw [List.length_set];exact t6)
 have tF:∀B e e',((H.set 0 e).set (2+3*r.length) e'++B).take H.length=(H.set 0 e).set (2+3*r.length) e':=fun B e e'=>List.take_left' (by rw [List.length_set,List.length_set])
 have hm0:¬0≤f.mid:=by omega
 have ec:(((r.length+1:Nat):Int))=(r.length:Int)+1:=rfl;have qz:H1.length=H.length:=by rw [←sG];simp
 have tH:∀B,(H1++B).take H.length=H1:=fun B=>List.take_left' qz
 simp only [hk,ec] at sG cF kF jF;refine Tr.goW X hG (by kernel_rfl) ?_;simp [-AH.at,Tryz.f83,c0,k0,j0,s0,s1,kF,jF,sF,tF,cF,DI,Db,F4,F5,F6,F7,GX,GY,Sx.c,h6,hk,qx,hm0,sG,tH]
theorem lk (l:List Nd) (fs:List Fr) (o:Bool) (x:Sx) (a:Int) (h3:x.kind=3∨x.kind=5) (hd:fs.length<8) :
  CS zP AY 83 [.ptr 0 0,.agg x.c,.int .i64 a] (bdH ⟨l,fs,o⟩) .nilIface (bdH ⟨l,⟨a,a,x,[],[],-1⟩::fs,true⟩):=by
 have qB:AP ((bdH ⟨l,fs,o⟩).length+3) (bdH ⟨l,⟨a,a,x,[],[],-1⟩::fs,true⟩)=true:=Ef _ _ (by rw [BT];simp only [List.length_cons];omega);have pw:(bdH ⟨l,fs,o⟩).length=2+3*fs.length:=BT _;obtain ⟨N,hN⟩:∃N,(bdH ⟨l,fs,o⟩).length=N:=⟨_,rfl⟩
 have c0:AH.at (bdH ⟨l,fs,o⟩) 0=some (.box (Bd.c ⟨l,fs,o⟩)):=rfl;have zAB:bdH ⟨l,⟨a,a,x,[],[],-1⟩::fs,true⟩=(bdH ⟨l,fs,o⟩).set 0 (some (.box (Bd.c ⟨l,⟨a,a,x,[],[],-1⟩::fs,true⟩)))++[some (.box (Fr.c fs.length ⟨a,a,x,[],[],-1⟩)),none,none]:=by simp [bdH,frH,Fr.h]
 have hX:Cx Bk zP AY:=CG;have X:CxW Bk zP AY []:=Cv;refine CS.of_TrN (c:=Ar Tryz.f83) (H0:=bdH ⟨l,fs,o⟩) (H1:=bdH ⟨l,⟨a,a,x,[],[],-1⟩::fs,true⟩) ((bdH ⟨l,fs,o⟩).length+3) (by omega) Tryz.func83 (by kernel_rfl) 0 (by simp [Tryz.f83]) (fun B hB hG => ?_) rfl qB;refine Tr.post ?_;rw [zAB] at qB ⊢;simp only [Bd.c,Fr.c,Fr.pre,Sx.c,List.length_cons,List.cons_append,List.nil_append,Jf,Enc.tk_nil] at c0 qB ⊢;have hHl:AP (bdH ⟨l,fs,o⟩).length (bdH ⟨l,fs,o⟩)=true:=Ef _ _ (by rw [BT];exact Nat.le_refl _);generalize bdH ⟨l,fs,o⟩=H at *;have pz:0<H.length:=by omega
 have k0:=fun B=>(Hc H B pz).trans c0
 have j0:=fun B e=>GZ H B e pz
 have s0:=fun B e=>Hd H B e pz
 have s1:=fun B e e'=>He H B e e' pz
 have rq:=Ql (d:=fs.length) (n:=H.length) (by omega);have ec:(((fs.length+1:Nat):Int))=(fs.length:Int)+1:=rfl;have uY:¬(fs.length:Int)=8:=by omega
 have w1:IntKind.i64.wrap ((fs.length:Int)+1)=(fs.length:Int)+1:=Ab (by omega) (by omega);refine Tr.goW X hG (by kernel_rfl) ?_;rcases h3 with h3|h3
 all_goals
  simp [-AH.at,Tryz.f83,c0,k0,j0,s0,s1,DI,Db,F4,F5,F6,F7,GX,GY,Sx.c,h3,uY,w1];refine LpD.turnsW hX hG [7,10] [(0,7)] (by kernel_rfl) ?_;simp [-AH.at,c0,k0,j0,s0,s1,DI,Db,F4,F5,F6,F7,GX,GY];refine ⟨mkT 112 [(6,.nilIface)],_,?_,by simp,List.take_of_length_le (by simp)⟩;exact lZ hB pw.symm (by omega) hHl (by simp) l _ _ (by simp [rq]) _ _
theorem ll (s:Bd) (x:Sx) (a:Int) {m:Nat} (hs:s.ok m) (hm:m<137438953472) (hd:s.fs.length≤8) :
  ∃X:AH,CS zP AY 83 [.ptr 0 0,.agg x.c,.int .i64 a] (bdH s) (Bl (s.add x a).2) (bdH (s.add x a).1++X)∧(bdH s).length≤(bdH (s.add x a).1++X).length∧AP (bdH (s.add x a).1++X).length (bdH (s.add x a).1++X)=true:=by
 have nil:∀{s':Bd} {c:Nat},s.add x a=(s',c)→(bdH s).length≤(bdH s').length→CS zP AY 83 [.ptr 0 0,.agg x.c,.int .i64 a] (bdH s) (Bl c) (bdH s') →
   ∃X:AH,CS zP AY 83 [.ptr 0 0,.agg x.c,.int .i64 a] (bdH s) (Bl (s.add x a).2) (bdH (s.add x a).1++X)∧(bdH s).length≤(bdH (s.add x a).1++X).length∧AP (bdH (s.add x a).1++X).length (bdH (s.add x a).1++X)=true:=by
  intro s' c he hl h;refine ⟨[],?_⟩;rw [he,List.append_nil];exact ⟨h,hl,Ef _ _ (by rw [BT];exact Nat.le_refl _)⟩
 obtain ⟨l,fs,o⟩:=s
 have fin:∀k:Int,(x.kind=4∧k=3∨x.kind=7∧k=5)→Bd.add ⟨l,fs,o⟩ x a=Bd.fin ⟨l,fs,true⟩ k a →
   ∃X:AH,CS zP AY 83 [.ptr 0 0,.agg x.c,.int .i64 a] (bdH ⟨l,fs,o⟩) (Bl (Bd.add ⟨l,fs,o⟩ x a).2) (bdH (Bd.add ⟨l,fs,o⟩ x a).1++X)∧(bdH ⟨l,fs,o⟩).length≤(bdH (Bd.add ⟨l,fs,o⟩ x a).1++X).length∧AP (bdH (Bd.add ⟨l,fs,o⟩ x a).1++X).length (bdH (Bd.add ⟨l,fs,o⟩ x a).1++X)=true:=by
  intro k hk he;refine ⟨Fd ⟨l,fs,true⟩ k,?_⟩;rw [he];have h1:=fin_len ⟨l,fs,true⟩ k a;refine ⟨la l fs o x a k hk hs hm hd,by rw [h1,BT,BT];exact Nat.le_refl _,?_⟩;rw [h1,IB,Ef _ _ (by have:=Bd.fin_len ⟨l,fs,true⟩ k a;rw [BT];simp only at this ⊢;omega)];cases fs with
  | nil=>rfl
  | cons f r =>
   simp only [Fd]
   split
   ·rw [Nj _ _ _ (by rw [BT];simp only [List.length_cons];omega)];rfl
   ·rfl
 have mk1:x.kind≠1→Bd.mark ⟨l,fs,o⟩ x=⟨l,fs,true⟩:=fun h=>by unfold Bd.mark;rw [if_neg h]
 have mk0:x.kind=1→Bd.mark ⟨l,fs,o⟩ x=⟨l,fs,o⟩:=fun h=>by unfold Bd.mark;rw [if_pos h]
 by_cases h4:x.kind=4
 ·exact fin 3 (.inl ⟨h4,rfl⟩) (by simp [Bd.add,h4,mk1 (by omega)])
 by_cases h7:x.kind=7
 ·exact fin 5 (.inr ⟨h7,rfl⟩) (by simp [Bd.add,h7,mk1 (by omega)])
 by_cases h6:x.kind=6
 ·cases fs with
  | nil=>exact nil (s':=⟨l,[],true⟩) (c:=12) (by simp [Bd.add,h6,mk1 (by omega)]) (by rw [BT,BT];exact Nat.le_refl _) (ld l [] o x a h6 rfl hd)
  | cons f r =>
   by_cases hc:f.st.kind=5∧f.mid<0
   ·exact nil (s':=⟨l,{f with mid:=a}::r,true⟩) (c:=0) (by simp [Bd.add,h6,mk1 (by omega),hc]) (by rw [BT,BT];exact Nat.le_refl _) (lj l f r o x a h6 hc.1 hc.2 (by simp only [List.length_cons] at hd;omega))
   ·exact nil (s':=⟨l,f::r,true⟩) (c:=12) (by simp [Bd.add,h6,mk1 (by omega)];intro h1;have:¬f.mid<0:=fun h2=>hc ⟨h1,h2⟩;omega) (by rw [BT,BT];exact Nat.le_refl _)
     (lg l (f::r) o x a h6 ⟨f,r,rfl,by
      by_cases h5:f.st.kind=5
      ·exact .inr (by have:¬f.mid<0:=fun hm=>hc ⟨h5,hm⟩;omega)
      ·exact .inl h5⟩ hd)
 by_cases h3:x.kind=3∨x.kind=5
 ·have sc:=mk1 (by rcases h3 with h|h<;>rw [h]<;>decide)
  by_cases h8:fs.length=8
  ·exact nil (s':=⟨l,fs,true⟩) (c:=4) (by simp [Bd.add,h4,h7,h6,h3,sc,h8]) (by rw [BT,BT];exact Nat.le_refl _) (lh l fs o x a h3 h8 hd)
  ·exact nil (s':=⟨l,⟨a,a,x,[],[],-1⟩::fs,true⟩) (c:=0) (by simp [Bd.add,h4,h7,h6,h3,sc,h8]) (by rw [BT,BT];simp only [List.length_cons];omega) (lk l fs o x a h3 (by simp only at hd;omega))
 by_cases h1:x.kind=1
 ·by_cases hl:o=true∨fs≠[]
  ·exact nil (s':=⟨l,fs,o⟩) (c:=2) (by simp [Bd.add,h1,mk0 h1];intro h2 h3;simp [h2,h3] at hl) (Nat.le_refl _) (li l fs o x a h1 hl hd)
  ·have ho:o=false:=by cases o;rfl;simp at hl
   have hf:fs=[]:=by cases fs;rfl;simp at hl
   subst ho;subst hf;exact nil (s':=Bd.put ⟨l,[],false⟩ (.lf a x)) (c:=0) (by simp [Bd.add,h1,mk0 h1]) (by rw [BT,BT,Bd.put_len];exact Nat.le_refl _) (lc l [] false x a h1 rfl rfl hs hm hd)
 ·exact nil (s':=Bd.put ⟨l,fs,true⟩ (.lf a x)) (c:=0) (by simp [Bd.add,h4,h7,h6,h3,h1,mk1 h1]) (by rw [BT,BT,Bd.put_len];exact Nat.le_refl _) (lb l fs o x a h1 (fun h=>h3 (.inl h)) h4 (fun h=>h3 (.inr h)) h6 h7 hs hm hd)
def psB (N:Nat) (i:Nat):Nat:=if i<N then i else i+1
def Io (N:Nat) (e:Option Ent) (H:AH):AH:=(H.take N).map (Option.map (AI (psB N)))++e::(H.drop N).map (Option.map (AI (psB N)))
theorem Vf (N:Nat) (i j:Nat) (h:psB N i=psB N j):i=j:=by unfold psB at h;split at h<;>split at h<;>omega
theorem lm {H:AH} {n i:Nat}:AH.at (List.drop n H) i=H.at (n+i):=by unfold AH.at;rw [List.getElem?_drop]
theorem Vg (N:Nat) (e:Option Ent) (H:AH) (h:N≤H.length) (i:Nat):AH.at (Io N e H) (psB N i)=(H.at i).map (AI (psB N)):=by
 have hn:Option.map (AI (psB N)) none=none:=rfl;have hl:((H.take N).map (Option.map (AI (psB N)))).length=N:=by simp [h]
 unfold Io
 by_cases hi:i<N
 ·have:psB N i=i:=if_pos hi
  rw [this,Fa (by rw [hl];exact hi),PA hn,Gi,if_pos hi]
 ·have:psB N i=i+1:=if_neg hi
  rw [this,G4 (by rw [hl];omega),hl,show i+1-N=(i-N)+1 by omega];have:∀(B:AH) (x:Option Ent) (j:Nat),AH.at (x::B) (j+1)=B.at j:=fun B x j=>rfl
  rw [this,PA hn,lm,show N+(i-N)=i by omega]
theorem ln (N:Nat) (e:Option Ent) (H:AH) (h:N≤H.length):AH.at (Io N e H) N=e:=by
 have hl:((H.take N).map (Option.map (AI (psB N)))).length=N:=by simp [h]
 unfold Io;rw [G4 (by rw [hl];exact Nat.le_refl _),hl,Nat.sub_self];rfl
theorem CS.behind1 {f:FuncId} {args:List AV} {v:AV} {H0 H0':AH} (e:Option Ent) (h:CS zP AY f args H0 v H0') (pv:H0.length≤H0'.length) (ha:lowL H0.length args=true) (hv:low 0 v=true) (hl:AP H0.length H0=true) (hl':AP H0'.length H0'=true) :
  CS zP AY f args (H0++[e]) v (Io H0.length e H0'):=by
 have tG:∀i,i<H0.length→psB H0.length i=i:=fun i hi=>if_pos hi
 have:=CS.grow (k:=H0.length) (n:=H0'.length) (psB H0.length) (H:=H0++[e]) (H':=Io H0.length e H0') h rfl rfl pv (fun i j _ _ h=>Vf _ i j h) DQ ha (CY (Nat.zero_le _) v hv) hl hl' (by
  intro i hi
  rw [tG i hi,Fa hi,FP tG (by
   cases he:H0.at i with
   | none=>rfl
   | some x=>exact IN hl he)]) (by
  intro i h1 h2;have:psB H0.length i=i+1:=if_neg (by omega);rw [this]
  exact Cp (by simp;omega)) (fun i _=>Vg _ e _ pv i) (by
  intro j hj
  by_cases hjN:j=H0.length
  ·subst hjN
   rw [ln _ e _ pv,G4 (Nat.le_refl _),Nat.sub_self];rfl
  ·have h1:H0'.length<j:=by
    rcases Nat.lt_or_ge H0'.length j with h|h
    ·exact h
    ·exfalso
     rcases Nat.lt_or_ge j H0.length with h2|h2
     ·exact hj j (by omega) (tG j h2)
     ·refine hj (j-1) (by omega) ?_
      have:psB H0.length (j-1)=(j-1)+1:=if_neg (by omega);rw [this];omega
   rw [Cp (by simp [Io];omega),Cp (by simp;omega)])
 rwa [FB tG _ ha,FN _ _ hv] at this
noncomputable def DJ (F:AG zP AJ):AG zP AY where
 f:=F.f
 α:=F.α
 ok:=F.ok
 args:=F.args
 out:=F.out
 up:=F.up
 cs:=fun x H h=>⟨CS.toS (F.cs x H h).1,(F.cs x H h).2⟩
 same:=F.same
theorem lp (p:Int) (l:List (List UInt8 × Int)) (c:Int) (H:AH):CS zP AJ 84 [.int .i64 p,AZ l c] H (AZ ((DH,p)::l) c) H:=by refine CS.tr0 BY Tryz.func84 (by kernel_rfl) 0 (by simp [Tryz.f84]) (fun B hB hG => ?_) (by simp) (by simp) H;refine Tr.goD FF hG (by kernel_rfl) ?_;simp [Tryz.f84,AZ,DH]
noncomputable def Nk:AG zP AJ:=AG.pure 84 (fun _:Int × List (List UInt8 × Int) × Int=>True) (fun x=>[.int .i64 x.1,AZ x.2.1 x.2.2]) (fun x=>AZ ((DH,x.1)::x.2.1) x.2.2)
 (fun x _ H=>lp x.1 x.2.1 x.2.2 H) (fun x y _ _ h=>by
  obtain ⟨a,b,c⟩:=x;obtain ⟨a',b',c'⟩:=y;simp only [List.cons.injEq,AV.int.injEq,true_and,and_true] at h;obtain ⟨h1,h2⟩:=Na h.2;simp only
  rw [h.1,h1,h2])
noncomputable def Nl:AG zP AJ:=AG.pure 16 (fun s:List UInt8=>s.length<1000000) (fun s=>[.str s]) (fun s=>G8 (KH (B8 s))) (fun s h H=>lT s h H) (fun x y _ _ h=>by
 simp only [List.cons.injEq,AV.str.injEq,and_true] at h
 rw [h])
theorem Vh {c:Nat} (h:c≠0):Bl c=AZ [] (c:Int):=if_neg h
end Go.Proofs.YtejjlojfgcgopaaGreatDoor
