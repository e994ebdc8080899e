/- The program's trees: the builder's state aS it lies, and put .. The reference's reader of statements: errors aS values; its  -/
import Derived.Test.YtmjfldclpijghaaGreatDoorZt7
set_option linter.unusedSimpArgs false
set_option linter.unusedVariables false
namespace Go.Proofs.YtmjfldclpijghaaGreatDoor
open Go.RowKit Go.Proofs.Fw
set_option maxRecDepth 100000
set_option maxHeartbeats 4000000
structure Fr where
 line:Int
 end_:Int
 st:Sx
 body:List Nd
 els:List Nd
 mid:Int
def Fr.nd (f:Fr):Nd := .mk f.line f.end_ f.st f.body f.els f.mid
def Fr.pre (f:Fr):List AV := .int .i64 f.line :: .int .i64 f.end_::f.st.c
def upC:Nat→AV
 |0 => .nilPtr
 |n+1 => .ptr (2+3*n) 0
def Fr.c (d:Nat) (f:Fr):List AV:=f.pre++[ndE.tk (3+3*d) f.body,ndE.tk (4+3*d) f.els,.int .i64 f.mid,upC d]
def Fr.h (d:Nat) (f:Fr):AH:=[some (.box (f.c d)),AO f.body,AO f.els]
def frH:List Fr→AH
 |[]=>[]
 |f::r=>frH r++f.h r.length
structure Bd where
 l:List Nd
 fs:List Fr
 o:Bool
def Bd.c (s:Bd):List AV:=[ndE.tk 1 s.l,upC s.fs.length,.int .i64 (s.fs.length:Int),.bool s.o]
def bdH (s:Bd):AH:=some (.box s.c)::AO s.l::frH s.fs
def Fr.put (f:Fr) (n:Nd):Fr:=if 0≤f.mid then {f with els:=f.els++[n]} else {f with body:=f.body++[n]}
def Bd.put (s:Bd) (n:Nd):Bd:=match s.fs with
 |[]=>{s with l:=s.l++[n]}
 |f::r=>{s with fs:=f.put n::r}
def Fr.ok (m:Nat) (f:Fr):Prop:=f.body.length≤m∧f.els.length≤m
def Bd.ok (m:Nat) (s:Bd):Prop:=s.l.length≤m∧∀f∈s.fs,f.ok m
theorem Bd.put_ok {m:Nat} {s:Bd} (h:s.ok m) (n:Nd):(s.put n).ok (m+1):=by
 obtain ⟨l,fs,o⟩:=s;obtain ⟨h1,h2⟩:=h;cases fs with
 |nil =>simp only [Bd.put];exact ⟨by simp only [List.length_append,List.length_cons,List.length_nil] at h1 ⊢;omega,fun f hf=>by cases hf⟩
 |cons f r =>
  simp only [Bd.put];refine ⟨by simp only at h1 ⊢;omega,fun g hg => ?_⟩;rcases List.mem_cons.1 hg with rfl|hg
  ·have h3:=h2 f List.mem_cons_self
   unfold Fr.ok at h3 ⊢;unfold Fr.put
   split<;>simp only [List.length_append,List.length_cons,List.length_nil]<;>omega
  ·have h3:=h2 g (List.mem_cons_of_mem _ hg)
   unfold Fr.ok at h3 ⊢;omega
theorem Bd.ok_mono {m n:Nat} (qK:m≤n) {s:Bd} (h:s.ok m):s.ok n:=⟨by have:=h.1;omega,fun f hf=>by have:=h.2 f hf;unfold Fr.ok at this ⊢;omega⟩
theorem Ik:∀r:List Fr,(frH r).length=3*r.length
 |[]=>rfl
 |f::r=>by simp only [frH,List.length_append,Ik r,Fr.h,List.length_cons,List.length_nil];omega
theorem Fr.pre_len (f:Fr):f.pre.length=31:=rfl
theorem Fr.pre_low (f:Fr):lowL 0 f.pre=true:=by have:=Sx.c_low f.st;simp [Fr.pre,this]
theorem Fr.c_len (d:Nat) (f:Fr):(f.c d).length=35:=rfl
theorem Gy {A B:AH} {i:Nat} (h:i<A.length):AH.at (A++B) i=A.at i:=by unfold AH.at;rw [List.getElem?_append_left h]
theorem FO {A B:AH} {i:Nat} (h:A.length≤i):AH.at (A++B) i=B.at (i-A.length):=by unfold AH.at;rw [List.getElem?_append_right h]
theorem P3 (l:List Nd) (f:Fr) (r:List Fr) (o:Bool) (K:AH):bdH ⟨l,f::r,o⟩++K=([some (.box (Bd.c ⟨l,f::r,o⟩)),AO l]++frH r)++(f.h r.length++K):=by simp [bdH,frH]
theorem LW (l:List Nd) (f:Fr) (r:List Fr) (o:Bool) (K:AH) (i:Nat):(bdH ⟨l,f::r,o⟩++K).at (2+3*r.length+i)=(f.h r.length++K).at i:=by
 rw [P3,FO (by simp [Ik];omega)]
 congr 1
 simp [Ik];omega
theorem Hz (l:List Nd) (f:Fr) (r:List Fr) (o:Bool) (K:AH):(bdH ⟨l,f::r,o⟩++K).at (2+3*r.length)=some (.box (f.c r.length)):=LW l f r o K 0
theorem P6 (l:List Nd) (f:Fr) (r:List Fr) (o:Bool) (K:AH):(bdH ⟨l,f::r,o⟩++K).at (3+3*r.length)=AO f.body:=by have:=LW l f r o K 1;rw [show 3+3*r.length=2+3*r.length+1 by omega,this];rfl
theorem P7 (l:List Nd) (f:Fr) (r:List Fr) (o:Bool) (K:AH):(bdH ⟨l,f::r,o⟩++K).at (4+3*r.length)=AO f.els:=by have:=LW l f r o K 2;rw [show 4+3*r.length=2+3*r.length+2 by omega,this];rfl
theorem Dm (l:List Nd) (f:Fr) (r:List Fr) (o:Bool) (K:AH):(bdH ⟨l,f::r,o⟩++K).length=5+3*r.length+K.length:=by rw [P3];simp [Ik,Fr.h];omega
theorem NC (l:List Nd) (f f':Fr) (r:List Fr) (o:Bool) (K:AH) {j:Nat} (h1:j≠2+3*r.length) (h2:j=3+3*r.length→AO f'.body=AO f.body) (h3:j=4+3*r.length→AO f'.els=AO f.els) :
  (bdH ⟨l,f'::r,o⟩++K).at j=(bdH ⟨l,f::r,o⟩++K).at j:=by
 rcases Nat.lt_or_ge j (2+3*r.length) with h|h
 ·have e:∀g:Fr,(bdH ⟨l,g::r,o⟩++K).at j=AH.at ([some (.box (Bd.c ⟨l,g::r,o⟩)),AO l]++frH r) j:=fun g=>by rw [P3,Gy (by simp [Ik];omega)]
  rw [e f',e f];rfl
 ·obtain ⟨i,rfl⟩:=Nat.exists_eq_add_of_le h
  rw [LW,LW];rcases (by omega:i=0∨i=1∨i=2∨3≤i) with rfl|rfl|rfl|hi
  ·exact absurd rfl h1
  ·exact h2 (by omega)
  ·exact h3 (by omega)
  ·rw [FO (show (f'.h r.length).length≤i from hi),FO (show (f.h r.length).length≤i from hi)]
   rfl
theorem Dn (φ:Nat→Nat):∀a b:List AV,AL φ (a++b)=AL φ a++AL φ b
 |[],b=>rfl
 |x::a,b=>by simp [AL,Dn φ a b]
def By (N d T2 T:Nat) (i:Nat):Nat:=if i=0 then 0 else if i=1 then 2+3*d else if i=2 then 1 else if i=3 then (if d=0 then N else 3*d-1) else if i=4 then T2 else T
theorem pB0 {N d T2 T:Nat}:By N d T2 T 0=0:=rfl
theorem pB1 {N d T2 T:Nat}:By N d T2 T 1=2+3*d:=rfl
theorem pB2 {N d T2 T:Nat}:By N d T2 T 2=1:=rfl
theorem pB4 {N d T2 T:Nat}:By N d T2 T 4=T2:=rfl
theorem pB5 {N d T2 T:Nat}:By N d T2 T 5=T:=rfl
theorem Uc {N d T2 T:Nat} (h:(T2=3+3*d∧T=4+3*d)∨(T2=4+3*d∧T=3+3*d)) (hN:5+3*d≤N):∀i j,i<6→j<6→By N d T2 T i=By N d T2 T j→i=j:=by intro i j hi hj he;unfold By at he;rcases (by omega:i=0∨i=1∨i=2∨i=3∨i=4∨i=5) with rfl|rfl|rfl|rfl|rfl|rfl<;>rcases (by omega:j=0∨j=1∨j=2∨j=3∨j=4∨j=5) with rfl|rfl|rfl|rfl|rfl|rfl<;>simp at he ⊢ <;> (try split at he)<;>omega
theorem iS (l:List Nd) (f:Fr) (r:List Fr) (o:Bool) (n:Nd) (K:AH) (pg:f.mid<0) (hm:f.body.length<137438953472) :
  CS zP A7 65 [.ptr 0 0,.agg (ndC n)] (bdH ⟨l,f::r,o⟩++K) (.tup []) (bdH ⟨l,{f with body:=f.body++[n]}::r,o⟩++K):=by
 generalize hf':({f with body:=f.body++[n]}:Fr)=f';have hN:=Dm l f r o K;have hN':=Dm l f' r o K;have e1:f'.body=f.body++[n]:=by subst hf';rfl
 have e2:f'.els=f.els:=by subst hf';rfl
 have e3:f'.pre=f.pre:=by subst hf';rfl
 have e4:f'.mid=f.mid:=by subst hf';rfl
 have uR:=Uc (N:=(bdH ⟨l,f::r,o⟩++K).length) (d:=r.length) (T2:=(4+3*r.length)) (T:=(3+3*r.length)) (by omega) (by omega);have six:∀{i:Nat},i<6→i=0∨i=1∨i=2∨i=3∨i=4∨i=5:=fun h=>by omega
 have low6:=fun (l:List AV) (h:lowL 0 l=true) (m:Nat)=>Am (Nat.zero_le m) l h
 have q8:ren (By (bdH ⟨l,f::r,o⟩++K).length r.length (4+3*r.length) (3+3*r.length)) (if r.length=0 then .nilPtr else .ptr 3 0)=upC r.length:=by
  cases hd:r.length with
  |zero=>rfl
  |succ d =>simp [ren,upC,By];omega
 have qG:∀f0:Fr,∀i,i∈[0,2+3*r.length,(3+3*r.length)]→(mask (bdH ⟨l,f0::r,o⟩++K) [0,2+3*r.length,(3+3*r.length)]).at i=(bdH ⟨l,f0::r,o⟩++K).at i:=fun f0 i hi=>Ge hi
 have qA:∀f0:Fr,∀i,i ∉ [0,2+3*r.length,(3+3*r.length)]→i<5+3*r.length→(mask (bdH ⟨l,f0::r,o⟩++K) [0,2+3*r.length,(3+3*r.length)]).at i=some .hid:=fun f0 i hi hl=>I9 hi (by rw [Dm];omega)
 have vw:∀f0:Fr,(mask (bdH ⟨l,f0::r,o⟩++K) [0,2+3*r.length,(3+3*r.length)]).at (bdH ⟨l,f::r,o⟩++K).length=none:=fun f0=>C7 (by rw [GY,Dm,Dm];omega)
 have g3:∀f0:Fr,(mask (bdH ⟨l,f0::r,o⟩++K) [0,2+3*r.length,(3+3*r.length)]).at (By (bdH ⟨l,f::r,o⟩++K).length r.length (4+3*r.length) (3+3*r.length) 3)=Option.map (AI (By (bdH ⟨l,f::r,o⟩++K).length r.length (4+3*r.length) (3+3*r.length))) (if r.length=0 then none else some .hid):=by
  intro f0
  by_cases hd:r.length=0
  ·have:By (bdH ⟨l,f::r,o⟩++K).length r.length (4+3*r.length) (3+3*r.length) 3=(bdH ⟨l,f::r,o⟩++K).length:=by simp [By,hd]
   rw [this,vw,if_pos hd];rfl
  ·have:By (bdH ⟨l,f::r,o⟩++K).length r.length (4+3*r.length) (3+3*r.length) 3=3*r.length-1:=by simp [By,hd]
   rw [this,if_neg hd,qA f0 _ (by simp<;>omega) (by omega)];rfl
 by_cases h0:f.body=[]
 all_goals
  first
  |have e:f.body=[]:=h0
   have hs:=iN (ndC n) f.pre (ndE.tk 2 l) (ndE.tk 4 f.els) (if r.length=0 then .nilPtr else .ptr 3 0) (some .hid) (if r.length=0 then none else some .hid) (some .hid) f.mid pg f.pre_len (HQ n) (Hy n) (Co n) (Enc.tk_low _ (by decide) _) (Enc.tk_low _ (by decide) _) (by split<;>rfl) f.pre_low rfl (by split<;>rfl) rfl ((f::r).length:Int) o
   have:=CS.graft (k:=5) (n:=6) (By (bdH ⟨l,f::r,o⟩++K).length r.length (4+3*r.length) (3+3*r.length)) [0,2+3*r.length,(3+3*r.length)] (H:=bdH ⟨l,f::r,o⟩++K) (H':=bdH ⟨l,f'::r,o⟩++K) hs rfl rfl (by decide) uR HS (by simp [low6 _ (Co n)]) rfl
    (by simp [AU,At,Dd,low6 _ f.pre_low,Enc.tk_low]<;>split<;>simp [low])
    (by simp [AU,At,Dd,low6 _ f.pre_low,Enc.tk_low,low6 _ (Co n)]<;>split<;>simp [low]) (by rw [Dm,Dm]) ?_ ?_ ?_ ?_ ?_
  |have hs:=iO (ndC n) f.pre (ndE.row f.body) f.body.length hm (ndE.row_low _) (ndE.tk 2 l) (ndE.tk 4 f.els) (if r.length=0 then .nilPtr else .ptr 3 0) (some .hid) (if r.length=0 then none else some .hid) (some .hid) f.mid pg f.pre_len (HQ n) (Hy n) (Co n) (Enc.tk_low _ (by decide) _) (Enc.tk_low _ (by decide) _) (by split<;>rfl) f.pre_low rfl (by split<;>rfl) rfl ((f::r).length:Int) o
   have:=CS.graft (k:=6) (n:=6) (By (bdH ⟨l,f::r,o⟩++K).length r.length (4+3*r.length) (3+3*r.length)) [0,2+3*r.length,(3+3*r.length)] (H:=bdH ⟨l,f::r,o⟩++K) (H':=bdH ⟨l,f'::r,o⟩++K) hs rfl rfl (by decide) uR HS (by simp [low6 _ (Co n)]) rfl
    (by simp [AU,At,Dd,low6 _ f.pre_low,Enc.tk_low]<;>split<;>simp [low])
    (by simp [AU,At,Dd,low6 _ f.pre_low,Enc.tk_low,low6 _ (Co n)]<;>split<;>simp [low]) (by rw [Dm,Dm]) ?_ ?_ ?_ ?_ ?_
  ·simpa [AL,ren,BZ _ _ (Co n),By] using this
  ·intro i hi
   rcases six (show i<6 by omega) with rfl|rfl|rfl|rfl|rfl|rfl
   ·rw [pB0,qG f 0 (by simp)]
    show some (Ent.box (Bd.c ⟨l,f::r,o⟩))=_
    simp [AH.at,AI,AL,ren,Bd.c,Enc.tk_ren,By,upC]
   ·rw [pB1,qG f _ (by simp),Hz]
    simp only [AH.at,List.getElem?_cons_succ,List.getElem?_cons_zero,Option.join_some,Option.map_some,AI,Dn,BZ _ _ f.pre_low,AL,q8,Enc.tk_ren,ren];simp [Fr.c,h0,By,Enc.tk_ne,ren,BZ _ _ (ndE.row_low _)]
    first|done|rfl
   ·rw [pB2,qA f 1 (by simp<;>omega) (by omega)]
    rfl
   ·exact g3 f
   ·rw [pB4,qA f _ (by simp<;>omega) (by omega)]
    rfl
   ·first|omega|(rw [pB5,qG f _ (by simp),P6,C3 h0];rfl)
  ·intro i hi1 xb
   first|omega|(obtain rfl:i=5:=(by omega);rw [pB5,qG f _ (by simp),P6,h0];rfl)
  ·intro i hi
   rcases six hi with rfl|rfl|rfl|rfl|rfl|rfl
   ·rw [pB0,qG f' 0 (by simp)]
    show some (Ent.box (Bd.c ⟨l,f'::r,o⟩))=_
    simp [AH.at,AI,AL,ren,Bd.c,Enc.tk_ren,By,upC]
   ·rw [pB1,qG f' _ (by simp),Hz]
    simp only [AH.at,List.getElem?_cons_succ,List.getElem?_cons_zero,Option.join_some,Option.map_some,AI,Dn,BZ _ _ f.pre_low,AL,q8,Enc.tk_ren,ren];simp [Fr.c,e1,e2,e3,e4,By,Enc.tk_ne,BZ _ _ (Co n),Dn,Enc.row_append,Enc.row_one1,h0,BZ _ _ (ndE.row_low _)]
    first|done|rfl|exact ⟨rfl,rfl⟩
   ·rw [pB2,qA f' 1 (by simp<;>omega) (by omega)]
    rfl
   ·exact g3 f'
   ·rw [pB4,qA f' _ (by simp<;>omega) (by omega)]
    rfl
   ·rw [pB5,qG f' _ (by simp),P6,e1,C3 (by simp)]
    simp [AH.at,AI,h0]
  ·intro j hj
   have h1:=hj 1 (by decide);have h5:=hj 5 (by decide);rw [pB1] at h1;rw [pB5] at h5;exact NC l f f' r o K (fun h=>h1 h.symm) (fun h=>absurd h.symm h5) (fun _=>by rw [e2])
  ·intro j hj _
   simp only [List.mem_cons,List.not_mem_nil,or_false,not_or] at hj;obtain ⟨h0',h1,h5⟩:=hj;exact NC l f f' r o K h1 (fun h=>absurd h h5) (fun _=>by rw [e2])
theorem iT (l:List Nd) (f:Fr) (r:List Fr) (o:Bool) (n:Nd) (K:AH) (pg:0≤f.mid) (hm:f.els.length<137438953472) :
  CS zP A7 65 [.ptr 0 0,.agg (ndC n)] (bdH ⟨l,f::r,o⟩++K) (.tup []) (bdH ⟨l,{f with els:=f.els++[n]}::r,o⟩++K):=by
 generalize hf':({f with els:=f.els++[n]}:Fr)=f';have hN:=Dm l f r o K;have hN':=Dm l f' r o K;have e1:f'.els=f.els++[n]:=by subst hf';rfl
 have e2:f'.body=f.body:=by subst hf';rfl
 have e3:f'.pre=f.pre:=by subst hf';rfl
 have e4:f'.mid=f.mid:=by subst hf';rfl
 have uR:=Uc (N:=(bdH ⟨l,f::r,o⟩++K).length) (d:=r.length) (T2:=(3+3*r.length)) (T:=(4+3*r.length)) (by omega) (by omega);have six:∀{i:Nat},i<6→i=0∨i=1∨i=2∨i=3∨i=4∨i=5:=fun h=>by omega
 have low6:=fun (l:List AV) (h:lowL 0 l=true) (m:Nat)=>Am (Nat.zero_le m) l h
 have q8:ren (By (bdH ⟨l,f::r,o⟩++K).length r.length (3+3*r.length) (4+3*r.length)) (if r.length=0 then .nilPtr else .ptr 3 0)=upC r.length:=by
  cases hd:r.length with
  |zero=>rfl
  |succ d =>simp [ren,upC,By];omega
 have qG:∀f0:Fr,∀i,i∈[0,2+3*r.length,(4+3*r.length)]→(mask (bdH ⟨l,f0::r,o⟩++K) [0,2+3*r.length,(4+3*r.length)]).at i=(bdH ⟨l,f0::r,o⟩++K).at i:=fun f0 i hi=>Ge hi
 have qA:∀f0:Fr,∀i,i ∉ [0,2+3*r.length,(4+3*r.length)]→i<5+3*r.length→(mask (bdH ⟨l,f0::r,o⟩++K) [0,2+3*r.length,(4+3*r.length)]).at i=some .hid:=fun f0 i hi hl=>I9 hi (by rw [Dm];omega)
 have vw:∀f0:Fr,(mask (bdH ⟨l,f0::r,o⟩++K) [0,2+3*r.length,(4+3*r.length)]).at (bdH ⟨l,f::r,o⟩++K).length=none:=fun f0=>C7 (by rw [GY,Dm,Dm];omega)
 have g3:∀f0:Fr,(mask (bdH ⟨l,f0::r,o⟩++K) [0,2+3*r.length,(4+3*r.length)]).at (By (bdH ⟨l,f::r,o⟩++K).length r.length (3+3*r.length) (4+3*r.length) 3)=Option.map (AI (By (bdH ⟨l,f::r,o⟩++K).length r.length (3+3*r.length) (4+3*r.length))) (if r.length=0 then none else some .hid):=by
  intro f0
  by_cases hd:r.length=0
  ·have:By (bdH ⟨l,f::r,o⟩++K).length r.length (3+3*r.length) (4+3*r.length) 3=(bdH ⟨l,f::r,o⟩++K).length:=by simp [By,hd]
   rw [this,vw,if_pos hd];rfl
  ·have:By (bdH ⟨l,f::r,o⟩++K).length r.length (3+3*r.length) (4+3*r.length) 3=3*r.length-1:=by simp [By,hd]
   rw [this,if_neg hd,qA f0 _ (by simp<;>omega) (by omega)];rfl
 by_cases h0:f.els=[]
 all_goals
  first
  |have e:f.els=[]:=h0
   have hs:=iP (ndC n) f.pre (ndE.tk 2 l) (ndE.tk 4 f.body) (if r.length=0 then .nilPtr else .ptr 3 0) (some .hid) (if r.length=0 then none else some .hid) (some .hid) f.mid pg f.pre_len (HQ n) (Hy n) (Co n) (Enc.tk_low _ (by decide) _) (Enc.tk_low _ (by decide) _) (by split<;>rfl) f.pre_low rfl (by split<;>rfl) rfl ((f::r).length:Int) o
   have:=CS.graft (k:=5) (n:=6) (By (bdH ⟨l,f::r,o⟩++K).length r.length (3+3*r.length) (4+3*r.length)) [0,2+3*r.length,(4+3*r.length)] (H:=bdH ⟨l,f::r,o⟩++K) (H':=bdH ⟨l,f'::r,o⟩++K) hs rfl rfl (by decide) uR HS (by simp [low6 _ (Co n)]) rfl
    (by simp [AU,At,Dd,low6 _ f.pre_low,Enc.tk_low]<;>split<;>simp [low])
    (by simp [AU,At,Dd,low6 _ f.pre_low,Enc.tk_low,low6 _ (Co n)]<;>split<;>simp [low]) (by rw [Dm,Dm]) ?_ ?_ ?_ ?_ ?_
  |have hs:=iQ (ndC n) f.pre (ndE.row f.els) f.els.length hm (ndE.row_low _) (ndE.tk 2 l) (ndE.tk 4 f.body) (if r.length=0 then .nilPtr else .ptr 3 0) (some .hid) (if r.length=0 then none else some .hid) (some .hid) f.mid pg f.pre_len (HQ n) (Hy n) (Co n) (Enc.tk_low _ (by decide) _) (Enc.tk_low _ (by decide) _) (by split<;>rfl) f.pre_low rfl (by split<;>rfl) rfl ((f::r).length:Int) o
   have:=CS.graft (k:=6) (n:=6) (By (bdH ⟨l,f::r,o⟩++K).length r.length (3+3*r.length) (4+3*r.length)) [0,2+3*r.length,(4+3*r.length)] (H:=bdH ⟨l,f::r,o⟩++K) (H':=bdH ⟨l,f'::r,o⟩++K) hs rfl rfl (by decide) uR HS (by simp [low6 _ (Co n)]) rfl
    (by simp [AU,At,Dd,low6 _ f.pre_low,Enc.tk_low]<;>split<;>simp [low])
    (by simp [AU,At,Dd,low6 _ f.pre_low,Enc.tk_low,low6 _ (Co n)]<;>split<;>simp [low]) (by rw [Dm,Dm]) ?_ ?_ ?_ ?_ ?_
  ·simpa [AL,ren,BZ _ _ (Co n),By] using this
  ·intro i hi
   rcases six (show i<6 by omega) with rfl|rfl|rfl|rfl|rfl|rfl
   ·rw [pB0,qG f 0 (by simp)]
    show some (Ent.box (Bd.c ⟨l,f::r,o⟩))=_
    simp [AH.at,AI,AL,ren,Bd.c,Enc.tk_ren,By,upC]
   ·rw [pB1,qG f _ (by simp),Hz]
    simp only [AH.at,List.getElem?_cons_succ,List.getElem?_cons_zero,Option.join_some,Option.map_some,AI,Dn,BZ _ _ f.pre_low,AL,q8,Enc.tk_ren,ren];simp [Fr.c,h0,By,Enc.tk_ne,ren,BZ _ _ (ndE.row_low _)]
    first|done|rfl
   ·rw [pB2,qA f 1 (by simp<;>omega) (by omega)]
    rfl
   ·exact g3 f
   ·rw [pB4,qA f _ (by simp<;>omega) (by omega)]
    rfl
   ·first|omega|(rw [pB5,qG f _ (by simp),P7,C3 h0];rfl)
  ·intro i hi1 xb
   first|omega|(obtain rfl:i=5:=(by omega);rw [pB5,qG f _ (by simp),P7,h0];rfl)
  ·intro i hi
   rcases six hi with rfl|rfl|rfl|rfl|rfl|rfl
   ·rw [pB0,qG f' 0 (by simp)]
    show some (Ent.box (Bd.c ⟨l,f'::r,o⟩))=_
    simp [AH.at,AI,AL,ren,Bd.c,Enc.tk_ren,By,upC]
   ·rw [pB1,qG f' _ (by simp),Hz]
    simp only [AH.at,List.getElem?_cons_succ,List.getElem?_cons_zero,Option.join_some,Option.map_some,AI,Dn,BZ _ _ f.pre_low,AL,q8,Enc.tk_ren,ren];simp [Fr.c,e1,e2,e3,e4,By,Enc.tk_ne,BZ _ _ (Co n),Dn,Enc.row_append,Enc.row_one1,h0,BZ _ _ (ndE.row_low _)]
    first|done|rfl|exact ⟨rfl,rfl⟩
   ·rw [pB2,qA f' 1 (by simp<;>omega) (by omega)]
    rfl
   ·exact g3 f'
   ·rw [pB4,qA f' _ (by simp<;>omega) (by omega)]
    rfl
   ·rw [pB5,qG f' _ (by simp),P7,e1,C3 (by simp)]
    simp [AH.at,AI,h0]
  ·intro j hj
   have h1:=hj 1 (by decide);have h5:=hj 5 (by decide);rw [pB1] at h1;rw [pB5] at h5;exact NC l f f' r o K (fun h=>h1 h.symm) (fun _=>by rw [e2]) (fun h=>absurd h.symm h5)
  ·intro j hj _
   simp only [List.mem_cons,List.not_mem_nil,or_false,not_or] at hj;obtain ⟨h0',h1,h5⟩:=hj;exact NC l f f' r o K h1 (fun _=>by rw [e2]) (fun h=>absurd h h5)
theorem iU (n:Nd) (o:Bool) (K:AH):CS zP A7 65 [.ptr 0 0,.agg (ndC n)] (bdH ⟨[],[],o⟩++K) (.tup []) (bdH ⟨[n],[],o⟩++K):=by
 have hs:=iG (HQ n) (Hy n) (Co n) 0 o;have low6:=fun (l:List AV) (h:lowL 0 l=true) (m:Nat)=>Am (Nat.zero_le m) l h
 have:=CS.grow (k:=1) (n:=2) (fun i=>i) (H:=bdH ⟨[],[],o⟩++K) (H':=bdH ⟨[n],[],o⟩++K) hs rfl rfl (by decide) (fun i j _ _ h=>h) HS (by simp [low6 _ (Co n)]) rfl (by simp [AU,At]) (by simp [AU,At,low6 _ (Co n)]) (by
   intro i hi;obtain rfl:i=0:=by omega
   simp [bdH,AH.at,Bd.c,AI,AL,ren,upC]) (by
   intro i hi xb;obtain rfl:i=1:=by omega
   simp [bdH,AH.at]) (by
   intro i hi;rcases (by omega:i=0∨i=1) with rfl|rfl
   ·simp [bdH,AH.at,Bd.c,AI,AL,ren,upC,Enc.tk_ne,BZ _ _ (Co n),Enc.row_one1]
    exact ⟨rfl,rfl⟩
   ·simp [bdH,AH.at,C3,AI]) (by
   intro j hj;have h0:=hj 0 (by decide);have h1:=hj 1 (by decide);obtain ⟨i,rfl⟩:∃i,j=i+2:=⟨j-2,by omega⟩
   simp [bdH,AH.at,frH])
 simpa [AL,ren,BZ _ _ (Co n)] using this
theorem P8 (s:Bd) (n:Nd) (K:AH) {m:Nat} (hs:s.ok m) (hm:m<137438953472):CS zP A7 65 [.ptr 0 0,.agg (ndC n)] (bdH s++K) (.tup []) (bdH (s.put n)++K):=by
 obtain ⟨l,fs,o⟩:=s;obtain ⟨h1,h2⟩:=hs;simp only at h1;cases fs with
 |nil =>
  by_cases h0:l=[]
  ·subst h0
   exact iU n o K
  ·have:=iR (H:=bdH ⟨l,[],o⟩++K) (b:=0) (T:=1) (ndC n) (ndE.row l) l.length (by omega) (HQ n) (Hy n) (Co n) (ndE.row_low _) 0 o (by simp [bdH,AH.at,Bd.c,upC,Enc.tk_ne _ _ h0];rfl) (by simp [bdH,AH.at,C3 h0])
   have e5:ndE.sz=34:=rfl;have e6:ndE.c n=ndC n:=rfl;simpa [bdH,Bd.put,frH,Bd.c,upC,Enc.tk_ne,C3,Enc.row_append,Enc.row_one1,e5,e6,h0] using this
 |cons f r =>
  obtain ⟨h3,h4⟩:=h2 f List.mem_cons_self;simp only [Bd.put,Fr.put]
  by_cases pg:0≤f.mid
  ·rw [if_pos pg]
   exact iT l f r o n K pg (by omega)
  ·rw [if_neg pg]
   exact iS l f r o n K (by omega) (by omega)
@[simp] theorem nS:AJ.imm 176=false:=by decide
@[simp] theorem nT:AJ.imm 106=true:=by decide
theorem ND:∀{a b:List (List UInt8 × Int)} {c d:Int},Ac a c=Ac b d→a=b∧c=d
 |[],[],c,d,h=>by simp only [Ac,AV.iface.injEq,AV.int.injEq,true_and] at h;exact ⟨rfl,h⟩
 |[],(w,p)::b,c,d,h=>by simp [Ac] at h
 |(w,p)::a,[],c,d,h=>by simp [Ac] at h
 |(w,p)::a,(w',p')::b,c,d,h=>by simp only [Ac,AV.iface.injEq,AV.vptr.injEq,List.cons.injEq,AV.str.injEq,AV.int.injEq,true_and,and_true] at h;obtain ⟨h1,h2,h3⟩:=h;obtain ⟨h4,h5⟩:=ND h3;rw [h1,h2,h4,h5];exact ⟨rfl,rfl⟩
def erI:Er→AV
 |none => .nilIface
 |some (l,c)=>Ac (Cn l) (c:Int)
@[simp] theorem P9:erI none = .nilIface:=AS rfl
theorem iV (l:List (List UInt8 × Nat)) (c:Nat):erI (some (l,c))=Ac (Cn l) (c:Int):=rfl
@[simp ↓ high] theorem nU (m:Nat) (l:List (List UInt8 × Int)) (c:Int):low m (Ac l c)=true:=CA (Nat.zero_le m) _ (Fp l c)
@[simp ↓ high] theorem iW (l:List (List UInt8 × Int)) (c:Int):(Ac l c).known=true:=by cases l<;>rfl
@[simp ↓ high] theorem iX (l:List (List UInt8 × Int)) (c:Int):(Ac l c).one=true:=by cases l<;>rfl
@[simp ↓ high] theorem iY (l:List (List UInt8 × Int)) (c:Int):An (Ac l c)=[Ac l c]:=by cases l<;>rfl
@[simp ↓ high] theorem Ud (e:Er):low 0 (erI e)=true:=by
 cases e with
 |none=>rfl
 |some x=>exact Fp _ _
@[simp ↓ high] theorem nV (m:Nat) (e:Er):low m (erI e)=true:=CA (Nat.zero_le m) _ (Ud e)
@[simp ↓ high] theorem nW (e:Er):BN (erI e)=[]:=J2 _ (Ud e)
@[simp ↓ high] theorem nX (e:Er):(erI e).known=true:=by cases e with
 |none=>rfl
 |some x=>exact iW _ _
@[simp ↓ high] theorem nY (e:Er):(erI e).one=true:=by cases e with
 |none=>rfl
 |some x=>exact iX _ _
@[simp ↓ high] theorem nZ (e:Er):An (erI e)=[erI e]:=by cases e with
 |none=>rfl
 |some x=>exact iY _ _
@[simp high] theorem na (e:Er):aeq zP 35 (erI e) .nilIface=some e.isNone:=by
 cases e with
 |none=>simp [erI,aeq]
 |some x=>simp [erI]
@[simp high] theorem ne (e:Er):BF zP .eql 35 true (erI e) .nilIface=some (.bool e.isNone):=by
 cases e with
 |none=>simp [erI]
 |some x=>simp [erI]
@[simp high] theorem nf (e:Er):BF zP .neq 35 true (erI e) .nilIface=some (.bool e.isSome):=by
 cases e with
 |none=>simp [erI]
 |some x=>simp [erI]
theorem iZ {x y:Er} (h:erI x=erI y):x=y:=by
 cases x with
 |none=>cases y with
  |none=>rfl
  |some y=>obtain ⟨l,c⟩:=y;cases l<;>simp [erI,Ac,Cn] at h
 |some x=>cases y with
  |none=>obtain ⟨l,c⟩:=x;cases l<;>simp [erI,Ac,Cn] at h
  |some y =>
   obtain ⟨l,c⟩:=x;obtain ⟨m,d⟩:=y;obtain ⟨h1,h2⟩:=ND h;have e2:c=d:=by omega
   rw [Pu h1,e2]
def Sr.pc (ts:List Wd) (r:Sr):List AV:=[AE ts,.int .i64 r.at_,erI r.err]
theorem Cp (ts:List Wd) (r:Sr):lowL 0 (r.pc ts)=true:=by simp [Sr.pc]
theorem FP (ts:List Wd) (r s:Sr) (h:r.pc ts=s.pc ts):r=s:=by
 obtain ⟨a,x⟩:=r;obtain ⟨b,y⟩:=s;simp only [Sr.pc,List.cons.injEq,AV.int.injEq,true_and,and_true] at h;have:=iZ h.2;subst this;have:a=b:=by omega
 subst this;rfl
abbrev pbx (ts:List Wd) (r:Sr):Option Ent:=some (.box [AE ts,.int .i64 (r.at_:Int),erI r.err])
@[simp] theorem ng (w:List UInt8) (p:Int) (l:List (List UInt8 × Int)) (c:Int):Aq zP 106 [(0,.str w),(1,.int .i64 p),(2,Ac l c)]=some (.agg [.str w,.int .i64 p,Ac l c]):=by cases l<;>kernel_rfl
theorem ia (p:Int) (l:List (List UInt8 × Int)) (c:Int) (H:AH):CS zP AJ 61 [.int .i64 p,Ac l c] H (Ac ((Bl,p)::l) c) H:=by refine CS.tr0 Bh Tryz.func61 (by kernel_rfl) 0 (by simp [Tryz.f61]) (fun B hB hG => ?_) (by simp) (by simp) H;refine Tr.goD GI hG ?_;simp [Tryz.f61,Ac,Bl]
noncomputable def CO:AF zP AJ:=AF.pure 61 (fun _:Int × List (List UInt8 × Int) × Int=>True) (fun x=>[.int .i64 x.1,Ac x.2.1 x.2.2]) (fun x=>Ac ((Bl,x.1)::x.2.1) x.2.2)
 (fun x _ H=>ia x.1 x.2.1 x.2.2 H) (fun x y _ _ h=>by
  obtain ⟨a,b,c⟩:=x;obtain ⟨a',b',c'⟩:=y;simp only [List.cons.injEq,AV.int.injEq,true_and,and_true] at h;obtain ⟨h1,h2⟩:=ND h.2;simp only
  rw [h.1,h1,h2])
theorem ib (ts:List Wd) (r:Sr) (p c:Nat) {H:AH} {id:Nat} (hH:H.at id=some (.box (r.pc ts))) :
  CS zP AJ 63 [.ptr id 0,.int .i64 (p:Int),.int .i64 (c:Int)] H (.tup []) (H.set id (some (.box ((r.fail p c).pc ts)))):=by
 obtain ⟨a,e⟩:=r;refine CS.rd Bh Tryz.func63 (by kernel_rfl) 0 (by simp [Tryz.f63]) (fun B hB hG => ?_) (by simp) rfl (Cp _ _) (Cp _ _) hH;have hL:([CO].map (·.f)).Nodup:=show ([61]:List Nat).Nodup by decide
 have X:=Bn [CO] B4 Ad;have h1:=fun H=>C0 hL (show CO∈[CO] by simp) ((p:Int),[],(c:Int)) trivial H
 generalize oOf [CO]=O at X h1;refine Tr.goD X hG ?_;simp [Ac,Bl] at h1;cases e with
 |none=>simp [Tryz.f63,Sr.pc,Sr.fail,h1,erI,Ac,Cn,Bl]
 |some y=>simp [Tryz.f63,Sr.pc,Sr.fail]
noncomputable def DM (ts:List Wd):AF zP AJ:=AF.meth 63 (Sr.pc ts) (FP ts) (fun (_:Nat × Nat) _=>True) (fun _ x=>[.int .i64 (x.1:Int),.int .i64 (x.2:Int)]) (fun _ _ => .tup []) (fun x r=>r.fail x.1 x.2)
 (fun x r _ H id hH=>ib ts r x.1 x.2 hH) (fun id x y r _ _ h=>by
  obtain ⟨a,b⟩:=x;obtain ⟨c,d⟩:=y;simp only [List.cons.injEq,AV.int.injEq,true_and,and_true] at h;have e1:a=c:=by omega
  have e2:b=d:=by omega
  rw [e1,e2]
  exact ⟨rfl,rfl⟩)
theorem ic (ts:List Wd) (r:Sr) (k:Nat) (s:List UInt8) {H:AH} {id:Nat} (hH:H.at id=some (.box (r.pc ts))) :
  CS zP AJ 120 [.ptr id 0,.int .i64 (k:Int),.str s] H (.bool (isW ts r k s)) (H.set id (some (.box (r.pc ts)))):=by
 obtain ⟨a,e⟩:=r;refine CS.rd Bh Tryz.func120 (by kernel_rfl) 0 (by simp [Tryz.f120]) (fun B hB hG => ?_) (by simp) rfl (Cp _ _) (Cp _ _) hH;refine Tr.goD GI hG ?_;simp [Tryz.f120,Sr.pc];refine LpD.turns GI hG [] [] ?_;cases e with
 |some y=>simp [isW]
 |none =>
  by_cases hl:a<ts.length
  ·have hl':(a:Int)<ts.length:=by omega
   obtain ⟨w,hw⟩:∃w,ts[a]? = some w:=⟨_,List.getElem?_eq_getElem hl⟩
   obtain ⟨c0,c1,c3⟩:=EM hw;have rU:ts[a]=w:=by rw [List.getElem?_eq_getElem hl] at hw;injection hw
   by_cases hk:w.kind=k
   ·cases s with
    |nil=>simp [isW,isK,hw,rU,hl,hl',hk,c0,c1]
    |cons b s=>simp [isW,isK,hw,rU,hl,hl',hk,c0,c1]
   ·have hk':((w.kind:Int)==(k:Int))=false:=by rw [beq_eq_false_iff_ne];omega
    simp [isW,isK,hw,rU,hl,hl',hk,hk',c0,c1]
  ·have hl':¬((a:Int)<ts.length):=by omega
   have hw:ts[a]? = none:=List.getElem?_eq_none (by omega);simp [isW,isK,hl',hw]
noncomputable def HU (ts:List Wd):AF zP AJ:=AF.meth 120 (Sr.pc ts) (FP ts) (fun (_:Nat × List UInt8) _=>True) (fun _ x=>[.int .i64 (x.1:Int),.str x.2]) (fun x r => .bool (isW ts r x.1 x.2)) (fun _ r=>r)
 (fun x r _ H id hH=>ic ts r x.1 x.2 hH) (fun id x y r _ _ h=>by
  obtain ⟨a,b⟩:=x;obtain ⟨c,d⟩:=y;simp only [List.cons.injEq,AV.int.injEq,AV.str.injEq,true_and,and_true] at h;have e1:a=c:=by omega
  rw [e1,h.2]
  exact ⟨rfl,rfl⟩)
section
variable {L:List (AF zP AJ)} {ts:List Wd}
theorem LX (hL:(L.map (·.f)).Nodup) (hF:DM ts∈L) (r:Sr) (p c:Nat) (H:AH):oOf L 63 [.ptr 0 0,.int .i64 (p:Int),.int .i64 (c:Int)] (pbx ts r::H)=some (.tup [],pbx ts (r.fail p c)::H):=Bk hL hF (p,c) r (H:=pbx ts r::H) (id:=0) rfl trivial
theorem QA (hL:(L.map (·.f)).Nodup) (hF:HU ts∈L) (r:Sr) (k:Nat) (s:List UInt8) (H:AH):oOf L 120 [.ptr 0 0,.int .i64 (k:Int),.str s] (pbx ts r::H)=some (.bool (isW ts r k s),pbx ts r::H):=Bk hL hF (k,s) r (H:=pbx ts r::H) (id:=0) rfl trivial
end
theorem ie (ts:List Wd) (oK:ts.length<1000000) (r:Sr) (k:Nat) (s:List UInt8) {H:AH} {id:Nat} (hH:H.at id=some (.box (r.pc ts))) :
  CS zP AJ 117 [.ptr id 0,.int .i64 (k:Int),.str s] H (.bool (isW ts r k s)) (H.set id (some (.box ((CG ts r k s).pc ts)))):=by
 refine CS.rd Bh Tryz.func117 (by kernel_rfl) 0 (by simp [Tryz.f117]) (fun B hB hG => ?_) (by simp) rfl (Cp _ _) (Cp _ _) hH;have hL:([HU ts].map (·.f)).Nodup:=show ([120]:List Nat).Nodup by decide
 have X:=Bn [HU ts] B4 Ad;have h2:=fun H=>QA (ts:=ts) hL (by simp) r k s H
 generalize oOf [HU ts]=O at X h2;refine Tr.goD X hG ?_;cases hw:isW ts r k s with
 |true =>have hl:=(Dl hw).1;have w1:IntKind.i64.wrap ((r.at_:Int)+1)=(r.at_:Int)+1:=Ab (by omega) (by omega);rw [hw] at h2;rw [Gw hw];simp [Tryz.f117,Sr.pc,h2,w1,Sr.step]
 |false =>rw [hw] at h2;rw [Gx hw];simp [Tryz.f117,Sr.pc,h2]
noncomputable def FQ (ts:List Wd) (oK:ts.length<1000000):AF zP AJ:=AF.meth 117 (Sr.pc ts) (FP ts) (fun (_:Nat × List UInt8) _=>True) (fun _ x=>[.int .i64 (x.1:Int),.str x.2]) (fun x r => .bool (isW ts r x.1 x.2)) (fun x r=>CG ts r x.1 x.2)
 (fun x r _ H id hH=>ie ts oK r x.1 x.2 hH) (fun id x y r _ _ h=>by
  obtain ⟨a,b⟩:=x;obtain ⟨c,d⟩:=y;simp only [List.cons.injEq,AV.int.injEq,AV.str.injEq,true_and,and_true] at h;have e1:a=c:=by omega
  rw [e1,h.2]
  exact ⟨rfl,rfl⟩)
section
variable {L:List (AF zP AJ)} {ts:List Wd}
theorem NE (oK:ts.length<1000000) (hL:(L.map (·.f)).Nodup) (hF:FQ ts oK∈L) (r:Sr) (k:Nat) (s:List UInt8) (H:AH):oOf L 117 [.ptr 0 0,.int .i64 (k:Int),.str s] (pbx ts r::H)=some (.bool (isW ts r k s),pbx ts (CG ts r k s)::H):=Bk hL hF (k,s) r (H:=pbx ts r::H) (id:=0) rfl trivial
end
@[simp] theorem nh:Aq zP 221 []=some (.agg [.int .i64 0,.str [],.int .i64 0,.int .i64 0]):=by kernel_rfl
theorem ig (ts:List Wd) (oK:ts.length<1000000) (r:Sr) (k:Nat) (s:List UInt8) {H:AH} {id:Nat} (hH:H.at id=some (.box (r.pc ts))) :
  CS zP AJ 95 [.ptr id 0,.int .i64 (k:Int),.str s] H (.agg (BA (BK ts r k s).1)) (H.set id (some (.box ((BK ts r k s).2.pc ts)))):=by
 refine CS.rd Bh Tryz.func95 (by kernel_rfl) 0 (by simp [Tryz.f95]) (fun B hB hG => ?_) (by simp) rfl (Cp _ _) (Cp _ _) hH;have hL:([DM ts,FQ ts oK].map (·.f)).Nodup:=show ([63,117]:List Nat).Nodup by decide
 have X:=Bn [DM ts,FQ ts oK] B4 Ad;have h1:=fun H=>LX (ts:=ts) hL (by simp) r r.at_ 2 H
 have h2:=fun H=>NE (ts:=ts) oK hL (by simp) r k s H
 generalize oOf [DM ts,FQ ts oK]=O at X h1 h2;refine Tr.goD X hG ?_;cases hw:isW ts r k s with
 |true =>
  obtain ⟨hl,he⟩:=Dl hw;have w1:IntKind.i64.wrap (r.at_:Int)=(r.at_:Int):=Ab (by omega) (by omega);rw [hw,Gw hw] at h2;obtain ⟨w,hx⟩:∃w,ts[r.at_]? = some w:=⟨_,List.getElem?_eq_getElem hl⟩
  obtain ⟨d1,d2⟩:=KN _ _ _ hx;have hm:BK ts r k s=(w,r.step):=by simp [BK,hw,hx]
  rw [hm];simp [pbx,Sr.step] at h2;simp [Tryz.f95,Sr.pc,h2,Sr.step];refine LpD.turns X hG [11] [] ?_;simp [hl,w1,d1,d2,BA]
 |false =>
  rw [hw,Gx hw] at h2;have hm:BK ts r k s=(wd0,r.fail r.at_ 2):=by simp [BK,hw]
  rw [hm];simp [pbx] at h1 h2;simp [Tryz.f95,Sr.pc,h1,h2,BA,wd0]
noncomputable def Ja (ts:List Wd) (oK:ts.length<1000000):AF zP AJ:=AF.meth 95 (Sr.pc ts) (FP ts) (fun (_:Nat × List UInt8) _=>True) (fun _ x=>[.int .i64 (x.1:Int),.str x.2]) (fun x r => .agg (BA (BK ts r x.1 x.2).1)) (fun x r=>(BK ts r x.1 x.2).2)
 (fun x r _ H id hH=>ig ts oK r x.1 x.2 hH) (fun id x y r _ _ h=>by
  obtain ⟨a,b⟩:=x;obtain ⟨c,d⟩:=y;simp only [List.cons.injEq,AV.int.injEq,AV.str.injEq,true_and,and_true] at h;have e1:a=c:=by omega
  rw [e1,h.2]
  exact ⟨rfl,rfl⟩)
section
variable {L:List (AF zP AJ)} {ts:List Wd}
theorem QB (oK:ts.length<1000000) (hL:(L.map (·.f)).Nodup) (hF:Ja ts oK∈L) (r:Sr) (k:Nat) (s:List UInt8) (H:AH):oOf L 95 [.ptr 0 0,.int .i64 (k:Int),.str s] (pbx ts r::H)=some (.agg (BA (BK ts r k s).1),pbx ts (BK ts r k s).2::H):=Bk hL hF (k,s) r (H:=pbx ts r::H) (id:=0) rfl trivial
end
theorem ii {id:Nat} {x:AV} (hx:low 0 x=true) {H:AH} (hH:H.at id=some (.box [x])):CS zP AJ 27 [.nilIface,.iface 104 (.ptr id 0)] H (.bool false) H:=by
 have h:=CS.rd1 (P:=zP) (E:=AJ) (f:=27) (args:=[.nilIface,.iface 104 (.ptr 0 0)]) (cs:=[x]) (cs':=[x]) (v := .bool false) (H:=H) (id:=id) Bh Tryz.func27 (by kernel_rfl) 0 (by simp [Tryz.f27]) (fun B hB hG=>by
  refine Tr.goD GI hG ?_
  simp [Tryz.f27]) rfl rfl (by simp [hx]) (by simp [hx]) hH
 rw [AH.set_at hH] at h;exact h
noncomputable def fAs:AF zP AJ where
 f:=27
 α:=Option (List AV) × Nat
 ok:=fun x H=>∃y,low 0 y=true∧H.at x.2=some (.box [y])
 args:=fun x=>[match x.1 with
  |none => .nilIface
  |some cs => .iface 102 (.vptr cs 0),.iface 104 (.ptr x.2 0)]
 out:=fun x => .bool x.1.isSome
 up:=fun x H=>match x.1 with
  |none=>H
  |some cs=>H.set x.2 (some (.box [.vptr cs 0]))
 cs:=fun x H ⟨y,hy,h⟩=>by
  obtain ⟨o,id⟩:=x;cases o with
  |none=>exact ⟨ii hy h,Cb.refl H⟩
  |some cs=>exact ⟨CS.toF (CS.toX (TP h)),Cb.set h⟩
 same:=fun x y H _ _ h=>by
  obtain ⟨o,id⟩:=x;obtain ⟨o',id'⟩:=y;cases o<;>cases o'<;>simp at h ⊢
  ·obtain ⟨rfl,rfl⟩:=h
   rfl
section
variable {L:List (AF zP AJ)}
theorem QC (hL:(L.map (·.f)).Nodup) (hF:fAs∈L) (o:Option (List AV)) (id:Nat) (y:AV) (hy:low 0 y=true) (H:AH) (hH:H.at id=some (.box [y])) :
  oOf L 27 [match o with|none => .nilIface|some cs => .iface 102 (.vptr cs 0),.iface 104 (.ptr id 0)] H=some (.bool o.isSome,match o with|none=>H|some cs=>H.set id (some (.box [.vptr cs 0]))):=DS hL fAs hF (x:=(o,id)) ⟨y,hy,hH⟩
end
def DU (ts:List Wd) (a:Nat):AV:=if a=ts.length∧ts≠[] then .slice .unk 4 0 [] else AE (ts.drop a)
theorem Ue:∀(l:List Wd) (a:Nat),(A3 l).drop (a*4)=A3 (l.drop a)
 |[],a=>by simp [A3]
 |w::l,0=>by simp
 |w::l,a+1=>by have hc:A3 (w::l)=BA w++A3 l:=rfl;have hw:(BA w).length=4:=rfl;rw [hc,List.drop_append,List.drop_of_length_le (by omega),hw,List.nil_append,show (a+1)*4-4=a*4 by omega,Ue l a,List.drop_succ_cons]
theorem Uf:∀(l:List Wd) (a:Nat),(A3 l).take (a*4)=A3 (l.take a)
 |[],a=>by simp [A3]
 |w::l,0=>by simp [A3]
 |w::l,a+1=>by have hc:A3 (w::l)=BA w++A3 l:=rfl;have hd:A3 (w::l.take a)=BA w++A3 (l.take a):=rfl;have hw:(BA w).length=4:=rfl;rw [hc,List.take_append,List.take_of_length_le (by omega),hw,show (a+1)*4-4=a*4 by omega,Uf l a,List.take_succ_cons,hd]
@[simp high] theorem ni {ts:List Wd} {a:Nat} (h:a≤ts.length):BD zP 171 (AE ts) (some (.int .i64 (a:Int))) none none=some (DU ts a):=by
 unfold DU AE;have h1:(a:Int)≤ts.length:=by omega
 by_cases oK:ts=[]
 ·subst oK
  have:a=0:=by simpa using h
  subst this;simp [BD]
 ·by_cases ha:a=ts.length
  ·subst ha
   simp [oK,BD,KC]
  ·have hd:ts.drop a≠[]:=by
    intro h2;have:=congrArg List.length h2;rw [List.length_drop] at this;simp at this;omega
   have hl:=List.length_drop (i:=a) (l:=ts);simp [oK,ha,hd,BD,h1,hl];rw [Ue,List.take_of_length_le (by rw [KC,hl];exact Nat.le_refl _)]
@[simp ↓ high] theorem ij (m:Nat) (ts:List Wd) (a:Nat):low m (DU ts a)=true:=by
 unfold DU
 split
 ·rfl
 ·exact CA (Nat.zero_le m) _ (PH _)
@[simp ↓ high] theorem nj (ts:List Wd) (a:Nat):BN (DU ts a)=[]:=by
 unfold DU
 split
 ·rfl
 ·exact eP _
def Ug:AV := .slice .unk 4 0 []
set_option maxRecDepth 100000 in
theorem ik:run fzN Bu zP AJ 100 20 123 [Ug] []=some (Eh (B0 []),[]):=by kernel_rfl
set_option maxRecDepth 100000 in
theorem il:run fzN Bu zP AJ 100 20 119 [Ug] []=some (KZ (CR []),[]):=by kernel_rfl
theorem Uh {ts us:List Wd} {a b:Nat} (ha:a≤ts.length) (hb:b≤us.length) (h:DU ts a=DU us b):ts.drop a=us.drop b:=by
 unfold DU at h
 have key:∀l:List Wd,AE l ≠ .slice .unk 4 0 []:=by
  intro l h;unfold AE at h
  split at h
  ·cases h
  ·rename_i hl
   injection h with _ _ h;exact hl (List.length_eq_zero_iff.1 h)
 split at h
 ·rename_i h1
  split at h
  ·rename_i h2
   rw [h1.1,h2.1,List.drop_length,List.drop_length]
  ·exact absurd h.symm (key _)
 ·split at h
  ·exact absurd h (key _)
  ·exact Pq h
noncomputable def GM:AF zP AJ:=AF.pure 123 (fun x:List Wd × Nat=>x.1.length<1000000∧x.2≤x.1.length) (fun x=>[DU x.1 x.2]) (fun x=>Eh (B0 (x.1.drop x.2)))
 (fun x h H=>by
  unfold DU
  split
  ·rename_i hx
   rw [hx.1,List.drop_length];exact (Kw (base:=Bu) Fe B4 Ad 100 20 _ _ _ _ _ ik).1.frame Bh rfl H
  ·exact gx _ (by rw [List.length_drop];omega) H) (fun x y hx hy h=>by
  simp only [List.cons.injEq,and_true] at h
  rw [Uh hx.2 hy.2 h])
noncomputable def Jb:AF zP AJ:=AF.pure 119 (fun x:List Wd × Nat=>x.1.length<1000000∧x.2≤x.1.length) (fun x=>[DU x.1 x.2]) (fun x=>KZ (CR (x.1.drop x.2)))
 (fun x h H=>by
  unfold DU
  split
  ·rename_i hx
   rw [hx.1,List.drop_length];exact (Kw (base:=Bu) Fe B4 Ad 100 20 _ _ _ _ _ il).1.frame Bh rfl H
  ·exact gz _ (by rw [List.length_drop];omega) H) (fun x y hx hy h=>by
  simp only [List.cons.injEq,and_true] at h
  rw [Uh hx.2 hy.2 h])
theorem im (ts:List Wd) (oK:ts.length<1000000) (r:Sr) (hr:r.at_≤ts.length) {H:AH} {id:Nat} (hH:H.at id=some (.box (r.pc ts))) :
  CS zP AJ 121 [.ptr id 0,.func (.func 123) [] []] H (.agg (tC (Ct ts r).1.tn)) (H.set id (some (.box ((Ct ts r).2.pc ts)))):=by
 refine CS.rd Bh Tryz.func121 (by kernel_rfl) 0 (by simp [Tryz.f121]) (fun B hB hG => ?_) (by simp) (by simp) (Cp _ _) (Cp _ _) hH;have hL:([CO,fAs,GM].map (·.f)).Nodup:=show ([61,27,123]:List Nat).Nodup by decide
 have X:=Bn [CO,fAs,GM] B4 Ad;have h1:=fun p l c H=>C0 hL (show CO∈[CO,fAs,GM] by simp) (p,l,c) trivial H
 have h2:=fun o e0 e1 e2 e3 H=>QC hL (show fAs∈[CO,fAs,GM] by simp) o 4 .nilPtr rfl (e0::e1::e2::e3::some (.box [.nilPtr])::H) rfl
 have h3:=fun H=>C0 hL (show GM∈[CO,fAs,GM] by simp) (ts,r.at_) ⟨oK,hr⟩ H
 generalize oOf [CO,fAs,GM]=O at X h1 h2 h3;refine Tr.goD X hG ?_;obtain ⟨a,e⟩:=r;obtain ⟨oZ,oW⟩:=Kb (ts.drop a);rw [List.length_drop] at oZ oW;simp only at hr;cases e with
 |some y=>simp [Tryz.f121,Sr.pc,Ct,Fm,Bm]
 |none =>
  simp only [Eh] at h3;generalize hq:B0 (ts.drop a)=q at *;obtain ⟨ex,n,x⟩:=q;simp only at oZ oW h3;simp only [CB] at h3
  have hx:Ct ts ⟨a,none⟩=match x with
   |some (p,c)=>(.none,⟨a,some ([(Bl,a+p),(Hr,p)],c)⟩)
   |none=>(ex,⟨a+n,none⟩):=by
   simp only [Ct,Fm,hq];cases x<;>rfl
  rw [hx];simp [Tryz.f121,Sr.pc];refine LpD.turns X hG [10,15,16] zL3 ?_;simp [hr,h3];cases x with
  |none =>have h2:=h2 none;simp at h2;have w1:IntKind.i64.wrap ((a:Int)+(n:Int))=(a:Int)+(n:Int):=Ab (by omega) (by omega);simp [eAV,h2,w1]
  |some y =>obtain ⟨p,c⟩:=y;have hp:=oW p c rfl;have w1:IntKind.i64.wrap ((a:Int)+(p:Int))=(a:Int)+(p:Int):=Ab (by omega) (by omega);have h2:=h2 (some [.str Di,.int .i64 (p:Int),Ac [] (c:Int)]);have h1:=h1 ((a:Int)+(p:Int)) [(Di,(p:Int))] (c:Int);simp [Ac,Di,Bl] at h1 h2;simp [eAV,Ac,Di,h2];refine LpD.turns X hG [11,14] [(0,11)] ?_;simp [w1,h1,erI,Ac,Cn,Bl,Hr,Di,Bm]
theorem io (ts:List Wd) (oK:ts.length<1000000) (r:Sr) (hr:r.at_≤ts.length) {H:AH} {id:Nat} (hH:H.at id=some (.box (r.pc ts))) :
  CS zP AJ 118 [.ptr id 0,.func (.func 119) [] []] H (Ey (Fo ts r).1) (H.set id (some (.box ((Fo ts r).2.pc ts)))):=by
 refine CS.rd Bh Tryz.func118 (by kernel_rfl) 0 (by simp [Tryz.f118]) (fun B hB hG => ?_) (by simp) (by simp [Ey]) (Cp _ _) (Cp _ _) hH;have hL:([CO,fAs,Jb].map (·.f)).Nodup:=show ([61,27,119]:List Nat).Nodup by decide
 have X:=Bn [CO,fAs,Jb] B4 Ad;have h1:=fun p l c H=>C0 hL (show CO∈[CO,fAs,Jb] by simp) (p,l,c) trivial H
 have h2:=fun o e0 e1 e2 e3 H=>QC hL (show fAs∈[CO,fAs,Jb] by simp) o 4 .nilPtr rfl (e0::e1::e2::e3::some (.box [.nilPtr])::H) rfl
 have h3:=fun H=>C0 hL (show Jb∈[CO,fAs,Jb] by simp) (ts,r.at_) ⟨oK,hr⟩ H
 generalize oOf [CO,fAs,Jb]=O at X h1 h2 h3;refine Tr.goD X hG ?_;obtain ⟨a,e⟩:=r;obtain ⟨oZ,oW⟩:=NA (ts.drop a);rw [List.length_drop] at oZ oW;simp only at hr;cases e with
 |some y=>simp [Tryz.f118,Sr.pc,Fo,Fm,Ey,Bm]
 |none =>
  simp only [KZ] at h3;generalize hq:CR (ts.drop a)=q at *;obtain ⟨⟨op,ea,eb⟩,n,x⟩:=q;simp only at oZ oW h3;simp only [Ey,CB,List.cons_append,List.nil_append] at h3
  have hx:Fo ts ⟨a,none⟩=match x with
   |some (p,c)=>(([],.none,.none),⟨a,some ([(Bl,a+p),(Hr,p)],c)⟩)
   |none=>((op,ea,eb),⟨a+n,none⟩):=by
   simp only [Fo,Fm,hq];cases x<;>rfl
  rw [hx];simp [Tryz.f118,Sr.pc];refine LpD.turns X hG [10,15,16] zL3 ?_;simp [hr,h3];cases x with
  |none =>have h2:=h2 none;simp at h2;have w1:IntKind.i64.wrap ((a:Int)+(n:Int))=(a:Int)+(n:Int):=Ab (by omega) (by omega);simp [eAV,h2,w1,Ey]
  |some y =>obtain ⟨p,c⟩:=y;have hp:=oW p c rfl;have w1:IntKind.i64.wrap ((a:Int)+(p:Int))=(a:Int)+(p:Int):=Ab (by omega) (by omega);have h2:=h2 (some [.str Di,.int .i64 (p:Int),Ac [] (c:Int)]);have h1:=h1 ((a:Int)+(p:Int)) [(Di,(p:Int))] (c:Int);simp [Ac,Di,Bl] at h1 h2;simp [eAV,Ac,Di,h2];refine LpD.turns X hG [11,14] [(0,11)] ?_;simp [w1,h1,erI,Ac,Cn,Bl,Hr,Di,Ey,Bm]
noncomputable def Ui (ts:List Wd) (oK:ts.length<1000000):AF zP AJ:=AF.meth 118 (Sr.pc ts) (FP ts) (fun (_:Unit) r=>r.at_≤ts.length) (fun _ _=>[.func (.func 119) [] []]) (fun _ r=>Ey (Fo ts r).1) (fun _ r=>(Fo ts r).2)
 (fun _ r h H id hH=>io ts oK r h hH) (fun id x y r _ _ h=>⟨rfl,rfl⟩)
noncomputable def LY (ts:List Wd) (oK:ts.length<1000000):AF zP AJ:=AF.meth 121 (Sr.pc ts) (FP ts) (fun (_:Unit) r=>r.at_≤ts.length) (fun _ _=>[.func (.func 123) [] []]) (fun _ r => .agg (tC (Ct ts r).1.tn)) (fun _ r=>(Ct ts r).2)
 (fun _ r h H id hH=>im ts oK r h hH) (fun id x y r _ _ h=>⟨rfl,rfl⟩)
theorem ip (ts:List Wd) (oK:ts.length<1000000) (r:Sr) (hr:r.at_≤ts.length) {H:AH} {id:Nat} (hH:H.at id=some (.box (r.pc ts))) :
  CS zP AJ 96 [.ptr id 0] H (.agg (tC (Ct ts r).1.tn)) (H.set id (some (.box ((Ct ts r).2.pc ts)))):=by
 refine CS.rd Bh Tryz.func96 (by kernel_rfl) 0 (by simp [Tryz.f96]) (fun B hB hG => ?_) (by simp) (by simp) (Cp _ _) (Cp _ _) hH;have hL:([LY ts oK].map (·.f)).Nodup:=show ([121]:List Nat).Nodup by decide
 have X:=Bn [LY ts oK] B4 Ad;have h1:=fun e0 H=>Bk hL (show LY ts oK∈[LY ts oK] by simp) () r (H:=some (.box (r.pc ts))::e0::H) (id:=0) rfl hr
 generalize oOf [LY ts oK]=O at X h1;refine Tr.goD X hG ?_;simp only [CB,Sr.pc] at h1;simp at h1;simp [Tryz.f96,Sr.pc,h1]
theorem iq (us:List Wd):DU us 0=AE us:=by unfold DU;rw [if_neg (by rintro ⟨h1,h2⟩;exact h2 (List.length_eq_zero_iff.1 h1.symm)),List.drop_zero]
@[simp high] theorem nk {ts:List Wd} {a e:Nat} (ha:a<ts.length) (h:a≤e) (he:e≤ts.length):BD zP 171 (DU ts a) none (some (.int .i64 ((e-a:Nat):Int))) none=some (if e=a then .slice .unk 4 0 [] else AE ((ts.drop a).take (e-a))):=by
 have hd:ts.drop a≠[]:=by intro h2;have:=congrArg List.length h2;rw [List.length_drop] at this;simp at this;omega
 have hl:=List.length_drop (i:=a) (l:=ts);have h1:((e-a:Nat):Int)≤((ts.length-a:Nat):Int):=by omega
 unfold DU;rw [if_neg (by omega)];unfold AE;rw [if_neg hd]
 by_cases xc:e=a
 ·subst xc
  simp [BD,hl]
 ·have ht:(ts.drop a).take (e-a)≠[]:=by
   intro h2;have:=congrArg List.length h2;rw [List.length_take,hl] at this;simp at this;omega
  have oX:((ts.drop a).take (e-a)).length=e-a:=by rw [List.length_take,hl];omega
  rw [if_neg xc,if_neg ht,oX];simp [BD,hl,h1];rw [←Uf]
def upW (ts:List Wd) (r:Sr) (e:Nat):Ex × Sr:=Fm ts .none (fun l=>B0 (l.take (e-r.at_))) r
structure Kc (ts:List Wd) (H:AH) (r:Sr) (e i0 i1 i2:Nat):Prop where
 d01:i0≠i1
 d02:i0≠i2
 d12:i1≠i2
 h0:H.at i0=some (.box (r.pc ts))
 h1:H.at i1=some (.box [.ptr i0 0])
 h2:H.at i2=some (.box [.int .i64 (e:Int)])
 lt:r.at_<ts.length
 le:r.at_<e
 up:e≤ts.length
def φ3 (i0 i1 i2:Nat):Nat→Nat:=fun i=>if i=0 then i0 else if i=1 then i1 else i2
theorem Uj {i0 i1 i2:Nat} (h1:i0≠i1) (h2:i0≠i2) (h3:i1≠i2):∀i j,i<3→j<3→φ3 i0 i1 i2 i=φ3 i0 i1 i2 j→i=j:=by intro i j hi hj h;rcases (by omega:i=0∨i=1∨i=2) with rfl|rfl|rfl<;>rcases (by omega:j=0∨j=1∨j=2) with rfl|rfl|rfl<;>simp [φ3] at h ⊢ <;> omega
theorem Uk {ts:List Wd} {H:AH} {r r':Sr} {e e' i0 i0' i1 i2:Nat} (h:Kc ts H r e i0 i1 i2) (k:Kc ts H r' e' i0' i1 i2):r=r'∧e=e'∧i0=i0':=by have e1:=h.h1.symm.trans k.h1;simp only [Option.some.injEq,Ent.box.injEq,List.cons.injEq,AV.ptr.injEq,and_true] at e1;subst e1;have e0:=h.h0.symm.trans k.h0;simp only [Option.some.injEq,Ent.box.injEq] at e0;have e2:=h.h2.symm.trans k.h2;simp only [Option.some.injEq,Ent.box.injEq,List.cons.injEq,AV.int.injEq,true_and,and_true] at e2;exact ⟨FP ts _ _ e0,by omega,rfl⟩
theorem NF (ψ:Nat→Nat) (ts:List Wd) (r:Sr):AL ψ (r.pc ts)=r.pc ts:=BZ ψ _ (Cp ts r)
theorem ir (ts:List Wd) (oK:ts.length<1000000) {r:Sr} {e i0 i1 i2:Nat} {H:AH} (h:Kc ts H r e i0 i1 i2) :
  CS zP AJ 122 [DU ts r.at_,.ptr i2 0,.ptr i1 0] H (Eh (B0 ((ts.drop r.at_).take (e-r.at_)))) H:=by
 obtain ⟨d01,d02,d12,h0,h1,h2,oX,oO,q8⟩:=h;have hL:([GM].map (·.f)).Nodup:=show ([123]:List Nat).Nodup by decide
 have X:=Bn [GM] B4 Ad;have hl:((ts.drop r.at_).take (e-r.at_)).length<1000000:=by rw [List.length_take,List.length_drop];omega
 have h3:=fun H=>C0 hL (show GM∈[GM] by simp) ((ts.drop r.at_).take (e-r.at_),0) ⟨hl,Nat.zero_le _⟩ H
 simp only [iq,List.drop_zero] at h3;generalize oOf [GM]=O at X h3
 have key:=CS.of_Tr (P:=zP) (E:=AJ) (f:=122) (c:=Au Tryz.f122) (args:=[DU ts r.at_,.ptr 2 0,.ptr 1 0]) (H0:=[some (.box (r.pc ts)),some (.box [.ptr 0 0]),some (.box [.int .i64 (e:Int)])]) (H1:=[some (.box (r.pc ts)),some (.box [.ptr 0 0]),some (.box [.int .i64 (e:Int)])])
  (v:=Eh (B0 ((ts.drop r.at_).take (e-r.at_)))) Tryz.func122 (by kernel_rfl) 0 (by simp [Tryz.f122]) (fun B hB hG=>by
   refine Tr.goD X hG ?_;have w1:IntKind.i64.wrap ((e:Int)-(r.at_:Int))=((e-r.at_:Nat):Int):=by rw [Ab (by omega) (by omega)];omega
   have oL:¬e=r.at_:=by omega
   have yJ:r.at_≤e:=by omega
   simp only [Eh,CB] at h3;generalize ur:(ts.drop r.at_).take (e-r.at_)=us at *;generalize B0 us=q at *;simp [Tryz.f122,Sr.pc];refine LpD.turns X hG [8,12] [] ?_
   simp [w1,oX,yJ,q8,oL,ur,h3,Eh]) (by simp [Eh]) (by simp [Sr.pc])
 have:=CS.embed (φ3 i0 i1 i2) (k:=3) (H:=H) (H':=H) key rfl rfl (Uj d01 d02 d12) Bh (by simp) (by simp [Eh]) (by simp [Sr.pc]) (by simp [Sr.pc]) (by
  intro i hi;rcases (by omega:i=0∨i=1∨i=2) with rfl|rfl|rfl
  ·simp [φ3,AH.at,AI,NF];exact h0
  ·simp [φ3,AH.at,AI,AL,ren];exact h1
  ·simp [φ3,AH.at,AI,AL,ren];exact h2) (by
  intro i hi;rcases (by omega:i=0∨i=1∨i=2) with rfl|rfl|rfl
  ·simp [φ3,AH.at,AI,NF];exact h0
  ·simp [φ3,AH.at,AI,AL,ren];exact h1
  ·simp [φ3,AH.at,AI,AL,ren];exact h2) (fun j hj=>rfl)
 rw [DE _ _ (by simp [Eh]:low 0 (Eh (B0 ((ts.drop r.at_).take (e-r.at_))))=true)] at this;simpa [AL,ren,φ3,DE _ (DU ts r.at_) (ij 0 ts r.at_)] using this
noncomputable def H4 (ts:List Wd) (oK:ts.length<1000000):AF zP AJ where
 f:=122
 α:=Sr × Nat × Nat × Nat × Nat
 ok:=fun x H=>Kc ts H x.1 x.2.1 x.2.2.1 x.2.2.2.1 x.2.2.2.2
 args:=fun x=>[DU ts x.1.at_,.ptr x.2.2.2.2 0,.ptr x.2.2.2.1 0]
 out:=fun x=>Eh (B0 ((ts.drop x.1.at_).take (x.2.1-x.1.at_)))
 up:=fun _ H=>H
 cs:=fun x H h=>⟨ir ts oK h,Cb.refl H⟩
 same:=fun x y H hx hy h=>by obtain ⟨r,e,i0,i1,i2⟩:=x;obtain ⟨r',e',i0',i1',i2'⟩:=y;simp only [List.cons.injEq,AV.ptr.injEq,and_true] at h hx hy;obtain ⟨_,rfl,rfl⟩:=h;obtain ⟨rfl,rfl,_⟩:=Uk hx hy;exact ⟨rfl,rfl⟩
theorem iu (ts:List Wd) (oK:ts.length<1000000) {r:Sr} {e i0 i1 i2:Nat} {H:AH} (h:Kc ts H r e i0 i1 i2) :
  CS zP AJ 121 [.ptr i0 0,.func (.func 122) [] [.ptr i2 0,.ptr i1 0]] H (.agg (tC (upW ts r e).1.tn)) (H.set i0 (some (.box ((upW ts r e).2.pc ts)))):=by
 obtain ⟨d01,d02,d12,h0,oZ,oW,oX,oO,q8⟩:=h;have hL:([CO,fAs,H4 ts oK].map (·.f)).Nodup:=show ([61,27,122]:List Nat).Nodup by decide
 have X:=Bn [CO,fAs,H4 ts oK] B4 Ad;have h1:=fun p l c H=>C0 hL (show CO∈[CO,fAs,H4 ts oK] by simp) (p,l,c) trivial H
 have h2:=fun o e0 e1 e2 e3 e4 e5 H=>QC hL (show fAs∈[CO,fAs,H4 ts oK] by simp) o 6 .nilPtr rfl (e0::e1::e2::e3::e4::e5::some (.box [.nilPtr])::H) rfl
 have h3:=fun H=>DS hL (H4 ts oK) (show H4 ts oK∈[CO,fAs,H4 ts oK] by simp) (x:=(r,e,0,1,2)) (H:=some (.box (r.pc ts))::some (.box [.ptr 0 0])::some (.box [.int .i64 (e:Int)])::H) ⟨Nat.zero_ne_one,(by simp),(by simp),rfl,rfl,rfl,oX,oO,q8⟩
 generalize oOf [CO,fAs,H4 ts oK]=O at X h1 h2 h3
 have key:=CS.of_Tr (P:=zP) (E:=AJ) (f:=121) (c:=Au Tryz.f121) (args:=[.ptr 0 0,.func (.func 122) [] [.ptr 2 0,.ptr 1 0]]) (H0:=[some (.box (r.pc ts)),some (.box [.ptr 0 0]),some (.box [.int .i64 (e:Int)])]) (H1:=[some (.box ((upW ts r e).2.pc ts)),some (.box [.ptr 0 0]),some (.box [.int .i64 (e:Int)])])
  (v := .agg (tC (upW ts r e).1.tn)) Tryz.func121 (by kernel_rfl) 0 (by simp [Tryz.f121]) (fun B hB hG=>by
   refine Tr.goD X hG ?_;obtain ⟨a,er⟩:=r;obtain ⟨oZ,oW⟩:=Kb ((ts.drop a).take (e-a));rw [List.length_take,List.length_drop] at oZ oW;simp only at oX oO;have hr:a≤ts.length:=by omega
   cases er with
   |some y=>simp [Tryz.f121,Sr.pc,upW,Fm,Bm]
   |none =>
    simp only [H4,Eh] at h3;generalize hq:B0 ((ts.drop a).take (e-a))=q at *;obtain ⟨ex,n,x⟩:=q;simp only at oZ oW h3;simp only [CB,Sr.pc,P9] at h3
    have hx:upW ts ⟨a,none⟩ e=match x with
     |some (p,c)=>(.none,⟨a,some ([(Bl,a+p),(Hr,p)],c)⟩)
     |none=>(ex,⟨a+n,none⟩):=by
     simp only [upW,Fm,hq];cases x<;>rfl
    rw [hx];simp [Tryz.f121,Sr.pc];refine LpD.turns X hG [10,15,16] zL3 ?_;simp [hr,h3];cases x with
    |none =>have h2:=h2 none;simp at h2;have w1:IntKind.i64.wrap ((a:Int)+(n:Int))=(a:Int)+(n:Int):=Ab (by omega) (by omega);simp [eAV,h2,w1]
    |some y =>
     obtain ⟨p,c⟩:=y;have hp:=oW p c rfl;have w1:IntKind.i64.wrap ((a:Int)+(p:Int))=(a:Int)+(p:Int):=Ab (by omega) (by omega);have h2:=h2 (some [.str Di,.int .i64 (p:Int),Ac [] (c:Int)]);have h1:=h1 ((a:Int)+(p:Int)) [(Di,(p:Int))] (c:Int);simp [Ac,Di,Bl] at h1 h2;simp [eAV,Ac,Di,h2];refine LpD.turns X hG [11,14] [(0,11)] ?_
     simp [w1,h1,erI,Ac,Cn,Bl,Hr,Di,Bm]) (by simp) (by simp [Sr.pc])
 have:=CS.embed (φ3 i0 i1 i2) (k:=3) (H:=H) (H':=H.set i0 (some (.box ((upW ts r e).2.pc ts)))) key rfl rfl (Uj d01 d02 d12) Bh (by simp) (by simp) (by simp [Sr.pc]) (by simp [Sr.pc]) (by
  intro i hi;rcases (by omega:i=0∨i=1∨i=2) with rfl|rfl|rfl
  ·simp [φ3,AH.at,AI,NF];exact h0
  ·simp [φ3,AH.at,AI,AL,ren];exact oZ
  ·simp [φ3,AH.at,AI,AL,ren];exact oW) (by
  intro i hi;rcases (by omega:i=0∨i=1∨i=2) with rfl|rfl|rfl
  ·have:φ3 i0 i1 i2 0=i0:=rfl
   rw [this,JC h0];simp [AH.at,AI,NF]
  ·have:φ3 i0 i1 i2 1=i1:=rfl
   rw [this,aSn d01];simp [φ3,AH.at,AI,AL,ren];exact oZ
  ·have:φ3 i0 i1 i2 2=i2:=rfl
   rw [this,aSn d02]
   simp [φ3,AH.at,AI,AL,ren];exact oW) (fun j hj=>aSn (hj 0 (by omega)))
 rw [DE _ _ (by simp:low 0 (.agg (tC (upW ts r e).1.tn))=true)] at this;simpa [AL,ren,φ3] using this
noncomputable def Jc (ts:List Wd) (oK:ts.length<1000000):AF zP AJ where
 f:=121
 α:=Sr × Nat × Nat × Nat × Nat
 ok:=fun x H=>Kc ts H x.1 x.2.1 x.2.2.1 x.2.2.2.1 x.2.2.2.2
 args:=fun x=>[.ptr x.2.2.1 0,.func (.func 122) [] [.ptr x.2.2.2.2 0,.ptr x.2.2.2.1 0]]
 out:=fun x => .agg (tC (upW ts x.1 x.2.1).1.tn)
 up:=fun x H=>H.set x.2.2.1 (some (.box ((upW ts x.1 x.2.1).2.pc ts)))
 cs:=fun x H h=>⟨iu ts oK h,Cb.set h.h0⟩
 same:=fun x y H hx hy h=>by obtain ⟨r,e,i0,i1,i2⟩:=x;obtain ⟨r',e',i0',i1',i2'⟩:=y;simp only [List.cons.injEq,AV.ptr.injEq,AV.func.injEq,and_true,true_and] at h hx hy;obtain ⟨rfl,rfl,rfl⟩:=h;obtain ⟨rfl,rfl,_⟩:=Uk hx hy;exact ⟨rfl,rfl⟩
@[simp] theorem nl:AJ.imm 174=false:=by decide
@[simp] theorem no:AJ.imm 92=false:=by decide
theorem iw {ts:List Wd} {e:Nat} {w:Wd} (h:ts[e]? = some w):ts.drop e=w::ts.drop (e+1):=by obtain ⟨hl,he⟩:=List.getElem?_eq_some_iff.1 h;rw [←he];exact List.drop_eq_getElem_cons hl
def TopI (ts:List Wd) (r:Sr) (E:Nat) (k:Nat) (t:List AV) (H:AH):Prop :=
 ∃(e d:Nat),e+k=ts.length∧r.at_<e∧e+Hs (ts.drop e) d=E∧(d=0→isK ts e 3 Av=true)∧d≤e ∧
  t=mkT 90 [(1,.ptr 1 0),(2,.ptr 2 0),(3,.ptr 3 0),(4,.int .i64 (d:Int))]∧H=[pbx ts r,some (.box [.ptr 0 0]),some (.box [.int .i64 0,.int .i64 0,.str [],.nilSlice]),some (.box [.int .i64 (e:Int)])]
theorem QD:∀(l:List Wd) (d:Nat),Hs l d≤l.length
 |[],d=>Nat.le_refl _
 |w::l,d=>by
  have h1:=QD l;have h2:=QD l d;simp only [Hs,List.length_cons];generalize (if w.text=Av then d+1 else if w.text=Aw then d-1 else d)=d2;have h3:=h1 d2
  split
  ·split<;>omega
  ·omega
theorem zDR {ts:List Wd} {i:Nat} (h:i<ts.length):i<HI ts i∧HI ts i≤ts.length:=by
 unfold HI
 split
 ·have h1:=QD (ts.drop (i+1)) 0
  rw [List.length_drop] at h1;omega
 ·omega
theorem iy {ts:List Wd} {r:Sr} (h:isW ts r 1 []=true):toW ts r=upW ts r (HI ts r.at_):=by simp [toW,upW,h]
theorem Ul {ts:List Wd} {i:Nat} {w:Wd} (h:ts[i]? = some w) (k:Nat) (s:List UInt8):isK ts i k s=(w.kind==k&&(s==[] || w.text==s)):=by simp only [isK,h]
theorem iz (ts:List Wd) (oK:ts.length<1000000) (r:Sr) (hr:r.at_≤ts.length) {H:AH} {id:Nat} (hH:H.at id=some (.box (r.pc ts))) :
  CS zP AJ 94 [.ptr id 0] H (.agg (tC (toW ts r).1.tn)) (H.set id (some (.box ((toW ts r).2.pc ts)))):=by
 refine CS.rd Bh Tryz.func94 (by kernel_rfl) 0 (by simp [Tryz.f94]) (fun B hB hG => ?_) (by simp) (by simp) (Cp _ _) (Cp _ _) hH;have hL:([DM ts,HU ts,Jc ts oK].map (·.f)).Nodup:=show ([63,120,121]:List Nat).Nodup by decide
 have X:=Bn [DM ts,HU ts,Jc ts oK] B4 Ad;have h0:=fun H=>LX (ts:=ts) hL (by simp) r r.at_ 2 H
 have h1:=fun H=>QA (ts:=ts) hL (by simp) r 1 [] H
 have h2:=fun (e:Nat) (e2:Option Ent) (h:r.at_<ts.length) (h':r.at_<e) (h'':e≤ts.length) H=>DS hL (Jc ts oK) (show Jc ts oK∈[DM ts,HU ts,Jc ts oK] by simp) (x:=(r,e,0,1,3)) (H:=pbx ts r::some (.box [.ptr 0 0])::e2::some (.box [.int .i64 (e:Int)])::H) ⟨Nat.zero_ne_one,(by simp),(by simp),rfl,rfl,rfl,h,h',h''⟩
 generalize oOf [DM ts,HU ts,Jc ts oK]=O at X h0 h1 h2;refine Tr.goD X hG ?_;simp [pbx] at h0 h1;cases hw:isW ts r 1 [] with
 |false =>
  rw [hw] at h1;have hx:toW ts r=(.none,r.fail r.at_ 2):=by simp [toW,hw]
  rw [hx];simp [Tryz.f94,Sr.pc,h1];refine LpD.turns X hG [5] [] ?_;simp [h0,Bm]
 |true =>
  rw [hw] at h1;obtain ⟨oX,he⟩:=Dl hw;rw [iy hw];obtain ⟨b1,b2⟩:=zDR oX;have h2':=h2 (HI ts r.at_) (some (.box [.int .i64 0,.int .i64 0,.str [],.nilSlice])) oX b1 b2;simp only [Jc,CB,Sr.pc] at h2';obtain ⟨E1,hE1⟩:∃E1,E1=r.at_+1:=⟨_,rfl⟩
  have hE:HI ts r.at_=if isK ts E1 3 Av then E1+Hs (ts.drop E1) 0 else E1:=by rw [hE1];rfl
  have w1:IntKind.i64.wrap ((r.at_:Int)+1)=(E1:Int):=by rw [Ab (by omega) (by omega)];omega
  simp [Tryz.f94,Sr.pc,h1,w1];generalize upW ts r (HI ts r.at_)=res at *;refine LpD.turns X hG [] [] ?_
  by_cases hl:E1<ts.length
  ·have hl':(E1:Int)<ts.length:=by omega
   obtain ⟨w,hx⟩:∃w,ts[E1]? = some w:=⟨_,List.getElem?_eq_getElem hl⟩
   obtain ⟨c0,c1,c3⟩:=EM hx;have hk:=Ul hx 3 Av
   by_cases pn:w.kind=3
   ·by_cases qW:w.text=[40]
    ·have rV:isK ts E1 3 Av=true:=by rw [hk];simp [pn,qW,Av]
     rw [rV] at hE;simp only [if_true] at hE;simp [hl,hl',c0,c1,pn,qW];generalize hEn:HI ts r.at_=En at *
     refine LpD.loopN X hG (TopI ts r En) (ts.length-E1) (t':=mkT 90 [(1,.ptr 1 0),(2,.ptr 2 0),(3,.ptr 3 0),(4,.int .i64 ((0:Nat):Int))])
      (H':=[pbx ts r,some (.box [.ptr 0 0]),some (.box [.int .i64 0,.int .i64 0,.str [],.nilSlice]),some (.box [.int .i64 (E1:Int)])])
      (AD.mkK 4 (by simp [hB]) (by simp) (by simp [pbx]) (by simp [pbx])) ⟨E1,0,by omega,by omega,hE.symm,fun _=>rV,by omega,rfl,rfl⟩ ?_
     clear hk pn qW rV c0 c1 c3 hx hl hl' hE w;rintro k t H ⟨e,d,hek,hre,oq,rp,hdb,rfl,rfl⟩;cases k with
     |zero =>
      have hn:¬(e:Int)<ts.length:=by omega
      rw [List.drop_of_length_le (by omega)] at oq;have oq:e=En:=oq;subst oq;simp at h2';simp [pbx];refine LpD.turns X hG [] [] ?_;simp [Bo,hn,h2']
     |succ k =>
      have hl:e<ts.length:=by omega
      have hl':(e:Int)<ts.length:=by omega
      obtain ⟨w,hx⟩:∃w,ts[e]? = some w:=⟨_,List.getElem?_eq_getElem hl⟩
      obtain ⟨c0,c1,c3⟩:=EM hx;have hk:=Ul hx 3 Av;have we:IntKind.i64.wrap ((e:Int)+1)=((e+1:Nat):Int):=by rw [Ab (by omega) (by omega)];omega
      rw [iw hx] at oq;simp [pbx];refine LpD.turns X hG [] [] ?_;simp [hl,hl'];refine LpD.turns X hG [] [] ?_
      by_cases pn:w.kind=3
      ·simp only [Hs,pn,if_true] at oq
       simp [hl,c0,pn];refine LpD.turns X hG [] [] ?_
       by_cases qW:w.text=[40]
       ·have vz:w.text=Av:=qW
        rw [if_pos vz,if_neg (by omega)] at oq;have wd:IntKind.i64.wrap ((d:Int)+1)=((d+1:Nat):Int):=by rw [Ab (by omega) (by omega)];omega
        have oi:¬((d+1:Nat):Int)=0:=by omega
        have ob:(((d+1:Nat):Int)==0)=false:=by rw [beq_eq_false_iff_ne];exact oi
        simp [hl,c1,qW,wd,we,oi,ob,Bo,-Int.natCast_add];exact Nxt.mk k (by omega) (AD.mkK 4 (by simp [hB]) (by simp) (by simp [pbx]) (by simp [pbx])) ⟨e+1,d+1,by omega,by omega,by omega,fun h=>by omega,by omega,rfl,rfl⟩
       ·have vz:¬w.text=Av:=qW
        have hd:d≠0:=fun h=>by have:=rp h;rw [hk] at this;simp [Av,qW] at this
        rw [if_neg vz] at oq
        by_cases rR:w.text=[41]
        ·have zAZ:w.text=Aw:=rR
         rw [if_pos zAZ] at oq;have wd:IntKind.i64.wrap ((d:Int)-1)=((d-1:Nat):Int):=by rw [Ab (by omega) (by omega)];omega
         by_cases hz:d-1=0
         ·rw [if_pos hz] at oq
          subst oq;have hz':((d-1:Nat):Int)=0:=by omega
          simp [hl,c1,qW,rR,wd,hz',we,Bo,h2',-Int.natCast_add]
         ·rw [if_neg hz] at oq
          have oi:¬((d-1:Nat):Int)=0:=by omega
          have ob:(((d-1:Nat):Int)==0)=false:=by rw [beq_eq_false_iff_ne];exact oi
          simp [hl,c1,qW,rR,wd,we,oi,ob,Bo,-Int.natCast_add];exact Nxt.mk k (by omega) (AD.mkK 4 (by simp [hB]) (by simp) (by simp [pbx]) (by simp [pbx])) ⟨e+1,d-1,by omega,by omega,by omega,fun h=>by omega,by omega,rfl,rfl⟩
        ·have zAZ:¬w.text=Aw:=rR
         rw [if_neg zAZ,if_neg hd] at oq;have oi:¬((d:Nat):Int)=0:=by omega
         have ob:(((d:Nat):Int)==0)=false:=by rw [beq_eq_false_iff_ne];exact oi
         simp [hl,c1,qW,rR,we,oi,ob,hd,Bo,-Int.natCast_add];exact Nxt.mk k (by omega) (AD.mkK 4 (by simp [hB]) (by simp) (by simp [pbx]) (by simp [pbx])) ⟨e+1,d,by omega,by omega,by omega,fun h=>by omega,by omega,rfl,rfl⟩
      ·simp only [Hs,pn,if_false] at oq
       have hd:d≠0:=fun h=>by have:=rp h;rw [hk] at this;simp [pn] at this
       have wB:((w.kind:Int)==3)=false:=by rw [beq_eq_false_iff_ne];omega
       have qO:¬(w.kind:Int)=3:=by omega
       simp [hl,c0,pn,wB,qO,we,Bo,-Int.natCast_add];exact Nxt.mk k (by omega) (AD.mkK 4 (by simp [hB]) (by simp) (by simp [pbx]) (by simp [pbx])) ⟨e+1,d,by omega,by omega,by omega,fun h=>by omega,by omega,rfl,rfl⟩
    ·have rV:isK ts E1 3 Av=false:=by rw [hk];simp [qW,Av]
     rw [rV] at hE;simp only [Bool.false_eq_true,if_false] at hE;rw [hE] at h2';simp at h2';simp [hl,hl',c0,c1,pn,qW,h2']
   ·have rV:isK ts E1 3 Av=false:=by rw [hk];simp [pn]
    have wB:((w.kind:Int)==3)=false:=by rw [beq_eq_false_iff_ne];omega
    have qO:¬(w.kind:Int)=3:=by omega
    rw [rV] at hE;simp only [Bool.false_eq_true,if_false] at hE;rw [hE] at h2';simp at h2';simp [hl,hl',c0,c1,pn,wB,qO,h2']
  ·have hl':¬(E1:Int)<ts.length:=by omega
   have hx:ts[E1]? = none:=List.getElem?_eq_none (by omega);have rV:isK ts E1 3 Av=false:=by simp only [isK,hx]
   rw [rV] at hE;simp only [Bool.false_eq_true,if_false] at hE;rw [hE] at h2';simp at h2';simp [hl,hl',h2']
theorem Gz (ts:List Wd) (r:Sr) (k:Nat) (s:List UInt8):r.at_≤(BK ts r k s).2.at_∧(r.at_≤ts.length→(BK ts r k s).2.at_≤ts.length):=by
 unfold BK
 split
 ·rename_i h
  have:=(Dl h).1;exact ⟨Nat.le_succ _,fun _=>this⟩
 ·exact ⟨Nat.le_refl _,fun h=>h⟩
theorem QE {α:Type} {ts:List Wd} {z:α} {of:List Wd→α × Nat × Option (Nat × Nat)} (h:∀l,(of l).2.1≤l.length) (r:Sr):r.at_≤(Fm ts z of r).2.at_∧(r.at_≤ts.length→(Fm ts z of r).2.at_≤ts.length):=by
 unfold Fm
 split
 ·exact ⟨Nat.le_refl _,fun h=>h⟩
 ·split
  ·exact ⟨Nat.le_refl _,fun h=>h⟩
  ·have:=h (ts.drop r.at_)
   rw [List.length_drop] at this;exact ⟨Nat.le_add_right _ _,fun h=>by simp only;omega⟩
theorem Um (ts:List Wd) (r:Sr):r.at_≤(Ct ts r).2.at_∧(r.at_≤ts.length→(Ct ts r).2.at_≤ts.length):=QE (fun l=>(Kb l).1) r
theorem z9 (ts:List Wd) (r:Sr):r.at_≤(Fo ts r).2.at_∧(r.at_≤ts.length→(Fo ts r).2.at_≤ts.length):=QE (fun l=>(NA l).1) r
theorem i7 (ts:List Wd) (r:Sr):r.at_≤(toW ts r).2.at_∧(r.at_≤ts.length→(toW ts r).2.at_≤ts.length):=by
 unfold toW
 split
 ·refine QE (fun l => ?_) r
  have:=(Kb (l.take (HI ts r.at_-r.at_))).1;rw [List.length_take] at this;omega
 ·exact ⟨Nat.le_refl _,fun h=>h⟩
theorem QF (ts:List Wd):∀(n:Nat) (d:List Int) (r:Sr),r.at_≤(Dw ts n d r).2.at_∧(r.at_≤ts.length→(Dw ts n d r).2.at_≤ts.length)
 |0,d,r=>⟨Nat.le_refl _,fun h=>h⟩
 |n+1,d,r=>by
  unfold Dw
  split
  ·exact ⟨Nat.le_refl _,fun h=>h⟩
  ·obtain ⟨a1,a2⟩:=Gz ts r 2 []
   generalize BK ts r 2 []=m at *;simp only;obtain ⟨r1,oj⟩:∃r1,r1=if m.1.n=0 then m.2.fail r.at_ 1 else m.2:=⟨_,rfl⟩
   rw [←oj];have h1:r1.at_=m.2.at_:=by rw [oj];split<;>rfl
   split
   ·rename_i hc
    have hl:=(Dl hc).1;obtain ⟨r2,om⟩:∃r2,r2=(if (d++[(m.1.n:Int)]).length=4 then r1.fail r1.at_ 4 else r1).step:=⟨_,rfl⟩
    rw [←om];have h2:r2.at_=r1.at_+1:=by rw [om];split<;>rfl
    obtain ⟨b1,b2⟩:=QF ts n (d++[(m.1.n:Int)]) r2;exact ⟨by omega,fun h=>b2 (by omega)⟩
   ·exact ⟨by simp only;omega,fun h=>by have:=a2 h;simp only;omega⟩
theorem Un (ts:List Wd) (r:Sr):r.at_≤(EK ts r).2.at_∧(r.at_≤ts.length→(EK ts r).2.at_≤ts.length):=by
 simp only [EK];obtain ⟨a1,a2⟩:=Gz ts r 1 [];generalize BK ts r 1 []=m at *
 split
 ·rename_i hc
  have hl:=(Dl hc).1;obtain ⟨b1,b2⟩:=QF ts 5 [] m.2.step;obtain ⟨c1,c2⟩:=Gz ts (Dw ts 5 [] m.2.step).2 3 Aw;have hs:m.2.step.at_=m.2.at_+1:=rfl;exact ⟨by simp only;omega,fun h=>c2 (b2 (by omega))⟩
 ·exact ⟨a1,a2⟩
structure PrO (O:Orc) (ts:List Wd):Prop where
 fail:∀(r:Sr) (p c:Nat) (H:AH),O 63 [.ptr 0 0,.int .i64 (p:Int),.int .i64 (c:Int)] (pbx ts r::H)=some (.tup [],pbx ts (r.fail p c)::H)
 is:∀(r:Sr) (k:Nat) (s:List UInt8) (H:AH),O 120 [.ptr 0 0,.int .i64 (k:Int),.str s] (pbx ts r::H)=some (.bool (isW ts r k s),pbx ts r::H)
 takes:∀(r:Sr) (k:Nat) (s:List UInt8) (H:AH),O 117 [.ptr 0 0,.int .i64 (k:Int),.str s] (pbx ts r::H)=some (.bool (isW ts r k s),pbx ts (CG ts r k s)::H)
 must:∀(r:Sr) (k:Nat) (s:List UInt8) (H:AH),O 95 [.ptr 0 0,.int .i64 (k:Int),.str s] (pbx ts r::H)=some (.agg (BA (BK ts r k s).1),pbx ts (BK ts r k s).2::H)
noncomputable def Lpr (ts:List Wd) (oK:ts.length<1000000):List (AF zP AJ):=[DM ts,HU ts,FQ ts oK,Ja ts oK]
theorem Uo (ts:List Wd) (oK:ts.length<1000000):PrO (oOf (Lpr ts oK)) ts:=by
 have hL:((Lpr ts oK).map (·.f)).Nodup:=show ([63,120,117,95]:List Nat).Nodup by decide
 exact ⟨fun r p c H=>LX hL (show DM ts∈Lpr ts oK by simp [Lpr]) r p c H,fun r k s H=>QA hL (show HU ts∈Lpr ts oK by simp [Lpr]) r k s H,fun r k s H=>NE oK hL (show FQ ts oK∈Lpr ts oK by simp [Lpr]) r k s H,
  fun r k s H=>QB oK hL (show Ja ts oK∈Lpr ts oK by simp [Lpr]) r k s H⟩
theorem Up (ts:List Wd) (oK:ts.length<1000000):Cx (oOf (Lpr ts oK)) zP AJ:=Bn _ B4 Ad
def QG {α:Type} (l:List α):AH:=if l=[] then [] else [some (.tok l.length)]
@[simp] theorem np {α:Type}:QG ([]:List α)=[]:=AS rfl
@[simp] theorem nq {α:Type} (x:α) (l:List α):QG (x::l)=[some (.tok (l.length+1))]:=AS rfl
@[simp] theorem buSit (s:List UInt8):Aq zP 134 [(0,.str s)]=some (.agg [.str s,.nilSlice]):=by kernel_rfl
@[simp] theorem bsSit (s:List UInt8) (v:AV):CK zP 85 1 [(0,.agg [.str s,v])]=some (.slice .full 2 1 [.str s,v]):=by kernel_rfl
theorem NG:Bg zP 85 2=true:=by kernel_rfl
def DimP (ts:List Wd) (nm:List UInt8) (res:List Int × Sr) (k:Nat) (t:List AV) (H:AH):Prop :=
 ∃(d:List Int) (r:Sr),Dw ts k d r=res∧k+d.length=5∧(r.err=none→d.length<4)∧r.at_≤ts.length ∧
  t=mkT 60 [(0,.ptr 0 0),(2,.ptr 1 0),(3,.ptr 2 0)]∧H=pbx ts r::some (.box [.str [],.nilSlice])::some (.box [.str nm,AN.tk 3 d])::QG d
theorem i8 (ts:List Wd) (oK:ts.length<1000000) (r:Sr) (hr:r.at_≤ts.length) {H:AH} {id:Nat} (hH:H.at id=some (.box (r.pc ts))) :
  CS zP AJ 131 [.ptr id 0] H (.agg (itE.c (EK ts r).1)) (H.set id (some (.box ((EK ts r).2.pc ts)))):=by
 refine CS.rd Bh Tryz.func131 (by kernel_rfl) 0 (by simp [Tryz.f131]) (fun B hB hG => ?_) (by simp) (by simp [GJ]) (Cp _ _) (Cp _ _) hH;have X:=Up ts oK;have hO:=Uo ts oK;generalize oOf (Lpr ts oK)=O at X hO;have f1:=fun H=>hO.must r 1 [] H
 obtain ⟨a1,a2⟩:=Gz ts r 1 [];have hi:EK ts r=if isW ts (BK ts r 1 []).2 3 Av then (⟨(BK ts r 1 []).1.text,(Dw ts 5 [] (BK ts r 1 []).2.step).1⟩,(BK ts (Dw ts 5 [] (BK ts r 1 []).2.step).2 3 Aw).2) else (⟨(BK ts r 1 []).1.text,[]⟩,(BK ts r 1 []).2):=rfl
 rw [hi];generalize BK ts r 1 []=m at *;obtain ⟨w,r1⟩:=m;have f2:=fun H=>hO.takes r1 3 Av H
 refine Tr.goD X hG ?_;simp [pbx,BA] at f1;cases oz:isW ts r1 3 Av with
 |false =>rw [oz,Gx oz] at f2;simp [pbx,Av] at f2;simp [Tryz.f131,Sr.pc,f1,f2,GJ]
 |true =>
  rw [oz,Gw oz] at f2;have pN:=(Dl oz).1;have hs:r1.step.at_=r1.at_+1:=rfl;have oZ:pbx ts r1.step=some (.box [AE ts,.int .i64 ((r1.at_:Int)+1),erI r1.err]):=by simp [pbx,Sr.step]
  rw [oZ] at f2;simp [pbx,Av] at f2;simp only [if_true];generalize oM:Dw ts 5 [] r1.step=res;obtain ⟨u1,u2⟩:=QF ts 5 [] r1.step;rw [oM] at u1 u2;have hu:=u2 (by omega);simp [Tryz.f131,Sr.pc,f1,f2]
  refine LpD.loopN X hG (DimP ts w.text res) 5 (t':=mkT 60 [(0,.ptr 0 0),(2,.ptr 1 0),(3,.ptr 2 0)]) (H':=pbx ts r1.step::some (.box [.str [],.nilSlice])::some (.box [.str w.text,.nilSlice])::[])
   (AD.mkK 3 (by simp [hB]) (by simp) (by simp [oZ]) (by simp [oZ])) ⟨[],r1.step,oM,rfl,fun _=>by decide,by omega,rfl,by simp⟩ ?_
  clear f1 f2 oz pN hs oZ u1 u2 a1 a2 hi oM;rintro k t H ⟨d,q,oM,wC,sE,hq,rfl,rfl⟩;have fin:=fun (q:Sr) H=>hO.must q 3 Aw H
  have oy:=AN.tk_cut (show ¬3<1 by omega);simp [Aw,pbx] at fin;cases he:q.err with
  |some y =>
   obtain rfl:res=(d,q):=by
    rw [←oM];cases k with
    |zero=>rfl
    |succ k=>simp only [Dw,he]
   have fin:=fun H=>fin q H
   rw [he] at fin;simp [Bo,pbx,he,fin,GJ,oy,Aw]
  |none =>
   have sE:=sE he;obtain ⟨k,rfl⟩:∃j,k=j+1:=⟨k-1,by omega⟩
   have fm:=fun H=>hO.must q 2 [] H
   obtain ⟨a1,a2⟩:=Gz ts q 2 [];obtain ⟨m,hm⟩:∃m,m=BK ts q 2 []:=⟨_,rfl⟩
   obtain ⟨q2,rG⟩:∃q2,q2=if m.1.n=0 then m.2.fail q.at_ 1 else m.2:=⟨_,rfl⟩
   have qc:Dw ts (k+1) d q=if isW ts q2 3 A4 then Dw ts k (d++[(m.1.n:Int)]) (if (d++[(m.1.n:Int)]).length=4 then q2.fail q2.at_ 4 else q2).step else (d++[(m.1.n:Int)],q2):=by rw [rG,hm];simp only [Dw,he]
   rw [qc] at oM;rw [←hm] at fm a1 a2
   have uv:q2.at_≤ts.length:=by
    have:q2.at_=m.2.at_:=by rw [rG];split<;>rfl
    have:=a2 hq;omega
   have ff:=fun H=>hO.fail m.2 q.at_ 1 H
   have fi:=fun H=>hO.is q2 3 A4 H
   have f4:=fun H=>hO.fail q2 q2.at_ 4 H
   clear hm qc a1 a2;obtain ⟨w2,q1⟩:=m;simp only at rG oM ff fm;simp [pbx,BA,he] at fm;simp [pbx] at ff;simp [pbx,A4] at fi;simp [pbx] at f4;have fin:=fun H=>fin q2 H
   have sQ:BK ts q2 3 [41]=BK ts q2 3 Aw:=rfl
   have hz:(w2.n=0∧q2=q1.fail q.at_ 1)∨(¬w2.n=0∧q2=q1):=by
    by_cases h:w2.n=0
    ·exact .inl ⟨h,by rw [rG,if_pos h]⟩
    ·exact .inr ⟨h,by rw [rG,if_neg h]⟩
   clear rG;have xd:∀z:Int,AN.av [z] = .slice .unk 1 1 [.int .i64 z]:=fun z=>rfl
   have oP:=fun (z:Int) H ow=>F9 (P:=zP) (t:=48) (sz:=1) (m:=1) (H:=H) (fid:=3) (ow:=ow) (ys:=[.int .i64 z]) Ij (by decide) (by decide) (by simp)
   have tJ:=fun (z x:Int) (d:List Int) H ow (h:AH.at H 3=some (.tok (x::d).length)) (hd:d.length<4)=>EZ (P:=zP) (t:=48) (sz:=1) (n:=(x::d).length) (m:=1) (H:=H) (fid:=4) (ow:=ow) (xs:=AN.row (x::d)) (ys:=[.int .i64 z]) Ij h (by decide) (by simp;omega) (by simp)
   have rW:∀(z x:Int) (d:List Int),AN.row (x::d)++[.int .i64 z]=AN.row (x::d++[z]):=fun z x d=>by rw [AN.row_append];rfl
   have oe:∀(x:Int) (d:List Int),AN.tk 3 (x::d) = .slice (.tok 3) 1 (d.length+1) (AN.row (x::d)):=fun x d=>rfl
   have wD:∀(z x:Int) (d:List Int),AN.av (x::(d++[z])) = .slice .unk 1 (d.length+1+1) (AN.row (x::d++[z])):=fun z x d=>by rw [AN.av_cons,List.length_append];rfl
   have oS:=fun l=>AN.row_strip 1 l
   simp only [rW] at tJ;simp at tJ wD oS;cases hc:isW ts q2 3 A4 with
   |false =>
    rw [hc] at oM;obtain rfl:(d++[(w2.n:Int)],q2)=res:=oM;have hc':isW ts q2 3 [44]=false:=hc;rw [hc'] at fi;simp only;rcases hz with ⟨hz,rfl⟩|⟨hz,rfl⟩
    ·cases d with
     |nil=>simp [pbx,he,fm,ff,hz,oP,fi,fin,Bo,GJ,xd,Aw]
     |cons x d =>
      have tK:d.length<4:=by simp at sE;omega
      simp [pbx,he,fm,ff,hz,oe,tJ,tK,fi,fin,Bo,GJ,wD,oS,Aw]
    ·have hz':((w2.n:Int)==0)=false:=by rw [beq_eq_false_iff_ne];omega
     cases d with
     |nil=>simp [pbx,he,fm,ff,hz,hz',oP,fi,fin,Bo,GJ,xd,Aw]
     |cons x d =>
      have tK:d.length<4:=by simp at sE;omega
      simp [pbx,he,fm,ff,hz,hz',oe,tJ,tK,fi,fin,Bo,GJ,wD,oS,Aw]
   |true =>
    obtain ⟨oh,ot⟩:=Dl hc
    have qS:¬w2.n=0∧q2=q1:=by
     rcases hz with ⟨_,h⟩|h
     ·rw [h] at ot
      simp [Sr.fail] at ot
     ·exact h
    clear hz;obtain ⟨hz,rfl⟩:=qS;have hz':((w2.n:Int)==0)=false:=by rw [beq_eq_false_iff_ne];omega
    rw [hc] at oM;simp only [if_true] at oM;have hc':isW ts q2 3 [44]=true:=hc;rw [hc'] at fi;simp only [ot,P9] at fi fm f4;have wa:IntKind.i64.wrap ((q2.at_:Int)+1)=(q2.at_:Int)+1:=Ab (by omega) (by omega);have pB:∀(m:Nat) (l:List Int),lowL m (AN.row l)=true:=fun m l=>AN.row_lowm m l
    cases d with
    |nil =>
     have oM:Dw ts k [(w2.n:Int)] q2.step=res:=by simpa using oM
     simp [pbx,he,ot,fm,hz,hz',oP,fi,wa];exact Nxt.mk k (by omega) (AD.mkK 4 (by simp [hB]) (by simp) (by simp [pbx,Sr.step,ot,oe,LU,Enc.row]) (by simp [pbx,Sr.step,ot,oe,LU,Enc.row])) ⟨[(w2.n:Int)],q2.step,oM,by simp at wC ⊢;omega,fun _=>by simp,by simp only [Sr.step];omega,rfl,rfl⟩
    |cons x d =>
     have tK:d.length<4:=by simp at sE;omega
     have vQ:d.length<3:=by simp at sE;omega
     have p5:∀z:Int,AN.tk 3 (x::(d++[z])) = .slice (.tok 3) 1 (d.length+1+1) (AN.row (x::(d++[z]))):=fun z=>by rw [AN.tk_ne 3 (by simp),List.length_cons,List.length_append];rfl
     by_cases h4:d.length+1+1=4
     ·have h4':((d.length:Int)+1+1==4)=true:=by rw [beq_iff_eq];omega
      have uS:(d.length:Int)+1+1=4:=by omega
      have oM:Dw ts k (x::d++[(w2.n:Int)]) (q2.fail q2.at_ 4).step=res:=by
       have:(x::d++[(w2.n:Int)]).length=4:=by simp;omega
       rwa [if_pos this] at oM
      have rL:(q2.fail q2.at_ 4).at_=q2.at_:=rfl;simp only [rL] at f4;simp [pbx,he,ot,fm,hz,hz',oe,tJ,tK,fi,wa,uS,f4];exact Nxt.mk k (by omega) (AD.mkK 4 (by simp [hB]) (by simp) (by simp [pB,pbx,Sr.step,Sr.fail,ot,p5]) (by simp [pB,pbx,Sr.step,Sr.fail,ot,p5])) ⟨x::d++[(w2.n:Int)],(q2.fail q2.at_ 4).step,oM,by simp at wC ⊢;omega,fun h=>by simp [Sr.step,Sr.fail] at h,by simp only [Sr.step,Sr.fail];omega,rfl,rfl⟩
     ·have uS:¬(d.length:Int)+1+1=4:=by omega
      have oM:Dw ts k (x::d++[(w2.n:Int)]) q2.step=res:=by
       have:¬(x::d++[(w2.n:Int)]).length=4:=by simp;omega
       rwa [if_neg this] at oM
      simp [pbx,he,ot,fm,hz,hz',oe,tJ,tK,fi,wa,uS];exact Nxt.mk k (by omega) (AD.mkK 4 (by simp [hB]) (by simp) (by simp [pB,pbx,Sr.step,Sr.fail,ot,p5]) (by simp [pB,pbx,Sr.step,Sr.fail,ot,p5])) ⟨x::d++[(w2.n:Int)],q2.step,oM,by simp at wC ⊢;omega,fun _=>by simp;omega,by simp only [Sr.step];omega,rfl,rfl⟩
noncomputable def Kd (ts:List Wd) (oK:ts.length<1000000):AF zP AJ:=AF.meth 131 (Sr.pc ts) (FP ts) (fun (_:Unit) r=>r.at_≤ts.length) (fun _ _=>[]) (fun _ r => .agg (itE.c (EK ts r).1)) (fun _ r=>(EK ts r).2)
 (fun _ r h H id hH=>i8 ts oK r h hH) (fun id x y r _ _ h=>⟨rfl,rfl⟩)
def G0 (l:List It):AV:=if l.length=1 then .slice .full 2 1 (itE.row l) else .slice (.tok 1) 2 l.length (itE.row l)
def Il (l:List It):AH:=if l.length=1 then [] else [some (.tok l.length)]
def Ke (l:List It):AV:=if l.length=1 then .slice .full 2 1 (itE.row l) else .slice .unk 2 l.length (itE.row l)
theorem i9 {l:List It} (h:l≠[]) (g:Gh) (cv:Value) (hr:AA g (Ke l) cv):AA g (itE.av l) cv:=by
 rw [itE.av_ne h,Pw];unfold Ke at hr
 split at hr
 ·rename_i h1;rw [h1];exact M0 g cv hr
 ·exact hr
theorem Uq (ts:List Wd):∀(n:Nat) (l:List It) (r:Sr),l≠[]→(IV ts n l r).1≠[]
 |0,l,r,h=>h
 |n+1,l,r,h=>by
  simp only [IV]
  split
  ·exact Uq ts n _ _ (by simp)
  ·exact h
def ItP (ts:List Wd) (res:List It × Sr) (k:Nat) (t:List AV) (H:AH):Prop :=
 ∃(l:List It) (r:Sr),IV ts k l r=res∧ts.length<k+r.at_∧r.at_≤ts.length∧l.length+k≤ts.length+2∧l≠[] ∧
  t=mkT 15 [(0,.ptr 0 0),(3,G0 l)]∧H=pbx ts r::Il l
theorem jA (ts:List Wd) (oK:ts.length<1000000) (r:Sr) (hr:r.at_≤ts.length) {H:AH} {id:Nat} (hH:H.at id=some (.box (r.pc ts))) :
  CS zP AJ 115 [.ptr id 0] H (itE.av (Gm ts r).1) (H.set id (some (.box ((Gm ts r).2.pc ts)))):=by
 refine CS.weak (v:=Ke (Gm ts r).1) ?_ (i9 (Uq ts _ _ _ (by simp)));have ug:∀l,low 0 (Ke l)=true:=fun l=>by unfold Ke;split<;>simp [itE.row_lowm]
 refine CS.rd Bh Tryz.func115 (by kernel_rfl) 0 (by simp [Tryz.f115]) (fun B hB hG => ?_) (by simp) (ug _) (Cp _ _) (Cp _ _) hH;have hL:([Kd ts oK,FQ ts oK].map (·.f)).Nodup:=show ([131,117]:List Nat).Nodup by decide
 have X:=Bn [Kd ts oK,FQ ts oK] B4 Ad;have f1:=fun q (h:q.at_≤ts.length) H=>Bk hL (show Kd ts oK∈[Kd ts oK,FQ ts oK] by simp) () q (H:=pbx ts q::H) (id:=0) rfl h
 have f2:=fun q H=>NE oK hL (show FQ ts oK∈[Kd ts oK,FQ ts oK] by simp) q 3 A4 H
 generalize oOf [Kd ts oK,FQ ts oK]=O at X f1 f2;refine Tr.goD X hG ?_;simp only [GJ,Sr.pc,pbx,A4] at f1 f2;simp at f1 f2;simp only [Gm];obtain ⟨a1,a2⟩:=Un ts r;have g1:=f1 r hr;have g2:=f2 (EK ts r).2;generalize hm:EK ts r=m at *;obtain ⟨x,r1⟩:=m;have oj:=a2 hr;simp only at g1 g2 oj ⊢;generalize oM:IV ts (ts.length+1) [x] r1=res;simp [Tryz.f115,Sr.pc,g1]
 refine LpD.loopN X hG (ItP ts res) (ts.length+1) (t':=mkT 15 [(0,.ptr 0 0),(3,G0 [x])]) (H':=[pbx ts r1])
  (AD.mkK 1 (by simp [hB]) (by simp [G0,Enc.row,GJ]) (by simp [G0,Enc.row,GJ,pbx]) (by simp [pbx])) ⟨[x],r1,oM,by omega,oj,by simp;omega,by simp,rfl,by simp [Il]⟩ ?_
 clear oM hm a1 a2 g1 g2 oj;rintro k t H ⟨l,q,oM,qP,hq,uT,o5,rfl,rfl⟩;obtain ⟨k,rfl⟩:∃j,k=j+1:=⟨k-1,by omega⟩
 have oS:IV ts (k+1) l q=if isW ts q 3 A4 then IV ts k (l++[(EK ts q.step).1]) (EK ts q.step).2 else (l,q):=rfl
 rw [oS] at oM;have h2:=f2 q;have oV:=fun (m:Nat) (l:List It)=>itE.row_lowm m l
 have wE:=fun (n:Nat) (l:List It)=>itE.row_strip n l
 cases hc:isW ts q 3 A4 with
 |false =>
  rw [hc] at oM;obtain rfl:(l,q)=res:=oM;have hc':isW ts q 3 [44]=false:=hc;have ht':CG ts q 3 [44]=q:=Gx hc;rw [hc',ht'] at h2
  by_cases qz:l.length=1
  all_goals
   simp [pbx,h2,Bo,G0,Ke,qz,wE]
 |true =>
  rw [hc] at oM;simp only [if_true] at oM;have hc':isW ts q 3 [44]=true:=hc;have ht':CG ts q 3 [44]=q.step:=Gw hc;rw [hc',ht'] at h2;obtain ⟨hl,he⟩:=Dl hc;have hs:q.step.at_=q.at_+1:=rfl;have h1:=f1 q.step (by omega);obtain ⟨a1,a2⟩:=Un ts q.step;have uv:=a2 (by omega);generalize EK ts q.step=m at *;obtain ⟨y,q2⟩:=m;simp only at h1 uv oM a1;simp only [Sr.step] at h1 h2;simp at h1 h2
  by_cases qz:l.length=1
  ·have oP:=fun H=>MH (P:=zP) (t:=85) (sz:=2) (n:=1) (m:=1) (H:=H) (fid:=1) (ow := .full) (xs:=itE.row l) (ys:=[.str y.name,AN.av y.dims]) NG (by decide) (by decide) (by simp)
   have rW:itE.row l++[.str y.name,AN.av y.dims]=itE.row (l++[y]):=by rw [itE.row_append,itE.row_one1];rfl
   rw [rW] at oP;have ho:G0 l = .slice .full 2 1 (itE.row l):=if_pos qz;have pS:G0 (l++[y]) = .slice (.tok 1) 2 2 (itE.row (l++[y])):=by unfold G0;rw [if_neg (by simp;omega)];simp [qz]
   have hh:Il l=[]:=if_pos qz;have uU:Il (l++[y])=[some (.tok 2)]:=by unfold Il;rw [if_neg (by simp;omega)];simp [qz]
   rw [ho,hh];simp [pbx,h2,h1,oP];exact Nxt.mk k (by omega) (AD.mkK 2 (by simp [hB]) (by simp [pS,oV]) (by simp [pbx,uU,pS,oV]) (by simp [pbx,uU])) ⟨l++[y],q2,oM,by omega,uv,by simp;omega,by simp,rfl,rfl⟩
  ·have oP:=fun H (h:AH.at H 1=some (.tok l.length))=>EZ (P:=zP) (t:=85) (sz:=2) (n:=l.length) (m:=1) (H:=H) (fid:=2) (ow := .full) (xs:=itE.row l) (ys:=[.str y.name,AN.av y.dims]) NG h (by decide) (by omega) (by simp)
   have rW:itE.row l++[.str y.name,AN.av y.dims]=itE.row (l++[y]):=by rw [itE.row_append,itE.row_one1];rfl
   rw [rW] at oP;have ho:G0 l = .slice (.tok 1) 2 l.length (itE.row l):=if_neg qz
   have pS:G0 (l++[y]) = .slice (.tok 1) 2 (l.length+1) (itE.row (l++[y])):=by
    have:l.length≠0:=fun h=>o5 (List.length_eq_zero_iff.1 h)
    unfold G0;rw [if_neg (by simp;omega)];simp
   have hh:Il l=[some (.tok l.length)]:=if_neg qz
   have uU:Il (l++[y])=[some (.tok (l.length+1))]:=by
    have:l.length≠0:=fun h=>o5 (List.length_eq_zero_iff.1 h)
    unfold Il;rw [if_neg (by simp;omega)];simp
   rw [ho,hh];simp [pbx,h2,h1,oP];exact Nxt.mk k (by omega) (AD.mkK 2 (by simp [hB]) (by simp [pS,oV]) (by simp [pbx,uU,pS,oV]) (by simp [pbx,uU])) ⟨l++[y],q2,oM,by omega,uv,by simp;omega,by simp,rfl,rfl⟩
theorem jB (ts:List Wd) (oK:ts.length<1000000) (r:Sr) (hr:r.at_≤ts.length) {H:AH} {id:Nat} (hH:H.at id=some (.box (r.pc ts))) :
  CS zP AJ 116 [.ptr id 0] H (.int .i64 (Gn ts r).1) (H.set id (some (.box ((Gn ts r).2.pc ts)))):=by
 refine CS.rd Bh Tryz.func116 (by kernel_rfl) 0 (by simp [Tryz.f116]) (fun B hB hG => ?_) (by simp) (by simp) (Cp _ _) (Cp _ _) hH;have X:=Up ts oK;have hO:=Uo ts oK;generalize oOf (Lpr ts oK)=O at X hO;refine Tr.goD X hG ?_;have f1:=fun H=>hO.takes r 3 A4 H
 cases hc:isW ts r 3 A4 with
 |false =>rw [hc,Gx hc] at f1;simp [pbx,A4] at f1;simp [Tryz.f116,Sr.pc,f1,Gn,hc]
 |true =>
  rw [hc,Gw hc] at f1;have f2:=fun H=>hO.takes r.step 3 Bb H
  have oZ:pbx ts r.step=some (.box [AE ts,.int .i64 ((r.at_:Int)+1),erI r.err]):=by simp [pbx,Sr.step]
  cases hm:isW ts r.step 3 Bb with
  |false =>
   rw [hm,Gx hm] at f2;have f3:=fun H=>hO.must r.step 2 [] H
   simp only [Gn,hc,hm,if_true,Bool.false_eq_true,if_false];generalize BK ts r.step 2 []=m at *;rw [oZ] at f1 f2 f3;simp [pbx,A4] at f1;simp [Bb] at f2;simp [BA,pbx] at f3;simp [Tryz.f116,Sr.pc,f1,f2,f3]
  |true =>
   rw [hm,Gw hm] at f2;have f3:=fun H=>hO.must r.step.step 2 [] H
   have oW:pbx ts r.step.step=some (.box [AE ts,.int .i64 ((r.at_:Int)+1+1),erI r.err]):=by simp [pbx,Sr.step]
   simp only [Gn,hc,hm,if_true];generalize BK ts r.step.step 2 []=m at *;rw [oZ] at f1 f2;rw [oW] at f2 f3;simp [pbx,A4] at f1;simp [Bb] at f2;simp [BA,pbx] at f3;simp [Tryz.f116,Sr.pc,f1,f2,f3,MV]
noncomputable def Ur (ts:List Wd) (oK:ts.length<1000000):AF zP AJ:=AF.meth 115 (Sr.pc ts) (FP ts) (fun (_:Unit) r=>r.at_≤ts.length) (fun _ _=>[]) (fun _ r=>itE.av (Gm ts r).1) (fun _ r=>(Gm ts r).2)
 (fun _ r h H id hH=>jA ts oK r h hH) (fun id x y r _ _ h=>⟨rfl,rfl⟩)
noncomputable def Us (ts:List Wd) (oK:ts.length<1000000):AF zP AJ:=AF.meth 116 (Sr.pc ts) (FP ts) (fun (_:Unit) r=>r.at_≤ts.length) (fun _ _=>[]) (fun _ r => .int .i64 (Gn ts r).1) (fun _ r=>(Gn ts r).2)
 (fun _ r h H id hH=>jB ts oK r h hH) (fun id x y r _ _ h=>⟨rfl,rfl⟩)
noncomputable def NH (ts:List Wd) (oK:ts.length<1000000):AF zP AJ:=AF.meth 96 (Sr.pc ts) (FP ts) (fun (_:Unit) r=>r.at_≤ts.length) (fun _ _=>[]) (fun _ r => .agg (tC (Ct ts r).1.tn)) (fun _ r=>(Ct ts r).2)
 (fun _ r h H id hH=>ip ts oK r h hH) (fun id x y r _ _ h=>⟨rfl,rfl⟩)
noncomputable def NI (ts:List Wd) (oK:ts.length<1000000):AF zP AJ:=AF.meth 94 (Sr.pc ts) (FP ts) (fun (_:Unit) r=>r.at_≤ts.length) (fun _ _=>[]) (fun _ r => .agg (tC (toW ts r).1.tn)) (fun _ r=>(toW ts r).2)
 (fun _ r h H id hH=>iz ts oK r h hH) (fun id x y r _ _ h=>⟨rfl,rfl⟩)
structure KpO (O:Orc) (ts:List Wd):Prop where
 fail:∀(r:Sr) (p c:Nat) (H:AH),O 63 [.ptr 0 0,.int .i64 (p:Int),.int .i64 (c:Int)] (pbx ts r::H)=some (.tup [],pbx ts (r.fail p c)::H)
 takes:∀(r:Sr) (k:Nat) (s:List UInt8) (H:AH),O 117 [.ptr 0 0,.int .i64 (k:Int),.str s] (pbx ts r::H)=some (.bool (isW ts r k s),pbx ts (CG ts r k s)::H)
 must:∀(r:Sr) (k:Nat) (s:List UInt8) (H:AH),O 95 [.ptr 0 0,.int .i64 (k:Int),.str s] (pbx ts r::H)=some (.agg (BA (BK ts r k s).1),pbx ts (BK ts r k s).2::H)
 items:∀(r:Sr) (H:AH),r.at_≤ts.length→O 115 [.ptr 0 0] (pbx ts r::H)=some (itE.av (Gm ts r).1,pbx ts (Gm ts r).2::H)
 step:∀(r:Sr) (H:AH),r.at_≤ts.length→O 116 [.ptr 0 0] (pbx ts r::H)=some (.int .i64 (Gn ts r).1,pbx ts (Gn ts r).2::H)
 expr:∀(r:Sr) (H:AH),r.at_≤ts.length→O 96 [.ptr 0 0] (pbx ts r::H)=some (.agg (tC (Ct ts r).1.tn),pbx ts (Ct ts r).2::H)
 to:∀(r:Sr) (H:AH),r.at_≤ts.length→O 94 [.ptr 0 0] (pbx ts r::H)=some (.agg (tC (toW ts r).1.tn),pbx ts (toW ts r).2::H)
 cond:∀(r:Sr) (H:AH),r.at_≤ts.length→O 118 [.ptr 0 0,.func (.func 119) [] []] (pbx ts r::H)=some (Ey (Fo ts r).1,pbx ts (Fo ts r).2::H)
noncomputable def Lkp (ts:List Wd) (oK:ts.length<1000000):List (AF zP AJ):=[DM ts,FQ ts oK,Ja ts oK,Ur ts oK,Us ts oK,NH ts oK,NI ts oK,Ui ts oK]
theorem jC (ts:List Wd) (oK:ts.length<1000000):KpO (oOf (Lkp ts oK)) ts:=by
 have hL:((Lkp ts oK).map (·.f)).Nodup:=show ([63,117,95,115,116,96,94,118]:List Nat).Nodup by decide
 exact ⟨fun r p c H=>LX hL (show DM ts∈Lkp ts oK by simp [Lkp]) r p c H,fun r k s H=>NE oK hL (show FQ ts oK∈Lkp ts oK by simp [Lkp]) r k s H,fun r k s H=>QB oK hL (show Ja ts oK∈Lkp ts oK by simp [Lkp]) r k s H,
  fun r H h=>Bk hL (show Ur ts oK∈Lkp ts oK by simp [Lkp]) () r (H:=pbx ts r::H) (id:=0) rfl h,fun r H h=>Bk hL (show Us ts oK∈Lkp ts oK by simp [Lkp]) () r (H:=pbx ts r::H) (id:=0) rfl h,
  fun r H h=>Bk hL (show NH ts oK∈Lkp ts oK by simp [Lkp]) () r (H:=pbx ts r::H) (id:=0) rfl h,fun r H h=>Bk hL (show NI ts oK∈Lkp ts oK by simp [Lkp]) () r (H:=pbx ts r::H) (id:=0) rfl h,
  fun r H h=>Bk hL (show Ui ts oK∈Lkp ts oK by simp [Lkp]) () r (H:=pbx ts r::H) (id:=0) rfl h⟩
theorem jD (ts:List Wd) (oK:ts.length<1000000):Cx (oOf (Lkp ts oK)) zP AJ:=Bn _ B4 Ad
@[simp] theorem buSp0:Aq zP 92 []=some (.agg (Sx.c ⟨0,[],t0,t0,[],t0,t0,[],t0,t0,0⟩)):=by kernel_rfl
theorem jE (ts:List Wd) (oK:ts.length<1000000) (word:List UInt8) (r:Sr) (hr:r.at_≤ts.length) {H:AH} {id:Nat} (hH:H.at id=some (.box (r.pc ts))) :
  CS zP AJ 93 [.ptr id 0,.str word] H (.agg (HK ts word r).1.x.c) (H.set id (some (.box ((HK ts word r).2.pc ts)))):=by
 refine CS.rd Bh Tryz.func93 (by kernel_rfl) 0 (by simp [Tryz.f93]) (fun B hB hG => ?_) (by simp) (by simp [Sx.c_low]) (Cp _ _) (Cp _ _) hH;have X:=jD ts oK;have hO:=jC ts oK;generalize oOf (Lkp ts oK)=O at X hO;refine Tr.goD X hG ?_;unfold HK
 by_cases h1:word=IW
 ·subst h1
  have f1:=fun H=>hO.items r H hr
  simp only [if_true];generalize Gm ts r=m at *;simp only [pbx] at f1;simp [Tryz.f93,Sr.pc,f1,Sx.c,Sm.x,Bm,IW]
 rw [if_neg h1]
 by_cases h2:word=doT
 ·subst h2
  rw [if_pos rfl];have f1:=fun H=>hO.must r 1 [] H
  have u1:=(Gz ts r 1 []).2 hr;unfold doW;generalize BK ts r 1 []=m at *;obtain ⟨nm,r1⟩:=m;simp only at f1 u1 ⊢;have f2:=fun H=>hO.must r1 3 isT H
  have u2:=(Gz ts r1 3 isT).2 u1;generalize BK ts r1 3 isT=m2 at *;obtain ⟨w2,r2⟩:=m2;simp only at f2 u2 ⊢;have f3:=fun H=>hO.expr r2 H u2
  have u3:=(Um ts r2).2 u2;generalize Ct ts r2=a at *;obtain ⟨lo,r3⟩:=a;simp only at f3 u3 ⊢;have f4:=fun H=>hO.must r3 3 A4 H
  have u4:=(Gz ts r3 3 A4).2 u3;generalize BK ts r3 3 A4=m4 at *;obtain ⟨w4,r4⟩:=m4;simp only at f4 u4 ⊢;have f5:=fun H=>hO.expr r4 H u4
  have u5:=(Um ts r4).2 u4;generalize Ct ts r4=b at *;obtain ⟨hi,r5⟩:=b;simp only at f5 u5 ⊢;have f6:=fun H=>hO.step r5 H u5
  generalize Gn ts r5=s at *;obtain ⟨st,r6⟩:=s;simp only [pbx,isT,A4,CB,BA] at f1 f2 f3 f4 f5 f6;simp at f1 f2 f4;simp [Tryz.f93,Sr.pc,f1,f2,f3,f4,f5,f6,Sx.c,Sm.x,Bm,doT]
 rw [if_neg h2]
 by_cases h3:word=HJ
 ·subst h3
  rw [if_pos rfl];have f1:=fun H=>hO.takes r 4 ifT H
  cases hc:isW ts r 4 ifT with
  |true =>rw [hc,Gw hc] at f1;generalize r.step=r1 at *;simp [pbx,ifT] at f1;simp [Tryz.f93,Sr.pc,f1,Sx.c,Sm.x,Bm,HJ,Bo]
  |false =>
   rw [hc,Gx hc] at f1;have f2:=fun H=>hO.must r 4 doT H
   simp only [Bool.false_eq_true,if_false];generalize BK ts r 4 doT=m at *;simp [pbx,ifT] at f1;simp [pbx,doT,BA] at f2;simp [Tryz.f93,Sr.pc,f1,f2,Sx.c,Sm.x,Bm,HJ,Bo]
 rw [if_neg h3]
 by_cases h4:word=ifT
 ·subst h4
  rw [if_pos rfl];unfold ifW;have f1:=fun H=>hO.must r 3 Av H
  have u1:=(Gz ts r 3 Av).2 hr;generalize BK ts r 3 Av=m at *;obtain ⟨w1,r1⟩:=m;simp only at f1 u1 ⊢;have f2:=fun H=>hO.cond r1 H u1
  have u2:=(z9 ts r1).2 u1;generalize Fo ts r1=c at *;obtain ⟨⟨op,ca,cb⟩,r2⟩:=c;simp only at f2 u2 ⊢;have f3:=fun H=>hO.must r2 3 Aw H
  have u3:=(Gz ts r2 3 Aw).2 u2;generalize BK ts r2 3 Aw=m3 at *;obtain ⟨w3,r3⟩:=m3;simp only at f3 u3 ⊢;have f4:=fun H=>hO.must r3 4 Gp H
  generalize BK ts r3 4 Gp=m4 at *;obtain ⟨w4,r4⟩:=m4;simp only [pbx,Av,Aw,Gp,Ey,CB,BA,List.cons_append,List.nil_append] at f1 f2 f3 f4;simp at f1 f3 f4;simp [Tryz.f93,Sr.pc,f1,f2,f3,f4,Sx.c,Sm.x,Bm,ifT]
 rw [if_neg h4]
 by_cases h5:word=IX
 ·subst h5
  rw [if_pos rfl];simp [Tryz.f93,Sr.pc,Sx.c,Sm.x,Bm,IX]
 rw [if_neg h5]
 by_cases h6:word=IY
 ·subst h6
  rw [if_pos rfl];have f1:=fun H=>hO.to r H hr
  generalize toW ts r=m at *;simp only [pbx,CB] at f1;simp [Tryz.f93,Sr.pc,f1,Sx.c,Sm.x,Bm,IY]
 rw [if_neg h6]
 by_cases h7:word=IZ
 ·subst h7
  rw [if_pos rfl];have f1:=fun H=>hO.expr r H hr
  generalize Ct ts r=m at *;simp only [pbx,CB] at f1;simp [Tryz.f93,Sr.pc,f1,Sx.c,Sm.x,Bm,IZ]
 rw [if_neg h7];have f1:=fun H=>hO.fail r 0 2 H
 generalize r.fail 0 2=r1 at *;simp [pbx] at f1;simp only [IW,doT,HJ,ifT,IX,IY,IZ] at h1 h2 h3 h4 h5 h6 h7;simp [Tryz.f93,Sr.pc,f1,Sx.c,Sm.x,Bm,h1,h2,h3,h4,h5,h6,h7]
def G1 (b:UInt8):Bool := !(b.toNat==33)
def Cd (s:List UInt8):Nat:=Ak G1 s
def CC (s:List UInt8):List UInt8:=(Bw s).take (Cd (Bw s))
def EQ (s:List UInt8):AV := .tup [.str (CC s),.str ((Bw s).drop (Cd (Bw s))),.str (Gq s)]
theorem Ut:∀s:List UInt8,Lib.indexByte s 33=if Cd s<s.length then (Cd s:Int) else -1
 |[]=>rfl
 |b::s=>by
  have ih:=Ut s;have oO:=Fc G1 s;simp only [Lib.indexByte]
  by_cases h:b.toNat=33
  ·have hb:(b==33)=true:=by rw [beq_iff_eq];exact UInt8.toNat_inj.1 (by rw [h];rfl)
   have hn:Cd (b::s)=0:=by simp [Cd,Ak,G1,h]
   rw [if_pos hb,hn,if_pos (by simp)];rfl
  ·have hb:(b==33)=false:=by
    rw [beq_eq_false_iff_ne];intro h';exact h (by rw [h'];rfl)
   have hn:Cd (b::s)=Cd s+1:=by simp only [Cd,Ak,List.takeWhile_cons];rw [if_pos (by simp [G1,h])];rfl
   have hns:Cd s≤s.length:=oO;rw [if_neg (by simp [hb]),hn,ih]
   by_cases hl:Cd s<s.length
   ·have h2:((Cd s:Int) == -1)=false:=by simp only [beq_eq_false_iff_ne];omega
    simp only [if_pos hl,h2,Bool.false_eq_true,if_false];rw [if_pos (by simp only [List.length_cons];omega)];rfl
   ·have h1:((-1:Int) == -1)=true:=rfl
    simp only [if_neg hl,List.length_cons,h1,if_true];rw [if_neg (by omega)]
def QH:Orc:=Bp 126 (fun args=>match args with
  |[.str s,.str [10]]=>if s.length<Br then some s else none
  |_=>none) fun s => .bool (DA s)
theorem jG:AT zP AM QH:=Dp fun args x H h=>by
 split at h
 ·split at h
  ·rename_i s hs
   injection h with h;subst h;rw [Dx] at hs;exact EX IQ C4 Ad (da Gj s 0 H (by omega))
  ·cases h
 ·cases h
def NJ (s:List UInt8):AV := .tup [.str (Bw s),.bool (DA s)]
def QI:Orc:=Bp 107 (fun args=>match args with
  |[.str s,.str [10]]=>if s.length<Br then some s else none
  |_=>none) NJ
theorem jH:AT zP AM QI:=Dp fun args x H h=>by
 split at h
 ·split at h
  ·rename_i s hs
   injection h with h;subst h;have hs':=hs;rw [Dx] at hs';exact EX jG C4 Ad (db QH s 0 H (by omega) (by simp [QH,Bp,hs]))
  ·cases h
 ·cases h
def QJ:Orc:=Bp 89 (fun args=>match args with
  |[.str s,.str [10]]=>if s.length<Br then some s else none
  |_=>none) NJ
theorem jI:AT zP AM QJ:=Dp fun args x H h=>by
 split at h
 ·split at h
  ·rename_i s hs
   injection h with h;subst h;exact EX jH C4 Ad (dc QI s 0 H (by simp [QI,Bp,hs,NJ]))
  ·cases h
 ·cases h
def QK:Orc:=Bp 90 (fun args=>match args with
  |[.str s,.int .u8 33]=>some s
  |_=>none) fun s => .int .i64 (Lib.indexByte s 33)
theorem jJ:AT zP AM QK:=Dp fun args x H h=>by
 split at h
 ·rename_i s
  injection h with h;subst h;exact EX IQ C4 Ad (de Gj s 33 _ 0 H (by simp [Gj]))
 ·cases h
def oPp:Orc:=Ay [(89,QJ),(90,QK)]
theorem Uu:AT zP AM oPp:=FB fun p hp=>by
 simp only [List.mem_cons,List.not_mem_nil,or_false] at hp;rcases hp with rfl|rfl
 ·exact jI
 ·exact jJ
theorem jK (s:List UInt8) (hs:s.length<Br) (H:AH):CS zP AM 59 [.str s] H (EQ s) H:=by
 have rK:oPp 89 [.str s,.str [10]] H=some (.tup [.str (Bw s),.bool (DA s)],H):=by simp [oPp,Ay,QJ,Bp,hs,NJ]
 have qw:oPp 90 [.str (Bw s),.int .u8 33] H=some (.int .i64 (Lib.indexByte (Bw s) 33),H):=by simp [oPp,Ay,QK,Bp]
 have oO:=Fc G1 (Bw s);rw [Ut] at qw
 by_cases h:Cd (Bw s)<(Bw s).length
 ·rw [if_pos h] at qw
  exact EX Uu C4 Ad (dt oPp s _ 0 H rK qw (by omega))
 ·rw [if_neg h] at qw
  have pu:Cd (Bw s)=(Bw s).length:=by unfold Cd at h ⊢;omega
  have:=EX Uu C4 Ad (df oPp s _ 0 H rK qw (by omega));simpa [EQ,CC,pu] using this
def jL (b e:List UInt8) (k:Nat) (t:List AV) (H:AH):Prop :=∃i,i+k=Cd b∧t=mkT 42 [(0,.str b),(5,.str e),(6,.int .i64 ((i:Nat):Int))]∧H=[]
theorem jM (B:Bs) (hB:B.H=[]) (hG:Al AM B.g) (b e:List UInt8) (hb:b.length<Br) (a:List (Nat × AV)) (h0:(a.lookup 0).getD .undef = .str b) (h5:(a.lookup 5).getD .undef = .str e) :
  Tr zP B (A1 (A1 (A1 (Au Tryz.f48)))) (mkT 42 a) [] (Fin zP Tryz.f48 0 0 (.tup [.str (b.take (Cd b)),.str (b.drop (Cd b)),.str e]) []):=by
 rw [Dx] at hb;refine Tr.less (t':=mkT 42 [(0,.str b),(5,.str e)]) (H':=[]) (AD.mk0 hB (by simp [h0,h5])) ?_;refine Tr.go cxN hG (by kernel_rfl) ?_;simp [Tryz.f48];refine LpT.loop cxN hG (by kernel_rfl) (jL b e) (Cd b) (t':=mkT 42 [(0,.str b),(5,.str e),(6,.int .i64 ((0:Nat):Int))]) (H':=[]) (AD.mk0 hB (by simp)) ⟨0,by omega,rfl,rfl⟩ ?_;rintro k t H ⟨i,oQ,rfl,rfl⟩;have oO:=Fc G1 b
 change Cd b≤_ at oO
 cases k with
 |succ k =>
  obtain ⟨h1,h2⟩:=MA G1 b i (by show i<Cd b;omega);have f1:(i:Int)<b.length:=by omega
  have f2:¬(b[i].toNat:Int)=33:=by simp only [G1,Bool.not_eq_true',beq_eq_false_iff_ne] at h2;omega
  have w:IntKind.i64.wrap ((i:Int)+1)=(i:Int)+1:=Ab (by omega) (by omega);simp [f1,h1,f2,w];exact ⟨k,by omega,_,_,AD.mk0 hB (l':=[(0,.str b),(5,.str e),(6,.int .i64 ((i+1:Nat):Int))]) (by simp),i+1,by omega,rfl,rfl⟩
 |zero =>
  obtain rfl:i=Cd b:=by omega
  by_cases h:Cd b<b.length
  ·have h2:G1 b[Cd b]=false:=MB G1 b h
   have f1:(Cd b:Int)<b.length:=by omega
   have f3:(Cd b:Int)≤b.length:=by omega
   have f2:(b[Cd b].toNat:Int)=33:=by simp only [G1,Bool.not_eq_false',beq_iff_eq] at h2;omega
   simp [f1,h,f2,f3]
  ·have f1:¬(Cd b:Int)<b.length:=by omega
   have h3:Cd b=b.length:=by omega
   simp [h3]
theorem jN {s:List UInt8} (h:0<s.length):DA s=(s[s.length-1].toNat==10):=by
 unfold DA
 have hd:s.drop (s.length-1)=[s[s.length-1]]:=by have:=List.drop_eq_getElem_cons (l:=s) (i:=s.length-1) (by omega);rw [this,List.drop_of_length_le (by omega)]
 rw [hd,decide_eq_true (by omega),Bool.true_and,Bool.eq_iff_iff];simp only [beq_iff_eq,List.cons.injEq,and_true]
 constructor
 ·intro h;rw [h];rfl
 ·intro h;exact UInt8.toNat_inj.1 (by rw [h];rfl)
theorem QL (s:List UInt8):(Bw s).length≤s.length:=by
 unfold Bw
 split
 ·rw [List.length_take];omega
 ·exact Nat.le_refl _
theorem jO (s:List UInt8) (hs:s.length<Br) (H:AH):CS zP AM 48 [.str s] H (EQ s) H:=by
 have hs':=hs;rw [Dx] at hs';refine CS.tr0 Eb Tryz.func48 (by kernel_rfl) 0 (by simp [Tryz.f48]) (fun B hB hG => ?_) rfl rfl H;obtain ⟨R,hR⟩:∃R,R=A1 (A1 (A1 (Au Tryz.f48))):=⟨_,rfl⟩
 have key:=jM B hB hG (Bw s) (Gq s) (Nat.lt_of_le_of_lt (QL s) hs);rw [←hR] at key;refine Tr.pre cxN hG 3 (R:=R) (by rw [hR];kernel_rfl) (by kernel_rfl) (by kernel_rfl) ?_;rw [DX]
 by_cases h0:0<s.length
 ·have f1:(0:Int)<s.length:=by omega
  have f2:IntKind.i64.wrap ((s.length:Int)-1)=(s.length:Int)-1:=Ab (by omega) (by omega);have f3:((s.length:Int)-1).toNat=s.length-1:=by omega
  have f4:(0:Int)≤(s.length:Int)-1:=by omega
  have f5:(s.length:Int)-1≤s.length:=by omega
  have f6:s.length-1<s.length:=by omega
  have f7:(1:Int)≤(s.length:Int):=by omega
  have f8:1≤s.length:=by omega
  have hn:=jN h0
  by_cases h1:s[s.length-1].toNat=10
  ·have g1:(s[s.length-1].toNat:Int)=10:=by omega
   simp [Tryz.f48,f1,f2,f3,f4,f5,f6,f7,f8,h0,h1,g1];refine key _ ?_ ?_
   ·simp [Bw,hn,h1]
   ·simp [Gq,hn,h1]
  ·have g1:¬(s[s.length-1].toNat:Int)=10:=by omega
   simp [Tryz.f48,f1,f2,f3,f4,f5,f6,f7,f8,h0,h1,g1];refine key _ ?_ ?_
   ·simp [Bw,hn,h1]
   ·simp [Gq,hn,h1]
 ·have:s=[]:=List.eq_nil_of_length_eq_zero (by omega)
  subst this;simp [Tryz.f48];refine key _ ?_ ?_
  ·simp [Bw,DA]
  ·simp [Gq,DA]
noncomputable def Uv (ts:List Wd) (oK:ts.length<1000000):AF zP AJ:=AF.meth 93 (Sr.pc ts) (FP ts) (fun (_:List UInt8) r=>r.at_≤ts.length) (fun _ w=>[.str w]) (fun w r => .agg (HK ts w r).1.x.c) (fun w r=>(HK ts w r).2)
 (fun w r h H id hH=>jE ts oK w r h hH) (fun id x y r _ _ h=>by
  simp only [List.cons.injEq,AV.str.injEq,and_true] at h;rw [h]
  exact ⟨rfl,rfl⟩)
structure KsO (O:Orc) (ts:List Wd):Prop where
 fail:∀(r:Sr) (p c:Nat) (H:AH),O 63 [.ptr 0 0,.int .i64 (p:Int),.int .i64 (c:Int)] (pbx ts r::H)=some (.tup [],pbx ts (r.fail p c)::H)
 must:∀(r:Sr) (k:Nat) (s:List UInt8) (H:AH),O 95 [.ptr 0 0,.int .i64 (k:Int),.str s] (pbx ts r::H)=some (.agg (BA (BK ts r k s).1),pbx ts (BK ts r k s).2::H)
 expr:∀(r:Sr) (H:AH),r.at_≤ts.length→O 96 [.ptr 0 0] (pbx ts r::H)=some (.agg (tC (Ct ts r).1.tn),pbx ts (Ct ts r).2::H)
 to:∀(r:Sr) (H:AH),r.at_≤ts.length→O 94 [.ptr 0 0] (pbx ts r::H)=some (.agg (tC (toW ts r).1.tn),pbx ts (toW ts r).2::H)
 key:∀(w:List UInt8) (r:Sr) (H:AH),r.at_≤ts.length→O 93 [.ptr 0 0,.str w] (pbx ts r::H)=some (.agg (HK ts w r).1.x.c,pbx ts (HK ts w r).2::H)
noncomputable def Lks (ts:List Wd) (oK:ts.length<1000000):List (AF zP AJ):=[DM ts,Ja ts oK,NH ts oK,NI ts oK,Uv ts oK]
theorem jP (ts:List Wd) (oK:ts.length<1000000):KsO (oOf (Lks ts oK)) ts:=by
 have hL:((Lks ts oK).map (·.f)).Nodup:=show ([63,95,96,94,93]:List Nat).Nodup by decide
 exact ⟨fun r p c H=>LX hL (show DM ts∈Lks ts oK by simp [Lks]) r p c H,fun r k s H=>QB oK hL (show Ja ts oK∈Lks ts oK by simp [Lks]) r k s H,
  fun r H h=>Bk hL (show NH ts oK∈Lks ts oK by simp [Lks]) () r (H:=pbx ts r::H) (id:=0) rfl h,fun r H h=>Bk hL (show NI ts oK∈Lks ts oK by simp [Lks]) () r (H:=pbx ts r::H) (id:=0) rfl h,
  fun w r H h=>Bk hL (show Uv ts oK∈Lks ts oK by simp [Lks]) w r (H:=pbx ts r::H) (id:=0) rfl h⟩
theorem jQ (ts:List Wd) (oK:ts.length<1000000):Cx (oOf (Lks ts oK)) zP AJ:=Bn _ B4 Ad
theorem jR (t:Tn):Aq zP 92 [(0,.int .i64 2),(2,.agg (tC t))]=some (.agg (Sx.c ⟨2,[],t,t0,[],t0,t0,[],t0,t0,0⟩)):=by cases t<;>kernel_rfl
@[simp] theorem nr (t:Tn):Aq zP 92 [(0,.int .i64 2),(2,.agg [.int .i64 t.k,.int .i64 t.n,.str t.s,t.ar])]=some (.agg (Sx.c ⟨2,[],t,t0,[],t0,t0,[],t0,t0,0⟩)):=by rw [←CB];exact jR t
@[simp high] theorem ns {l:List Wd} (h:0<l.length):Ao zP 171 (AE l) (.int .i64 0)=some (.vptr (A3 l) 0):=by simpa using eQ (l:=l) (i:=0) h
theorem jS (ts:List Wd) (oK:ts.length<1000000) (h0:0<ts.length) {H:AH} {id:Nat} (hH:H.at id=some (.box ((⟨0,none⟩:Sr).pc ts))) :
  CS zP AJ 62 [.ptr id 0] H (.agg (EL ts).1.x.c) (H.set id (some (.box ((EL ts).2.pc ts)))):=by
 refine CS.rd Bh Tryz.func62 (by kernel_rfl) 0 (by simp [Tryz.f62]) (fun B hB hG => ?_) (by simp) (by simp [Sx.c_low]) (Cp _ _) (Cp _ _) hH;have X:=jQ ts oK;have hO:=jP ts oK;generalize oOf (Lks ts oK)=O at X hO;refine Tr.goD X hG ?_;obtain ⟨w,hw⟩:∃w,ts[0]? = some w:=⟨_,List.getElem?_eq_getElem h0⟩
 obtain ⟨d1,d2⟩:=KN _ _ _ hw;simp only [Nat.zero_mul,List.drop_zero,Nat.zero_add] at d1 d2;have hx:EL ts=if w.kind=4 then HK ts w.text ⟨1,none⟩ else if w.kind=1 then Ox ts ⟨0,none⟩ else ({},⟨0,some ([(Bl,0)],2)⟩):=by simp only [EL,hw]
 rw [hx]
 by_cases h4:w.kind=4
 ·rw [if_pos h4]
  have f1:=fun H=>hO.key w.text ⟨1,none⟩ H h0
  generalize HK ts w.text ⟨1,none⟩=m at *;obtain ⟨m,r⟩:=m;obtain ⟨M,hM⟩:∃M,M=m.x:=⟨_,rfl⟩
  simp only [←hM,pbx] at f1 ⊢;simp [Sx.c] at f1;have w1:IntKind.i64.wrap 1=1:=by decide
  simp [Tryz.f62,Sr.pc,h0,d1,d2,BA,h4,w1,f1,Sx.c]
 ·rw [if_neg h4]
  have h4':((w.kind:Int)==4)=false:=by rw [beq_eq_false_iff_ne];omega
  have uS:¬(w.kind:Int)=4:=by omega
  by_cases h1:w.kind=1
  ·rw [if_pos h1]
   have f1:=fun H=>hO.to ⟨0,none⟩ H (Nat.zero_le _)
   have u1:=(i7 ts ⟨0,none⟩).2 (Nat.zero_le _);unfold Ox;generalize toW ts ⟨0,none⟩=a at *;obtain ⟨to,r1⟩:=a;simp only at f1 u1 ⊢;have f2:=fun H=>hO.must r1 3 isT H
   have u2:=(Gz ts r1 3 isT).2 u1;generalize BK ts r1 3 isT=b at *;obtain ⟨w2,r2⟩:=b;simp only at f2 u2 ⊢;have f3:=fun H=>hO.expr r2 H u2
   generalize Ct ts r2=c at *;simp only [pbx,isT,CB,BA] at f1 f2 f3;simp at f1 f2;simp [Tryz.f62,Sr.pc,h0,d1,d2,BA,h1,f1,f2,f3,Sx.c,Sm.x,Bm]
  ·rw [if_neg h1]
   have h1':((w.kind:Int)==1)=false:=by rw [beq_eq_false_iff_ne];omega
   have h1i:¬(w.kind:Int)=1:=by omega
   have f1:=fun H=>hO.fail ⟨0,none⟩ 0 2 H
   have hf:(⟨0,none⟩:Sr).fail 0 2=⟨0,some ([(Bl,0)],2)⟩:=rfl;rw [hf] at f1;simp [pbx] at f1;simp [Tryz.f62,Sr.pc,h0,d1,d2,BA,h1,h4,h1',h4',h1i,uS,f1,Sx.c,Sm.x,Bm]
noncomputable def Ez:AF zP AJ:=AF.pure 59 (fun s:List UInt8=>s.length<Br) (fun s=>[.str s]) EQ (fun s h H=>CS.toF (CS.toX (CS.toN (jK s h H)))) (fun x y _ _ h=>by
 simp only [List.cons.injEq,AV.str.injEq,and_true] at h
 rw [h])
noncomputable def E0:AF zP AJ:=AF.pure 60 (fun s:List UInt8=>s.length<Br) (fun s=>[.str s]) (fun s=>Ec (lex (s.length+1) s 0 false)) (fun s h H=>CS.toF (CS.toX (CS.toN (eL s h H)))) (fun x y _ _ h=>by
 simp only [List.cons.injEq,AV.str.injEq,and_true] at h
 rw [h])
noncomputable def Im (ts:List Wd) (oK:ts.length<1000000):AF zP AJ:=AF.meth 62 (Sr.pc ts) (FP ts) (fun (_:Unit) r=>r=⟨0,none⟩∧0<ts.length) (fun _ _=>[]) (fun _ _ => .agg (EL ts).1.x.c) (fun _ _=>(EL ts).2)
 (fun _ r h H id hH=>by obtain ⟨rfl,h0⟩:=h;exact jS ts oK h0 hH) (fun id x y r _ _ h=>⟨rfl,rfl⟩)
def G2 (x:Sm × Er):AV := .tup [.agg x.1.x.c,erI x.2]
@[simp] theorem buSrd (ts:List Wd):Aq zP 176 [(0,AE ts)]=some (.agg [AE ts,.int .i64 0,.nilIface]):=by
 unfold AE
 split<;>kernel_rfl
theorem jT (s:List UInt8):(CC s).length≤s.length:=by have h1:=QL s;unfold CC;rw [List.length_take];omega
theorem jU (s:List UInt8) (hs:s.length<1000000) (H:AH):CS zP AJ 30 [.str s] H (G2 (KH (CC s))) H:=by
 have hb:(CC s).length<1000000:=by have:=jT s;omega
 have pE:s.length<Br:=by rw [Dx];omega
 have sp:(CC s).length<Br:=by rw [Dx];omega
 unfold KH;generalize sG:lex ((CC s).length+1) (CC s) 0 false=lx;cases lx with
 |error x =>
  obtain ⟨p,e⟩:=x;have hL:([Ez,E0,CO].map (·.f)).Nodup:=show ([59,60,61]:List Nat).Nodup by decide
  have X:=Bn [Ez,E0,CO] B4 Ad;have f1:=fun H=>C0 hL (show Ez∈[Ez,E0,CO] by simp) s pE H
  have f2:=fun H=>C0 hL (show E0∈[Ez,E0,CO] by simp) (CC s) sp H
  have f3:=fun H=>C0 hL (show CO∈[Ez,E0,CO] by simp) (0,[(C8,(p:Int))],(e:Int)) trivial H
  generalize oOf [Ez,E0,CO]=O at X f1 f2 f3;rw [sG] at f2;simp [Ec,JL,C8] at f2;simp [EQ] at f1;simp [Ac,Bl,C8] at f3;refine CS.tr0 Bh Tryz.func30 (by kernel_rfl) 0 (by simp [Tryz.f30]) (fun B hB hG => ?_) (by simp [G2,Sx.c_low]) (by simp) H;refine Tr.goD X hG ?_;simp [Tryz.f30,f1,f2,f3,Sx.c,G2,Sm.x,Bm,erI,Ac,Cn,Bl,KG]
 |ok ts =>
  have oK:=UR hb sG;have hL:([Ez,E0,Im ts oK,DM ts].map (·.f)).Nodup:=show ([59,60,62,63]:List Nat).Nodup by decide
  have X:=Bn [Ez,E0,Im ts oK,DM ts] B4 Ad;have f1:=fun H=>C0 hL (show Ez∈[Ez,E0,Im ts oK,DM ts] by simp) s pE H
  have f2:=fun H=>C0 hL (show E0∈[Ez,E0,Im ts oK,DM ts] by simp) (CC s) sp H
  have f3:=fun (h:0<ts.length) e0 H=>Bk hL (show Im ts oK∈[Ez,E0,Im ts oK,DM ts] by simp) () ⟨0,none⟩ (H:=e0::pbx ts ⟨0,none⟩::H) (id:=1) rfl ⟨rfl,h⟩
  have f4:=fun (r:Sr) e0 H=>Bk hL (show DM ts∈[Ez,E0,Im ts oK,DM ts] by simp) (r.at_,2) r (H:=e0::pbx ts r::H) (id:=1) rfl trivial
  generalize oOf [Ez,E0,Im ts oK,DM ts]=O at X f1 f2 f3 f4;rw [sG] at f2;simp [Ec] at f2;simp [EQ] at f1;refine CS.tr0 Bh Tryz.func30 (by kernel_rfl) 0 (by simp [Tryz.f30]) (fun B hB hG => ?_) (by simp [G2,Sx.c_low]) (by simp) H;refine Tr.goD X hG ?_
  by_cases oL:ts=[]
  ·have sO:MW ts=({},none):=if_pos oL
   simp only;rw [sO];simp [Tryz.f30,f1,f2,oL,Sx.c,G2,Sm.x,Bm]
  ·have oU:0<ts.length:=List.length_pos_iff.2 oL
   have f3:=f3 oU
   have su:MW ts=match (if (EL ts).2.at_<ts.length then (EL ts).2.fail (EL ts).2.at_ 2 else (EL ts).2).err with
    |some x=>({},some x)
    |none=>((EL ts).1,none):=by unfold MW;rw [if_neg oL];rfl
   simp only;rw [su];clear su;generalize EL ts=m at *;obtain ⟨m,r⟩:=m;have f4:=f4 r;obtain ⟨M,hM⟩:∃M,M=m.x:=⟨_,rfl⟩
   have o5:¬(ts.length:Int)=0:=by omega
   have pN:((ts.length:Int)==0)=false:=by rw [beq_eq_false_iff_ne];exact o5
   simp only [←hM,pbx,Sr.pc] at f3 f4;simp [Sx.c] at f3;simp at f4
   by_cases hl:r.at_<ts.length
   ·have hl':(r.at_:Int)<ts.length:=by omega
    simp only [hl,if_true];obtain ⟨y,hy⟩:∃y,(r.fail r.at_ 2).err=some y:=⟨_,rfl⟩
    rw [hy] at f4 ⊢;simp [Tryz.f30,f1,f2,oL,o5,pN,f3,f4,hl,hl',Sx.c];refine LpD.turns X hG [5] zL0 ?_;simp [G2,Sx.c,Sm.x,Bm]
   ·have hl':¬(r.at_:Int)<ts.length:=by omega
    simp only [hl,if_false];cases he:r.err with
    |none =>
     rw [he] at f3
     try simp at f3
     simp [Tryz.f30,f1,f2,oL,o5,pN,f3,hl,hl',Sx.c,G2,←hM]
    |some y =>
     rw [he] at f3
     try simp at f3
     simp [Tryz.f30,f1,f2,oL,o5,pN,f3,hl,hl',Sx.c];refine LpD.turns X hG [5] zL0 ?_;simp [G2,Sx.c,Sm.x,Bm]
def Ce:List UInt8:=[108,105,110,101]
def Bd.fin (s:Bd) (kind at_:Int):Bd × Nat:=match s.fs with
 |[]=>(s,12)
 |f::r=>if f.st.kind=kind then (Bd.put ⟨s.l,r,s.o⟩ {f with end_:=at_}.nd,0) else (s,12)
def Bd.mark (s:Bd) (x:Sx):Bd:=if x.kind=1 then s else {s with o:=true}
def Nd.lf (a:Int) (x:Sx):Nd := .mk a a x [] [] (-1)
def Bd.add (s0:Bd) (x:Sx) (a:Int):Bd × Nat :=
 let s:=s0.mark x
 if x.kind=4 then s.fin 3 a
 else if x.kind=7 then s.fin 5 a
 else if x.kind=6 then (match s.fs with
  |[]=>(s,12)
  |f::r=>if f.st.kind=5∧f.mid<0 then ({s with fs:={f with mid:=a}::r},0) else (s,12))
 else if x.kind=3∨x.kind=5 then (if s.fs.length=8 then (s,4) else ({s with fs:=⟨a,a,x,[],[],-1⟩::s.fs},0))
 else if x.kind=1 then (if s.o=true∨s.fs≠[] then (s,2) else (s.put (.lf a x),0))
 else (s.put (.lf a x),0)
def bd0:Bd:=⟨[],[],false⟩
def ofL:List (List UInt8)→Nat→Bd→List Nd × Er
 |[],_,s=>(match s.fs with
  |[]=>(s.l,none)
  |f::_=>([],some ([(Ce,f.line.toNat)],11)))
 |b::ls,a,s=>(match KH (CC b) with
  |(_,some y)=>([],some ((Ce,a)::y.1,y.2))
  |(m,none)=>if m.kind=0 then ofL ls (a+1) s else
   if (s.add m.x a).2=0 then ofL ls (a+1) (s.add m.x a).1 else ([],some ([(Ce,a)],(s.add m.x a).2)))
def ofW (ls:List (List UInt8)):List Nd × Er:=ofL ls 0 bd0
theorem Bd.mark_ok {m:Nat} {s:Bd} (h:s.ok m) (x:Sx):(s.mark x).ok m:=by
 unfold Bd.mark
 split
 ·exact h
 ·exact ⟨h.1,h.2⟩
theorem Bd.fin_ok {m:Nat} {s:Bd} (h:s.ok m) (k a:Int):(s.fin k a).1.ok (m+1):=by
 obtain ⟨l,fs,o⟩:=s;unfold Bd.fin;cases fs with
 |nil=>exact Bd.ok_mono (Nat.le_succ m) h
 |cons f r =>
  simp only
  split
  ·exact Bd.put_ok (s:=⟨l,r,o⟩) ⟨h.1,fun g hg=>h.2 g (List.mem_cons_of_mem _ hg)⟩ _
  ·exact Bd.ok_mono (Nat.le_succ m) h
theorem Bd.add_ok {m:Nat} {s:Bd} (h:s.ok m) (x:Sx) (a:Int):(s.add x a).1.ok (m+1):=by
 unfold Bd.add;have h1:=Bd.mark_ok h x;generalize s.mark x=s at *;have h2:=Bd.ok_mono (Nat.le_succ m) h1;simp only
 split
 ·exact Bd.fin_ok h1 3 a
 split
 ·exact Bd.fin_ok h1 5 a
 split
 ·obtain ⟨l,fs,o⟩:=s
  cases fs with
  |nil=>exact h2
  |cons f r =>
   simp only
   split
   ·refine ⟨h2.1,fun g hg => ?_⟩
    rcases List.mem_cons.1 hg with rfl|hg
    ·exact h2.2 f List.mem_cons_self
    ·exact h2.2 g (List.mem_cons_of_mem _ hg)
   ·exact h2
 split
 ·split
  ·exact h2
  ·refine ⟨h2.1,fun g hg => ?_⟩
   rcases List.mem_cons.1 hg with rfl|hg
   ·exact ⟨Nat.zero_le _,Nat.zero_le _⟩
   ·exact h2.2 g hg
 split
 ·split
  ·exact h2
  ·exact Bd.put_ok h1 _
 ·exact Bd.put_ok h1 _
theorem Bd.put_len (s:Bd) (n:Nd):(s.put n).fs.length=s.fs.length:=by obtain ⟨l,fs,o⟩:=s;cases fs<;>rfl
theorem Bd.fin_len (s:Bd) (k a:Int):(s.fin k a).1.fs.length≤s.fs.length:=by
 obtain ⟨l,fs,o⟩:=s;unfold Bd.fin;cases fs with
 |nil=>exact Nat.le_refl _
 |cons f r =>
  simp only
  split
  ·rw [Bd.put_len];exact Nat.le_succ _
  ·exact Nat.le_refl _
theorem Bd.mark_fs (s:Bd) (x:Sx):(s.mark x).fs=s.fs:=by unfold Bd.mark;split<;>rfl
theorem Bd.add_len {s:Bd} (h:s.fs.length≤8) (x:Sx) (a:Int):(s.add x a).1.fs.length≤8:=by
 unfold Bd.add;have h1:(s.mark x).fs.length≤8:=by rw [Bd.mark_fs];exact h
 generalize s.mark x=s at *;simp only
 split
 ·exact Nat.le_trans (Bd.fin_len s 3 a) h1
 split
 ·exact Nat.le_trans (Bd.fin_len s 5 a) h1
 split
 ·obtain ⟨l,fs,o⟩:=s
  cases fs with
  |nil=>exact h1
  |cons f r =>
   simp only
   split<;>exact h1
 split
 ·split
  ·exact h1
  ·simp only [List.length_cons];omega
 split
 ·split
  ·exact h1
  ·rw [Bd.put_len];exact h1
 ·rw [Bd.put_len];exact h1
def Bd.lin (s:Bd):Prop:=∀f∈s.fs,0≤f.line
theorem Bd.put_lin {s:Bd} (h:s.lin) (n:Nd):(s.put n).lin:=by
 obtain ⟨l,fs,o⟩:=s;cases fs with
 |nil=>exact h
 |cons f r =>
  intro g hg;rcases List.mem_cons.1 hg with rfl|hg
  ·have:=h f List.mem_cons_self
   unfold Fr.put
   split<;>exact this
  ·exact h g (List.mem_cons_of_mem _ hg)
theorem Bd.fin_lin {s:Bd} (h:s.lin) (k a:Int):(s.fin k a).1.lin:=by
 obtain ⟨l,fs,o⟩:=s;unfold Bd.fin;cases fs with
 |nil=>exact h
 |cons f r =>
  simp only
  split
  ·exact Bd.put_lin (s:=⟨l,r,o⟩) (fun g hg=>h g (List.mem_cons_of_mem _ hg)) _
  ·exact h
theorem Bd.add_lin {s:Bd} (h:s.lin) (x:Sx) {a:Int} (ha:0≤a):(s.add x a).1.lin:=by
 unfold Bd.add;have h1:(s.mark x).lin:=by unfold Bd.lin;rw [Bd.mark_fs];exact h
 generalize s.mark x=s at *;simp only
 split
 ·exact Bd.fin_lin h1 3 a
 split
 ·exact Bd.fin_lin h1 5 a
 split
 ·obtain ⟨l,fs,o⟩:=s
  cases fs with
  |nil=>exact h1
  |cons f r =>
   simp only
   split
   ·intro g hg
    rcases List.mem_cons.1 hg with rfl|hg
    ·exact h1 f List.mem_cons_self
    ·exact h1 g (List.mem_cons_of_mem _ hg)
   ·exact h1
 split
 ·split
  ·exact h1
  ·intro g hg
   rcases List.mem_cons.1 hg with rfl|hg
   ·exact ha
   ·exact h1 g hg
 split
 ·split
  ·exact h1
  ·exact Bd.put_lin h1 _
 ·exact Bd.put_lin h1 _
theorem CS.weakA {P:Program} {E:Env} {f:FuncId} {args args':List AV} {H H':AH} {v:AV} (h:CS P E f args' H v H') (hw:∀g cargs,AB g args cargs→AB g args' cargs):CS P E f args H v H':=fun g w cargs R hG hA=>h g w cargs R hG (hw g cargs hA)
theorem QM {α:Type} (E:Enc α) {g:Gh} {k:Nat} {l:List α} {v:Value} (h:AA g (E.tk k l) v):AA g (E.av l) v:=by
 by_cases h0:l=[]
 ·subst h0;exact h
 ·rw [E.tk_ne k h0] at h
  rw [E.av_ne h0];exact M0 g v h
def Fr.nc (d:Nat) (f:Fr):List AV:=f.pre++[ndE.tk (3+3*d) f.body,ndE.tk (4+3*d) f.els,.int .i64 f.mid]
theorem Uw {g:Gh}:∀{xs bs:List AV} {vs:List Value},AB g (xs++bs) vs→∃us ws,vs=us++ws∧AB g xs us∧AB g bs ws
 |[],bs,vs,h=>⟨[],vs,rfl,by simp [AB],h⟩
 |a::xs,bs,vs,h=>by simp only [List.cons_append,AB] at h;obtain ⟨v,us,rfl,h1,h2⟩:=h;obtain ⟨us,ws,rfl,h3,h4⟩:=Uw h2;exact ⟨v::us,ws,rfl,by simp only [AB];exact ⟨v,us,rfl,h1,h3⟩,h4⟩
theorem Ux {g:Gh} {cs:List AV} {v:Value}:AA g (.agg cs) v↔∃vs,v = .agg (List.toArray vs)∧AB g cs vs:=by simp only [AA]
theorem jV {g:Gh} (d:Nat) (f:Fr) {cargs:List Value} (h:AB g [.ptr 0 0,.agg (f.nc d)] cargs):AB g [.ptr 0 0,.agg (ndC f.nd)] cargs:=by simp only [AB] at h ⊢;obtain ⟨v,ws,rfl,h1,v2,ws2,rfl,h2,rfl⟩:=h;refine ⟨v,_,rfl,h1,v2,_,rfl,?_,rfl⟩;rw [Ux] at h2 ⊢;obtain ⟨vs,rfl,h2⟩:=h2;refine ⟨vs,rfl,?_⟩;rw [Fr.nc] at h2;obtain ⟨us,ws,rfl,h3,h4⟩:=Uw h2;have:ndC f.nd=f.pre++[ndE.av f.body,ndE.av f.els,.int .i64 f.mid]:=GK f.nd;rw [this];refine h3.append ?_;simp only [AB] at h4 ⊢;obtain ⟨a,x,rfl,k1,b,y,rfl,k2,c,z,rfl,k3,rfl⟩:=h4;exact ⟨a,_,rfl,QM ndE k1,b,_,rfl,QM ndE k2,c,_,rfl,k3,rfl⟩
@[simp ↓ high] theorem nt (d:Nat):(upC d).known=true:=by cases d<;>rfl
@[simp ↓ high] theorem nu (d:Nat):(upC d).one=true:=by cases d<;>rfl
@[simp ↓ high] theorem nv (d:Nat):An (upC d)=[upC d]:=by cases d<;>rfl
theorem Jd (n:Nat):upC (n+1) = .ptr (2+3*n) 0:=rfl
theorem Je:upC 0 = .nilPtr:=rfl
theorem D1 (H:AH) (e:Option Ent) (B:AH):AH.at (H++e::B) H.length=e:=by rw [FO (Nat.le_refl _),Nat.sub_self];rfl
theorem D2 (H:AH) (e x:Option Ent) (B:AH):(H++e::B).set H.length x=H++x::B:=by rw [List.set_append_right _ _ (Nat.le_refl _)];simp
theorem Ft (H:AH) (i:Nat) (y e:Option Ent) (B:AH):AH.at (H.set i y++e::B) H.length=e:=by have:=D1 (H.set i y) e B;rwa [List.length_set] at this
theorem Fu (H:AH) (i:Nat) (y e x:Option Ent) (B:AH):(H.set i y++e::B).set H.length x=H.set i y++x::B:=by have:=D2 (H.set i y) e x B;rwa [List.length_set] at this
theorem Fv (H:AH) (a e:Option Ent) (B:AH):AH.at (H++a::e::B) (H.length+1)=e:=by rw [FO (Nat.le_succ _)];simp [AH.at]
theorem Fx (H:AH) (a e x:Option Ent) (B:AH):(H++a::e::B).set (H.length+1) x=H++a::x::B:=by rw [List.set_append_right _ _ (Nat.le_succ _)];simp
theorem GN (H:AH) (i:Nat) (y a e:Option Ent) (B:AH):AH.at (H.set i y++a::e::B) (H.length+1)=e:=by have:=Fv (H.set i y) a e B;rwa [List.length_set] at this
theorem GO (H:AH) (i:Nat) (y a e x:Option Ent) (B:AH):(H.set i y++a::e::B).set (H.length+1) x=H.set i y++a::x::B:=by have:=Fx (H.set i y) a e x B;rwa [List.length_set] at this
theorem HV (H:AH) (B:AH) (h:0<H.length):AH.at (H++B) 0=H.at 0:=Gy h
theorem HW (H:AH) (B:AH) (e:Option Ent) (h:0<H.length):(H++B).set 0 e=H.set 0 e++B:=List.set_append_left _ _ h
theorem GP (H:AH) (B:AH) (e:Option Ent) (h:0<H.length):AH.at (H.set 0 e++B) 0=e:=by rw [Gy (by rw [List.length_set];exact h),AH.at_set,if_pos ⟨rfl,h⟩]
theorem HX (H:AH) (B:AH) (e e':Option Ent) (h:0<H.length):(H.set 0 e++B).set 0 e'=H.set 0 e'++B:=by rw [List.set_append_left _ _ (by rw [List.length_set];exact h),List.set_set]
theorem LZ {H:AH} {j:Nat} (B:AH) (e:Option Ent) (h:j<H.length) (h0:j≠0):AH.at (H.set 0 e++B) j=H.at j:=by rw [Gy (by rw [List.length_set];exact h),aSn (fun h=>h0 h.symm)]
theorem In (n:Nat):∀a b:AH,AU n (a++b)=(AU n a&&AU n b)
 |[],b=>by simp [AU]
 |e::a,b=>by simp [AU,In n a b,Bool.and_assoc]
theorem jW {m n:Nat} (h:m≤n) {e:Option Ent} (k:At m e=true):At n e=true:=by
 cases e with
 |none=>rfl
 |some e=>cases e with
  |box cs=>exact Am h _ k
  |loose n cs=>exact Am h _ k
  |stk n cs=>exact Am h _ k
  |_=>rfl
theorem NK {m n:Nat} (h:m≤n):∀{H:AH},AU m H=true→AU n H=true
 |[],_=>rfl
 |e::H,k=>by simp only [AU,Bool.and_eq_true] at k ⊢;exact ⟨jW h k.1,NK h k.2⟩
theorem Kf (n:Nat) {α:Type} (l:List α):At n (AO l)=true:=by unfold AO;split<;>rfl
theorem QN {d n:Nat} (h:3*d<n):low n (upC d)=true:=by
 cases d with
 |zero=>rfl
 |succ d=>simp [upC,low];omega
theorem NL (d n:Nat) (f:Fr) (h:4+3*d<n):AU n (f.h d)=true:=by
 have h1:=Am (Nat.zero_le n) _ f.pre_low;have t1:=ndE.tk_low (k:=3+3*d) (m:=n) (by omega) f.body;have t2:=ndE.tk_low (k:=4+3*d) (m:=n) (by omega) f.els;simp only [Fr.h,AU,Kf,Bool.and_true]
 show lowL n (f.c d)=true
 rw [Fr.c,Dd,h1];simp [lowL,t1,t2,QN (d:=d) (n:=n) (by omega),low]
theorem Uy:∀(r:List Fr) (n:Nat),2+3*r.length≤n→AU n (frH r)=true
 |[],_,_=>rfl
 |f::r,n,h=>by simp only [List.length_cons] at h;rw [frH,In,Uy r n (by omega),NL _ _ _ (by omega)];rfl
theorem ER (s:Bd) (n:Nat) (h:2+3*s.fs.length≤n):AU n (bdH s)=true:=by
 have t1:=ndE.tk_low (k:=1) (m:=n) (by omega) s.l;simp only [bdH,AU,Kf,Uy s.fs n h,Bool.and_true]
 show lowL n s.c=true
 simp [Bd.c,lowL,t1,QN (d:=s.fs.length) (n:=n) (by omega),low]
theorem BT (s:Bd):(bdH s).length=2+3*s.fs.length:=by simp [bdH,Ik];omega
theorem G3:CxW Bu zP A7 []:=DK.toW
def CP (c:Nat):AV:=if c=0 then .nilIface else .iface 101 (.int .i64 (c:Int))
def FR (s:Bd) (kind:Int):AH:=match s.fs with
 |[]=>[]
 |f::r=>if f.st.kind=kind then f.h r.length else []
theorem jX (l:List Nd) (f:Fr) (r:List Fr) (o:Bool) (K:AH) (hK:AU 0 K=true) (kind a:Int) {m:Nat} (hs:Bd.ok m ⟨l,f::r,o⟩) (hm:m<137438953472) (hd:r.length<1000) (hk:f.st.kind=kind) :
  CS zP A7 64 [.ptr 0 0,.int .i64 kind,.int .i64 a] (bdH ⟨l,f::r,o⟩++K) .nilIface (bdH (Bd.put ⟨l,r,o⟩ {f with end_:=a}.nd)++(f.h r.length++K)):=by
 subst hk;have oT:=Dm l f r o K;have c0:AH.at (bdH ⟨l,f::r,o⟩++K) 0=some (.box (Bd.c ⟨l,f::r,o⟩)):=rfl;have cF:=Hz l f r o K;have qF:∀e,(bdH ⟨l,f::r,o⟩++K).set 0 e=(e::AO l::frH r)++(f.h r.length++K):=fun e=>by simp [bdH,frH]
 have xe:=fun K'=>CS.weakA (P8 ⟨l,r,o⟩ {f with end_:=a}.nd K' (m:=m) ⟨hs.1,fun g hg=>hs.2 g (List.mem_cons_of_mem _ hg)⟩ hm) (fun g cargs h=>jV r.length {f with end_:=a} h)
 obtain ⟨H3,qH⟩:∃H3:AH,H3=bdH (Bd.put ⟨l,r,o⟩ {f with end_:=a}.nd)++(f.h r.length++K++[some (.box (({f with end_:=a}:Fr).nc r.length))]):=⟨_,rfl⟩
 have hp:CS zP A7 65 [.ptr 0 0,.agg (({f with end_:=a}:Fr).nc r.length)] ((bdH ⟨l,f::r,o⟩++K).set 0 (some (.box (Bd.c ⟨l,r,o⟩)))++[some (.box (({f with end_:=a}:Fr).nc r.length))]) (.tup []) H3:=by have:=xe (f.h r.length++K++[some (.box (({f with end_:=a}:Fr).nc r.length))]);rw [qF,qH,List.append_assoc];exact this
 have qq:(bdH (Bd.put ⟨l,r,o⟩ {f with end_:=a}.nd)).length=2+3*r.length:=by rw [BT,Bd.put_len]
 have oo:H3.take (bdH ⟨l,f::r,o⟩++K).length=bdH (Bd.put ⟨l,r,o⟩ {f with end_:=a}.nd)++(f.h r.length++K):=by rw [qH,←List.append_assoc,List.take_left' (by simp only [List.length_append] at oT ⊢;rw [qq,oT];simp [Fr.h];omega)]
 have oV:AU (bdH ⟨l,f::r,o⟩++K).length (bdH (Bd.put ⟨l,r,o⟩ {f with end_:=a}.nd)++(f.h r.length++K))=true:=by rw [In,In,ER _ _ (by rw [Bd.put_len];simp only;omega),NL _ _ _ (by omega),NK (Nat.zero_le _) hK];rfl
 generalize bdH (Bd.put ⟨l,r,o⟩ {f with end_:=a}.nd)++(f.h r.length++K)=H1 at *;have X:=Fh hp G3;have hO:=FD 65 [.ptr 0 0,.agg (({f with end_:=a}:Fr).nc r.length)] ((bdH ⟨l,f::r,o⟩++K).set 0 (some (.box (Bd.c ⟨l,r,o⟩)))++[some (.box (({f with end_:=a}:Fr).nc r.length))]) (.tup []) H3 Bu;generalize orP 65 [.ptr 0 0,.agg (({f with end_:=a}:Fr).nc r.length)] ((bdH ⟨l,f::r,o⟩++K).set 0 (some (.box (Bd.c ⟨l,r,o⟩)))++[some (.box (({f with end_:=a}:Fr).nc r.length))]) (.tup []) H3 Bu=O at X hO;clear hp xe qH qF;refine CS.of_Tr (c:=Au Tryz.f64) (H0:=bdH ⟨l,f::r,o⟩++K) (H1:=H1) Tryz.func64 (by kernel_rfl) 0 (by simp [Tryz.f64]) (fun B hB hG => ?_) (by simp) oV;generalize bdH ⟨l,f::r,o⟩++K=H at *;have oU:0<H.length:=by omega
 have ra:2+3*r.length<H.length:=by omega
 have uV:2+3*r.length≠0:=by omega
 have w1:IntKind.i64.wrap (r.length:Int)=(r.length:Int):=Ab (by omega) (by omega);simp only [Bd.c,Fr.c,Fr.pre,Fr.nc,Sx.c,List.length_cons,Jd,List.cons_append,List.nil_append] at c0 cF hO;have k0:=fun B=>(HV H B oU).trans c0
 have kF:=fun B=>(Gy (A:=H) (B:=B) ra).trans cF
 have jF:=fun B e=>(LZ (H:=H) B e ra uV).trans cF
 have j0:=fun B e=>GP H B e oU
 have s0:=fun B e=>HW H B e oU
 have s1:=fun B e e'=>HX H B e e' oU
 refine Tr.goW X hG ?_;simp [-AH.at,Tryz.f64,c0,cF,k0,kF,jF,j0,s0,s1,D1,D2,Ft,Fu,w1,hO,oo]
theorem Uz (s:Bd) (K:AH) (hK:AU 0 K=true) (kind a:Int) (hd:s.fs.length<1000) (hk:∀f r,s.fs=f::r→f.st.kind≠kind) :
  CS zP A7 64 [.ptr 0 0,.int .i64 kind,.int .i64 a] (bdH s++K) (CP 12) (bdH s++K):=by
 obtain ⟨l,fs,o⟩:=s;simp only at hd hk
 have oV:AU (bdH ⟨l,fs,o⟩++K).length (bdH ⟨l,fs,o⟩++K)=true:=by rw [In,ER _ _ (by rw [List.length_append,BT];omega),NK (Nat.zero_le _) hK];rfl
 have oo:(bdH ⟨l,fs,o⟩++K).take (bdH ⟨l,fs,o⟩++K).length=bdH ⟨l,fs,o⟩++K:=List.take_length;refine CS.of_Tr (c:=Au Tryz.f64) (H0:=bdH ⟨l,fs,o⟩++K) (H1:=bdH ⟨l,fs,o⟩++K) Tryz.func64 (by kernel_rfl) 0 (by simp [Tryz.f64]) (fun B hB hG => ?_) (by simp [CP]) oV;have c0:AH.at (bdH ⟨l,fs,o⟩++K) 0=some (.box (Bd.c ⟨l,fs,o⟩)):=rfl;refine Tr.goW G3 hG ?_;cases fs with
 |nil =>simp only [Bd.c,Je,List.length_nil] at c0;generalize bdH ⟨l,[],o⟩++K=H at *;simp [-AH.at,Tryz.f64,c0,oo,CP]
 |cons f r =>have cF:=Hz l f r o K;have hk':=hk f r rfl;simp only [Bd.c,Jd,List.length_cons] at c0;simp only [Fr.c,Fr.pre,Sx.c,List.cons_append,List.nil_append] at cF;generalize bdH ⟨l,f::r,o⟩++K=H at *;simp [-AH.at,Tryz.f64,c0,cF,hk',oo,CP]
theorem jY (s:Bd) (K:AH) (hK:AU 0 K=true) (kind a:Int) {m:Nat} (hs:s.ok m) (hm:m<137438953472) (hd:s.fs.length<1000) :
  CS zP A7 64 [.ptr 0 0,.int .i64 kind,.int .i64 a] (bdH s++K) (CP (s.fin kind a).2) (bdH (s.fin kind a).1++(FR s kind++K)):=by
 obtain ⟨l,fs,o⟩:=s;cases fs with
 |nil=>exact Uz ⟨l,[],o⟩ K hK kind a hd (fun f r h=>by cases h)
 |cons f r =>
  simp only [List.length_cons] at hd
  by_cases hk:f.st.kind=kind
  ·simp only [Bd.fin,FR,if_pos hk]
   exact jX l f r o K hK kind a hs hm (by omega) hk
  ·simp only [Bd.fin,FR,if_neg hk]
   exact Uz ⟨l,f::r,o⟩ K hK kind a hd (fun f' r' h=>by
    injection h with h1 h2;subst h1
    exact hk)
theorem fin_len (s:Bd) (k a:Int):(bdH (s.fin k a).1++FR s k).length=(bdH s).length:=by
 obtain ⟨l,fs,o⟩:=s;cases fs with
 |nil=>simp [Bd.fin,FR]
 |cons f r =>
  simp only [Bd.fin,FR]
  split
  ·rw [List.length_append,BT,BT,Bd.put_len]
   simp [Fr.h];omega
  ·simp
@[simp] theorem buNdP (a b z:Int) (c0 c1 c2 c3 c4 c5 c6 c7 c8 c9 c10 c11 c12 c13 c14 c15 c16 c17 c18 c19 c20 c21 c22 c23 c24 c25 c26 c27 c28:AV):Aq zP 95 [(0,.int .i64 a),(1,.int .i64 b),(2,.agg [c0,c1,c2,c3,c4,c5,c6,c7,c8,c9,c10,c11,c12,c13,c14,c15,c16,c17,c18,c19,c20,c21,c22,c23,c24,c25,c26,c27,c28]),(5,.int .i64 z)]=some (.agg [.int .i64 a,.int .i64 b,c0,c1,c2,c3,c4,c5,c6,c7,c8,c9,c10,c11,c12,c13,c14,c15,c16,c17,c18,c19,c20,c21,c22,c23,c24,c25,c26,c27,c28,.nilSlice,.nilSlice,.int .i64 z]):=by kernel_rfl
@[simp] theorem buOp (c0 c1 c2 c3 c4 c5 c6 c7 c8 c9 c10 c11 c12 c13 c14 c15 c16 c17 c18 c19 c20 c21 c22 c23 c24 c25 c26 c27 c28 c29 c30 c31 c32 c33:AV) (d:Nat):Aq zP 128 [(0,.agg [c0,c1,c2,c3,c4,c5,c6,c7,c8,c9,c10,c11,c12,c13,c14,c15,c16,c17,c18,c19,c20,c21,c22,c23,c24,c25,c26,c27,c28,c29,c30,c31,c32,c33]),(1,upC d)]=some (.agg [c0,c1,c2,c3,c4,c5,c6,c7,c8,c9,c10,c11,c12,c13,c14,c15,c16,c17,c18,c19,c20,c21,c22,c23,c24,c25,c26,c27,c28,c29,c30,c31,c32,c33,upC d]):=by cases d<;>kernel_rfl
theorem lfC (a:Int) (x:Sx):ndC (.lf a x) = .int .i64 a :: .int .i64 a::(x.c++[.nilSlice,.nilSlice,.int .i64 (-1)]):=GK _
def psH (N i:Nat):Nat:=if i<N then i else i+2
theorem jZ {B:Bs} {H:AH} {N:Nat} (hB:B.H=H) (hN:N=H.length) (oU:1<H.length) (hl:AU H.length H=true) {L:List (Nat × AV)} (h6:(L.lookup 6).getD .undef = .nilIface) (l:List Nd) (dn:Int) (o:Bool) {cs:List AV} (qj:lowL H.length cs=true) (e1 e2:Option Ent) :
  AD B (mkT 112 L) (H.set 0 (some (.box [ndE.tk 1 l,.ptr (H.length+2) 0,.int .i64 dn,.bool o]))++[e1,e2,some (.box cs)]) (mkT 112 [(6,.nilIface)]) (H.set 0 (some (.box [ndE.tk 1 l,.ptr N 0,.int .i64 dn,.bool o]))++[some (.box cs),none,none]):=by
 subst hN;have q9:∀i,i<H.length→psH H.length i=i:=fun i hi=>if_pos hi
 have rj:∀i,H.length≤i→psH H.length i=i+2:=fun i hi=>if_neg (by omega)
 have t1:=fun n (h:1<n)=>ndE.tk_low (k:=1) (m:=n) h l
 refine AD.mkV 1000 (psH H.length) (H.length+3) (by rw [hB];omega) (fun i j _ _ h=>by unfold psH at h;split at h<;>split at h<;>omega) (fun i hi=>q9 i (by rw [hB] at hi;exact hi)) (by simp) ?_ ?_ ?_
 ·intro i hi
  by_cases h0:i=0
  ·subst h0
   rw [q9 0 (by omega),GP _ _ _ (by omega),GP _ _ _ (by omega)];have e1:=q9 1 oU;have e2:=rj H.length (Nat.le_refl _);simp only [Option.map_some,AI,AL,ren,Enc.tk_ren,e1,e2]
  ·by_cases h1:i<H.length
   ·rw [q9 i h1,LZ _ _ h1 h0,LZ _ _ h1 h0,Et q9 (by
     cases he:H.at i with
     |none=>rfl
     |some x=>exact Hk hl he)]
   ·rw [rj i (by omega),FO (by rw [List.length_set];omega),FO (by rw [List.length_set];omega)]
    simp only [List.length_set];rcases (by omega:i=H.length∨i=H.length+1∨i=H.length+2) with rfl|rfl|rfl
    ·rw [show H.length+2-H.length=2 by omega,Nat.sub_self]
     show some (Ent.box cs)=some (Ent.box (AL _ cs))
     rw [Ea q9 _ qj]
    ·rw [show H.length+1+2-H.length=3 by omega,show H.length+1-H.length=1 by omega]
     rfl
    ·rw [show H.length+2+2-H.length=4 by omega,show H.length+2-H.length=2 by omega]
     rfl
 ·rw [In]
  have h1:AU (H.length+3) (H.set 0 (some (.box [ndE.tk 1 l,.ptr H.length 0,.int .i64 dn,.bool o])))=true:=by
   cases H with
   |nil=>simp at oU
   |cons x H =>simp only [AU,Bool.and_eq_true] at hl;simp only [List.set_cons_zero,AU,At,Bool.and_eq_true];refine ⟨?_,NK (by omega) hl.2⟩;simp only [lowL,low,t1 _ (show 1<(x::H).length+3 by omega)];simp
  rw [h1];simp only [AU,At,Am (by omega:H.length≤H.length+3) cs qj];rfl
 ·intro p hp
  simp only [List.mem_singleton] at hp;subst hp;simp only [h6];exact ⟨rfl,rfl⟩
theorem QO (l:List Nd) (fs:List Fr) (o o':Bool):(bdH ⟨l,fs,o⟩).set 0 (some (.box (Bd.c ⟨l,fs,o'⟩)))=bdH ⟨l,fs,o'⟩:=rfl
theorem ja (l:List Nd) (fs:List Fr) (o:Bool) (x:Sx) (a:Int) (k:Int) (hk:x.kind=4∧k=3∨x.kind=7∧k=5) {m:Nat} (hs:Bd.ok m ⟨l,fs,o⟩) (hm:m<137438953472) (hd:fs.length≤8) :
  CS zP A7 31 [.ptr 0 0,.agg x.c,.int .i64 a] (bdH ⟨l,fs,o⟩) (CP (Bd.fin ⟨l,fs,true⟩ k a).2) (bdH (Bd.fin ⟨l,fs,true⟩ k a).1++FR ⟨l,fs,true⟩ k):=by
 have hK:AU 0 [some (.box x.c),some (.box (ndC (.lf a x)))]=true:=by simp [AU,At,Sx.c_low,Co]
 have he:=jY ⟨l,fs,true⟩ [some (.box x.c),some (.box (ndC (.lf a x)))] hK k a (m:=m) ⟨hs.1,hs.2⟩ hm (by simp only;omega);rw [←QO l fs o true] at he;obtain ⟨H3,qH⟩:∃H3:AH,H3=bdH (Bd.fin ⟨l,fs,true⟩ k a).1++(FR ⟨l,fs,true⟩ k++[some (.box x.c),some (.box (ndC (.lf a x)))]):=⟨_,rfl⟩
 rw [←qH] at he;have oc:=fin_len ⟨l,fs,true⟩ k a
 have oo:H3.take (bdH ⟨l,fs,o⟩).length=bdH (Bd.fin ⟨l,fs,true⟩ k a).1++FR ⟨l,fs,true⟩ k:=by rw [qH,←List.append_assoc,List.take_left' (by rw [oc,BT,BT])]
 have oV:AU (bdH ⟨l,fs,o⟩).length (bdH (Bd.fin ⟨l,fs,true⟩ k a).1++FR ⟨l,fs,true⟩ k)=true:=by
  rw [In,ER _ _ (by have:=Bd.fin_len ⟨l,fs,true⟩ k a;rw [BT];simp only at this ⊢;omega)];cases fs with
  |nil=>rfl
  |cons f r =>
   simp only [FR]
   split
   ·rw [NL _ _ _ (by rw [BT];simp only [List.length_cons];omega)];rfl
   ·rfl
 generalize bdH (Bd.fin ⟨l,fs,true⟩ k a).1++FR ⟨l,fs,true⟩ k=H1 at *;have oq:∀n,low n (CP (Bd.fin ⟨l,fs,true⟩ k a).2)=true:=fun n=>by unfold CP;split<;>rfl
 have oS:∀n,strip n (CP (Bd.fin ⟨l,fs,true⟩ k a).2)=CP (Bd.fin ⟨l,fs,true⟩ k a).2:=fun n=>JD n _ (oq 0)
 generalize CP (Bd.fin ⟨l,fs,true⟩ k a).2=rv at *;have X:=Fh he G3;have hO:=FD 64 [.ptr 0 0,.int .i64 k,.int .i64 a] ((bdH ⟨l,fs,o⟩).set 0 (some (.box (Bd.c ⟨l,fs,true⟩)))++[some (.box x.c),some (.box (ndC (.lf a x)))]) rv H3 Bu;generalize orP 64 [.ptr 0 0,.int .i64 k,.int .i64 a] ((bdH ⟨l,fs,o⟩).set 0 (some (.box (Bd.c ⟨l,fs,true⟩)))++[some (.box x.c),some (.box (ndC (.lf a x)))]) rv H3 Bu=O at X hO;clear he qH oc;have oT:(bdH ⟨l,fs,o⟩).length=2+3*fs.length:=BT _;have c0:AH.at (bdH ⟨l,fs,o⟩) 0=some (.box (Bd.c ⟨l,fs,o⟩)):=rfl;refine CS.of_Tr (c:=Au Tryz.f31) (H0:=bdH ⟨l,fs,o⟩) (H1:=H1) Tryz.func31 (by kernel_rfl) 0 (by simp [Tryz.f31]) (fun B hB hG => ?_) (oq _) oV;generalize bdH ⟨l,fs,o⟩=H at *;have oU:0<H.length:=by omega
 simp only [Bd.c] at c0;simp only [Sx.c,lfC,Bd.c,List.cons_append,List.nil_append] at hO;have k0:=fun B=>(HV H B oU).trans c0
 have j0:=fun B e=>GP H B e oU
 have s0:=fun B e=>HW H B e oU
 have s1:=fun B e e'=>HX H B e e' oU
 refine Tr.goW X hG ?_;rcases hk with ⟨hk,rfl⟩|⟨hk,rfl⟩
 all_goals
  simp only [hk] at hO;simp [-AH.at,Tryz.f31,c0,k0,j0,s0,s1,D1,D2,Ft,Fu,Fv,Fx,GN,GO,Sx.c,hO,oo,hk,oS]
theorem jb (l:List Nd) (fs:List Fr) (o:Bool) (x:Sx) (a:Int) (h1:x.kind≠1) (h3:x.kind≠3) (h4:x.kind≠4) (h5:x.kind≠5) (h6:x.kind≠6) (h7:x.kind≠7) {m:Nat} (hs:Bd.ok m ⟨l,fs,o⟩) (hm:m<137438953472) (hd:fs.length≤8) :
  CS zP A7 31 [.ptr 0 0,.agg x.c,.int .i64 a] (bdH ⟨l,fs,o⟩) .nilIface (bdH (Bd.put ⟨l,fs,true⟩ (.lf a x))):=by
 have he:=P8 ⟨l,fs,true⟩ (.lf a x) [some (.box x.c),some (.box (ndC (.lf a x)))] (m:=m) ⟨hs.1,hs.2⟩ hm;rw [←QO l fs o true] at he;obtain ⟨H3,qH⟩:∃H3:AH,H3=bdH (Bd.put ⟨l,fs,true⟩ (.lf a x))++[some (.box x.c),some (.box (ndC (.lf a x)))]:=⟨_,rfl⟩
 rw [←qH] at he;have qq:(bdH (Bd.put ⟨l,fs,true⟩ (.lf a x))).length=(bdH ⟨l,fs,o⟩).length:=by rw [BT,BT,Bd.put_len]
 have oo:H3.take (bdH ⟨l,fs,o⟩).length=bdH (Bd.put ⟨l,fs,true⟩ (.lf a x)):=by rw [qH,List.take_left' qq]
 have oV:AU (bdH ⟨l,fs,o⟩).length (bdH (Bd.put ⟨l,fs,true⟩ (.lf a x)))=true:=ER _ _ (by rw [Bd.put_len,BT];exact Nat.le_refl _);generalize bdH (Bd.put ⟨l,fs,true⟩ (.lf a x))=H1 at *;have X:=Fh he G3;have hO:=FD 65 [.ptr 0 0,.agg (ndC (.lf a x))] ((bdH ⟨l,fs,o⟩).set 0 (some (.box (Bd.c ⟨l,fs,true⟩)))++[some (.box x.c),some (.box (ndC (.lf a x)))]) (.tup []) H3 Bu;generalize orP 65 [.ptr 0 0,.agg (ndC (.lf a x))] ((bdH ⟨l,fs,o⟩).set 0 (some (.box (Bd.c ⟨l,fs,true⟩)))++[some (.box x.c),some (.box (ndC (.lf a x)))]) (.tup []) H3 Bu=O at X hO;clear he qH qq;have oT:(bdH ⟨l,fs,o⟩).length=2+3*fs.length:=BT _;have c0:AH.at (bdH ⟨l,fs,o⟩) 0=some (.box (Bd.c ⟨l,fs,o⟩)):=rfl;refine CS.of_Tr (c:=Au Tryz.f31) (H0:=bdH ⟨l,fs,o⟩) (H1:=H1) Tryz.func31 (by kernel_rfl) 0 (by simp [Tryz.f31]) (fun B hB hG => ?_) rfl oV;generalize bdH ⟨l,fs,o⟩=H at *;have oU:0<H.length:=by omega
 simp only [Bd.c] at c0;simp only [Sx.c,lfC,Bd.c,List.cons_append,List.nil_append] at hO;have k0:=fun B=>(HV H B oU).trans c0
 have j0:=fun B e=>GP H B e oU
 have s0:=fun B e=>HW H B e oU
 have s1:=fun B e e'=>HX H B e e' oU
 refine Tr.goW X hG ?_;simp [-AH.at,Tryz.f31,c0,k0,j0,s0,s1,D1,D2,Ft,Fu,Fv,Fx,GN,GO,Sx.c,hO,oo,h1,h3,h4,h5,h6,h7]
theorem jc (l:List Nd) (fs:List Fr) (o:Bool) (x:Sx) (a:Int) (h1:x.kind=1) (ho:o=false) (hf:fs=[]) {m:Nat} (hs:Bd.ok m ⟨l,fs,o⟩) (hm:m<137438953472) (hd:fs.length≤8) :
  CS zP A7 31 [.ptr 0 0,.agg x.c,.int .i64 a] (bdH ⟨l,fs,o⟩) .nilIface (bdH (Bd.put ⟨l,fs,o⟩ (.lf a x))):=by
 have he:=P8 ⟨l,fs,o⟩ (.lf a x) [some (.box x.c),some (.box (ndC (.lf a x)))] (m:=m) ⟨hs.1,hs.2⟩ hm;obtain ⟨H3,qH⟩:∃H3:AH,H3=bdH (Bd.put ⟨l,fs,o⟩ (.lf a x))++[some (.box x.c),some (.box (ndC (.lf a x)))]:=⟨_,rfl⟩
 rw [←qH] at he;have qq:(bdH (Bd.put ⟨l,fs,o⟩ (.lf a x))).length=(bdH ⟨l,fs,o⟩).length:=by rw [BT,BT,Bd.put_len]
 have oo:H3.take (bdH ⟨l,fs,o⟩).length=bdH (Bd.put ⟨l,fs,o⟩ (.lf a x)):=by rw [qH,List.take_left' qq]
 have oV:AU (bdH ⟨l,fs,o⟩).length (bdH (Bd.put ⟨l,fs,o⟩ (.lf a x)))=true:=ER _ _ (by rw [Bd.put_len,BT];exact Nat.le_refl _);generalize bdH (Bd.put ⟨l,fs,o⟩ (.lf a x))=H1 at *;have X:=Fh he G3;have hO:=FD 65 [.ptr 0 0,.agg (ndC (.lf a x))] (bdH ⟨l,fs,o⟩++[some (.box x.c),some (.box (ndC (.lf a x)))]) (.tup []) H3 Bu;generalize orP 65 [.ptr 0 0,.agg (ndC (.lf a x))] (bdH ⟨l,fs,o⟩++[some (.box x.c),some (.box (ndC (.lf a x)))]) (.tup []) H3 Bu=O at X hO;clear he qH qq;have oT:(bdH ⟨l,fs,o⟩).length=2+3*fs.length:=BT _;have c0:AH.at (bdH ⟨l,fs,o⟩) 0=some (.box (Bd.c ⟨l,fs,o⟩)):=rfl;refine CS.of_Tr (c:=Au Tryz.f31) (H0:=bdH ⟨l,fs,o⟩) (H1:=H1) Tryz.func31 (by kernel_rfl) 0 (by simp [Tryz.f31]) (fun B hB hG => ?_) rfl oV;generalize bdH ⟨l,fs,o⟩=H at *;have oU:0<H.length:=by omega
 simp only [Bd.c] at c0;simp only [Sx.c,lfC,Bd.c,List.cons_append,List.nil_append] at hO;have k0:=fun B=>(HV H B oU).trans c0
 have j0:=fun B e=>GP H B e oU
 have s0:=fun B e=>HW H B e oU
 have s1:=fun B e e'=>HX H B e e' oU
 refine Tr.goW X hG ?_;subst ho;subst hf;simp only [Je,List.length_nil] at c0 k0;simp only [h1] at hO;simp [-AH.at,Tryz.f31,c0,k0,j0,s0,s1,D1,D2,Ft,Fu,Fv,Fx,GN,GO,Sx.c,hO,oo,h1]
theorem jd (l:List Nd) (fs:List Fr) (o:Bool) (x:Sx) (a:Int) (h6:x.kind=6) (hf:fs=[]) (hd:fs.length≤8) :
  CS zP A7 31 [.ptr 0 0,.agg x.c,.int .i64 a] (bdH ⟨l,fs,o⟩) (CP 12) (bdH ⟨l,fs,true⟩):=by
 have oV:AU (bdH ⟨l,fs,o⟩).length (bdH ⟨l,fs,true⟩)=true:=ER _ _ (by rw [BT];exact Nat.le_refl _);have hO:bdH ⟨l,fs,true⟩=(bdH ⟨l,fs,o⟩).set 0 (some (.box (Bd.c ⟨l,fs,true⟩))):=rfl;have X:CxW Bu zP A7 []:=G3;have oT:(bdH ⟨l,fs,o⟩).length=2+3*fs.length:=BT _;have c0:AH.at (bdH ⟨l,fs,o⟩) 0=some (.box (Bd.c ⟨l,fs,o⟩)):=rfl;refine CS.of_Tr (c:=Au Tryz.f31) (H0:=bdH ⟨l,fs,o⟩) (H1:=bdH ⟨l,fs,true⟩) Tryz.func31 (by kernel_rfl) 0 (by simp [Tryz.f31]) (fun B hB hG => ?_) rfl oV;rw [hO];have oo:∀(H:AH) e B,(H.set 0 e++B).take H.length=H.set 0 e:=fun H e B=>List.take_left' (by rw [List.length_set])
 have rb:∀(H B:AH),(H++B).take H.length=H:=fun H B=>List.take_left' rfl
 generalize bdH ⟨l,fs,o⟩=H at *;have oU:0<H.length:=by omega
 simp only [Bd.c] at c0;simp only [Sx.c,lfC,Bd.c,List.cons_append,List.nil_append] at hO;have k0:=fun B=>(HV H B oU).trans c0
 have j0:=fun B e=>GP H B e oU
 have s0:=fun B e=>HW H B e oU
 have s1:=fun B e e'=>HX H B e e' oU
 refine Tr.goW X hG ?_;subst hf;simp only [Je,List.length_nil] at c0 k0;simp [-AH.at,Tryz.f31,c0,k0,j0,s0,s1,D1,D2,Ft,Fu,Fv,Fx,GN,GO,Sx.c,hO,oo,rb,CP,h6];rfl
theorem je (l:List Nd) (fs:List Fr) (o:Bool) (x:Sx) (a:Int) (h6:x.kind=6) (hf:∃f r,fs=f::r∧(f.st.kind≠5∨0≤f.mid)) (hd:fs.length≤8) :
  CS zP A7 31 [.ptr 0 0,.agg x.c,.int .i64 a] (bdH ⟨l,fs,o⟩) (CP 12) (bdH ⟨l,fs,true⟩):=by
 have oV:AU (bdH ⟨l,fs,o⟩).length (bdH ⟨l,fs,true⟩)=true:=ER _ _ (by rw [BT];exact Nat.le_refl _);have hO:bdH ⟨l,fs,true⟩=(bdH ⟨l,fs,o⟩).set 0 (some (.box (Bd.c ⟨l,fs,true⟩))):=rfl;have X:CxW Bu zP A7 []:=G3;have oT:(bdH ⟨l,fs,o⟩).length=2+3*fs.length:=BT _;have c0:AH.at (bdH ⟨l,fs,o⟩) 0=some (.box (Bd.c ⟨l,fs,o⟩)):=rfl;have hf':=hf;obtain ⟨f,r,rfl,hf⟩:=hf;have cF:=Hz l f r o [];rw [List.append_nil] at cF;simp only [Fr.c,Fr.pre,Sx.c,List.cons_append,List.nil_append] at cF;refine CS.of_Tr (c:=Au Tryz.f31) (H0:=bdH ⟨l,f::r,o⟩) (H1:=bdH ⟨l,f::r,true⟩) Tryz.func31 (by kernel_rfl) 0 (by simp [Tryz.f31]) (fun B hB hG => ?_) rfl oV;rw [hO];have oo:∀(H:AH) e B,(H.set 0 e++B).take H.length=H.set 0 e:=fun H e B=>List.take_left' (by rw [List.length_set])
 have rb:∀(H B:AH),(H++B).take H.length=H:=fun H B=>List.take_left' rfl
 generalize bdH ⟨l,f::r,o⟩=H at *;have oU:0<H.length:=by omega
 simp only [Bd.c] at c0;simp only [Sx.c,lfC,Bd.c,List.cons_append,List.nil_append] at hO;have k0:=fun B=>(HV H B oU).trans c0
 have j0:=fun B e=>GP H B e oU
 have s0:=fun B e=>HW H B e oU
 have s1:=fun B e e'=>HX H B e e' oU
 refine Tr.goW X hG ?_;simp only [Jd,List.length_cons] at c0 k0;simp only [List.length_cons] at oT hd;have ra:2+3*r.length<H.length:=by omega
 have uV:2+3*r.length≠0:=by omega
 have kF:=fun B=>(Gy (A:=H) (B:=B) ra).trans cF
 have jF:=fun B e=>(LZ (H:=H) B e ra uV).trans cF
 by_cases hk:f.st.kind=5
 ·have pg:0≤f.mid:=by rcases hf with h|h;exact absurd hk h;exact h
  simp [-AH.at,Tryz.f31,c0,k0,j0,s0,s1,D1,D2,Ft,Fu,Fv,Fx,GN,GO,Sx.c,hO,oo,rb,CP,h6,cF,kF,jF,hk,pg];rfl
 ·simp [-AH.at,Tryz.f31,c0,k0,j0,s0,s1,D1,D2,Ft,Fu,Fv,Fx,GN,GO,Sx.c,hO,oo,rb,CP,h6,cF,kF,jF,hk]
  rfl
theorem jf (l:List Nd) (fs:List Fr) (o:Bool) (x:Sx) (a:Int) (h3:x.kind=3∨x.kind=5) (hf:fs.length=8) (hd:fs.length≤8) :
  CS zP A7 31 [.ptr 0 0,.agg x.c,.int .i64 a] (bdH ⟨l,fs,o⟩) (CP 4) (bdH ⟨l,fs,true⟩):=by
 have oV:AU (bdH ⟨l,fs,o⟩).length (bdH ⟨l,fs,true⟩)=true:=ER _ _ (by rw [BT];exact Nat.le_refl _);have hO:bdH ⟨l,fs,true⟩=(bdH ⟨l,fs,o⟩).set 0 (some (.box (Bd.c ⟨l,fs,true⟩))):=rfl;have X:CxW Bu zP A7 []:=G3;have oT:(bdH ⟨l,fs,o⟩).length=2+3*fs.length:=BT _;have c0:AH.at (bdH ⟨l,fs,o⟩) 0=some (.box (Bd.c ⟨l,fs,o⟩)):=rfl;refine CS.of_Tr (c:=Au Tryz.f31) (H0:=bdH ⟨l,fs,o⟩) (H1:=bdH ⟨l,fs,true⟩) Tryz.func31 (by kernel_rfl) 0 (by simp [Tryz.f31]) (fun B hB hG => ?_) rfl oV;rw [hO];have oo:∀(H:AH) e B,(H.set 0 e++B).take H.length=H.set 0 e:=fun H e B=>List.take_left' (by rw [List.length_set])
 have rb:∀(H B:AH),(H++B).take H.length=H:=fun H B=>List.take_left' rfl
 generalize bdH ⟨l,fs,o⟩=H at *;have oU:0<H.length:=by omega
 simp only [Bd.c] at c0;simp only [Sx.c,lfC,Bd.c,List.cons_append,List.nil_append] at hO;have k0:=fun B=>(HV H B oU).trans c0
 have j0:=fun B e=>GP H B e oU
 have s0:=fun B e=>HW H B e oU
 have s1:=fun B e e'=>HX H B e e' oU
 refine Tr.goW X hG ?_;have uw:(fs.length:Int)=8:=by omega
 have e8:Bd.c ⟨l,fs,true⟩=[ndE.tk 1 l,upC fs.length,.int .i64 8,.bool true]:=by simp only [Bd.c,uw]
 rw [e8];rcases h3 with h3|h3
 all_goals
  simp [-AH.at,Tryz.f31,c0,k0,j0,s0,s1,D1,D2,Ft,Fu,Fv,Fx,GN,GO,Sx.c,hO,oo,rb,CP,h3,uw]
theorem jg (l:List Nd) (fs:List Fr) (o:Bool) (x:Sx) (a:Int) (h1:x.kind=1) (hf:o=true∨fs≠[]) (hd:fs.length≤8) :
  CS zP A7 31 [.ptr 0 0,.agg x.c,.int .i64 a] (bdH ⟨l,fs,o⟩) (CP 2) (bdH ⟨l,fs,o⟩):=by
 have oV:AU (bdH ⟨l,fs,o⟩).length (bdH ⟨l,fs,o⟩)=true:=ER _ _ (by rw [BT];exact Nat.le_refl _);have hO:bdH ⟨l,fs,o⟩=bdH ⟨l,fs,o⟩:=rfl;have X:CxW Bu zP A7 []:=G3;have oT:(bdH ⟨l,fs,o⟩).length=2+3*fs.length:=BT _;have c0:AH.at (bdH ⟨l,fs,o⟩) 0=some (.box (Bd.c ⟨l,fs,o⟩)):=rfl;refine CS.of_Tr (c:=Au Tryz.f31) (H0:=bdH ⟨l,fs,o⟩) (H1:=bdH ⟨l,fs,o⟩) Tryz.func31 (by kernel_rfl) 0 (by simp [Tryz.f31]) (fun B hB hG => ?_) rfl oV;rw [hO];have oo:∀(H:AH) e B,(H.set 0 e++B).take H.length=H.set 0 e:=fun H e B=>List.take_left' (by rw [List.length_set])
 have rb:∀(H B:AH),(H++B).take H.length=H:=fun H B=>List.take_left' rfl
 generalize bdH ⟨l,fs,o⟩=H at *;have oU:0<H.length:=by omega
 simp only [Bd.c] at c0;simp only [Sx.c,lfC,Bd.c,List.cons_append,List.nil_append] at hO;have k0:=fun B=>(HV H B oU).trans c0
 have j0:=fun B e=>GP H B e oU
 have s0:=fun B e=>HW H B e oU
 have s1:=fun B e e'=>HX H B e e' oU
 refine Tr.goW X hG ?_;cases o with
 |true=>simp [-AH.at,Tryz.f31,c0,k0,j0,s0,s1,D1,D2,Ft,Fu,Fv,Fx,GN,GO,Sx.c,hO,oo,rb,CP,h1]
 |false =>
  obtain ⟨d,ob⟩:∃d,fs.length=d+1:=by
   cases fs with
   |nil=>simp at hf
   |cons f r=>exact ⟨r.length,rfl⟩
  simp only [ob,Jd] at c0 k0;simp [-AH.at,Tryz.f31,c0,k0,j0,s0,s1,D1,D2,Ft,Fu,Fv,Fx,GN,GO,Sx.c,hO,oo,rb,CP,h1]
theorem jh (l:List Nd) (f:Fr) (r:List Fr) (o:Bool) (x:Sx) (a:Int) (h6:x.kind=6) (hk:f.st.kind=5) (pg:f.mid<0) (hd:r.length<8) :
  CS zP A7 31 [.ptr 0 0,.agg x.c,.int .i64 a] (bdH ⟨l,f::r,o⟩) .nilIface (bdH ⟨l,{f with mid:=a}::r,true⟩):=by
 have oV:AU (bdH ⟨l,f::r,o⟩).length (bdH ⟨l,{f with mid:=a}::r,true⟩)=true:=ER _ _ (by rw [BT];exact Nat.le_refl _)
 have qF:((bdH ⟨l,f::r,o⟩).set 0 (some (.box (Bd.c ⟨l,f::r,true⟩)))).set (2+3*r.length) (some (.box (Fr.c r.length {f with mid:=a})))=bdH ⟨l,{f with mid:=a}::r,true⟩:=by
  rw [QO];have h1:bdH ⟨l,f::r,true⟩=(some (.box (Bd.c ⟨l,f::r,true⟩))::AO l::frH r)++f.h r.length:=by simp [bdH,frH]
  rw [h1,List.set_append_right _ _ (by simp [Ik];omega)];have h2:(2+3*r.length)-(some (Ent.box (Bd.c ⟨l,f::r,true⟩))::AO l::frH r).length=0:=by simp [Ik];omega
  rw [h2];simp [bdH,frH,Fr.h];rfl
 obtain ⟨H1,hO⟩:∃H1,H1=bdH ⟨l,{f with mid:=a}::r,true⟩:=⟨_,rfl⟩
 rw [←hO] at qF oV ⊢;have X:CxW Bu zP A7 []:=G3;have oT:(bdH ⟨l,f::r,o⟩).length=2+3*(f::r).length:=BT _;have c0:AH.at (bdH ⟨l,f::r,o⟩) 0=some (.box (Bd.c ⟨l,f::r,o⟩)):=rfl;have cF:=Hz l f r o [];rw [List.append_nil] at cF;simp only [Fr.c,Fr.pre,Sx.c,List.cons_append,List.nil_append] at cF qF;refine CS.of_Tr (c:=Au Tryz.f31) (H0:=bdH ⟨l,f::r,o⟩) (H1:=H1) Tryz.func31 (by kernel_rfl) 0 (by simp [Tryz.f31]) (fun B hB hG => ?_) rfl oV;clear hO oV;generalize bdH ⟨l,f::r,o⟩=H at *;have oU:0<H.length:=by omega
 simp only [Bd.c,Jd,List.length_cons] at c0 qF;have k0:=fun B=>(HV H B oU).trans c0
 have j0:=fun B e=>GP H B e oU
 have s0:=fun B e=>HW H B e oU
 have s1:=fun B e e'=>HX H B e e' oU
 simp only [List.length_cons] at oT;have ra:2+3*r.length<H.length:=by omega
 have uV:2+3*r.length≠0:=by omega
 have kF:=fun B=>(Gy (A:=H) (B:=B) ra).trans cF
 have jF:=fun B e=>(LZ (H:=H) B e ra uV).trans cF
 have sF:∀B e e',(H.set 0 e++B).set (2+3*r.length) e'=(H.set 0 e).set (2+3*r.length) e'++B:=fun B e e'=>List.set_append_left _ _ (by rw [List.length_set];exact ra)
 have tF:∀B e e',((H.set 0 e).set (2+3*r.length) e'++B).take H.length=(H.set 0 e).set (2+3*r.length) e':=fun B e e'=>List.take_left' (by rw [List.length_set,List.length_set])
 have hm0:¬0≤f.mid:=by omega
 have ec:(((r.length+1:Nat):Int))=(r.length:Int)+1:=rfl;have pN:H1.length=H.length:=by rw [←qF];simp
 have tH:∀B,(H1++B).take H.length=H1:=fun B=>List.take_left' pN
 simp only [hk,ec] at qF cF kF jF;refine Tr.goW X hG ?_;simp [-AH.at,Tryz.f31,c0,k0,j0,s0,s1,kF,jF,sF,tF,cF,D1,D2,Ft,Fu,Fv,Fx,GN,GO,Sx.c,h6,hk,pg,hm0,qF,tH]
theorem ji (l:List Nd) (fs:List Fr) (o:Bool) (x:Sx) (a:Int) (h3:x.kind=3∨x.kind=5) (hd:fs.length<8) :
  CS zP A7 31 [.ptr 0 0,.agg x.c,.int .i64 a] (bdH ⟨l,fs,o⟩) .nilIface (bdH ⟨l,⟨a,a,x,[],[],-1⟩::fs,true⟩):=by
 have oV:AU ((bdH ⟨l,fs,o⟩).length+3) (bdH ⟨l,⟨a,a,x,[],[],-1⟩::fs,true⟩)=true:=ER _ _ (by rw [BT];simp only [List.length_cons];omega);have oT:(bdH ⟨l,fs,o⟩).length=2+3*fs.length:=BT _;obtain ⟨N,hN⟩:∃N,(bdH ⟨l,fs,o⟩).length=N:=⟨_,rfl⟩
 have c0:AH.at (bdH ⟨l,fs,o⟩) 0=some (.box (Bd.c ⟨l,fs,o⟩)):=rfl;have yK:bdH ⟨l,⟨a,a,x,[],[],-1⟩::fs,true⟩=(bdH ⟨l,fs,o⟩).set 0 (some (.box (Bd.c ⟨l,⟨a,a,x,[],[],-1⟩::fs,true⟩)))++[some (.box (Fr.c fs.length ⟨a,a,x,[],[],-1⟩)),none,none]:=by simp [bdH,frH,Fr.h]
 have hX:Cx Bu zP A7:=DK;have X:CxW Bu zP A7 []:=G3;refine CS.of_TrN (c:=Au Tryz.f31) (H0:=bdH ⟨l,fs,o⟩) (H1:=bdH ⟨l,⟨a,a,x,[],[],-1⟩::fs,true⟩) ((bdH ⟨l,fs,o⟩).length+3) (by omega) Tryz.func31 (by kernel_rfl) 0 (by simp [Tryz.f31]) (fun B hB hG => ?_) rfl oV;refine Tr.post ?_;rw [yK] at oV ⊢;simp only [Bd.c,Fr.c,Fr.pre,Sx.c,List.length_cons,List.cons_append,List.nil_append,Jd,Enc.tk_nil] at c0 oV ⊢;have hHl:AU (bdH ⟨l,fs,o⟩).length (bdH ⟨l,fs,o⟩)=true:=ER _ _ (by rw [BT];exact Nat.le_refl _);generalize bdH ⟨l,fs,o⟩=H at *;have oU:0<H.length:=by omega
 have k0:=fun B=>(HV H B oU).trans c0
 have j0:=fun B e=>GP H B e oU
 have s0:=fun B e=>HW H B e oU
 have s1:=fun B e e'=>HX H B e e' oU
 have q8:=QN (d:=fs.length) (n:=H.length) (by omega);have ec:(((fs.length+1:Nat):Int))=(fs.length:Int)+1:=rfl;have uw:¬(fs.length:Int)=8:=by omega
 have w1:IntKind.i64.wrap ((fs.length:Int)+1)=(fs.length:Int)+1:=Ab (by omega) (by omega);refine Tr.goW X hG ?_;rcases h3 with h3|h3
 all_goals
  simp [-AH.at,Tryz.f31,c0,k0,j0,s0,s1,D1,D2,Ft,Fu,Fv,Fx,GN,GO,Sx.c,h3,uw,w1];refine LpD.turnsW hX hG [7,10] [(0,7)] ?_;simp [-AH.at,c0,k0,j0,s0,s1,D1,D2,Ft,Fu,Fv,Fx,GN,GO];refine ⟨mkT 112 [(6,.nilIface)],_,?_,by simp,List.take_of_length_le (by simp)⟩;exact jZ hB oT.symm (by omega) hHl (by simp) l _ _ (by simp [q8]) _ _
theorem jj (s:Bd) (x:Sx) (a:Int) {m:Nat} (hs:s.ok m) (hm:m<137438953472) (hd:s.fs.length≤8) :
  ∃X:AH,CS zP A7 31 [.ptr 0 0,.agg x.c,.int .i64 a] (bdH s) (CP (s.add x a).2) (bdH (s.add x a).1++X)∧(bdH s).length≤(bdH (s.add x a).1++X).length∧AU (bdH (s.add x a).1++X).length (bdH (s.add x a).1++X)=true:=by
 have nil:∀{s':Bd} {c:Nat},s.add x a=(s',c)→(bdH s).length≤(bdH s').length→CS zP A7 31 [.ptr 0 0,.agg x.c,.int .i64 a] (bdH s) (CP c) (bdH s') →
   ∃X:AH,CS zP A7 31 [.ptr 0 0,.agg x.c,.int .i64 a] (bdH s) (CP (s.add x a).2) (bdH (s.add x a).1++X)∧(bdH s).length≤(bdH (s.add x a).1++X).length∧AU (bdH (s.add x a).1++X).length (bdH (s.add x a).1++X)=true:=by
  intro s' c he hl h;refine ⟨[],?_⟩;rw [he,List.append_nil];exact ⟨h,hl,ER _ _ (by rw [BT];exact Nat.le_refl _)⟩
 obtain ⟨l,fs,o⟩:=s
 have fin:∀k:Int,(x.kind=4∧k=3∨x.kind=7∧k=5)→Bd.add ⟨l,fs,o⟩ x a=Bd.fin ⟨l,fs,true⟩ k a →
   ∃X:AH,CS zP A7 31 [.ptr 0 0,.agg x.c,.int .i64 a] (bdH ⟨l,fs,o⟩) (CP (Bd.add ⟨l,fs,o⟩ x a).2) (bdH (Bd.add ⟨l,fs,o⟩ x a).1++X)∧(bdH ⟨l,fs,o⟩).length≤(bdH (Bd.add ⟨l,fs,o⟩ x a).1++X).length∧AU (bdH (Bd.add ⟨l,fs,o⟩ x a).1++X).length (bdH (Bd.add ⟨l,fs,o⟩ x a).1++X)=true:=by
  intro k hk he;refine ⟨FR ⟨l,fs,true⟩ k,?_⟩;rw [he];have h1:=fin_len ⟨l,fs,true⟩ k a;refine ⟨ja l fs o x a k hk hs hm hd,by rw [h1,BT,BT];exact Nat.le_refl _,?_⟩;rw [h1,In,ER _ _ (by have:=Bd.fin_len ⟨l,fs,true⟩ k a;rw [BT];simp only at this ⊢;omega)];cases fs with
  |nil=>rfl
  |cons f r =>
   simp only [FR]
   split
   ·rw [NL _ _ _ (by rw [BT];simp only [List.length_cons];omega)];rfl
   ·rfl
 have mk1:x.kind≠1→Bd.mark ⟨l,fs,o⟩ x=⟨l,fs,true⟩:=fun h=>by unfold Bd.mark;rw [if_neg h]
 have mk0:x.kind=1→Bd.mark ⟨l,fs,o⟩ x=⟨l,fs,o⟩:=fun h=>by unfold Bd.mark;rw [if_pos h]
 by_cases h4:x.kind=4
 ·exact fin 3 (.inl ⟨h4,rfl⟩) (by simp [Bd.add,h4,mk1 (by omega)])
 by_cases h7:x.kind=7
 ·exact fin 5 (.inr ⟨h7,rfl⟩) (by simp [Bd.add,h7,mk1 (by omega)])
 by_cases h6:x.kind=6
 ·cases fs with
  |nil=>exact nil (s':=⟨l,[],true⟩) (c:=12) (by simp [Bd.add,h6,mk1 (by omega)]) (by rw [BT,BT];exact Nat.le_refl _) (jd l [] o x a h6 rfl hd)
  |cons f r =>
   by_cases hc:f.st.kind=5∧f.mid<0
   ·exact nil (s':=⟨l,{f with mid:=a}::r,true⟩) (c:=0) (by simp [Bd.add,h6,mk1 (by omega),hc]) (by rw [BT,BT];exact Nat.le_refl _) (jh l f r o x a h6 hc.1 hc.2 (by simp only [List.length_cons] at hd;omega))
   ·exact nil (s':=⟨l,f::r,true⟩) (c:=12) (by simp [Bd.add,h6,mk1 (by omega)];intro h1;have:¬f.mid<0:=fun h2=>hc ⟨h1,h2⟩;omega) (by rw [BT,BT];exact Nat.le_refl _)
     (je l (f::r) o x a h6 ⟨f,r,rfl,by
      by_cases h5:f.st.kind=5
      ·exact .inr (by have:¬f.mid<0:=fun hm=>hc ⟨h5,hm⟩;omega)
      ·exact .inl h5⟩ hd)
 by_cases h3:x.kind=3∨x.kind=5
 ·have qV:=mk1 (by rcases h3 with h|h<;>rw [h]<;>decide)
  by_cases h8:fs.length=8
  ·exact nil (s':=⟨l,fs,true⟩) (c:=4) (by simp [Bd.add,h4,h7,h6,h3,qV,h8]) (by rw [BT,BT];exact Nat.le_refl _) (jf l fs o x a h3 h8 hd)
  ·exact nil (s':=⟨l,⟨a,a,x,[],[],-1⟩::fs,true⟩) (c:=0) (by simp [Bd.add,h4,h7,h6,h3,qV,h8]) (by rw [BT,BT];simp only [List.length_cons];omega) (ji l fs o x a h3 (by simp only at hd;omega))
 by_cases h1:x.kind=1
 ·by_cases hl:o=true∨fs≠[]
  ·exact nil (s':=⟨l,fs,o⟩) (c:=2) (by simp [Bd.add,h1,mk0 h1];intro h2 h3;simp [h2,h3] at hl) (Nat.le_refl _) (jg l fs o x a h1 hl hd)
  ·have ho:o=false:=by cases o;rfl;simp at hl
   have hf:fs=[]:=by cases fs;rfl;simp at hl
   subst ho;subst hf;exact nil (s':=Bd.put ⟨l,[],false⟩ (.lf a x)) (c:=0) (by simp [Bd.add,h1,mk0 h1]) (by rw [BT,BT,Bd.put_len];exact Nat.le_refl _) (jc l [] false x a h1 rfl rfl hs hm hd)
 ·exact nil (s':=Bd.put ⟨l,fs,true⟩ (.lf a x)) (c:=0) (by simp [Bd.add,h4,h7,h6,h3,h1,mk1 h1]) (by rw [BT,BT,Bd.put_len];exact Nat.le_refl _) (jb l fs o x a h1 (fun h=>h3 (.inl h)) h4 (fun h=>h3 (.inr h)) h6 h7 hs hm hd)
def psB (N:Nat) (i:Nat):Nat:=if i<N then i else i+1
def Io (N:Nat) (e:Option Ent) (H:AH):AH:=(H.take N).map (Option.map (AI (psB N)))++e::(H.drop N).map (Option.map (AI (psB N)))
theorem U0 (N:Nat) (i j:Nat) (h:psB N i=psB N j):i=j:=by unfold psB at h;split at h<;>split at h<;>omega
theorem jk {H:AH} {n i:Nat}:AH.at (List.drop n H) i=H.at (n+i):=by unfold AH.at;rw [List.getElem?_drop]
theorem U1 (N:Nat) (e:Option Ent) (H:AH) (h:N≤H.length) (i:Nat):AH.at (Io N e H) (psB N i)=(H.at i).map (AI (psB N)):=by
 have hn:Option.map (AI (psB N)) none=none:=rfl;have hl:((H.take N).map (Option.map (AI (psB N)))).length=N:=by simp [h]
 unfold Io
 by_cases hi:i<N
 ·have:psB N i=i:=if_pos hi
  rw [this,Gy (by rw [hl];exact hi),Oh hn,Ga,if_pos hi]
 ·have:psB N i=i+1:=if_neg hi
  rw [this,FO (by rw [hl];omega),hl,show i+1-N=(i-N)+1 by omega];have:∀(B:AH) (x:Option Ent) (j:Nat),AH.at (x::B) (j+1)=B.at j:=fun B x j=>rfl
  rw [this,Oh hn,jk,show N+(i-N)=i by omega]
theorem jl (N:Nat) (e:Option Ent) (H:AH) (h:N≤H.length):AH.at (Io N e H) N=e:=by
 have hl:((H.take N).map (Option.map (AI (psB N)))).length=N:=by simp [h]
 unfold Io;rw [FO (by rw [hl];exact Nat.le_refl _),hl,Nat.sub_self];rfl
theorem CS.behind1 {f:FuncId} {args:List AV} {v:AV} {H0 H0':AH} (e:Option Ent) (h:CS zP A7 f args H0 v H0') (oO:H0.length≤H0'.length) (ha:lowL H0.length args=true) (hv:low 0 v=true) (hl:AU H0.length H0=true) (hl':AU H0'.length H0'=true) :
  CS zP A7 f args (H0++[e]) v (Io H0.length e H0'):=by
 have q9:∀i,i<H0.length→psB H0.length i=i:=fun i hi=>if_pos hi
 have:=CS.grow (k:=H0.length) (n:=H0'.length) (psB H0.length) (H:=H0++[e]) (H':=Io H0.length e H0') h rfl rfl oO (fun i j _ _ h=>U0 _ i j h) HS ha (CA (Nat.zero_le _) v hv) hl hl' (by
  intro i hi
  rw [q9 i hi,Gy hi,Et q9 (by
   cases he:H0.at i with
   |none=>rfl
   |some x=>exact Hk hl he)]) (by
  intro i h1 h2;have:psB H0.length i=i+1:=if_neg (by omega);rw [this]
  exact C7 (by simp;omega)) (fun i _=>U1 _ e _ oO i) (by
  intro j hj
  by_cases hjN:j=H0.length
  ·subst hjN
   rw [jl _ e _ oO,FO (Nat.le_refl _),Nat.sub_self];rfl
  ·have h1:H0'.length<j:=by
    rcases Nat.lt_or_ge H0'.length j with h|h
    ·exact h
    ·exfalso
     rcases Nat.lt_or_ge j H0.length with h2|h2
     ·exact hj j (by omega) (q9 j h2)
     ·refine hj (j-1) (by omega) ?_
      have:psB H0.length (j-1)=(j-1)+1:=if_neg (by omega);rw [this];omega
   rw [C7 (by simp [Io];omega),C7 (by simp;omega)])
 rwa [Ea q9 _ ha,DE _ _ hv] at this
noncomputable def Ei (F:AF zP AJ):AF zP A7 where
 f:=F.f
 α:=F.α
 ok:=F.ok
 args:=F.args
 out:=F.out
 up:=F.up
 cs:=fun x H h=>⟨CS.toS (F.cs x H h).1,(F.cs x H h).2⟩
 same:=F.same
theorem jm (p:Int) (l:List (List UInt8 × Int)) (c:Int) (H:AH):CS zP AJ 32 [.int .i64 p,Ac l c] H (Ac ((Ce,p)::l) c) H:=by refine CS.tr0 Bh Tryz.func32 (by kernel_rfl) 0 (by simp [Tryz.f32]) (fun B hB hG => ?_) (by simp) (by simp) H;refine Tr.goD GI hG ?_;simp [Tryz.f32,Ac,Ce]
noncomputable def NM:AF zP AJ:=AF.pure 32 (fun _:Int × List (List UInt8 × Int) × Int=>True) (fun x=>[.int .i64 x.1,Ac x.2.1 x.2.2]) (fun x=>Ac ((Ce,x.1)::x.2.1) x.2.2)
 (fun x _ H=>jm x.1 x.2.1 x.2.2 H) (fun x y _ _ h=>by
  obtain ⟨a,b,c⟩:=x;obtain ⟨a',b',c'⟩:=y;simp only [List.cons.injEq,AV.int.injEq,true_and,and_true] at h;obtain ⟨h1,h2⟩:=ND h.2;simp only
  rw [h.1,h1,h2])
noncomputable def NN:AF zP AJ:=AF.pure 30 (fun s:List UInt8=>s.length<1000000) (fun s=>[.str s]) (fun s=>G2 (KH (CC s))) (fun s h H=>jU s h H) (fun x y _ _ h=>by
 simp only [List.cons.injEq,AV.str.injEq,and_true] at h
 rw [h])
theorem jn {c:Nat} (h:c≠0):CP c=Ac [] (c:Int):=if_neg h
set_option maxHeartbeats 1000000
def Bt (ts:List Wd) (r:Sr) (k:Nat) (s:List UInt8):Sr:=(if isW ts r k s then r else r.fail r.at_ 2).step
def CJ (ts:List Wd) (r:Sr):List UInt8 × Sr:=if isW ts r 1 [] then (((ts[r.at_]?).getD wd0).text,r.step) else ([],r.fail r.at_ 2)
def Ci (ts:List Wd) (r:Sr):Nat × Sr:=if isW ts r 2 [] then (((ts[r.at_]?).getD wd0).n,r.step) else (0,r.fail r.at_ 2)
def Cv (r:Sr) (n:Nat) (w:Option (Nat × Nat)):Sr:=match r.err with
 |some _=>r
 |none=>(match w with
  |some (p,c)=>⟨r.at_,some ([(Bl,r.at_+p),(Hr,p)],c)⟩
  |none=>⟨r.at_+n,none⟩)
def CD (ts:List Wd) (r:Sr):Ex × Sr:=match r.err with
 |some _=>(.none,r)
 |none=>((B0 (ts.drop r.at_)).1,Cv r (B0 (ts.drop r.at_)).2.1 (B0 (ts.drop r.at_)).2.2)
def CV (ts:List Wd) (r:Sr):Ex × Sr :=
 if isW ts r 1 [] then
  (if isK ts (r.at_+1) 3 Av then
   (.elem ((ts[r.at_]?).getD wd0).text (C9 (ts.drop r.at_) (Bv (ts.drop r.at_)) ⟨2,0,none⟩).1,Cv r (C9 (ts.drop r.at_) (Bv (ts.drop r.at_)) ⟨2,0,none⟩).2.at_ (C9 (ts.drop r.at_) (Bv (ts.drop r.at_)) ⟨2,0,none⟩).2.err)
  else (.var ((ts[r.at_]?).getD wd0).text,r.step))
 else (.none,r.fail r.at_ 2)
def ES (ts:List Wd):Nat→List Int→Sr→List Int × Sr
 |0,d,r=>(d,r)
 |n+1,d,r =>
  let r1:=if 4≤d.length then r.fail (r.at_-1) 4 else r
  let m:=Ci ts r1
  let r2:=if m.2.err=none∧m.1=0 then m.2.fail r1.at_ 1 else m.2
  if isW ts r2 3 A4 then ES ts n (d++[(m.1:Int)]) r2.step else (d++[(m.1:Int)],r2)
def CT (ts:List Wd) (r:Sr):It × Sr :=
 let m:=CJ ts r
 if isW ts m.2 3 Av then (⟨m.1,(ES ts 6 [] m.2.step).1⟩,Bt ts (ES ts 6 [] m.2.step).2 3 Aw) else (⟨m.1,[]⟩,m.2)
def Fy (ts:List Wd):Nat→List It→Sr→List It × Sr
 |0,l,r=>(l,r)
 |n+1,l,r=>if isW ts (CT ts r).2 3 A4 then Fy ts n (l++[(CT ts r).1]) (CT ts r).2.step else (l++[(CT ts r).1],(CT ts r).2)
def GQ (ts:List Wd) (r:Sr):List It × Sr:=Fy ts (ts.length+1) [] r
def La (ts:List Wd) (r:Sr):Int × Sr :=
 if isW ts r 3 A4 then
  ((if isW ts r.step 3 Bb then MV (Ci ts (CG ts r.step 3 Bb)).1 else ((Ci ts (CG ts r.step 3 Bb)).1:Int)),(Ci ts (CG ts r.step 3 Bb)).2)
 else (1,r)
def FS (ts:List Wd) (r:Sr):Sm × Sr :=
 let m:=CJ ts r
 let a:=CD ts (Bt ts m.2 3 isT)
 let b:=CD ts (Bt ts a.2 3 A4)
 let s:=La ts b.2
 ({kind:=3,name:=m.1,lo:=a.1,hi:=b.1,step:=s.1},s.2)
def Ip (ts:List Wd) (r:Sr):(List UInt8 × Ex × Ex) × Sr:=match r.err with
 |some _=>(([],.none,.none),r)
 |none=>((CR (ts.drop r.at_)).1,Cv r (CR (ts.drop r.at_)).2.1 (CR (ts.drop r.at_)).2.2)
def QP (ts:List Wd) (r:Sr):Sm × Sr :=
 let c:=Ip ts (Bt ts r 3 Av)
 ({kind:=5,op:=c.1.1,ca:=c.1.2.1,cb:=c.1.2.2},Bt ts (Bt ts c.2 3 Aw) 4 Gp)
def Cf (ts:List Wd) (word:List UInt8) (r:Sr):Sm × Sr :=
 if word=IW then ({kind:=1,items:=(GQ ts r).1},(GQ ts r).2)
 else if word=doT then FS ts r
 else if word=HJ then (if isW ts r 4 doT then ({kind:=4},r.step) else ({kind:=7},Bt ts r 4 ifT))
 else if word=ifT then QP ts r
 else if word=IX then ({kind:=6},r)
 else if word=IY then ({kind:=8,to:=(CV ts r).1},(CV ts r).2)
 else if word=IZ then ({kind:=9,e:=(CD ts r).1},(CD ts r).2)
 else ({},r.fail (r.at_-1) 2)
def QQ (ts:List Wd) (r:Sr):Sm × Sr :=
 let a:=CV ts r
 let b:=CD ts (Bt ts a.2 3 isT)
 ({kind:=2,to:=a.1,e:=b.1},b.2)
def ET (ts:List Wd) (w:Wd):Sm × Sr :=if w.kind=4 then Cf ts w.text ⟨1,none⟩ else if w.kind=1 then QQ ts ⟨0,none⟩ else ({},⟨0,some ([(Bl,0)],2)⟩)
def Lb (ts:List Wd):Sm × Er:=match ts with
 |[]=>({},none)
 |w::_ =>
  let x:=ET ts w
  let r:=if x.2.err=none∧x.2.at_<ts.length then x.2.fail x.2.at_ 2 else x.2
  match r.err with
  |some y=>({},some y)
  |none=>(x.1,none)
def E2 (body:List UInt8):Sm × Er:=match lex (body.length+1) body 0 false with
 |.error (p,e)=>({},some ([(Bl,0),(KG,p)],e))
 |.ok ts=>Lb ts
@[simp] theorem immFM:AJ.imm 163=false:=by decide
@[simp] theorem nw:AJ.imm 214=false:=by decide
@[simp] theorem immFW:AJ.imm 28=true:=by decide
@[simp] theorem ny:AJ.imm 78=true:=by decide
def erP:Er→AV
 |none => .nilSlice
 |some (l,_) => .slice (if l.length=1 then .full else .unk) 2 l.length (CI (Cn l))
def erC:Er→Int
 |none=>0
 |some (_,c)=>(c:Int)
theorem FT {e:Er} (h:AP e):(erC e=0)↔e=none:=by
 cases e with
 |none=>simp [erC]
 |some y =>obtain ⟨l,c⟩:=y;have:=(h l c rfl).2;simp [erC];omega
theorem HY {e:Er} (h:AP e):((erC e==0):Bool)=e.isNone:=by
 cases e with
 |none=>rfl
 |some y =>rw [Option.isNone_some,beq_eq_false_iff_ne];intro h0;have:=(FT h).1 h0;cases this
theorem Lc:∀l,lowL 0 (CI l)=true
 |[]=>rfl
 |(w,p)::l=>by simp [CI,Lc l]
@[simp ↓ high] theorem QR (e:Er):low 0 (erP e)=true:=by
 cases e with
 |none=>rfl
 |some x =>
  simp only [erP]
  split
  ·exact Lc _
  ·exact Lc _
@[simp ↓ high] theorem zAF (m:Nat) (e:Er):low m (erP e)=true:=CA (Nat.zero_le m) _ (QR e)
@[simp ↓ high] theorem zAG (e:Er):BN (erP e)=[]:=J2 _ (QR e)
@[simp ↓ high] theorem n4 (e:Er):(erP e).known=true:=by cases e<;>rfl
@[simp ↓ high] theorem n5 (e:Er):(erP e).one=true:=by cases e<;>rfl
@[simp ↓ high] theorem n6 (e:Er):An (erP e)=[erP e]:=by cases e<;>rfl
theorem U2:∀{a b:List (List UInt8 × Int)},CI a=CI b→a=b
 |[],[],_=>rfl
 |[],(w,p)::b,h=>by simp [CI] at h
 |(w,p)::a,[],h=>by simp [CI] at h
 |(w,p)::a,(w',p')::b,h=>by simp only [CI,List.cons.injEq,AV.str.injEq,AV.int.injEq,true_and] at h;rw [h.1,h.2.1,U2 h.2.2]
theorem NO {x y:Er} (h1:erP x=erP y) (h2:erC x=erC y):x=y:=by
 cases x with
 |none=>cases y with
  |none=>rfl
  |some y=>simp [erP] at h1
 |some x=>cases y with
  |none=>simp [erP] at h1
  |some y =>
   obtain ⟨l,c⟩:=x;obtain ⟨m,d⟩:=y;simp only [erP,AV.slice.injEq] at h1;simp only [erC] at h2;have e2:c=d:=by omega
   rw [Pu (U2 h1.2.2.2),e2]
def mkC (ts:List Wd) (a:Int) (e:Er):List AV:=[AE ts,.int .i64 a,erP e,.int .i64 (erC e)]
@[simp] theorem jo (ts:List Wd) (a:Int) (e:Er):mkC ts a e=[AE ts,.int .i64 a,erP e,.int .i64 (erC e)]:=AS rfl
theorem jp (ts:List Wd) (a:Int) (e:Er):lowL 0 (mkC ts a e)=true:=by simp
def Sr.mc (ts:List Wd) (r:Sr):List AV:=mkC ts r.at_ r.err
theorem Fz (ts:List Wd) (r s:Sr) (h:r.mc ts=s.mc ts):r=s:=by
 obtain ⟨a,x⟩:=r;obtain ⟨b,y⟩:=s;simp only [Sr.mc,jo,List.cons.injEq,AV.int.injEq,true_and,and_true] at h;have:=NO h.2.1 h.2.2;subst this;have:a=b:=by omega
 subst this;rfl
theorem Cw (ts:List Wd) (r:Sr):lowL 0 (r.mc ts)=true:=jp _ _ _
theorem U3:Cx JT zP AJ:=⟨AT.toF (AT.toX (AT.toN Mv)),B4,Ad⟩
theorem jq (ts:List Wd) (r:Sr) (he:AP r.err) (p c:Nat) {H:AH} {id:Nat} (hH:H.at id=some (.box (r.mc ts))) :
  CS zP AJ 55 [.ptr id 0,.int .i64 (p:Int),.int .i64 (c:Int)] H (.tup []) (H.set id (some (.box ((r.fail p c).mc ts)))):=by
 obtain ⟨a,e⟩:=r;refine CS.rd Bh Tryz.func55 (by kernel_rfl) 0 (by simp [Tryz.f55]) (fun B hB hG => ?_) (by simp) rfl (Cw _ _) (Cw _ _) hH;refine Tr.goD U3 hG ?_;cases e with
 |none=>simp [Tryz.f55,Sr.mc,Sr.fail,erC,erP,Mz,Bl,Cn,CI]
 |some y =>
  have h0:¬erC (some y)=0:=fun h=>by have:=(FT he).1 h;cases this
  simp [Tryz.f55,Sr.mc,Sr.fail,h0]
theorem js (ts:List Wd) (r:Sr) (he:AP r.err) (k:Nat) (s:List UInt8) (hs:s≠[]) {H:AH} {id:Nat} (hH:H.at id=some (.box (r.mc ts))) :
  CS zP AJ 83 [.ptr id 0,.int .i64 (k:Int),.str s] H (.bool (isW ts r k s)) (H.set id (some (.box (r.mc ts)))):=by
 obtain ⟨a,e⟩:=r;refine CS.rd Bh Tryz.func83 (by kernel_rfl) 0 (by simp [Tryz.f83]) (fun B hB hG => ?_) (by simp) rfl (Cw _ _) (Cw _ _) hH;refine Tr.goD GI hG ?_;simp [Tryz.f83,Sr.mc];refine LpD.turns GI hG [] [] ?_;cases e with
 |some y =>
  have h0:(erC (some y)==0)=false:=by rw [HY he];rfl
  simp [isW,h0]
 |none =>
  by_cases hl:a<ts.length
  ·have hl':(a:Int)<ts.length:=by omega
   obtain ⟨w,hw⟩:∃w,ts[a]? = some w:=⟨_,List.getElem?_eq_getElem hl⟩
   obtain ⟨c0,c1,c3⟩:=EM hw;have hn:=UT hw hs k
   by_cases hk:w.kind=k
   ·simp [isW,hn,erC,hl,hl',hk,c0,c1]
   ·have hk':((w.kind:Int)==(k:Int))=false:=by rw [beq_eq_false_iff_ne];omega
    simp [isW,hn,erC,hl,hl',hk,hk',c0,c1]
  ·have hl':¬((a:Int)<ts.length):=by omega
   have hw:ts[a]? = none:=List.getElem?_eq_none (by omega);have hn:isK ts a k s=false:=by simp only [isK,hw]
   simp [isW,hn,erC,hl',hw]
end Go.Proofs.YtmjfldclpijghaaGreatDoor
