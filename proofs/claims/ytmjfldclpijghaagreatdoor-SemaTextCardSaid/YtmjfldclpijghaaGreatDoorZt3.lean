/- Triples over the evaluator: what holds behind a run. .. Regions that draw their order and turn the heap; regions tha -/
import Derived.Test.YtmjfldclpijghaaGreatDoorZt2
import Derived.MapKept
set_option linter.unusedSimpArgs false
set_option linter.unusedVariables false
namespace Go.Proofs.Fw
open Go.RowKit
noncomputable def CY:Code→Code
 |.seq a _=>a
 |c=>c
noncomputable def A1:Code→Code
 |.seq _ b=>b
 |c=>c
noncomputable def inC:Code→Code
 |.block _ c=>c
 |.loop c=>c
 |c=>c
noncomputable def SF:Code→Code
 |.cond _ a _=>a
 |c=>c
noncomputable def HE:Code→Array Oper
 |.region _ ops _=>ops
 |_ => #[]
noncomputable def Au (fn:Func):Code:=fn.body.getD .skip
section
variable {O:Orc} {P:Program} {E:Env} {n:Nat}
theorem OX {c A B:Code} {t t1:List AV} {H H1:AH} (hc:c = .seq A B) (h1:AK O P E n A t H=some (.normal,t1,H1)):AK O P E n c t H=AK O P E n B t1 H1:=by subst hc;simp only [AK,h1]
theorem Xm {c A:Code} {id:Nat} {t t1:List AV} {H H1:AH} (hc:c = .block id A) (h1:AK O P E n A t H=some (.exit id,t1,H1)):AK O P E n c t H=some (.normal,t1,H1):=by subst hc;simp only [AK,h1,if_true]
theorem Xn {c L:Code} {id:Nat} {t t1:List AV} {H H1:AH} (hc:c = .block id (.loop L)) (h1:iter (AK O P E n L) n t H=some (.exit id,t1,H1)):AK O P E n c t H=some (.normal,t1,H1) :=Xm hc (by simp only [AK];exact h1)
theorem Xo {f:List AV→AH→Option (AEx × List AV × AH)} {m:Nat} {t t1:List AV} {H H1:AH} (h:f t H=some (.normal,t1,H1)):iter f (m+1) t H=iter f m t1 H1:=by simp only [iter,h]
theorem Xp {f:List AV→AH→Option (AEx × List AV × AH)} {m id:Nat} {t t1:List AV} {H H1:AH} (h:f t H=some (.exit id,t1,H1)):iter f (m+1) t H=some (.exit id,t1,H1):=by simp only [iter,h]
def fin (P:Program) (fn:Func):Option (AEx × List AV × AH)→Option (AV × AH)
 |some (.exit _,_,_)=>none
 |some (_,t,H')=>(match BC P H' t fn.results.toList with
  |some vs=>some (BH vs,H')
  |none=>none)
 |none=>none
theorem SG {f:FuncId} {fn:Func} {c:Code} (hf:P.funcs[f]? = some fn) (hb:fn.body=some c) (args:List AV) (H:AH) :
  Ar O P E n f args H=fin P fn (AK O P E n c (args++List.replicate (fn.ntmps-args.length) .nothing) H):=by
 unfold Ar;rw [hf];simp only [hb];cases AK O P E n c (args++List.replicate (fn.ntmps-args.length) .nothing) H with
 |none=>rfl
 |some r =>obtain ⟨ex,t,H'⟩:=r;cases ex<;>rfl
end
def Fb (f0:FuncId) (F:UInt8→Bool):Orc:=fun f args H=>if f=f0 then (match args with
 |[.int .u8 n]=>if 0≤n∧n<256 then some (.bool (F (UInt8.ofNat n.toNat)),H) else none
 |_=>none) else none
theorem Ju {P:Program} {E:Env} {f0:FuncId} {F:UInt8→Bool} (h:∀b H,CS P E f0 [.int .u8 (b.toNat:Int)] H (.bool (F b)) H):AT P E (Fb f0 F):=AT.pure fun f args H v H' ho=>by
 unfold Fb at ho
 split at ho
 ·rename_i hf
  split at ho
  ·rename_i n
   split at ho
   ·rename_i hn
    injection ho with ho;simp only [Prod.mk.injEq] at ho;obtain ⟨rfl,rfl⟩:=ho;subst hf;refine ⟨rfl,?_⟩;have:=h (UInt8.ofNat n.toNat) H
    have e:((UInt8.ofNat n.toNat).toNat:Int)=n:=by simp only [UInt8.toNat_ofNat'];omega
    rw [e] at this;exact this
   ·cases ho
  ·cases ho
 ·cases ho
theorem Jv {f0:FuncId} {F:UInt8→Bool} (b:UInt8) (H:AH):Fb f0 F f0 [.int .u8 (b.toNat:Int)] H=some (.bool (F b),H):=by
 have h1:=UInt8.toNat_lt b;have h2:(0:Int)≤(b.toNat:Int)∧(b.toNat:Int)<256:=by omega
 simp only [Fb,if_true,if_pos h2,Int.toNat_natCast,UInt8.ofNat_toNat]
def Ak (p:UInt8→Bool) (s:List UInt8):Nat:=(s.takeWhile p).length
theorem Fc (p:UInt8→Bool):∀s:List UInt8,Ak p s≤s.length
 |[]=>Nat.le_refl _
 |b::s=>by
  have:=Fc p s;unfold Ak at this ⊢;rw [List.takeWhile_cons]
  split<;>simp<;>omega
theorem MA (p:UInt8→Bool):∀(s:List UInt8) (i:Nat),i<Ak p s→∃h:i<s.length,p s[i]=true
 |[],i,h=>by simp [Ak] at h
 |b::s,i,h=>by
  unfold Ak at h;rw [List.takeWhile_cons] at h
  split at h
  ·rename_i hb
   cases i with
   |zero=>exact ⟨by simp,hb⟩
   |succ i =>obtain ⟨h1,h2⟩:=MA p s i (by unfold Ak;simpa using h);exact ⟨by simpa using h1,by simpa using h2⟩
  ·simp at h
theorem MB (p:UInt8→Bool):∀(s:List UInt8) (h:Ak p s<s.length),p (s[Ak p s]'h)=false
 |[],h=>by simp at h
 |b::s,h=>by
  have key:Ak p (b::s)=if p b=true then Ak p s+1 else 0:=by
   unfold Ak;rw [List.takeWhile_cons]
   split<;>simp
  by_cases hb:p b=true
  ·rw [if_pos hb] at key
   have h1:Ak p s<s.length:=by rw [key] at h;simpa using h
   have:=MB p s h1;simp only [key,List.getElem_cons_succ];exact this
  ·rw [if_neg hb] at key
   simp only [key,List.getElem_cons_zero];simpa using hb
def Ah (r:Option (AEx × List AV × AH)) (Q:AEx→List AV→AH→Prop):Prop :=
 match r with
 |some (e,t,H)=>Q e t H
 |none=>False
theorem Ah.some_iff {e:AEx} {t:List AV} {H:AH} {Q:AEx→List AV→AH→Prop}:Ah (some (e,t,H)) Q↔Q e t H:=Iff.rfl
theorem Ah.mono {r:Option (AEx × List AV × AH)} {Q Q':AEx→List AV→AH→Prop} (h:Ah r Q) (hQ:∀e t H,Q e t H→Q' e t H):Ah r Q':=by
 cases r with
 |none=>exact h.elim
 |some x=>exact hQ _ _ _ h
def Goes (Q:List AV→AH→Prop) (R:AEx→List AV→AH→Prop):AEx→List AV→AH→Prop
 |.normal,t,H=>Q t H
 |.exit id,t,H=>R (.exit id) t H
 |.ret,t,H=>R .ret t H
section
variable {O:Orc} {P:Program} {E:Env} {n:Nat} {t:List AV} {H:AH} {Q:AEx→List AV→AH→Prop}
theorem Ah.seq {c A B:Code} (hc:c = .seq A B) (h:Ah (AK O P E n A t H) (Goes (fun t1 H1=>Ah (AK O P E n B t1 H1) Q) Q)):Ah (AK O P E n c t H) Q:=by
 subst hc;simp only [AK];cases hr:AK O P E n A t H with
 |none=>rw [hr] at h;exact h.elim
 |some x =>obtain ⟨e,t1,H1⟩:=x;rw [hr] at h;cases e<;>exact h
theorem Ah.block {c A:Code} {id:Nat} (hc:c = .block id A) (h:Ah (AK O P E n A t H) fun e t1 H1=>match e with
  |.exit id'=>if id'=id then Q .normal t1 H1 else Q (.exit id') t1 H1
  |e=>Q e t1 H1):Ah (AK O P E n c t H) Q:=by
 subst hc;simp only [AK];cases hr:AK O P E n A t H with
 |none=>rw [hr] at h;exact h.elim
 |some x =>
  obtain ⟨e,t1,H1⟩:=x;rw [hr] at h;cases e with
  |normal=>exact h
  |ret=>exact h
  |exit id' =>
   simp only [Ah] at h
   show Ah (if id'=id then _ else _) Q
   split
   ·rename_i hid;rw [if_pos hid] at h;exact h
   ·rename_i hid;rw [if_neg hid] at h;exact h
theorem Ah.iter {f:List AV→AH→Option (AEx × List AV × AH)} (I:Nat→List AV→AH→Prop)
  (h:∀k t H,I k t H→Ah (f t H) (Goes (fun t1 H1=>∃j,j<k∧I j t1 H1) Q)):∀(m k:Nat) {t:List AV} {H:AH},k<m→I k t H→Ah (Fw.iter f m t H) Q
 |0,_,_,_,hk,_=>by omega
 |m+1,k,t,H,hk,hI=>by
  have h1:=h k t H hI;simp only [Fw.iter];cases hr:f t H with
  |none=>rw [hr] at h1;exact h1.elim
  |some x =>
   obtain ⟨e,t1,H1⟩:=x;rw [hr] at h1;cases e with
   |normal =>obtain ⟨j,hj,hI'⟩:=h1;exact Ah.iter I h m j (by omega) hI'
   |exit id=>exact h1
   |ret=>exact h1
end
theorem OY {O:Orc} {P:Program} {E:Env} {n:Nat} {f:FuncId} {fn:Func} {c:Code} (hf:P.funcs[f]? = some fn) (hb:fn.body=some c) {args:List AV} {r:AV × AH} {H:AH}
  (h:Ah (AK O P E n c (args++List.replicate (fn.ntmps-args.length) .nothing) H) fun e t H'=>fin P fn (some (e,t,H'))=some r):Ar O P E n f args H=some r:=by
 rw [SG hf hb];cases hr:AK O P E n c (args++List.replicate (fn.ntmps-args.length) .nothing) H with
 |none=>rw [hr] at h;exact h.elim
 |some x=>rw [hr] at h;exact h
noncomputable def C1:Nat→Code→Code
 |0,_ => .skip
 |k+1,.seq a b => .seq a (C1 k b)
 |_+1,c=>c
noncomputable def Cj:Nat→Code→Code
 |0,c=>c
 |k+1,.seq _ b=>Cj k b
 |_+1,_ => .skip
theorem Ah.split {O:Orc} {P:Program} {E:Env} {n:Nat} {Q:AEx→List AV→AH→Prop}:∀(k:Nat) (c:Code) {t:List AV} {H:AH},
  Ah (AK O P E n (C1 k c) t H) (Goes (fun t1 H1=>Ah (AK O P E n (Cj k c) t1 H1) Q) Q)→Ah (AK O P E n c t H) Q
 |0,c,t,H,h=>by simpa only [C1,Cj,AK,Ah,Goes] using h
 |k+1,.seq a b,t,H,h=>by
  refine Ah.seq rfl ?_;simp only [C1,Cj,AK] at h;cases hr:AK O P E n a t H with
  |none=>rw [hr] at h;exact h.elim
  |some x =>
   obtain ⟨e,t1,H1⟩:=x;rw [hr] at h;cases e with
   |normal=>exact Ah.split k b h
   |exit id=>exact h
   |ret=>exact h
 |_+1,.skip,_,_,h=>by simpa only [C1,Cj,AK,Ah,Goes] using h
 |_+1,.region _ _ _,_,_,h=>by
  refine Ah.mono h fun e t1 H1 h1 => ?_
  cases e<;>simpa only [Cj,AK,Ah,Goes] using h1
 |_+1,.cond _ _ _,_,_,h=>by
  refine Ah.mono h fun e t1 H1 h1 => ?_
  cases e<;>simpa only [Cj,AK,Ah,Goes] using h1
 |_+1,.block _ _,_,_,h=>by
  refine Ah.mono h fun e t1 H1 h1 => ?_
  cases e<;>simpa only [Cj,AK,Ah,Goes] using h1
 |_+1,.loop _,_,_,h=>by
  refine Ah.mono h fun e t1 H1 h1 => ?_
  cases e<;>simpa only [Cj,AK,Ah,Goes] using h1
 |_+1,.exit _,_,_,h=>by
  refine Ah.mono h fun e t1 H1 h1 => ?_
  cases e<;>simpa only [Cj,AK,Ah,Goes] using h1
 |_+1,.ret,_,_,h=>by
  refine Ah.mono h fun e t1 H1 h1 => ?_
  cases e<;>simpa only [Cj,AK,Ah,Goes] using h1
 |_+1,.rangeFunc _ _ _ _,_,_,h=>by simp only [C1,AK] at h;exact h.elim
 |_+1,.scope _,_,_,h=>by simp only [C1,AK] at h;exact h.elim
 |_+1,.label _,_,_,h=>by simp only [C1,AK] at h;exact h.elim
 |_+1,.goto _,_,_,h=>by simp only [C1,AK] at h;exact h.elim
 |_+1,.refuse _,_,_,h=>by simp only [C1,AK] at h;exact h.elim
theorem CS.of_ev {P:Program} {E:Env} {O:Orc} (hS:AT P E O) (hM:Ch P E) (pD:P.follows .mixedOrders=true) (hE:∀i,low 0 (E.glob i)=true) {n:Nat} {f:FuncId} {args:List AV} {v:AV} (k:Nat)
  (h:∃H',Ar O P E n f args []=some (v,H')∧low 0 (strip 0 (frz 0 H' k v))=true∧strip 0 (frz 0 H' k v)=strip 0 v) (ha:lowL 0 args=true) (H:AH):CS P E f args H (strip 0 v) H:=by
 obtain ⟨H',h1,h2,h3⟩:=h;have h4:=EX hS hM pD h1;have h5:=h4.gc k (by simpa using h2) rfl;simp only [List.length_nil,List.take_zero] at h5;rw [h3] at h5;exact h5.frame hE ha H
def evP (O:Orc) (P:Program) (E:Env) (ops:Array Oper):List (Oper × Nat)→List AV→AH→Option (List AV)
 |[],t,_=>some t
 |p::ps,t,H=>(match CX O P E ops t H p with
  |some (v,[],_)=>evP O P E ops ps (AX t p.1.dst v) H
  |_=>none)
def Dc:Nat→List Nat→List (Oper × Nat)→List (Nat × Nat × Oper)
 |_,_,[]=>[]
 |i,ms,p::ps=>(i,ms.getD i 0,p.1)::Dc (i+1) ms ps
def JA (ops:Array Oper):List (Nat × Nat × Oper)→Bool
 |[]=>true
 |r::rs=>rs.all (fun s=>s.2.1.testBit r.1 || r.2.2.apart ops s.2.2)&&JA ops rs
def BX.syn (r:BX):Nat × Nat × Oper:=(r.i,r.m,r.p.1)
theorem SH (H:AH) (l:List Nat):DD H 0 l=l:=by simp only [DD]
theorem SI (H:AH):∀n,DD H n []=[]
 |0=>rfl
 |n+1=>by simp [DD,F6]
theorem MC {O:Orc} {P:Program} {E:Env} {ops:Array Oper}:∀(ps:List (Oper × Nat)) (i:Nat) (ms:List Nat) {t t':List AV} {H:AH},evP O P E ops ps t H=some t' →
  ∃l,evD O P E ops i ms ps t H=some (t',H,l)∧(∀r∈l,r.u=[])∧l.map BX.syn=Dc i ms ps
 |[],i,ms,t,t',H,h=>by simp only [evP] at h;injection h with h;subst h;exact ⟨[],rfl,by simp,rfl⟩
 |p::ps,i,ms,t,t',H,h=>by
  simp only [evP] at h
  split at h
  ·rename_i v S hd
   obtain ⟨l,h1,h2,h3⟩:=MC ps (i+1) ms h;refine ⟨⟨i,ms.getD i 0,p,v,[],S⟩::l,?_,?_,?_⟩
   ·simp only [evD,hd,AR,h1]
   ·intro r hr
    rcases List.mem_cons.1 hr with rfl|hr
    ·rfl
    ·exact h2 r hr
   ·simp only [List.map_cons,h3,Dc,BX.syn]
  ·cases h
theorem SJ {ops:Array Oper}:∀(l:List BX),(∀r∈l,r.u=[])→chk ops l=JA ops (l.map BX.syn)
 |[],_=>rfl
 |r::l,h=>by
  simp only [chk,List.map_cons,JA];rw [SJ l fun q hq=>h q (List.mem_cons_of_mem _ hq)];have h1:=h r List.mem_cons_self
  have key:∀l':List BX,(∀q∈l',q.u=[])→l'.all (Hj ops r)=(l'.map BX.syn).all (fun s=>s.2.1.testBit r.i || r.p.1.apart ops s.2.2):=by
   intro l'
   induction l' with
   |nil=>intro _;rfl
   |cons q l' ih =>intro hq;simp only [List.all_cons,List.map_cons];rw [ih fun x hx=>hq x (List.mem_cons_of_mem _ hx)];have h2:=hq q List.mem_cons_self;simp [Hj,Js,h1,h2,BX.syn]
  rw [key l fun q hq=>h q (List.mem_cons_of_mem _ hq)];rfl
theorem SK {O:Orc} {P:Program} {E:Env} {ops:Array Oper} {t t':List AV} {H:AH} (h0:Ag E ops.toList=0) (h:evP O P E ops (AY E ops.toList H.length) t H=some t')
  (hs:∀n,JA ops (Dc 0 (CE [] ops.toList) (AY E ops.toList n))=true) (hb:F8 0 ops.toList=true):EE O P E ops t H=some (t',H):=by
 obtain ⟨l,h1,h2,h3⟩:=MC _ 0 (CE [] ops.toList) h;have hg:grow H (Ag E ops.toList)=H:=by rw [h0];rfl
 unfold EE;rw [hg,h1];simp only;rw [if_pos ⟨by rw [SJ l h2,h3];exact hs _,hb⟩]
theorem Rel.below {g:Gh} {H:AH} {w w':World} (R:Rel g H w) (h:Below w.heap.size w w'):Rel g H w'∧AQ g H w g H w':=by
 refine ⟨⟨fun b i v hv => ?_,R.free,fun id e he oL => ?_,R.inj,fun id e he=>Nat.lt_of_lt_of_le (R.blk id e he) h.size⟩,
  ⟨g.le_refl,fun id hid=>⟨rfl,hid⟩,fun id e he => .inl ⟨e,he,rfl⟩,fun b hb _=>⟨h.block b hb,fun _=>rfl⟩,h.size,h.os,h.tape,h.output⟩⟩
 ·have hb:=R.lt hv
  exact (Ek (h.block b hb)).trans (R.imm b i v hv)
 ·obtain ⟨ge,h1,h2⟩:=R.ent id e he oL
  exact ⟨ge,h1,h2.keep g.le_refl (h.block _ (R.blk id ge h1)) (fun _=>rfl)⟩
theorem CS.of_below {P:Program} {E:Env} {f:FuncId} {args:List AV} {v:AV} {H:AH}
  (h:∀g w cargs,AB g args cargs→Calls P f (List.toArray cargs) w fun e w'=>∃cv,e = .returned cv∧(∀g,AA g v cv)∧Below w.heap.size w w'):CS P E f args H v H:=by
 intro g w cargs R hG hA;refine (h g w cargs hA).mono ?_;rintro e w' ⟨cv,rfl,hr,hb⟩;obtain ⟨R',p⟩:=R.below hb;exact ⟨g,cv,rfl,R',p,hr g⟩
def WB (v:AV) (X Y:Prop):Prop :=
 match v with
 |.bool b=>(b=true→X)∧(b=false→Y)
 |_=>False
def WG (b:Option Bool) (X Y:Prop):Prop :=
 match b with
 |some b=>(b=false→X)∧(b=true→Y)
 |none=>False
def WS {α:Type} (r:Option α) (K:α→Prop):Prop :=
 match r with
 |some x=>K x
 |none=>False
theorem Xq {α:Type} (x:α) (K:α→Prop):WS (some x) K↔K x:=Iff.rfl
section
variable (O:Orc) (P:Program) (E:Env) (n:Nat)
def W (c:Code) (t:List AV) (H:AH) (Q:AEx→List AV→AH→Prop):Prop:=Ah (AK O P E n c t H) Q
def WO (ops:Array Oper) (l:List (Oper × Nat)) (t:List AV) (H:AH) (K:List AV→AH→Prop):Prop :=WS (A5 O P E ops l t H) fun r=>K r.1 r.2
def Blk (id:Nat) (Q:AEx→List AV→AH→Prop):AEx→List AV→AH→Prop:=fun e t H=>match e with
 |.exit id'=>if id'=id then Q .normal t H else Q (.exit id') t H
 |e=>Q e t H
variable {O P E n} {t:List AV} {H:AH} {Q:AEx→List AV→AH→Prop}
theorem SL:W O P E n .skip t H Q↔Q .normal t H:=by simp only [W,AK,Ah]
theorem Xr (id:Nat):W O P E n (.exit id) t H Q↔Q (.exit id) t H:=by simp only [W,AK,Ah]
theorem Xs:W O P E n .ret t H Q↔Q .ret t H:=by simp only [W,AK,Ah]
theorem SM (a b:Code):W O P E n (.seq a b) t H Q↔W O P E n a t H (Goes (fun t1 H1=>W O P E n b t1 H1 Q) Q):=by
 simp only [W,AK];cases AK O P E n a t H with
 |none=>exact Iff.rfl
 |some x =>obtain ⟨e,t1,H1⟩:=x;cases e<;>exact Iff.rfl
theorem Xt (c:Operand) (a b:Code):W O P E n (.cond c a b) t H Q↔WB (AC E t c) (W O P E n a t H Q) (W O P E n b t H Q):=by
 simp only [W,AK,WB];cases AC E t c with
 |bool v=>cases v<;>simp
 |_=>exact Iff.rfl
theorem Xu (id:Nat) (c:Code):W O P E n (.block id c) t H Q↔W O P E n c t H (Blk id Q):=by
 simp only [W,AK];cases AK O P E n c t H with
 |none=>exact Iff.rfl
 |some x =>
  obtain ⟨e,t1,H1⟩:=x;cases e with
  |normal=>exact Iff.rfl
  |ret=>exact Iff.rfl
  |exit id' =>
   simp only [Ah,Blk]
   by_cases h:id'=id
   ·simp only [if_pos h,Ah]
   ·simp only [if_neg h,Ah]
theorem SN (id:Nat) (ops:Array Oper):W O P E n (.region id ops false) t H Q↔WO O P E ops (AY E ops.toList H.length) t (grow H (Ag E ops.toList)) (fun t1 H1=>Q .normal t1 H1):=by
 simp only [W,AK,WO,Bf,Bool.false_eq_true,if_false];cases A5 O P E ops (AY E ops.toList H.length) t (grow H (Ag E ops.toList)) with
 |none=>exact Iff.rfl
 |some x=>exact Iff.rfl
theorem OZ (id:Nat) (ops:Array Oper):W O P E n (.region id ops true) t H Q↔WS (EE O P E ops t H) (fun r=>Q .normal r.1 r.2):=by
 simp only [W,AK,if_true];cases EE O P E ops t H with
 |none=>exact Iff.rfl
 |some x=>exact Iff.rfl
theorem Xv (ops:Array Oper) (K:List AV→AH→Prop):WO O P E ops [] t H K↔K t H:=by simp only [WO,A5,WS]
theorem Xw (ops:Array Oper) (o:Oper) (fid:Nat) (rest:List (Oper × Nat)) (K:List AV→AH→Prop) :
  WO O P E ops ((o,fid)::rest) t H K↔WG (Ap ops t o) (WO O P E ops rest (AX t o.dst .nothing) H K) (WS (AW O P E (AC E t) H fid o) fun r=>WO O P E ops rest (AX t o.dst r.1) r.2 K):=by
 simp only [WO,A5,WG];cases Ap ops t o with
 |none=>exact Iff.rfl
 |some b =>
  cases b with
  |false=>simp
  |true =>
   simp only [Bool.true_eq_false,false_imp_iff,true_imp_iff,true_and];cases AW O P E (AC E t) H fid o with
   |none=>exact Iff.rfl
   |some x=>exact Iff.rfl
theorem Xx (K:List AV→AH→Prop) (R:AEx→List AV→AH→Prop):Goes K R .normal t H↔K t H:=Iff.rfl
theorem Xy (K:List AV→AH→Prop) (R:AEx→List AV→AH→Prop) (id:Nat):Goes K R (.exit id) t H↔R (.exit id) t H:=Iff.rfl
theorem Xz (K:List AV→AH→Prop) (R:AEx→List AV→AH→Prop):Goes K R .ret t H↔R .ret t H:=Iff.rfl
theorem MD (id:Nat):Blk id Q .ret t H↔Q .ret t H:=Iff.rfl
theorem Bo (id id':Nat):Blk id Q (.exit id') t H↔if id'=id then Q .normal t H else Q (.exit id') t H:=Iff.rfl
theorem zDD {c:Code} {Q':AEx→List AV→AH→Prop} (h:W O P E n c t H Q) (hQ:∀e t H,Q e t H→Q' e t H):W O P E n c t H Q':=Ah.mono h hQ
end
mutual
def ren (φ:Nat→Nat):AV→AV
 |.ptr id off => .ptr (φ id) off
 |.bsl id off sz n cap => .bsl (φ id) off sz n cap
 |.slice (.tok t) sz n cs => .slice (.tok (φ t)) sz n (AL φ cs)
 |.slice .unk sz n cs => .slice .unk sz n (AL φ cs)
 |.slice .full sz n cs => .slice .full sz n (AL φ cs)
 |.lsl t sz n cs => .lsl (φ t) sz n (AL φ cs)
 |.lptr t sz n => .lptr (φ t) sz n
 |.stk t ver sz n => .stk (φ t) ver sz n
 |.sptr t ver sz off => .sptr (φ t) ver sz off
 |.vptr cs off => .vptr (AL φ cs) off
 |.func fn a b => .func fn (AL φ a) (AL φ b)
 |.iface t v => .iface t (ren φ v)
 |.agg cs => .agg (AL φ cs)
 |.tup vs => .tup (AL φ vs)
 |.undef => .undef
 |.bool b => .bool b
 |.int k n => .int k n
 |.str s => .str s
 |.nilPtr => .nilPtr
 |.nilSlice => .nilSlice
 |.emp => .emp
 |.nilMap => .nilMap
 |.nilFunc => .nilFunc
 |.adr b o => .adr b o
 |.nilIface => .nilIface
def AL (φ:Nat→Nat):List AV→List AV
 |[]=>[]
 |a::aS=>ren φ a::AL φ aS
end
def AI (φ:Nat→Nat):Ent→Ent
 |.box cs => .box (AL φ cs)
 |.tok n => .tok n
 |.loose n cs => .loose n (AL φ cs)
 |.stk n cs => .stk n (AL φ cs)
 |.hid => .hid
theorem JB (φ:Nat→Nat):∀l:List AV,(AL φ l).length=l.length
 |[]=>rfl
 |_::l=>by simp [AL,JB φ l]
section
variable {φ:Nat→Nat} {g g':Gh} {k:Nat}
mutual
theorem AA.ren (hG:g'.G=g.G) (hM:∀i,i<k→g'.M (φ i)=g.M i):∀(a:AV) (v:Value),low k a=true→(AA g a v↔AA g' (Fw.ren φ a) v)
 |.undef,_,_=>by simp [AA,Fw.ren]
 |.bool _,_,_=>by simp [AA,Fw.ren]
 |.int _ _,_,_=>by simp [AA,Fw.ren]
 |.str _,_,_=>by simp [AA,Fw.ren]
 |.nilPtr,_,_=>by simp [AA,Fw.ren]
 |.nilSlice,_,_=>by simp [AA,Fw.ren]
 |.emp,_,_=>by simp [AA,Fw.ren]
 |.nilMap,_,_=>by simp [AA,Fw.ren]
 |.nilFunc,_,_=>by simp [AA,Fw.ren]
 |.adr _ _,_,_=>by simp [AA,Fw.ren]
 |.nilIface,_,_=>by simp [AA,Fw.ren]
 |.ptr id off,v,hl=>by simp only [low,decide_eq_true_eq] at hl;simp only [AA,Fw.ren,hM id hl]
 |.bsl id off sz n cap,v,hl=>by simp only [low,decide_eq_true_eq] at hl;simp only [AA,Fw.ren,hM id hl]
 |.vptr cs off,v,hl=>by
  simp only [low] at hl;simp only [AA,Fw.ren]
  constructor
  ·rintro ⟨b,o,vs,hv,h1,h2⟩
   exact ⟨b,o,vs,hv,(AB.ren hG hM _ _ hl).1 h1,fun i v hi=>by rw [hG];exact h2 i v hi⟩
  ·rintro ⟨b,o,vs,hv,h1,h2⟩
   exact ⟨b,o,vs,hv,(AB.ren hG hM _ _ hl).2 h1,fun i v hi=>by rw [←hG];exact h2 i v hi⟩
 |.slice .unk sz n cs,v,hl=>by
  simp only [low] at hl;simp only [AA,Fw.ren,JB]
  constructor
  ·rintro ⟨b,o,cap,vs,hv,h1,h2,h3,h4,h5⟩
   exact ⟨b,o,cap,vs,hv,(AB.ren hG hM _ _ hl).1 h1,fun i v hi=>by rw [hG];exact h2 i v hi,h3,h4,trivial⟩
  ·rintro ⟨b,o,cap,vs,hv,h1,h2,h3,h4,h5⟩
   exact ⟨b,o,cap,vs,hv,(AB.ren hG hM _ _ hl).2 h1,fun i v hi=>by rw [←hG];exact h2 i v hi,h3,h4,trivial⟩
 |.slice .full sz n cs,v,hl=>by
  simp only [low] at hl;simp only [AA,Fw.ren,JB]
  constructor
  ·rintro ⟨b,o,cap,vs,hv,h1,h2,h3,h4,h5⟩
   exact ⟨b,o,cap,vs,hv,(AB.ren hG hM _ _ hl).1 h1,fun i v hi=>by rw [hG];exact h2 i v hi,h3,h4,h5⟩
  ·rintro ⟨b,o,cap,vs,hv,h1,h2,h3,h4,h5⟩
   exact ⟨b,o,cap,vs,hv,(AB.ren hG hM _ _ hl).2 h1,fun i v hi=>by rw [←hG];exact h2 i v hi,h3,h4,h5⟩
 |.slice (.tok t) sz n cs,v,hl=>by
  simp only [low,Bool.and_eq_true,decide_eq_true_eq] at hl;simp only [AA,Fw.ren,JB,D4,hM t hl.1]
  constructor
  ·rintro ⟨b,o,cap,vs,hv,h1,h2,h3,h4,h5⟩
   exact ⟨b,o,cap,vs,hv,(AB.ren hG hM _ _ hl.2).1 h1,fun i v hi=>by rw [hG];exact h2 i v hi,h3,h4,h5⟩
  ·rintro ⟨b,o,cap,vs,hv,h1,h2,h3,h4,h5⟩
   exact ⟨b,o,cap,vs,hv,(AB.ren hG hM _ _ hl.2).2 h1,fun i v hi=>by rw [←hG];exact h2 i v hi,h3,h4,h5⟩
 |.lsl t sz n cs,v,hl=>by
  simp only [low,Bool.and_eq_true,decide_eq_true_eq] at hl;simp only [AA,Fw.ren,JB,D4,hM t hl.1]
  constructor
  ·rintro ⟨b,cap,vs,hv,h1,h2,h3,h4,h5⟩
   exact ⟨b,cap,vs,hv,(AB.ren hG hM _ _ hl.2).1 h1,fun i v hi=>by rw [hG];exact h2 i v hi,h3,h4,h5⟩
  ·rintro ⟨b,cap,vs,hv,h1,h2,h3,h4,h5⟩
   exact ⟨b,cap,vs,hv,(AB.ren hG hM _ _ hl.2).2 h1,fun i v hi=>by rw [←hG];exact h2 i v hi,h3,h4,h5⟩
 |.lptr t sz n,v,hl=>by simp only [low,decide_eq_true_eq] at hl;simp only [AA,Fw.ren,D4,hM t hl]
 |.stk t ver sz n,v,hl=>by simp only [low,decide_eq_true_eq] at hl;simp only [AA,Fw.ren,D4,hM t hl]
 |.sptr t ver sz n,v,hl=>by simp only [low,decide_eq_true_eq] at hl;simp only [AA,Fw.ren,D4,hM t hl]
 |.func fn fi ca,v,hl=>by
  simp only [low,Bool.and_eq_true] at hl;simp only [AA,Fw.ren]
  constructor
  ·rintro ⟨fs,cs,hv,h1,h2⟩
   exact ⟨fs,cs,hv,(AB.ren hG hM _ _ hl.1).1 h1,(AB.ren hG hM _ _ hl.2).1 h2⟩
  ·rintro ⟨fs,cs,hv,h1,h2⟩
   exact ⟨fs,cs,hv,(AB.ren hG hM _ _ hl.1).2 h1,(AB.ren hG hM _ _ hl.2).2 h2⟩
 |.iface t x,v,hl=>by
  simp only [low] at hl;simp only [AA,Fw.ren]
  constructor
  ·rintro ⟨y,hv,h1⟩
   exact ⟨y,hv,(AA.ren hG hM _ _ hl).1 h1⟩
  ·rintro ⟨y,hv,h1⟩
   exact ⟨y,hv,(AA.ren hG hM _ _ hl).2 h1⟩
 |.agg cs,v,hl=>by
  simp only [low] at hl;simp only [AA,Fw.ren]
  constructor
  ·rintro ⟨vs,hv,h1⟩
   exact ⟨vs,hv,(AB.ren hG hM _ _ hl).1 h1⟩
  ·rintro ⟨vs,hv,h1⟩
   exact ⟨vs,hv,(AB.ren hG hM _ _ hl).2 h1⟩
 |.tup cs,v,hl=>by
  simp only [low] at hl;simp only [AA,Fw.ren]
  constructor
  ·rintro ⟨vs,hv,h1⟩
   exact ⟨vs,hv,(AB.ren hG hM _ _ hl).1 h1⟩
  ·rintro ⟨vs,hv,h1⟩
   exact ⟨vs,hv,(AB.ren hG hM _ _ hl).2 h1⟩
theorem AB.ren (hG:g'.G=g.G) (hM:∀i,i<k→g'.M (φ i)=g.M i):∀(aS:List AV) (vs:List Value),lowL k aS=true→(AB g aS vs↔AB g' (AL φ aS) vs)
 |[],_,_=>by simp [AB,AL]
 |a::aS,vs,hl=>by
  simp only [lowL,Bool.and_eq_true] at hl;simp only [AB,AL]
  constructor
  ·rintro ⟨v,ws,hv,h1,h2⟩
   exact ⟨v,ws,hv,(AA.ren hG hM _ _ hl.1).1 h1,(AB.ren hG hM _ _ hl.2).1 h2⟩
  ·rintro ⟨v,ws,hv,h1,h2⟩
   exact ⟨v,ws,hv,(AA.ren hG hM _ _ hl.1).2 h1,(AB.ren hG hM _ _ hl.2).2 h2⟩
end
theorem B9.ren (hG:g'.G=g.G) (hM:∀i,i<k→g'.M (φ i)=g.M i) {w:World} {e:Ent} {ge:CW} (hl:At k (some e)=true):B9 g w e ge↔B9 g' w (AI φ e) ge:=by
 cases e with
 |hid=>simp [B9,AI]
 |box cs =>
  simp only [At] at hl;cases ge with
  |box b =>
   simp only [B9,AI,hG]
   constructor
   ·rintro ⟨vs,el,h1,h2,h3⟩
    exact ⟨vs,el,h1,(AB.ren hG hM _ _ hl).1 h2,h3⟩
   ·rintro ⟨vs,el,h1,h2,h3⟩
    exact ⟨vs,el,h1,(AB.ren hG hM _ _ hl).2 h2,h3⟩
  |tok=>simp [B9,AI]
 |tok n =>
  cases ge with
  |box=>simp [B9,AI]
  |tok b n' sz cap=>simp only [B9,AI,hG]
 |stk n cs =>
  simp only [At] at hl;cases ge with
  |box=>simp [B9,AI]
  |tok b n' sz cap =>
   simp only [B9,AI,hG,JB]
   constructor
   ·rintro ⟨h1,h2,⟨vs,el,h3,h4,h5⟩,h6⟩
    exact ⟨h1,h2,⟨vs,el,h3,h4,(AB.ren hG hM _ _ hl).1 h5⟩,h6⟩
   ·rintro ⟨h1,h2,⟨vs,el,h3,h4,h5⟩,h6⟩
    exact ⟨h1,h2,⟨vs,el,h3,h4,(AB.ren hG hM _ _ hl).2 h5⟩,h6⟩
 |loose n cs =>
  simp only [At] at hl;cases ge with
  |box=>simp [B9,AI]
  |tok b n' sz cap =>
   simp only [B9,AI,hG,JB]
   constructor
   ·rintro ⟨h1,h2,h0,⟨vs,el,h3,h4,h5⟩,h6⟩
    exact ⟨h1,h2,h0,⟨vs,el,h3,h4,(AB.ren hG hM _ _ hl).1 h5⟩,h6⟩
   ·rintro ⟨h1,h2,h0,⟨vs,el,h3,h4,h5⟩,h6⟩
    exact ⟨h1,h2,h0,⟨vs,el,h3,h4,(AB.ren hG hM _ _ hl).2 h5⟩,h6⟩
end
theorem Hk {n:Nat}:∀{H:AH} {i:Nat} {e:Ent},AU n H=true→H.at i=some e→At n (some e)=true
 |[],i,e,_,h=>by simp [AH.at] at h
 |x::r,i,e,hl,h=>by
  simp only [AU,Bool.and_eq_true] at hl;cases i with
  |zero =>simp only [AH.at,List.getElem?_cons_zero,Option.join_some] at h;rw [←h];exact hl.1
  |succ i=>exact Hk (H:=r) (i:=i) hl.2 (by simpa [AH.at] using h)
open Classical in
theorem CS.embed {P:Program} {E:Env} {f:FuncId} {args:List AV} {v:AV} {k:Nat} (φ:Nat→Nat) {H0 H0' H H':AH} (h:CS P E f args H0 v H0') (hk:H0.length=k) (hk':H0'.length=k)
  (hφ:∀i j,i<k→j<k→φ i=φ j→i=j) (hE:∀i,low 0 (E.glob i)=true) (ha:lowL k args=true) (hv:low k v=true) (hl:AU k H0=true) (hl':AU k H0'=true)
  (hH:∀i,i<k→H.at (φ i)=(H0.at i).map (AI φ)) (hH':∀i,i<k→H'.at (φ i)=(H0'.at i).map (AI φ)) (hO:∀j,(∀i,i<k→φ i≠j)→H'.at j=H.at j) :
  CS P E f (AL φ args) H (ren φ v) H':=by
 intro g w cargs R hG hA
 let g0:Gh:={G:=g.G,M:=fun i=>if i<k then g.M (φ i) else none}
 have pO:∀i,i<k→g.M (φ i)=g0.M i:=fun i hi=>by simp [g0,hi]
 have R0:Rel g0 H0 w:=by
  refine ⟨R.imm,?_,?_,?_,?_⟩
  ·intro i hi
   by_cases oQ:i<k
   ·rw [←pO i oQ]
    exact R.free _ (by rw [hH i oQ,hi];rfl)
   ·simp [g0,oQ]
  ·intro i e he oL
   have oQ:i<k:=by rw [←hk];exact DQ he
   obtain ⟨ge,h1,h2⟩:=R.ent (φ i) (AI φ e) (by rw [hH i oQ,he];rfl) (by cases e<;>simp_all [AI]);exact ⟨ge,by rw [←pO i oQ];exact h1,(B9.ren (g:=g0) (g':=g) (k:=k) rfl pO (Hk hl he)).2 h2⟩
  ·intro i j e e' he he' hb
   by_cases oQ:i<k
   ·by_cases qr:j<k
    ·rw [←pO i oQ] at he
     rw [←pO j qr] at he';exact hφ i j oQ qr (R.inj _ _ _ _ he he' hb)
    ·simp [g0,qr] at he'
   ·simp [g0,oQ] at he
  ·intro i e he
   by_cases oQ:i<k
   ·rw [←pO i oQ] at he
    exact R.blk _ _ he
   ·simp [g0,oQ] at he
 have uA:Al E g0:=fun i=>by
  have h1:AA (g.cut 0) (E.glob i) _:=AA.cut _ _ (hE i) (hG i);have vk:(g.cut 0).le g0:=⟨fun _ _ _ h=>h,fun _ _ h=>by simp [Gh.cut] at h⟩
  exact AA.mono vk _ _ h1
 have rx:AB g0 args cargs:=(AB.ren (g:=g0) (g':=g) (k:=k) rfl pO _ _ ha).2 hA;refine (h g0 w cargs R0 uA rx).mono ?_;rintro e w1 ⟨g1,cv,rfl,R1,p1,hr⟩
 let g':Gh:={G:=g1.G,M:=fun j=>if h:∃i,i<k∧φ i=j then g1.M (Classical.choose h) else g.M j}
 have pK:∀i,i<k→g'.M (φ i)=g1.M i:=fun i hi=>by
  have pq:∃i',i'<k∧φ i'=φ i:=⟨i,hi,rfl⟩
  have hc:=Classical.choose_spec pq;have he:Classical.choose pq=i:=hφ _ _ hc.1 hi hc.2;simp only [g',dif_pos pq,he]
 have od:∀j,(∀i,i<k→φ i≠j)→g'.M j=g.M j:=fun j hj=>by
  have:¬∃i,i<k∧φ i=j:=fun ⟨i,h1,h2⟩=>hj i h1 h2
  simp only [g',dif_neg this]
 have dec:∀j,(∃i,i<k∧φ i=j)∨(∀i,i<k→φ i≠j):=fun j=>by
  by_cases h:∃i,i<k∧φ i=j
  ·exact .inl h
  ·exact .inr fun i h1 h2=>h ⟨i,h1,h2⟩
 have oO:g.le g':=by
  refine ⟨fun b i v hb=>p1.le.G b i v hb,fun j e he => ?_⟩;rcases dec j with ⟨i,hi,rfl⟩|hj
  ·rw [pK i hi]
   exact p1.le.M i e (by rw [←pO i hi];exact he)
  ·exact ⟨e,by rw [od j hj];exact he,e.le_refl⟩
 have oY:∀j ge,(∀i,i<k→φ i≠j)→g.M j=some ge→w1.heap[ge.block]? = w.heap[ge.block]? ∧ ∀i,g1.G ge.block i=g.G ge.block i:=by
  intro j ge hj hM;refine p1.old ge.block (R.blk j ge hM) fun i e ge' he oL hM' hb => ?_
  have oQ:i<k:=by rw [←hk];exact DQ he
  rw [←pO i oQ] at hM';exact hj i oQ (R.inj _ _ _ _ hM' hM hb)
 have cross:∀i j e e',i<k→(∀i,i<k→φ i≠j)→g1.M i=some e→g.M j=some e'→e.block≠e'.block:=by
  intro i j e e' hi hj he he' hb;rcases p1.new i e he with ⟨e0,h0,pr⟩|h0
  ·rw [←pO i hi] at h0
   exact hj i hi (R.inj _ _ _ _ h0 he' (pr.trans hb))
  ·have:=R.blk j e' he'
   omega
 refine ⟨g',cv,rfl,⟨R1.imm,?_,?_,?_,?_⟩,⟨oO,?_,?_,?_,p1.size,p1.os,p1.tape,p1.output⟩,(AA.ren (g:=g1) (g':=g') (k:=k) rfl pK _ _ hv).1 hr⟩
 ·intro j hj
  rcases dec j with ⟨i,hi,rfl⟩|hj'
  ·rw [pK i hi]
   refine R1.free i ?_;rw [hH' i hi] at hj;cases h:H0'.at i with
   |none=>rfl
   |some e=>rw [h] at hj;cases hj
  ·rw [od j hj']
   exact R.free j (by rw [←hO j hj'];exact hj)
 ·intro j e he oL
  rcases dec j with ⟨i,hi,rfl⟩|hj'
  ·rw [hH' i hi] at he
   cases h:H0'.at i with
   |none=>rw [h] at he;cases he
   |some e0 =>rw [h] at he;simp only [Option.map_some,Option.some.injEq] at he;subst he;obtain ⟨ge,h1,h2⟩:=R1.ent i e0 h (by rintro rfl;exact oL rfl);exact ⟨ge,by rw [pK i hi];exact h1,(B9.ren (g:=g1) (g':=g') (k:=k) rfl pK (Hk hl' h)).1 h2⟩
  ·rw [hO j hj'] at he
   obtain ⟨ge,h1,h2⟩:=R.ent j e he oL;obtain ⟨h3,h4⟩:=oY j ge hj' h1;exact ⟨ge,by rw [od j hj'];exact h1,h2.keep oO h3 h4⟩
 ·intro j j' e e' he he' hb
  rcases dec j with ⟨i,hi,rfl⟩|hj
  ·rw [pK i hi] at he
   rcases dec j' with ⟨i',hi',rfl⟩|hj'
   ·rw [pK i' hi'] at he'
    rw [R1.inj i i' e e' he he' hb]
   ·rw [od j' hj'] at he'
    exact absurd hb (cross i j' e e' hi hj' he he')
  ·rw [od j hj] at he
   rcases dec j' with ⟨i',hi',rfl⟩|hj'
   ·rw [pK i' hi'] at he'
    exact absurd hb.symm (cross i' j e' e hi' hj he' he)
   ·rw [od j' hj'] at he'
    exact R.inj j j' e e' he he' hb
 ·intro j e he
  rcases dec j with ⟨i,hi,rfl⟩|hj
  ·rw [pK i hi] at he
   exact R1.blk i e he
  ·rw [od j hj] at he
   exact Nat.lt_of_lt_of_le (R.blk j e he) p1.size
 ·intro j hj
  rcases dec j with ⟨i,hi,rfl⟩|hj'
  ·rw [hH i hi] at hj
   cases h:H0.at i with
   |none=>rw [h] at hj;cases hj
   |some e0 =>
    rw [h] at hj;simp only [Option.map_some,Option.some.injEq] at hj;have:e0 = .hid:=by cases e0<;>simp_all [AI]
    subst this;obtain ⟨h1,h2⟩:=p1.hid i h;exact ⟨by rw [pK i hi,h1,pO i hi],by rw [hH' i hi,h2];rfl⟩
  ·exact ⟨od j hj',by rw [hO j hj',hj]⟩
 ·intro j e he
  rcases dec j with ⟨i,hi,rfl⟩|hj'
  ·rw [pK i hi] at he
   rcases p1.new i e he with ⟨e0,h0,pr⟩|h0
   ·exact .inl ⟨e0,by rw [pO i hi];exact h0,pr⟩
   ·exact .inr h0
  ·rw [od j hj'] at he
   exact .inl ⟨e,he,rfl⟩
 ·intro b hb hn
  refine p1.old b hb fun i e ge he oL hM => ?_
  have oQ:i<k:=by rw [←hk];exact DQ he
  exact hn (φ i) (AI φ e) ge (by rw [hH i oQ,he];rfl) (by cases e<;>simp_all [AI]) (by rw [pO i oQ];exact hM)
def Ay (l:List (FuncId × Orc)):Orc:=fun f args H=>match l.lookup f with
 |some o=>o f args H
 |none=>none
theorem FB {P:Program} {E:Env} {l:List (FuncId × Orc)} (h:∀p∈l,AT P E p.2):AT P E (Ay l):=by
 intro f args H v H' ho;unfold Ay at ho
 split at ho
 ·rename_i o hl
  have:(f,o)∈l:=by
   clear h ho
   induction l with
   |nil=>simp at hl
   |cons p l ih =>
    obtain ⟨f',o'⟩:=p;simp only [List.lookup] at hl
    split at hl
    ·rename_i hf
     injection hl with hl;subst hl;simp only [beq_iff_eq] at hf;subst hf;simp
    ·exact List.mem_cons_of_mem _ (ih hl)
  exact h _ this f args H v H' ho
 ·cases ho
def Bp {α:Type} (f0:FuncId) (dec:List AV→Option α) (out:α→AV):Orc:=fun f args H=>if f=f0 then (dec args).map (fun x=>(out x,H)) else none
theorem Dp {P:Program} {E:Env} {α:Type} {f0:FuncId} {dec:List AV→Option α} {out:α→AV}
  (h:∀args x H,dec args=some x→CS P E f0 args H (out x) H):AT P E (Bp f0 dec out):=AT.pure fun f args H v H' ho=>by
 unfold Bp at ho
 split at ho
 ·rename_i hf
  subst hf;cases hd:dec args with
  |none=>rw [hd] at ho;cases ho
  |some x =>rw [hd] at ho;simp only [Option.map_some,Option.some.injEq,Prod.mk.injEq] at ho;obtain ⟨rfl,rfl⟩:=ho;exact ⟨rfl,h args x H hd⟩
 ·cases ho
section
variable {P:Program} {E:Env} {O:Orc} {n:Nat} {f:FuncId} {fn:Func} {c:Code} {args:List AV}
theorem ME (id:Nat):∀i j,i<1→j<1→(fun _:Nat=>id) i=(fun _:Nat=>id) j→i=j:=by omega
mutual
theorem DE (φ:Nat→Nat):∀(a:AV),low 0 a=true→ren φ a=a
 |.undef,_=>rfl
 |.bool _,_=>rfl
 |.int _ _,_=>rfl
 |.str _,_=>rfl
 |.nilPtr,_=>rfl
 |.nilSlice,_=>rfl
 |.emp,_=>rfl
 |.nilMap,_=>rfl
 |.nilFunc,_=>rfl
 |.adr _ _,_=>rfl
 |.nilIface,_=>rfl
 |.ptr _ _,h=>by simp [low] at h
 |.bsl _ _ _ _ _,h=>by simp [low] at h
 |.vptr cs _,h=>by simp only [low] at h;simp only [ren,BZ φ cs h]
 |.slice .unk _ _ cs,h=>by simp only [low] at h;simp only [ren,BZ φ cs h]
 |.slice .full _ _ cs,h=>by simp only [low] at h;simp only [ren,BZ φ cs h]
 |.slice (.tok t) _ _ cs,h=>by simp [low] at h
 |.lsl _ _ _ _,h=>by simp [low] at h
 |.lptr _ _ _,h=>by simp [low] at h
 |.stk _ _ _ _,h=>by simp [low] at h
 |.sptr _ _ _ _,h=>by simp [low] at h
 |.func _ a b,h=>by simp only [low,Bool.and_eq_true] at h;simp only [ren,BZ φ a h.1,BZ φ b h.2]
 |.iface _ v,h=>by simp only [low] at h;simp only [ren,DE φ v h]
 |.agg cs,h=>by simp only [low] at h;simp only [ren,BZ φ cs h]
 |.tup cs,h=>by simp only [low] at h;simp only [ren,BZ φ cs h]
theorem BZ (φ:Nat→Nat):∀(aS:List AV),lowL 0 aS=true→AL φ aS=aS
 |[],_=>rfl
 |a::aS,h=>by simp only [lowL,Bool.and_eq_true] at h;simp only [AL,DE φ a h.1,BZ φ aS h.2]
end
mutual
theorem CA {m n:Nat} (h:m≤n):∀(a:AV),low m a=true→low n a=true
 |.undef,_=>rfl
 |.bool _,_=>rfl
 |.int _ _,_=>rfl
 |.str _,_=>rfl
 |.nilPtr,_=>rfl
 |.nilSlice,_=>rfl
 |.emp,_=>rfl
 |.nilMap,_=>rfl
 |.nilFunc,_=>rfl
 |.adr _ _,_=>rfl
 |.nilIface,_=>rfl
 |.ptr _ _,k=>by simp only [low,decide_eq_true_eq] at k ⊢;omega
 |.bsl _ _ _ _ _,k=>by simp only [low,decide_eq_true_eq] at k ⊢;omega
 |.vptr cs _,k=>by simp only [low] at k ⊢;exact Am h cs k
 |.slice .unk _ _ cs,k=>by simp only [low] at k ⊢;exact Am h cs k
 |.slice .full _ _ cs,k=>by simp only [low] at k ⊢;exact Am h cs k
 |.slice (.tok t) _ _ cs,k=>by simp only [low,Bool.and_eq_true,decide_eq_true_eq] at k ⊢;exact ⟨by omega,Am h cs k.2⟩
 |.lsl t _ _ cs,k=>by simp only [low,Bool.and_eq_true,decide_eq_true_eq] at k ⊢;exact ⟨by omega,Am h cs k.2⟩
 |.lptr _ _ _,k=>by simp only [low,decide_eq_true_eq] at k ⊢;omega
 |.stk _ _ _ _,k=>by simp only [low,decide_eq_true_eq] at k ⊢;omega
 |.sptr _ _ _ _,k=>by simp only [low,decide_eq_true_eq] at k ⊢;omega
 |.func _ a b,k=>by simp only [low,Bool.and_eq_true] at k ⊢;exact ⟨Am h a k.1,Am h b k.2⟩
 |.iface _ v,k=>by simp only [low] at k ⊢;exact CA h v k
 |.agg cs,k=>by simp only [low] at k ⊢;exact Am h cs k
 |.tup cs,k=>by simp only [low] at k ⊢;exact Am h cs k
theorem Am {m n:Nat} (h:m≤n):∀(aS:List AV),lowL m aS=true→lowL n aS=true
 |[],_=>rfl
 |a::aS,k=>by simp only [lowL,Bool.and_eq_true] at k ⊢;exact ⟨CA h a k.1,Am h aS k.2⟩
end
theorem JC {H:AH} {id:Nat} {e e0:Ent} (h:H.at id=some e0):AH.at (H.set id (some e)) id=some e:=by rw [AH.at_set,if_pos ⟨rfl,DQ h⟩]
theorem aSn {H:AH} {id j:Nat} {e:Option Ent} (h:id≠j):AH.at (H.set id e) j=H.at j:=by rw [AH.at_set,if_neg (fun k=>h k.1)]
theorem Cb.set {H:AH} {id:Nat} {e e0:Ent} (h:H.at id=some e0):Cb H (H.set id (some e)):=by refine ⟨by simp,fun j _ hj => ?_⟩;rw [aSn,hj];rintro rfl;rw [h] at hj;cases hj
theorem CS.box {cs cs' rest:List AV} {v:AV} (h:CS P E f (.ptr 0 0::rest) [some (.box cs)] v [some (.box cs')]) (hE:∀i,low 0 (E.glob i)=true) (hr:lowL 0 rest=true) (hv:low 0 v=true) (hc:lowL 0 cs=true) (hc':lowL 0 cs'=true)
  {H:AH} {id:Nat} (hH:H.at id=some (.box cs)):CS P E f (.ptr id 0::rest) H v (H.set id (some (.box cs'))):=by
 have:=CS.embed (k:=1) (fun _=>id) (H:=H) (H':=H.set id (some (.box cs'))) h rfl rfl (ME id) hE (by simp [lowL,low,Am (Nat.zero_le 1) rest hr]) (CA (Nat.zero_le 1) v hv)
  (by simp [AU,At,Am (Nat.zero_le 1) cs hc]) (by simp [AU,At,Am (Nat.zero_le 1) cs' hc'])
  (fun i hi=>by
   obtain rfl:i=0:=by omega
   simp [AH.at,AI,BZ _ cs hc]
   exact hH)
  (fun i hi=>by
   obtain rfl:i=0:=by omega
   rw [JC hH]
   simp [AH.at,AI,BZ _ cs' hc'])
  (fun j hj=>aSn (hj 0 (by omega)))
 simpa [AL,ren,BZ _ rest hr,DE _ v hv] using this
end
structure Bs where
 g:Gh
 H:AH
 w:World
 R:Rel g H w
def Sat (B:Bs) (t:List AV) (H:AH) (a:Act) (w:World):Prop:=∃g,Rel g H w∧AQ B.g B.H B.w g H w∧AB g t a.tmps.toList∧a.defers=[]
def Tr (P:Program) (B:Bs) (c:Code) (t:List AV) (H:AH) (Q:AEx→List AV→AH→Prop):Prop :=∀(Q':Exit→Act→World→Prop) a w,Sat B t H a w→(∀ex t' H' a' w',Q ex t' H'→Sat B t' H' a' w'→Q' ex.ex a' w')→c.wp P Q' a w
section
variable {P:Program} {E:Env} {O:Orc} {B:Bs} {n:Nat} {t:List AV} {H:AH} {Q:AEx→List AV→AH→Prop}
theorem Tr.mono {c:Code} {Q1:AEx→List AV→AH→Prop} (h:Tr P B c t H Q1) (hQ:∀e t H,Q1 e t H→Q e t H):Tr P B c t H Q :=fun Q' a w hs k=>h Q' a w hs fun ex t' H' a' w' h1 h2=>k ex t' H' a' w' (hQ _ _ _ h1) h2
theorem Tr.of_W (hS:AT P E O) (hM:Ch P E) (pD:P.follows .mixedOrders=true) (hG:Al E B.g) {c:Code} (h:W O P E n c t H Q):Tr P B c t H Q:=by
 intro Q' a w hs k;obtain ⟨g,R,p,hT,hd⟩:=hs;unfold W at h;cases hr:AK O P E n c t H with
 |none=>rw [hr] at h;exact h.elim
 |some x =>
  obtain ⟨ex,t',H'⟩:=x;rw [hr] at h;refine GZ hS hM pD n c hr R (hG.mono p.le) hT hd fun g' a' w' R' p' hT' hd' => ?_
  exact k ex t' H' a' w' h ⟨g',R',AQ.trans B.R p p',hT',hd'⟩
theorem Tr.skip (h:Q .normal t H):Tr P B .skip t H Q:=fun Q' a w hs k=>wp_skip (k _ _ _ _ _ h hs)
theorem Tr.ret (h:Q .ret t H):Tr P B .ret t H Q:=fun Q' a w hs k=>wp_ret (k _ _ _ _ _ h hs)
theorem Tr.exit {id:Nat} (h:Q (.exit id) t H):Tr P B (.exit id) t H Q:=fun Q' a w hs k=>wp_exit (k _ _ _ _ _ h hs)
theorem Tr.seq {c d:Code} (h:Tr P B c t H (Goes (fun t1 H1=>Tr P B d t1 H1 Q) Q)):Tr P B (.seq c d) t H Q:=by
 intro Q' a w hs k;refine wp_seq (h _ a w hs fun ex t' H' a' w' h1 h2 => ?_);cases ex with
 |normal=>exact h1 Q' a' w' h2 k
 |exit id=>exact k _ _ _ _ _ h1 h2
 |ret=>exact k _ _ _ _ _ h1 h2
theorem Tr.block {id:Nat} {c:Code} (h:Tr P B c t H (Blk id Q)):Tr P B (.block id c) t H Q:=by
 intro Q' a w hs k;refine wp_block (h _ a w hs fun ex t' H' a' w' h1 h2 => ?_);cases ex with
 |normal=>exact k _ _ _ _ _ h1 h2
 |ret=>exact k _ _ _ _ _ h1 h2
 |exit id' =>
  simp only [Blk] at h1;simp only [AEx.ex,Exit.inBlock]
  split
  ·rename_i hid
   rw [if_pos hid] at h1;exact k _ _ _ _ _ h1 h2
  ·rename_i hid
   rw [if_neg hid] at h1;exact k _ _ _ _ _ h1 h2
theorem Tr.cond (hG:Al E B.g) {c:Operand} {x y:Code} (b:Bool) (hc:AC E t c = .bool b) (h1:b=true→Tr P B x t H Q) (h2:b=false→Tr P B y t H Q):Tr P B (.cond c x y) t H Q:=by
 intro Q' a w hs k;obtain ⟨g,R,p,hT,hd⟩:=hs;have he:=IE (hG.mono p.le) hT c;rw [hc] at he;simp only [AA] at he;cases b with
 |true=>exact wp_cond_true he (h1 rfl Q' a w ⟨g,R,p,hT,hd⟩ k)
 |false=>exact wp_cond_false he (h2 rfl Q' a w ⟨g,R,p,hT,hd⟩ k)
inductive Wk (m:Nat):AV→AV→Prop
 |undef (a:AV):Wk m a .undef
 |keep (a:AV) (h:low m a=true):Wk m a a
 |strip (a:AV) (h:low m (Fw.strip m a)=true):Wk m a (Fw.strip m a)
inductive WkL (m:Nat):List AV→List AV→Prop
 |nil:WkL m [] []
 |cons {a b:AV} {aS bs:List AV} (h:Wk m a b) (t:WkL m aS bs):WkL m (a::aS) (b::bs)
theorem Wk.low {m:Nat} {a b:AV} (h:Wk m a b):Fw.low m b=true:=by
 cases h with
 |undef=>rfl
 |keep h=>exact h
 |strip h=>exact h
theorem WkL.low {m:Nat} {aS bs:List AV} (h:WkL m aS bs):lowL m bs=true:=by
 induction h with
 |nil=>rfl
 |cons h _ ih=>simp only [lowL,h.low,ih,Bool.and_self]
theorem Wk.rep {g:Gh} {m:Nat} {a b:AV} (h:Wk m a b) {v:Value} (k:AA g a v):AA g b v:=by
 cases h with
 |undef=>simp [AA]
 |keep h=>exact k
 |strip h=>exact AA.strip m _ _ k
theorem WkL.rep {g:Gh} {m:Nat} {aS bs:List AV} (h:WkL m aS bs):∀{vs:List Value},AB g aS vs→AB g bs vs:=by
 induction h with
 |nil=>intro vs k;exact k
 |cons h _ ih =>intro vs k;simp only [AB] at k ⊢;obtain ⟨v,ws,hv,h1,h2⟩:=k;exact ⟨v,ws,hv,h.rep h1,ih h2⟩
theorem Sat.gc {m:Nat} (hm:B.H.length≤m) {t':List AV} (ht:WkL m t t') (hH:AU m (H.take m)=true) {a:Act} {w:World} (h:Sat B t H a w):Sat B t' (H.take m) a w:=by
 obtain ⟨g,R,p,hT,hd⟩:=h;have hM:∀id,id<m→(g.cut m).M id=g.M id:=fun id hi=>by simp [Gh.cut,hi]
 have od:∀id,m≤id→(g.cut m).M id=none:=fun id hi=>by simp only [Gh.cut];rw [if_neg (by omega)]
 have oX:∀{id e},(g.cut m).M id=some e→id<m∧g.M id=some e:=fun {id e} h=>by
  rcases Nat.lt_or_ge id m with hi|hi
  ·exact ⟨hi,by rw [←hM id hi];exact h⟩
  ·rw [od id hi] at h;cases h
 refine ⟨g.cut m,⟨R.imm,?_,?_,?_,?_⟩,⟨⟨p.le.G,?_⟩,?_,?_,p.old,p.size,p.os,p.tape,p.output⟩,AB.cut _ _ ht.low (ht.rep hT),hd⟩
 ·intro id hn
  rw [Ga] at hn
  split at hn
  ·rename_i hi
   rw [hM id hi];exact R.free id hn
  ·rename_i hi
   exact od id (by omega)
 ·intro id e he oL
  have pP:=he;rw [Ga] at he
  split at he
  ·rename_i hi
   obtain ⟨ge,h1,h2⟩:=R.ent id e he oL;refine ⟨ge,by rw [hM id hi];exact h1,?_⟩;cases e with
   |hid=>trivial
   |box cs =>
    cases ge with
    |box b =>obtain ⟨vs,el,h3,h4,h5⟩:=h2;exact ⟨vs,el,h3,AB.cut _ _ (OM (i:=id) hH pP) h4,h5⟩
    |tok=>exact h2
   |tok k=>cases ge with
    |box=>exact h2
    |tok b n sz cap=>exact h2
   |stk m' cs=>cases ge with
    |box=>exact h2
    |tok b n sz cap =>obtain ⟨h3,h4,⟨vs,el,h7,h8,h9⟩,h6⟩:=h2;exact ⟨h3,h4,⟨vs,el,h7,h8,AB.cut _ _ (OO (i:=id) hH pP) h9⟩,h6⟩
   |loose m' cs=>cases ge with
    |box=>exact h2
    |tok b n sz cap =>obtain ⟨h3,h4,h0,⟨vs,el,h7,h8,h9⟩,h6⟩:=h2;exact ⟨h3,h4,h0,⟨vs,el,h7,h8,AB.cut _ _ (ON (i:=id) hH pP) h9⟩,h6⟩
  ·cases he
 ·intro id id' e e' he he' hb
  exact R.inj id id' e e' (oX he).2 (oX he').2 hb
 ·intro id e he
  exact R.blk id e (oX he).2
 ·intro id e he
  have hi:id<m:=by
   rcases Nat.lt_or_ge id B.H.length with hi|hi
   ·omega
   ·rw [B.R.free id (C7 hi)] at he;cases he
  obtain ⟨e',h1,h2⟩:=p.le.M id e he;exact ⟨e',by rw [hM id hi];exact h1,h2⟩
 ·intro id he
  have hi:=DQ he;obtain ⟨h1,h2⟩:=p.hid id he;exact ⟨by rw [hM id (by omega)];exact h1,by rw [Ga,if_pos (by omega)];exact h2⟩
 ·intro id e he
  exact p.new id e (oX he).2
def AD (B:Bs) (t:List AV) (H:AH) (t':List AV) (H':AH):Prop:=∀a w,Sat B t H a w→Sat B t' H' a w
theorem AD.refl:AD B t H t H:=fun _ _ h=>h
theorem AD.take {t':List AV} {H':AH} (m:Nat) (h1:B.H.length≤m) (h2:WkL m t t') (h3:H.take m=H') (h4:AU m H'=true):AD B t H t' H':=by intro a w hs;subst h3;exact Sat.gc h1 h2 h4 hs
theorem Tr.less {c:Code} {t':List AV} {H':AH} (hl:AD B t H t' H') (h:Tr P B c t' H' Q):Tr P B c t H Q :=fun Q' a w hs k=>h Q' a w (hl a w hs) k
inductive WkV (ψ:Nat→Nat) (m:Nat):AV→AV→Prop
 |undef (a:AV):WkV ψ m a .undef
 |view (n:Nat) (a b:AV) (h:low m b=true) (he:Fw.strip n a=ren ψ b):WkV ψ m a b
inductive EG (ψ:Nat→Nat) (m:Nat):List AV→List AV→Prop
 |nil:EG ψ m [] []
 |cons {a b:AV} {aS bs:List AV} (h:WkV ψ m a b) (t:EG ψ m aS bs):EG ψ m (a::aS) (b::bs)
theorem EG.rep {ψ:Nat→Nat} {m:Nat} {g g':Gh} (hG:g.G=g'.G) (hM:∀i,i<m→g.M (ψ i)=g'.M i) {aS bs:List AV} (h:EG ψ m aS bs):∀{vs:List Value},AB g aS vs→AB g' bs vs:=by
 induction h with
 |nil=>intro vs k;exact k
 |cons h _ ih =>
  intro vs k;simp only [AB] at k ⊢;obtain ⟨v,ws,hv,h1,h2⟩:=k;refine ⟨v,ws,hv,?_,ih h2⟩;cases h with
  |undef=>simp [AA]
  |view n _ _ hl he =>have:=AA.strip n _ _ h1;rw [he] at this;exact (AA.ren (g:=g') (g':=g) hG hM _ _ hl).2 this
theorem AD.viewH {t':List AV} {H':AH} (ψ:Nat→Nat) (m:Nat) (hN:B.H.length≤m) (hψ:∀i j,i<m→j<m→ψ i=ψ j→i=j) (hid:∀i,i<B.H.length→B.H.at i≠none→ψ i=i) (oT:H'.length=m)
  (hH:∀i,i<m→H.at (ψ i)=(H'.at i).map (AI ψ)) (hl:AU m H'=true) (ht:EG ψ m t t'):AD B t H t' H':=by
 intro a w hs;obtain ⟨g,R,p,hT,hd⟩:=hs
 let g':Gh:={G:=g.G,M:=fun i=>if i<m then g.M (ψ i) else none}
 have hM:∀i,i<m→g.M (ψ i)=g'.M i:=fun i hi=>by simp [g',hi]
 have od:∀i,¬i<m→g'.M i=none:=fun i hi=>by simp [g',hi]
 refine ⟨g',⟨R.imm,?_,?_,?_,?_⟩,⟨⟨p.le.G,?_⟩,?_,?_,p.old,p.size,p.os,p.tape,p.output⟩,EG.rep (g:=g) (g':=g') rfl hM ht hT,hd⟩
 ·intro i hi
  by_cases oQ:i<m
  ·rw [←hM i oQ]
   exact R.free _ (by rw [hH i oQ,hi];rfl)
  ·exact od i oQ
 ·intro i e he oL
  have oQ:i<m:=by rw [←oT];exact DQ he
  obtain ⟨ge,h1,h2⟩:=R.ent (ψ i) (AI ψ e) (by rw [hH i oQ,he];rfl) (by cases e<;>simp_all [AI]);exact ⟨ge,by rw [←hM i oQ];exact h1,(B9.ren (g:=g') (g':=g) (k:=m) rfl hM (Hk hl he)).2 h2⟩
 ·intro i j e e' he he' hb
  by_cases oQ:i<m
  ·by_cases qr:j<m
   ·rw [←hM i oQ] at he
    rw [←hM j qr] at he';exact hψ i j oQ qr (R.inj _ _ _ _ he he' hb)
   ·rw [od j qr] at he';cases he'
  ·rw [od i oQ] at he;cases he
 ·intro i e he
  by_cases oQ:i<m
  ·rw [←hM i oQ] at he
   exact R.blk _ _ he
  ·rw [od i oQ] at he;cases he
 ·intro i e he
  have hi:i<B.H.length:=by
   rcases Nat.lt_or_ge i B.H.length with hi|hi
   ·exact hi
   ·rw [B.R.free i (C7 hi)] at he;cases he
  have oL:B.H.at i≠none:=fun h=>by rw [B.R.free i h] at he;cases he
  obtain ⟨e',h1,h2⟩:=p.le.M i e he;exact ⟨e',by rw [←hM i (by omega),hid i hi oL];exact h1,h2⟩
 ·intro i he
  have hi:=DQ he;have oL:B.H.at i≠none:=fun h=>by rw [h] at he;cases he
  obtain ⟨h1,h2⟩:=p.hid i he;refine ⟨by rw [←hM i (by omega),hid i hi oL];exact h1,?_⟩;have h3:=hH i (by omega);rw [hid i hi oL,h2] at h3;cases h:H'.at i with
  |none=>rw [h] at h3;cases h3
  |some e =>
   rw [h] at h3;simp only [Option.map_some,Option.some.injEq] at h3;cases e with
   |hid=>rfl
   |box cs=>simp only [AI] at h3;cases h3
   |tok n=>simp only [AI] at h3;cases h3
   |loose n cs=>simp only [AI] at h3;cases h3
   |stk n cs=>simp only [AI] at h3;cases h3
 ·intro i e he
  by_cases oQ:i<m
  ·rw [←hM i oQ] at he
   rcases p.new (ψ i) e he with ⟨e0,h0,hb⟩|h0
   ·have hi:ψ i<B.H.length:=by
     rcases Nat.lt_or_ge (ψ i) B.H.length with hi|hi
     ·exact hi
     ·rw [B.R.free _ (C7 hi)] at h0;cases h0
    have oL:B.H.at (ψ i)≠none:=fun h=>by rw [B.R.free _ h] at h0;cases h0
    have:i=ψ i:=hψ i (ψ i) oQ (by omega) (hid _ hi oL).symm;exact .inl ⟨e0,by rw [this];exact h0,hb⟩
   ·exact .inr h0
  ·rw [od i oQ] at he;cases he
theorem AD.view {t':List AV} {H':AH} (ψ:Nat→Nat) (m:Nat) (hN:B.H.length≤m) (hψ:∀i j,i<m→j<m→ψ i=ψ j→i=j) (hid:∀i,i<B.H.length→ψ i=i) (oT:H'.length=m)
  (hH:∀i,i<m→H.at (ψ i)=(H'.at i).map (AI ψ)) (hl:AU m H'=true) (ht:EG ψ m t t'):AD B t H t' H':=AD.viewH ψ m hN hψ (fun i hi _=>hid i hi) oT hH hl ht
theorem Tr.loop {L:Code} (I:Nat→List AV→AH→Prop) (k:Nat) (hI:I k t H)
  (h:∀k t H,I k t H→Tr P B L t H (Goes (fun t1 H1=>∃j t2 H2,j<k∧AD B t1 H1 t2 H2∧I j t2 H2) Q)):Tr P B (.loop L) t H Q:=by
 intro Q' a w hs hk;refine wp_loop_rounds (k+1) ?_
 have key:∀(m k:Nat) {t:List AV} {H:AH} {a:Act} {w:World},k<m→I k t H→Sat B t H a w→Code.rounds P L Q' m a w:=by
  intro m
  induction m with
  |zero=>intro k t H a w hm;omega
  |succ m ih =>
   intro k t H a w hm hI hs;rw [rounds_succ];refine h k t H hI _ a w hs fun ex t' H' a' w' h1 h2 => ?_
   cases ex with
   |normal =>obtain ⟨j,t2,H2,hj,hl,hI'⟩:=h1;exact ih j (by omega) hI' (hl a' w' h2)
   |exit id=>exact hk _ _ _ _ _ h1 h2
   |ret=>exact hk _ _ _ _ _ h1 h2
 exact key (k+1) k (by omega) hI hs
def mkT (n:Nat) (l:List (Nat × AV)):List AV:=(List.range n).map fun i=>(l.lookup i).getD .undef
theorem SO (n:Nat) (l:List (Nat × AV)):(mkT n l).length=n:=by simp [mkT]
theorem Jw (n:Nat) (l:List (Nat × AV)) (k:Nat):(mkT n l)[k]? = if k<n then some ((l.lookup k).getD .undef) else none:=by
 unfold mkT;rw [List.getElem?_map]
 split
 ·rename_i h
  rw [List.getElem?_range h];rfl
 ·rename_i h
  rw [List.getElem?_eq_none (by simp;omega)];rfl
theorem X3 (n:Nat) (l:List (Nat × AV)) (k:Nat) (h:k<n):(mkT n l).getD k .nothing=(l.lookup k).getD .undef:=by rw [List.getD_eq_getElem?_getD,Jw,if_pos h];rfl
theorem X4 (n:Nat) (l:List (Nat × AV)) (k:Nat) (v:AV):(mkT n l).set k v=mkT n ((k,v)::l):=by
 apply List.ext_getElem?;intro i;rw [List.getElem?_set,Jw,Jw,SO]
 by_cases hk:k=i
 ·subst hk
  rw [if_pos rfl]
  split
  ·simp [List.lookup]
  ·rfl
 ·rw [if_neg hk]
  split
  ·have:(i==k)=false:=by simp only [beq_eq_false_iff_ne];omega
   simp [List.lookup,this]
  ·rfl
theorem SP {l:List (Nat × AV)} {i:Nat} {v:AV} (h:l.lookup i=some v):(i,v)∈l:=by
 induction l with
 |nil=>simp at h
 |cons p l ih =>
  obtain ⟨j,u⟩:=p;simp only [List.lookup] at h
  split at h
  ·rename_i hj
   simp only [beq_iff_eq] at hj;injection h with h;subst h;subst hj;simp
  ·exact List.mem_cons_of_mem _ (ih h)
theorem WkL.map {α:Type} {m:Nat} {f f':α→AV}:∀{l:List α},(∀x∈l,Wk m (f x) (f' x))→WkL m (l.map f) (l.map f')
 |[],_ => .nil
 |x::l,h => .cons (h x List.mem_cons_self) (WkL.map fun y hy=>h y (List.mem_cons_of_mem _ hy))
theorem WkL.mkT {m n:Nat} {l l':List (Nat × AV)} (h:∀p∈l',Wk m ((l.lookup p.1).getD .undef) p.2):WkL m (Fw.mkT n l) (Fw.mkT n l'):=by
 refine WkL.map fun i _ => ?_
 cases hi:l'.lookup i with
 |none=>exact .undef _
 |some v=>exact h (i,v) (SP hi)
theorem EG.map {α:Type} {ψ:Nat→Nat} {m:Nat} {f f':α→AV}:∀{l:List α},(∀x∈l,WkV ψ m (f x) (f' x))→EG ψ m (l.map f) (l.map f')
 |[],_ => .nil
 |x::l,h => .cons (h x List.mem_cons_self) (EG.map fun y hy=>h y (List.mem_cons_of_mem _ hy))
theorem EG.mkT {ψ:Nat→Nat} {m n:Nat} {l l':List (Nat × AV)} (h:∀p∈l',WkV ψ m ((l.lookup p.1).getD .undef) p.2):EG ψ m (Fw.mkT n l) (Fw.mkT n l'):=by
 refine EG.map fun i _ => ?_
 cases hi:l'.lookup i with
 |none=>exact .undef _
 |some v=>exact h (i,v) (SP hi)
theorem AD.mkT {n:Nat} {l l':List (Nat × AV)} {H H':AH} (m:Nat) (hm:B.H.length≤m) (h:∀p∈l',Wk m ((l.lookup p.1).getD .undef) p.2) (hH:H.take m=H') (hl:AU m H'=true):AD B (Fw.mkT n l) H (Fw.mkT n l') H' :=.take m hm (.mkT h) hH hl
def Eo:Nat→List AV→List (Nat × AV)
 |_,[]=>[]
 |k,a::aS=>(k,a)::Eo (k+1) aS
theorem SQ:∀(aS:List AV) (k i:Nat),(Eo k aS).lookup i=if k≤i then aS[i-k]? else none
 |[],k,i=>by simp [Eo]
 |a::aS,k,i=>by
  simp only [Eo,List.lookup]
  by_cases h:i=k
  ·subst h
   simp
  ·have:(i==k)=false:=by simpa using h
   rw [this,SQ aS (k+1) i];simp only
   by_cases hk:k≤i
   ·rw [if_pos hk,if_pos (by omega),show i-k=(i-(k+1))+1 by omega]
    simp
   ·rw [if_neg hk,if_neg (by omega)]
theorem AB.of_get {g:Gh}:∀{aS:List AV} {vs:List Value},aS.length=vs.length→(∀(i:Nat) (a:AV) (v:Value),aS[i]? = some a→vs[i]? = some v→AA g a v)→AB g aS vs
 |[],[],_,_=>by simp [AB]
 |[],_::_,h,_=>by simp at h
 |_::_,[],h,_=>by simp at h
 |a::aS,v::vs,h,k=>by simp only [AB];exact ⟨v,vs,rfl,k 0 a v rfl rfl,AB.of_get (by simpa using h) fun i a' v' h1 h2=>k (i+1) a' v' (by simpa using h1) (by simpa using h2)⟩
theorem AB.mkT_args {g:Gh} {args:List AV} {vs:List Value} {n:Nat} (hn:args.length≤n) (h:AB g (args++List.replicate (n-args.length) .nothing) vs):AB g (mkT n (Eo 0 args)) vs:=by
 refine AB.of_get (by rw [h.length,SO];simp;omega) fun i a v h1 h2 => ?_
 rw [Jw] at h1
 split at h1
 ·injection h1 with h1
  rw [SQ,if_pos (Nat.zero_le _),Nat.sub_zero] at h1;cases hi:args[i]? with
  |none=>rw [hi] at h1;subst h1;simp [AA]
  |some b =>rw [hi] at h1;obtain rfl:b=a:=h1;obtain ⟨v',h3,h4⟩:=h.get (i:=i) (a:=b) (by rw [List.getElem?_append_left (List.getElem?_eq_some_iff.1 hi).1];exact hi);rw [h2] at h3;injection h3 with h3;subst h3;exact h4
 ·cases h1
theorem Rel.gc_end {g:Gh} {H H1:AH} {w w1:World} {g1:Gh} {v:AV} {cv:Value} (R:Rel g H w) (R1:Rel g1 H1 w1) (p1:AQ g H w g1 H1 w1) (hr:AA g1 v cv) (k:Nat)
  (hv:low H.length (Fw.strip H.length (frz H.length H1 k v))=true) (hH:AU H.length (H1.take H.length)=true) :
  ∃g',Rel g' (H1.take H.length) w1∧AQ g H w g' (H1.take H.length) w1∧AA g' (Fw.strip H.length (frz H.length H1 k v)) cv:=Rel.gc_endN H.length (Nat.le_refl _) R R1 p1 hr k hv hH
def Fin (P:Program) (fn:Func) (N k:Nat) (v:AV) (H1:AH):AEx→List AV→AH→Prop:=fun e t H' =>(∀id,e ≠ .exit id)∧WS (BC P H' t fn.results.toList) fun vs=>Fw.strip N (frz N H' k (BH vs))=v∧H'.take N=H1
theorem Dq (fn:Func) (N k:Nat) (v:AV) (H1 H':AH) (t:List AV):Fin P fn N k v H1 .ret t H'↔WS (BC P H' t fn.results.toList) fun vs=>Fw.strip N (frz N H' k (BH vs))=v∧H'.take N=H1:=by simp [Fin]
theorem X5 (fn:Func) (N k:Nat) (v:AV) (H1 H':AH) (t:List AV):Fin P fn N k v H1 .normal t H'↔WS (BC P H' t fn.results.toList) fun vs=>Fw.strip N (frz N H' k (BH vs))=v∧H'.take N=H1:=by simp [Fin]
theorem CS.of_Tr {f:FuncId} {fn:Func} {c:Code} {args:List AV} {v:AV} {H0 H1:AH} (hf:P.funcs[f]? = some fn) (hb:fn.body=some c) (k:Nat) (hn:args.length≤fn.ntmps)
  (h:∀B:Bs,B.H=H0→Al E B.g→Tr P B c (mkT fn.ntmps (Eo 0 args)) H0 (Fin P fn H0.length k v H1)) (hv:low H0.length v=true) (hl:AU H0.length H1=true):CS P E f args H0 v H1:=by
 intro g w cargs R hG hA;refine calls_of_wp hf hb ?_
 have hT:AB g (args++List.replicate (fn.ntmps-args.length) .nothing) (List.toArray cargs++Array.replicate (fn.ntmps-(List.toArray cargs).size) undef).toList:=by simp only [Array.toList_append,Array.toList_replicate,List.size_toArray,hA.length];exact hA.append (AB.replicate _ (by simp [AV.nothing,AA,AB,undef]))
 refine h ⟨g,H0,w,R⟩ rfl hG _ _ w ⟨g,R,AQ.refl g H0 w,AB.mkT_args hn hT,rfl⟩ ?_;rintro ex t' H' a' w' ⟨oL,hw⟩ ⟨g',R',p',hT',hd'⟩;cases hr:BC P H' t' fn.results.toList with
 |none=>rw [hr] at hw;exact hw.elim
 |some vs =>
  rw [hr] at hw;obtain ⟨uB,uC⟩:=hw;obtain ⟨us,h1,h2⟩:=Kt (P:=P) R' hT' _ _ hr
  have oM:(results fn a'.tmps).run P w' = .ok (if hs:(List.toArray us).size=1 then (List.toArray us)[0] else .tuple (List.toArray us)) w':=by have e1:results fn a'.tmps=(do let vs ←fn.results.mapM (Jt a'.tmps);pure (if hs:vs.size=1 then vs[0] else .tuple vs)):=rfl;rw [e1,Array.mapM_eq_mapM_toList];simp only [Sem.run_bind,Sem.run_map,h2,Result.andThen_ok];rfl
  obtain ⟨g2,h3,h4,h5⟩:=Rel.gc_end R R' p' (L8 h1) k (by rw [uB];exact hv) (by rw [uC];exact hl);rw [uB] at h5;rw [uC] at h3 h4;cases ex with
  |normal=>exact ⟨hd',_,oM,g2,_,rfl,h3,h4,h5⟩
  |exit id=>exact (oL _ rfl).elim
  |ret=>exact ⟨hd',_,oM,g2,_,rfl,h3,h4,h5⟩
end
def WU (r:Option (AV × Ups)) (K:AV→Prop):Prop :=
 match r with
 |some (v,[])=>K v
 |_=>False
section
variable (O:Orc) (P:Program) (E:Env)
def WP (ops:Array Oper) (l:List (Oper × Nat)) (t:List AV) (H:AH) (K:List AV→Prop):Prop:=WS (evP O P E ops l t H) K
variable {O P E} {n:Nat} {t:List AV} {H:AH} {Q:AEx→List AV→AH→Prop}
theorem X6 (ops:Array Oper) (K:List AV→Prop):WP O P E ops [] t H K↔K t:=by simp only [WP,evP,WS]
theorem X7 (ops:Array Oper) (p:Oper × Nat) (rest:List (Oper × Nat)) (K:List AV→Prop) :
  WG (Ap ops t p.1) (WP O P E ops rest (AX t p.1.dst .nothing) H K)
   (WU (BG O P E (AC E t) (mask H (BB E H (AC E t) p)) p.2 (BB E H (AC E t) p) p.1) fun v=>WP O P E ops rest (AX t p.1.dst v) H K) →
  WP O P E ops (p::rest) t H K:=by
 intro h;simp only [WP,evP,CX];cases hw:Ap ops t p.1 with
 |none=>rw [hw] at h;exact h.elim
 |some b =>
  rw [hw] at h;cases b with
  |false =>have:=h.1 rfl;simpa only [WP] using this
  |true =>
   have h1:=h.2 rfl;simp only;cases hs:BG O P E (AC E t) (mask H (BB E H (AC E t) p)) p.2 (BB E H (AC E t) p) p.1 with
   |none=>rw [hs] at h1;exact h1.elim
   |some r =>
    obtain ⟨v,u⟩:=r;rw [hs] at h1;cases u with
    |nil=>simpa only [List.all_nil,if_true,WP,WU] using h1
    |cons x u=>exact h1.elim
theorem X8 {id:Nat} {ops:Array Oper} (h0:Ag E ops.toList=0) (hs:∀n,JA ops (Dc 0 (CE [] ops.toList) (AY E ops.toList n))=true) (hb:F8 0 ops.toList=true)
  (h:WP O P E ops (AY E ops.toList H.length) t H fun t'=>Q .normal t' H):W O P E n (.region id ops true) t H Q:=by
 rw [OZ];unfold WP at h;cases hr:evP O P E ops (AY E ops.toList H.length) t H with
 |none=>rw [hr] at h;exact h.elim
 |some t' =>rw [hr] at h;rw [SK h0 hr hs hb];exact h
end
section
variable {P:Program} {E:Env} {O:Orc} {B:Bs} {n:Nat} {Q:AEx→List AV→AH→Prop}
noncomputable def EY:Nat→Code→Bool
 |0,_=>true
 |k+1,.seq _ b=>EY k b
 |_+1,_=>false
theorem Tr.split (hS:AT P E O) (hM:Ch P E) (pD:P.follows .mixedOrders=true) (hG:Al E B.g):∀(k:Nat) (c:Code) {t:List AV} {H:AH},EY k c=true →
  W O P E n (C1 k c) t H (Goes (fun t1 H1=>Tr P B (Cj k c) t1 H1 Q) Q)→Tr P B c t H Q
 |0,c,t,H,_,h=>by simpa only [C1,Cj,SL,Goes] using h
 |k+1,.seq a b,t,H,hs,h=>by
  simp only [C1,Cj,SM] at h;refine Tr.seq (Tr.mono (Tr.of_W hS hM pD hG h) fun e t1 H1 h1 => ?_);cases e with
  |normal=>exact Tr.split hS hM pD hG k b hs h1
  |exit id=>exact h1
  |ret=>exact h1
 |_+1,.skip,_,_,hs,_=>by simp [EY] at hs
 |_+1,.region _ _ _,_,_,hs,_=>by simp [EY] at hs
 |_+1,.cond _ _ _,_,_,hs,_=>by simp [EY] at hs
 |_+1,.block _ _,_,_,hs,_=>by simp [EY] at hs
 |_+1,.loop _,_,_,hs,_=>by simp [EY] at hs
 |_+1,.exit _,_,_,hs,_=>by simp [EY] at hs
 |_+1,.ret,_,_,hs,_=>by simp [EY] at hs
 |_+1,.rangeFunc _ _ _ _,_,_,hs,_=>by simp [EY] at hs
 |_+1,.scope _,_,_,hs,_=>by simp [EY] at hs
 |_+1,.label _,_,_,hs,_=>by simp [EY] at hs
 |_+1,.goto _,_,_,hs,_=>by simp [EY] at hs
 |_+1,.refuse _,_,_,hs,_=>by simp [EY] at hs
end
section
variable (O:Orc) (P:Program) (E:Env)
def WPx (ops:Array Oper):List (Oper × Nat)→List AV→AH→(List AV→Prop)→Prop
 |[],t,_,K=>K t
 |p::rest,t,H,K=>WG (Ap ops t p.1) (WPx ops rest (AX t p.1.dst .nothing) H K)
   (WU (BG O P E (AC E t) (mask H (BB E H (AC E t) p)) p.2 (BB E H (AC E t) p) p.1) fun v=>WPx ops rest (AX t p.1.dst v) H K)
def WOx (ops:Array Oper):List (Oper × Nat)→List AV→AH→(List AV→AH→Prop)→Prop
 |[],t,H,K=>K t H
 |p::rest,t,H,K=>WG (Ap ops t p.1) (WOx ops rest (AX t p.1.dst .nothing) H K)
   (WS (AW O P E (AC E t) H p.2 p.1) fun r=>WOx ops rest (AX t p.1.dst r.1) r.2 K)
abbrev EH:=Code→List AV→AH→(AEx→List AV→AH→Prop)→Prop
def Gb:EH:=fun _ _ _ _=>False
def Wt (Lp:EH):Code→List AV→AH→(AEx→List AV→AH→Prop)→Prop
 |.skip,t,H,Q=>Q .normal t H
 |.region _ ops false,t,H,Q=>WOx O P E ops (AY E ops.toList H.length) t (grow H (Ag E ops.toList)) fun t1 H1=>Q .normal t1 H1
 |.region _ ops true,t,H,Q=>WPx O P E ops (AY E ops.toList H.length) t H fun t1=>Q .normal t1 H
 |.seq a b,t,H,Q=>Wt Lp a t H (Goes (fun t1 H1=>Wt Lp b t1 H1 Q) Q)
 |.cond c a b,t,H,Q=>WB (AC E t c) (Wt Lp a t H Q) (Wt Lp b t H Q)
 |.block id c,t,H,Q=>Wt Lp c t H (Blk id Q)
 |.exit id,t,H,Q=>Q (.exit id) t H
 |.ret,t,H,Q=>Q .ret t H
 |.loop c,t,H,Q=>Lp c t H Q
 |_,_,_,_=>False
abbrev Wx:Code→List AV→AH→(AEx→List AV→AH→Prop)→Prop:=Wt O P E Gb
def Jx:Nat→List Nat→List Oper→List (Nat × Nat × Oper)
 |_,_,[]=>[]
 |i,ms,o::os=>(i,ms.getD i 0,o)::Jx (i+1) ms os
def SR (ops:Array Oper):Bool:=(Ag E ops.toList==0)&&JA ops (Jx 0 (CE [] ops.toList) ops.toList)&&F8 0 ops.toList
def C2:Code→Bool
 |.region _ ops true=>SR E ops
 |.seq a b=>C2 a&&C2 b
 |.cond _ a b=>C2 a&&C2 b
 |.block _ c=>C2 c
 |_=>true
end
section
variable {O:Orc} {P:Program} {E:Env} {n:Nat}
theorem Kx:∀(l:List Oper) (i:Nat) (ms:List Nat) (k:Nat),Dc i ms (AY E l k)=Jx i ms l
 |[],_,_,_=>rfl
 |o::l,i,ms,k=>by simp only [AY,Dc,Jx,Kx l]
theorem WPx.sound {ops:Array Oper}:∀{l:List (Oper × Nat)} {t:List AV} {H:AH} {K:List AV→Prop},WPx O P E ops l t H K→WP O P E ops l t H K
 |[],_,_,_,h=>X6 _ _ |>.2 h
 |p::rest,t,H,K,h=>by
  refine X7 _ _ _ _ ?_;simp only [WPx] at h
  revert h
  cases Ap ops t p.1 with
  |none=>exact id
  |some b =>
   intro h;refine ⟨fun hb=>WPx.sound (h.1 hb),fun hb => ?_⟩;have:=h.2 hb
   revert this
   cases BG O P E (AC E t) (mask H (BB E H (AC E t) p)) p.2 (BB E H (AC E t) p) p.1 with
   |none=>exact id
   |some r =>
    obtain ⟨v,u⟩:=r;cases u with
    |nil=>exact fun h=>WPx.sound h
    |cons x u=>exact id
theorem WOx.sound {ops:Array Oper}:∀{l:List (Oper × Nat)} {t:List AV} {H:AH} {K:List AV→AH→Prop},WOx O P E ops l t H K→WO O P E ops l t H K
 |[],_,_,_,h=>(Xv _ _).2 h
 |(o,fid)::rest,t,H,K,h=>by
  rw [Xw];simp only [WOx] at h
  revert h
  cases Ap ops t o with
  |none=>exact id
  |some b =>
   intro h;refine ⟨fun hb=>WOx.sound (h.1 hb),fun hb => ?_⟩;have:=h.2 hb
   revert this
   cases AW O P E (AC E t) H fid o with
   |none=>exact id
   |some r=>exact fun h=>WOx.sound h
theorem Wx.sound:∀{c:Code} {t:List AV} {H:AH} {Q:AEx→List AV→AH→Prop},C2 E c=true→Wx O P E c t H Q→W O P E n c t H Q
 |.skip,_,_,_,_,h=>SL.2 h
 |.region _ ops false,t,H,Q,_,h=>(SN _ _).2 (WOx.sound h)
 |.region _ ops true,t,H,Q,hd,h=>by simp only [C2,SR,Bool.and_eq_true,beq_iff_eq] at hd;exact X8 hd.1.1 (fun n=>by rw [Kx];exact hd.1.2) hd.2 (WPx.sound h)
 |.seq a b,t,H,Q,hd,h=>by
  simp only [C2,Bool.and_eq_true] at hd;rw [SM];refine zDD (Wx.sound (c:=a) hd.1 h) fun e t1 H1 h1 => ?_
  cases e with
  |normal=>exact Wx.sound (c:=b) hd.2 h1
  |exit id=>exact h1
  |ret=>exact h1
 |.cond c a b,t,H,Q,hd,h=>by
  simp only [C2,Bool.and_eq_true] at hd;rw [Xt];simp only [Wt] at h
  revert h
  cases AC E t c with
  |bool v=>exact fun h=>⟨fun hv=>Wx.sound (c:=a) hd.1 (h.1 hv),fun hv=>Wx.sound (c:=b) hd.2 (h.2 hv)⟩
  |_=>exact id
 |.block id c,t,H,Q,hd,h=>by simp only [C2] at hd;rw [Xu];exact Wx.sound (c:=c) hd h
 |.exit id,_,_,_,_,h=>(Xr id).2 h
 |.ret,_,_,_,_,h=>Xs.2 h
 |.loop _,_,_,_,_,h=>by simp only [Wx,Wt,Gb] at h
 |.rangeFunc _ _ _ _,_,_,_,_,h=>by simp only [Wx,Wt,Gb] at h
 |.scope _,_,_,_,_,h=>by simp only [Wx,Wt,Gb] at h
 |.label _,_,_,_,_,h=>by simp only [Wx,Wt,Gb] at h
 |.goto _,_,_,_,_,h=>by simp only [Wx,Wt,Gb] at h
 |.refuse _,_,_,_,_,h=>by simp only [Wx,Wt,Gb] at h
variable {B:Bs} {t:List AV} {H:AH} {Q:AEx→List AV→AH→Prop}
structure Cx (O:Orc) (P:Program) (E:Env):Prop where
 sound:AT P E O
 meth:Ch P E
 mix:P.follows .mixedOrders=true
theorem Tr.run (X:Cx O P E) (hG:Al E B.g) {c:Code} (hd:C2 E c=true) (h:Wx O P E c t H Q):Tr P B c t H Q :=Tr.of_W (n:=0) X.sound X.meth X.mix hG (Wx.sound hd h)
def LpT (P:Program) (B:Bs):EH:=fun c t H Q=>Tr P B (.loop c) t H Q
theorem Wt.tr (X:Cx O P E) (hG:Al E B.g):∀{c:Code} {t:List AV} {H:AH} {Q:AEx→List AV→AH→Prop},C2 E c=true→Wt O P E (LpT P B) c t H Q→Tr P B c t H Q
 |.skip,_,_,_,_,h=>Tr.skip h
 |.region id ops false,t,H,Q,hd,h=>Tr.of_W (n:=0) X.sound X.meth X.mix hG ((SN _ _).2 (WOx.sound h))
 |.region id ops true,t,H,Q,hd,h=>Tr.of_W (n:=0) X.sound X.meth X.mix hG (Wx.sound (c := .region id ops true) hd h)
 |.seq a b,t,H,Q,hd,h=>by
  simp only [C2,Bool.and_eq_true] at hd;refine Tr.seq (Tr.mono (Wt.tr X hG (c:=a) hd.1 h) fun e t1 H1 h1 => ?_);cases e with
  |normal=>exact Wt.tr X hG (c:=b) hd.2 h1
  |exit id=>exact h1
  |ret=>exact h1
 |.cond c a b,t,H,Q,hd,h=>by
  simp only [C2,Bool.and_eq_true] at hd;simp only [Wt] at h;cases hv:AC E t c with
  |bool v =>rw [hv] at h;exact Tr.cond hG v hv (fun k=>Wt.tr X hG (c:=a) hd.1 (h.1 k)) (fun k=>Wt.tr X hG (c:=b) hd.2 (h.2 k))
  |_=>rw [hv] at h;exact h.elim
 |.block id c,t,H,Q,hd,h=>by simp only [C2] at hd;exact Tr.block (Wt.tr X hG (c:=c) hd h)
 |.exit id,_,_,_,_,h=>Tr.exit h
 |.ret,_,_,_,_,h=>Tr.ret h
 |.loop _,_,_,_,_,h=>h
 |.rangeFunc _ _ _ _,_,_,_,_,h=>by simp only [Wt] at h
 |.scope _,_,_,_,_,h=>by simp only [Wt] at h
 |.label _,_,_,_,_,h=>by simp only [Wt] at h
 |.goto _,_,_,_,_,h=>by simp only [Wt] at h
 |.refuse _,_,_,_,_,h=>by simp only [Wt] at h
theorem Tr.runs (X:Cx O P E) (hG:Al E B.g) (k:Nat) {c:Code} (hs:EY k c=true) (hd:C2 E (C1 k c)=true) (h:Wx O P E (C1 k c) t H (Goes (fun t1 H1=>Tr P B (Cj k c) t1 H1 Q) Q)):Tr P B c t H Q :=Tr.split (n:=0) X.sound X.meth X.mix hG k c hs (Wx.sound hd h)
end
mutual
theorem JD (n:Nat):∀(a:AV),low 0 a=true→Fw.strip n a=a
 |.undef,_=>rfl
 |.bool _,_=>rfl
 |.int _ _,_=>rfl
 |.str _,_=>rfl
 |.nilPtr,_=>rfl
 |.nilSlice,_=>rfl
 |.emp,_=>rfl
 |.nilMap,_=>rfl
 |.nilFunc,_=>rfl
 |.adr _ _,_=>rfl
 |.nilIface,_=>rfl
 |.ptr _ _,_=>rfl
 |.bsl _ _ _ _ _,_=>rfl
 |.vptr cs _,h=>by simp only [low] at h;simp only [strip,Ep n cs h]
 |.slice .unk _ _ cs,h=>by simp only [low] at h;simp only [strip,Ep n cs h]
 |.slice .full _ _ cs,h=>by simp only [low] at h;simp only [strip,Ep n cs h]
 |.slice (.tok t) _ _ cs,h=>by simp [low] at h
 |.lsl _ _ _ _,h=>by simp [low] at h
 |.lptr _ _ _,_=>rfl
 |.stk _ _ _ _,_=>rfl
 |.sptr _ _ _ _,_=>rfl
 |.func _ a b,h=>by simp only [low,Bool.and_eq_true] at h;simp only [strip,Ep n a h.1,Ep n b h.2]
 |.iface _ v,h=>by simp only [low] at h;simp only [strip,JD n v h]
 |.agg cs,h=>by simp only [low] at h;simp only [strip,Ep n cs h]
 |.tup cs,h=>by simp only [low] at h;simp only [strip,Ep n cs h]
theorem Ep (n:Nat):∀(aS:List AV),lowL 0 aS=true→CU n aS=aS
 |[],_=>rfl
 |a::aS,h=>by simp only [lowL,Bool.and_eq_true] at h;simp only [CU,JD n a h.1,Ep n aS h.2]
end
mutual
theorem Oa (N:Nat) (H:AH):∀(k:Nat) (a:AV),low 0 a=true→frz N H k a=a
 |0,_,_=>by simp only [frz]
 |_+1,.undef,_=>rfl
 |_+1,.bool _,_=>rfl
 |_+1,.int _ _,_=>rfl
 |_+1,.str _,_=>rfl
 |_+1,.nilPtr,_=>rfl
 |_+1,.nilSlice,_=>rfl
 |_+1,.emp,_=>rfl
 |_+1,.nilMap,_=>rfl
 |_+1,.nilFunc,_=>rfl
 |_+1,.adr _ _,_=>rfl
 |_+1,.nilIface,_=>rfl
 |_+1,.ptr _ _,h=>by simp [low] at h
 |_+1,.bsl _ _ _ _ _,h=>by simp [low] at h
 |k+1,.vptr cs _,h=>by simp only [low] at h;simp only [frz,Hl N H k cs h]
 |k+1,.slice .unk _ _ cs,h=>by simp only [low] at h;simp only [frz,Hl N H k cs h]
 |k+1,.slice .full _ _ cs,h=>by simp only [low] at h;simp only [frz,Hl N H k cs h]
 |k+1,.slice (.tok t) _ _ cs,h=>by simp [low] at h
 |_+1,.lsl _ _ _ _,_=>rfl
 |_+1,.lptr _ _ _,_=>rfl
 |_+1,.stk _ _ _ _,_=>rfl
 |_+1,.sptr _ _ _ _,_=>rfl
 |k+1,.func _ a b,h=>by simp only [low,Bool.and_eq_true] at h;simp only [frz,Hl N H k a h.1,Hl N H k b h.2]
 |k+1,.iface _ v,h=>by simp only [low] at h;simp only [frz,Oa N H k v h]
 |k+1,.agg cs,h=>by simp only [low] at h;simp only [frz,Hl N H k cs h]
 |k+1,.tup cs,h=>by simp only [low] at h;simp only [frz,Hl N H k cs h]
theorem Hl (N:Nat) (H:AH):∀(k:Nat) (aS:List AV),lowL 0 aS=true→aS.map (frz N H k)=aS
 |_,[],_=>rfl
 |k,a::aS,h=>by simp only [lowL,Bool.and_eq_true] at h;simp only [List.map_cons,Oa N H k a h.1,Hl N H k aS h.2]
end
theorem Dd (n:Nat):∀(aS bs:List AV),lowL n (aS++bs)=(lowL n aS&&lowL n bs)
 |[],bs=>by simp [lowL]
 |a::aS,bs=>by simp [lowL,Dd n aS bs,Bool.and_assoc]
theorem SS {α:Type} (n:Nat) (f:α→List AV) (h:∀x,lowL n (f x)=true):∀l:List α,lowL n (l.flatMap f)=true
 |[]=>rfl
 |x::l=>by simp [Dd,h x,SS n f h l]
theorem WkV.same {ψ:Nat→Nat} {m:Nat} {a b:AV} (h:a=b) (hl:Fw.low 0 b=true):WkV ψ m a b:=by subst h;exact .view 0 a a (CA (Nat.zero_le m) a hl) (by rw [JD 0 a hl,DE ψ a hl])
theorem Wk.same {m:Nat} {a b:AV} (h:a=b) (hl:Fw.low m b=true):Wk m a b:=by subst h;exact .keep a hl
theorem AS {α:Sort _} {a b:α} (h:a=b):a=b:=h
inductive Fr where
 |seq (c:Code)
 |blk (id:Nat)
section
variable (O:Orc) (P:Program) (E:Env) (Lp:EH)
def unwind:List Fr→(AEx→List AV→AH→Prop)→AEx→List AV→AH→Prop
 |[],Q=>Q
 |.seq b::ks,Q=>Goes (fun t H=>Wt O P E Lp b t H (unwind ks Q)) (unwind ks Q)
 |.blk id::ks,Q=>Blk id (unwind ks Q)
def Go (c:Code) (ks:List Fr) (t:List AV) (H:AH) (Q:AEx→List AV→AH→Prop):Prop:=Wt O P E Lp c t H (unwind O P E Lp ks Q)
def GoO (ops:Array Oper) (l:List (Oper × Nat)) (ks:List Fr) (t:List AV) (H:AH) (Q:AEx→List AV→AH→Prop):Prop:=WOx O P E ops l t H fun t1 H1=>unwind O P E Lp ks Q .normal t1 H1
def GoS (r:Option (AV × AH)) (dst:Option Tmp) (ops:Array Oper) (l:List (Oper × Nat)) (ks:List Fr) (t:List AV) (Q:AEx→List AV→AH→Prop):Prop:=WS r fun r=>GoO O P E Lp ops l ks (AX t dst r.1) r.2 Q
def GoV (r:Option AV) (dst:Option Tmp) (ops:Array Oper) (l:List (Oper × Nat)) (ks:List Fr) (t:List AV) (H:AH) (Q:AEx→List AV→AH→Prop):Prop:=WS r fun v=>GoO O P E Lp ops l ks (AX t dst v) H Q
def GoU (r:Option (AV × Ups)) (dst:Option Tmp) (ops:Array Oper) (l:List (Oper × Nat)) (ks:List Fr) (t:List AV) (H:AH) (Q:AEx→List AV→AH→Prop):Prop:=WS r fun r=>GoO O P E Lp ops l ks (AX t dst r.1) (AR H r.2) Q
def GoG (w:Option Bool) (ops:Array Oper) (o:Oper) (fid:Nat) (l:List (Oper × Nat)) (ks:List Fr) (t:List AV) (H:AH) (Q:AEx→List AV→AH→Prop):Prop :=WG w (GoO O P E Lp ops l ks (AX t o.dst .nothing) H Q) (GoS O P E Lp (AW O P E (AC E t) H fid o) o.dst ops l ks t Q)
def GoP (ops:Array Oper) (l:List (Oper × Nat)) (ks:List Fr) (t:List AV) (H:AH) (Q:AEx→List AV→AH→Prop):Prop:=WPx O P E ops l t H fun t1=>unwind O P E Lp ks Q .normal t1 H
def CL (r:Option (AV × Ups)) (dst:Option Tmp) (ops:Array Oper) (l:List (Oper × Nat)) (ks:List Fr) (t:List AV) (H:AH) (Q:AEx→List AV→AH→Prop):Prop:=WU r fun v=>GoP O P E Lp ops l ks (AX t dst v) H Q
def Cz (r:Option AV) (dst:Option Tmp) (ops:Array Oper) (l:List (Oper × Nat)) (ks:List Fr) (t:List AV) (H:AH) (Q:AEx→List AV→AH→Prop):Prop:=WS r fun v=>GoP O P E Lp ops l ks (AX t dst v) H Q
def Ob (w:Option Bool) (ops:Array Oper) (o:Oper) (fid:Nat) (l:List (Oper × Nat)) (ks:List Fr) (t:List AV) (H:AH) (Q:AEx→List AV→AH→Prop):Prop :=WG w (GoP O P E Lp ops l ks (AX t o.dst .nothing) H Q) (CL O P E Lp (BG O P E (AC E t) (mask H (BB E H (AC E t) (o,fid))) fid (BB E H (AC E t) (o,fid)) o) o.dst ops l ks t H Q)
def GoB (v:AV) (a b:Code) (ks:List Fr) (t:List AV) (H:AH) (Q:AEx→List AV→AH→Prop):Prop:=WB v (Go O P E Lp a ks t H Q) (Go O P E Lp b ks t H Q)
def GoD (p:Prop) (a b:Code) (ks:List Fr) (t:List AV) (H:AH) (Q:AEx→List AV→AH→Prop):Prop:=(p→Go O P E Lp a ks t H Q)∧(¬p→Go O P E Lp b ks t H Q)
def Jy (p:Prop) (ops:Array Oper) (o:Oper) (fid:Nat) (l:List (Oper × Nat)) (ks:List Fr) (t:List AV) (H:AH) (Q:AEx→List AV→AH→Prop):Prop :=(¬p→GoO O P E Lp ops l ks (AX t o.dst .nothing) H Q)∧(p→GoS O P E Lp (AW O P E (AC E t) H fid o) o.dst ops l ks t Q)
def Jz (p:Prop) (ops:Array Oper) (o:Oper) (fid:Nat) (l:List (Oper × Nat)) (ks:List Fr) (t:List AV) (H:AH) (Q:AEx→List AV→AH→Prop):Prop :=
 (¬p→GoP O P E Lp ops l ks (AX t o.dst .nothing) H Q) ∧
  (p→CL O P E Lp (BG O P E (AC E t) (mask H (BB E H (AC E t) (o,fid))) fid (BB E H (AC E t) (o,fid)) o) o.dst ops l ks t H Q)
def GoX (b:Prop) [Decidable b] (id:Nat) (ks:List Fr) (t:List AV) (H:AH) (Q:AEx→List AV→AH→Prop):Prop:=if b then Go O P E Lp .skip ks t H Q else Go O P E Lp (.exit id) ks t H Q
end
def IL (O:Orc) (P:Program) (v:AV) (aS:List AV) (H:AH):Option (AV × AH) :=
 match v with
 |.func (.func i) first cap=>if AG P i=true then O i (first++aS++cap) H else none
 |_=>none
def MF (O:Orc) (P:Program) (E:Env) (v:AV) (name:String) (aS:List AV) (H:AH):Option (AV × AH) :=
 match v with
 |.iface t x=>(match E.meth t name with
  |some i=>if AG P i=true then O i (x::aS) H else none
  |none=>none)
 |_=>none
section
variable {O:Orc} {P:Program} {E:Env} {Lp:EH} {ks:List Fr} {t:List AV} {H:AH} {Q:AEx→List AV→AH→Prop}
theorem DX {c:Code}:Wx O P E c t H Q=Go O P E Gb c [] t H Q:=AS rfl
theorem X9 (c:Code):Go O P E Lp (.loop c) ks t H Q=Lp c t H (unwind O P E Lp ks Q):=AS rfl
theorem YA (a b:Code):Go O P E Lp (.seq a b) ks t H Q=Go O P E Lp a (.seq b::ks) t H Q:=AS rfl
theorem YB (id:Nat) (c:Code):Go O P E Lp (.block id c) ks t H Q=Go O P E Lp c (.blk id::ks) t H Q:=AS rfl
theorem YC (id:Nat) (ops:Array Oper):Go O P E Lp (.region id ops false) ks t H Q=GoO O P E Lp ops (AY E ops.toList H.length) ks t (grow H (Ag E ops.toList)) Q:=AS rfl
theorem YD (id:Nat) (ops:Array Oper):Go O P E Lp (.region id ops true) ks t H Q=GoP O P E Lp ops (AY E ops.toList H.length) ks t H Q:=AS rfl
theorem YE (c:Operand) (a b:Code):Go O P E Lp (.cond c a b) ks t H Q=GoB O P E Lp (AC E t c) a b ks t H Q:=AS rfl
theorem YF (b:Code):Go O P E Lp .skip (.seq b::ks) t H Q=Go O P E Lp b ks t H Q:=AS rfl
theorem YG (id:Nat):Go O P E Lp .skip (.blk id::ks) t H Q=Go O P E Lp .skip ks t H Q:=AS rfl
theorem YH:Go O P E Lp .skip [] t H Q=Q .normal t H:=AS rfl
theorem YI (b:Code):Go O P E Lp .ret (.seq b::ks) t H Q=Go O P E Lp .ret ks t H Q:=AS rfl
theorem YJ (id:Nat):Go O P E Lp .ret (.blk id::ks) t H Q=Go O P E Lp .ret ks t H Q:=AS rfl
theorem YK:Go O P E Lp .ret [] t H Q=Q .ret t H:=AS rfl
theorem YL (id:Nat) (b:Code):Go O P E Lp (.exit id) (.seq b::ks) t H Q=Go O P E Lp (.exit id) ks t H Q:=AS rfl
theorem YM (id id':Nat):Go O P E Lp (.exit id) (.blk id'::ks) t H Q=GoX O P E Lp (id=id') id ks t H Q:=AS rfl
theorem YN (id:Nat):Go O P E Lp (.exit id) [] t H Q=Q (.exit id) t H:=AS rfl
theorem YO (id:Nat) [Decidable True]:GoX O P E Lp True id ks t H Q=Go O P E Lp .skip ks t H Q:=if_pos trivial
theorem YP (id:Nat) [Decidable False]:GoX O P E Lp False id ks t H Q=Go O P E Lp (.exit id) ks t H Q:=if_neg not_false
theorem YQ (v:Bool) (a b:Code):GoB O P E Lp (.bool v) a b ks t H Q=GoD O P E Lp (v=true) a b ks t H Q:=by simp only [GoB,WB,GoD,Bool.not_eq_true]
theorem YR (a b:Code):GoD O P E Lp True a b ks t H Q=Go O P E Lp a ks t H Q:=by simp [GoD]
theorem YS (a b:Code):GoD O P E Lp False a b ks t H Q=Go O P E Lp b ks t H Q:=by simp [GoD]
theorem J0 {p:Prop} {a b:Code} (h1:p→Go O P E Lp a ks t H Q) (h2:¬p→Go O P E Lp b ks t H Q):GoD O P E Lp p a b ks t H Q:=⟨h1,h2⟩
theorem YT (ops:Array Oper):GoO O P E Lp ops [] ks t H Q=Go O P E Lp .skip ks t H Q:=AS rfl
theorem YU (ops:Array Oper) (o:Oper) (fid:Nat) (l:List (Oper × Nat)):GoO O P E Lp ops ((o,fid)::l) ks t H Q=GoG O P E Lp (Ap ops t o) ops o fid l ks t H Q:=AS rfl
theorem YV (b:Bool) (ops:Array Oper) (o:Oper) (fid:Nat) (l:List (Oper × Nat)):GoG O P E Lp (some b) ops o fid l ks t H Q=Jy O P E Lp (b=true) ops o fid l ks t H Q:=by simp only [GoG,WG,Jy,Bool.not_eq_true]
theorem YW (ops:Array Oper) (o:Oper) (fid:Nat) (l:List (Oper × Nat)):Jy O P E Lp True ops o fid l ks t H Q=GoS O P E Lp (AW O P E (AC E t) H fid o) o.dst ops l ks t Q:=by simp [Jy]
theorem YX (ops:Array Oper) (o:Oper) (fid:Nat) (l:List (Oper × Nat)):Jy O P E Lp False ops o fid l ks t H Q=GoO O P E Lp ops l ks (AX t o.dst .nothing) H Q:=by simp [Jy]
theorem YY (v:AV) (H1:AH) (dst:Option Tmp) (ops:Array Oper) (l:List (Oper × Nat)):GoS O P E Lp (some (v,H1)) dst ops l ks t Q=GoO O P E Lp ops l ks (AX t dst v) H1 Q:=AS rfl
theorem YZ (v:AV) (dst:Option Tmp) (ops:Array Oper) (l:List (Oper × Nat)):GoV O P E Lp (some v) dst ops l ks t H Q=GoO O P E Lp ops l ks (AX t dst v) H Q:=AS rfl
theorem Ya {α:Type} (r:Option α) (f:α→AV) (dst:Option Tmp) (ops:Array Oper) (l:List (Oper × Nat)):GoV O P E Lp (r.map f) dst ops l ks t H Q=WS r fun x=>GoO O P E Lp ops l ks (AX t dst (f x)) H Q:=by cases r<;>rfl
theorem Yb (v:AV) (u:Ups) (dst:Option Tmp) (ops:Array Oper) (l:List (Oper × Nat)):GoU O P E Lp (some (v,u)) dst ops l ks t H Q=GoO O P E Lp ops l ks (AX t dst v) (AR H u) Q:=AS rfl
theorem Yc (ops:Array Oper):GoP O P E Lp ops [] ks t H Q=Go O P E Lp .skip ks t H Q:=AS rfl
theorem Yd (ops:Array Oper) (o:Oper) (fid:Nat) (l:List (Oper × Nat)):GoP O P E Lp ops ((o,fid)::l) ks t H Q=Ob O P E Lp (Ap ops t o) ops o fid l ks t H Q:=AS rfl
theorem Ye (b:Bool) (ops:Array Oper) (o:Oper) (fid:Nat) (l:List (Oper × Nat)):Ob O P E Lp (some b) ops o fid l ks t H Q=Jz O P E Lp (b=true) ops o fid l ks t H Q:=by simp only [Ob,WG,Jz,Bool.not_eq_true]
theorem Yf (ops:Array Oper) (o:Oper) (fid:Nat) (l:List (Oper × Nat)):Jz O P E Lp True ops o fid l ks t H Q =
 CL O P E Lp (BG O P E (AC E t) (mask H (BB E H (AC E t) (o,fid))) fid (BB E H (AC E t) (o,fid)) o) o.dst ops l ks t H Q:=by simp [Jz]
theorem Yg (ops:Array Oper) (o:Oper) (fid:Nat) (l:List (Oper × Nat)):Jz O P E Lp False ops o fid l ks t H Q=GoP O P E Lp ops l ks (AX t o.dst .nothing) H Q:=by simp [Jz]
theorem Yh (v:AV) (dst:Option Tmp) (ops:Array Oper) (l:List (Oper × Nat)):CL O P E Lp (some (v,[])) dst ops l ks t H Q=GoP O P E Lp ops l ks (AX t dst v) H Q:=AS rfl
theorem Yi (v:AV) (dst:Option Tmp) (ops:Array Oper) (l:List (Oper × Nat)):Cz O P E Lp (some v) dst ops l ks t H Q=GoP O P E Lp ops l ks (AX t dst v) H Q:=AS rfl
def HF (c a b:AV):Option AV:=match c with
 |.bool t=>some (if t then a else b)
 |_=>none
theorem Yj (c:Bool) (a b:AV):HF (.bool c) a b=some (if c then a else b):=AS rfl
def HG (P:Program) (t:TypeId) (x:AV):Option AV:=match P.underlying t with
 |some (.interface _)=>none
 |some _=>some (.iface t x)
 |none=>none
def JE (P:Program) (fid:Nat) (t:TypeId):Option (AV × Ups):=match Ae P t with
 |some z=>some (.ptr fid 0,[(fid,.box (An z))])
 |none=>none
def Hm (E:Env) (fid:Nat) (t:TypeId) (x:AV):Option (AV × Ups) :=
 if E.imm t=true then (if x.known=true then some (.vptr (An x) 0,[]) else none)
 else if x.known=true then some (.ptr fid 0,[(fid,.box (An x))]) else none
theorem SU (r:Option AV) {d:Option Tmp} {ops:Array Oper} {l:List (Oper × Nat)}:GoS O P E Lp (r.map fun a=>(a,H)) d ops l ks t Q=GoV O P E Lp r d ops l ks t H Q:=by cases r<;>rfl
theorem Dr (r:Option AV) {d:Option Tmp} {ops:Array Oper} {l:List (Oper × Nat)}:GoS O P E Lp (match r.map (fun a=>(a,([]:Ups))) with
  |some (r,u)=>some (r,AR H u)
  |none=>none) d ops l ks t Q=GoV O P E Lp r d ops l ks t H Q:=by cases r<;>rfl
theorem SV (r:Option (AV × Ups)) {d:Option Tmp} {ops:Array Oper} {l:List (Oper × Nat)}:GoS O P E Lp (r.map fun r=>(r.1,AR H r.2)) d ops l ks t Q=GoU O P E Lp r d ops l ks t H Q:=by cases r<;>rfl
theorem MG (r:Option (AV × Ups)) {d:Option Tmp} {ops:Array Oper} {l:List (Oper × Nat)}:GoS O P E Lp (match r with
  |some (r,u)=>some (r,AR H u)
  |none=>none) d ops l ks t Q=GoU O P E Lp r d ops l ks t H Q:=by
 cases r with
 |none=>rfl
 |some r=>obtain ⟨a,u⟩:=r;rfl
theorem DY (r:Option AV) {d:Option Tmp} {ops:Array Oper} {l:List (Oper × Nat)}:CL O P E Lp (r.map fun a=>(a,[])) d ops l ks t H Q=Cz O P E Lp r d ops l ks t H Q:=by cases r<;>rfl
section
variable (ρ:Operand→AV) (fid:Nat) (d dst:Option Tmp) (ty:TypeId) (pos:String) (after:Array Edge) (guard:Option (Nat × Bool)) (ops:Array Oper) (l:List (Oper × Nat))
theorem Yk (c a b:Operand):AW O P E ρ H fid ⟨dst,.pick c a b,ty,pos,after,guard⟩=(HF (ρ c) (ρ a) (ρ b)).map (fun a=>(a,H)):=by simp only [AW,aop,HF];cases ρ c<;>rfl
theorem SW (c a b:Operand) (S:List Nat) (H':AH):BG O P E ρ H' fid S ⟨dst,.pick c a b,ty,pos,after,guard⟩=(HF (ρ c) (ρ a) (ρ b)).map (fun a=>(a,[])):=by simp only [BG,aop,HF];cases ρ c<;>rfl
theorem Yl (u:TypeId) (x:Operand):AW O P E ρ H fid ⟨dst,.makeInterface u x,ty,pos,after,guard⟩=(HG P u (ρ x)).map (fun a=>(a,H)):=by
 simp only [AW,aop,HG];cases P.underlying u with
 |none=>rfl
 |some k=>cases k<;>rfl
theorem SX (u:TypeId) (x:Operand) (S:List Nat) (H':AH):BG O P E ρ H' fid S ⟨dst,.makeInterface u x,ty,pos,after,guard⟩=(HG P u (ρ x)).map (fun a=>(a,[])):=by
 simp only [BG,aop,HG];cases P.underlying u with
 |none=>rfl
 |some k=>cases k<;>rfl
theorem Ym (u:TypeId):AW O P E ρ H fid ⟨dst,.alloc u,ty,pos,after,guard⟩=(JE P fid u).map (fun r=>(r.1,AR H r.2)):=by simp only [AW,aop,JE];cases Ae P u<;>rfl
theorem Yn (u:TypeId) (x:Operand):AW O P E ρ H fid ⟨dst,.box u x,ty,pos,after,guard⟩=(Hm E fid u (ρ x)).map (fun r=>(r.1,AR H r.2)):=by simp only [AW,aop,Hm];cases E.imm u<;>cases (ρ x).known<;>rfl
theorem Yo (f:Operand) (aS:Array Operand) (us:Array TypeId):AW O P E ρ H fid ⟨dst,.call ⟨.value f,aS,us⟩,ty,pos,after,guard⟩=IL O P (ρ f) (aS.toList.map ρ) H:=by
 simp only [AW,callee,IL];cases ρ f with
 |func fn a b=>cases fn<;>rfl
 |_=>rfl
theorem Yp (f:Operand) (nm:String) (aS:Array Operand) (us:Array TypeId):AW O P E ρ H fid ⟨dst,.call ⟨.invoke f nm,aS,us⟩,ty,pos,after,guard⟩=MF O P E (ρ f) nm (aS.toList.map ρ) H:=by
 simp only [AW,callee,MF];cases ρ f with
 |iface u x =>simp only;cases E.meth u nm<;>rfl
 |_=>rfl
theorem Yq (x:Operand):GoS O P E Lp (AW O P E ρ H fid ⟨dst,.move x,ty,pos,after,guard⟩) d ops l ks t Q=GoV O P E Lp (some (ρ x)) d ops l ks t H Q:=AS rfl
theorem Yr (x:Operand) (S:List Nat) (H':AH):CL O P E Lp (BG O P E ρ H' fid S ⟨dst,.move x,ty,pos,after,guard⟩) d ops l ks t H Q=Cz O P E Lp (some (ρ x)) d ops l ks t H Q:=AS rfl
theorem Ys (x:Operand):GoS O P E Lp (AW O P E ρ H fid ⟨dst,.assign x,ty,pos,after,guard⟩) d ops l ks t Q=GoV O P E Lp (some (ρ x)) d ops l ks t H Q:=AS rfl
theorem Yt (x:Operand) (S:List Nat) (H':AH):CL O P E Lp (BG O P E ρ H' fid S ⟨dst,.assign x,ty,pos,after,guard⟩) d ops l ks t H Q=Cz O P E Lp (some (ρ x)) d ops l ks t H Q:=AS rfl
theorem Yu (u:TypeId) (parts:Array (Nat × Operand)):GoS O P E Lp (AW O P E ρ H fid ⟨dst,.build u parts,ty,pos,after,guard⟩) d ops l ks t Q=GoV O P E Lp (Aq P u (parts.toList.map fun p=>(p.1,ρ p.2))) d ops l ks t H Q:=Dr (Aq P u (parts.toList.map fun p=>(p.1,ρ p.2)))
theorem Yv (u:TypeId) (parts:Array (Nat × Operand)) (S:List Nat) (H':AH):CL O P E Lp (BG O P E ρ H' fid S ⟨dst,.build u parts,ty,pos,after,guard⟩) d ops l ks t H Q=Cz O P E Lp (Aq P u (parts.toList.map fun p=>(p.1,ρ p.2))) d ops l ks t H Q:=DY (Aq P u (parts.toList.map fun p=>(p.1,ρ p.2)))
theorem Yw (u:TypeId) (len:Nat) (parts:Array (Nat × Operand)):GoS O P E Lp (AW O P E ρ H fid ⟨dst,.buildSlice u len parts,ty,pos,after,guard⟩) d ops l ks t Q=GoV O P E Lp (CK P u len (parts.toList.map fun p=>(p.1,ρ p.2))) d ops l ks t H Q:=Dr (CK P u len (parts.toList.map fun p=>(p.1,ρ p.2)))
theorem Yx (u:TypeId) (len:Nat) (parts:Array (Nat × Operand)) (S:List Nat) (H':AH):CL O P E Lp (BG O P E ρ H' fid S ⟨dst,.buildSlice u len parts,ty,pos,after,guard⟩) d ops l ks t H Q=Cz O P E Lp (CK P u len (parts.toList.map fun p=>(p.1,ρ p.2))) d ops l ks t H Q:=DY (CK P u len (parts.toList.map fun p=>(p.1,ρ p.2)))
theorem Yy (u:TypeId) (a:Operand):GoS O P E Lp (AW O P E ρ H fid ⟨dst,.load u a,ty,pos,after,guard⟩) d ops l ks t Q=GoV O P E Lp (A8 P H u (ρ a)) d ops l ks t H Q:=Dr (A8 P H u (ρ a))
theorem Yz (u:TypeId) (a:Operand) (S:List Nat) (H':AH):CL O P E Lp (BG O P E ρ H' fid S ⟨dst,.load u a,ty,pos,after,guard⟩) d ops l ks t H Q=Cz O P E Lp (A8 P H' u (ρ a)) d ops l ks t H Q:=DY (A8 P H' u (ρ a))
theorem Y0 (x:Operand):GoS O P E Lp (AW O P E ρ H fid ⟨dst,.nilCheck x,ty,pos,after,guard⟩) d ops l ks t Q=GoV O P E Lp (BS (ρ x)) d ops l ks t H Q:=Dr (BS (ρ x))
theorem Y1 (x:Operand) (S:List Nat) (H':AH):CL O P E Lp (BG O P E ρ H' fid S ⟨dst,.nilCheck x,ty,pos,after,guard⟩) d ops l ks t H Q=Cz O P E Lp (BS (ρ x)) d ops l ks t H Q:=DY (BS (ρ x))
theorem Y2 (op:BinOp) (u:TypeId) (x y:Operand) (w:TypeId):GoS O P E Lp (AW O P E ρ H fid ⟨dst,.binOp op u x y w,ty,pos,after,guard⟩) d ops l ks t Q=GoV O P E Lp (BF P op u (A6 x || A6 y) (ρ x) (ρ y)) d ops l ks t H Q:=Dr (BF P op u (A6 x || A6 y) (ρ x) (ρ y))
theorem Y3 (op:BinOp) (u:TypeId) (x y:Operand) (w:TypeId) (S:List Nat) (H':AH):CL O P E Lp (BG O P E ρ H' fid S ⟨dst,.binOp op u x y w,ty,pos,after,guard⟩) d ops l ks t H Q=Cz O P E Lp (BF P op u (A6 x || A6 y) (ρ x) (ρ y)) d ops l ks t H Q:=DY (BF P op u (A6 x || A6 y) (ρ x) (ρ y))
theorem Y4 (op:UnOp) (u:TypeId) (x:Operand):GoS O P E Lp (AW O P E ρ H fid ⟨dst,.unOp op u x,ty,pos,after,guard⟩) d ops l ks t Q=GoV O P E Lp (aun op (ρ x)) d ops l ks t H Q:=Dr (aun op (ρ x))
theorem Y5 (op:UnOp) (u:TypeId) (x:Operand) (S:List Nat) (H':AH):CL O P E Lp (BG O P E ρ H' fid S ⟨dst,.unOp op u x,ty,pos,after,guard⟩) d ops l ks t H Q=Cz O P E Lp (aun op (ρ x)) d ops l ks t H Q:=DY (aun op (ρ x))
theorem Y6 (src dst':TypeId) (x:Operand):GoS O P E Lp (AW O P E ρ H fid ⟨dst,.convert src dst' x,ty,pos,after,guard⟩) d ops l ks t Q=GoV O P E Lp (BV P H src dst' (ρ x)) d ops l ks t H Q:=Dr (BV P H src dst' (ρ x))
theorem Y7 (src dst':TypeId) (x:Operand) (S:List Nat) (H':AH):CL O P E Lp (BG O P E ρ H' fid S ⟨dst,.convert src dst' x,ty,pos,after,guard⟩) d ops l ks t H Q=Cz O P E Lp (BV P H' src dst' (ρ x)) d ops l ks t H Q:=DY (BV P H' src dst' (ρ x))
theorem Y8 (fn:Fn) (first captured:Array Operand):GoS O P E Lp (AW O P E ρ H fid ⟨dst,.makeFunc fn first captured,ty,pos,after,guard⟩) d ops l ks t Q=GoV O P E Lp (some (.func fn (first.toList.map ρ) (captured.toList.map ρ))) d ops l ks t H Q:=AS rfl
theorem Y9 (fn:Fn) (first captured:Array Operand) (S:List Nat) (H':AH):CL O P E Lp (BG O P E ρ H' fid S ⟨dst,.makeFunc fn first captured,ty,pos,after,guard⟩) d ops l ks t H Q=Cz O P E Lp (some (.func fn (first.toList.map ρ) (captured.toList.map ρ))) d ops l ks t H Q:=AS rfl
theorem ZA (u:TypeId) (x:Operand) (lo hi mx:Option Operand):GoS O P E Lp (AW O P E ρ H fid ⟨dst,.slice u x lo hi mx,ty,pos,after,guard⟩) d ops l ks t Q=GoV O P E Lp (BD P u (ρ x) (lo.map ρ) (hi.map ρ) (mx.map ρ)) d ops l ks t H Q:=Dr (BD P u (ρ x) (lo.map ρ) (hi.map ρ) (mx.map ρ))
theorem ZB (u:TypeId) (x:Operand) (lo hi mx:Option Operand) (S:List Nat) (H':AH):CL O P E Lp (BG O P E ρ H' fid S ⟨dst,.slice u x lo hi mx,ty,pos,after,guard⟩) d ops l ks t H Q=Cz O P E Lp (BD P u (ρ x) (lo.map ρ) (hi.map ρ) (mx.map ρ)) d ops l ks t H Q:=DY (BD P u (ρ x) (lo.map ρ) (hi.map ρ) (mx.map ρ))
theorem ZC (u:TypeId) (x:Operand) (f:Nat):GoS O P E Lp (AW O P E ρ H fid ⟨dst,.fieldAddr u x f,ty,pos,after,guard⟩) d ops l ks t Q=GoV O P E Lp (BE P u (ρ x) f) d ops l ks t H Q:=Dr (BE P u (ρ x) f)
theorem ZD (u:TypeId) (x:Operand) (f:Nat) (S:List Nat) (H':AH):CL O P E Lp (BG O P E ρ H' fid S ⟨dst,.fieldAddr u x f,ty,pos,after,guard⟩) d ops l ks t H Q=Cz O P E Lp (BE P u (ρ x) f) d ops l ks t H Q:=DY (BE P u (ρ x) f)
theorem ZE (u:TypeId) (x:Operand) (f:Nat):GoS O P E Lp (AW O P E ρ H fid ⟨dst,.field u x f,ty,pos,after,guard⟩) d ops l ks t Q=GoV O P E Lp (BM P u (ρ x) f) d ops l ks t H Q:=Dr (BM P u (ρ x) f)
theorem ZF (u:TypeId) (x:Operand) (f:Nat) (S:List Nat) (H':AH):CL O P E Lp (BG O P E ρ H' fid S ⟨dst,.field u x f,ty,pos,after,guard⟩) d ops l ks t H Q=Cz O P E Lp (BM P u (ρ x) f) d ops l ks t H Q:=DY (BM P u (ρ x) f)
theorem ZG (u:TypeId) (x i:Operand):GoS O P E Lp (AW O P E ρ H fid ⟨dst,.indexAddr u x i,ty,pos,after,guard⟩) d ops l ks t Q=GoV O P E Lp (Ao P u (ρ x) (ρ i)) d ops l ks t H Q:=Dr (Ao P u (ρ x) (ρ i))
theorem ZH (u:TypeId) (x i:Operand) (S:List Nat) (H':AH):CL O P E Lp (BG O P E ρ H' fid S ⟨dst,.indexAddr u x i,ty,pos,after,guard⟩) d ops l ks t H Q=Cz O P E Lp (Ao P u (ρ x) (ρ i)) d ops l ks t H Q:=DY (Ao P u (ρ x) (ρ i))
theorem ZI (u:TypeId) (x i:Operand):GoS O P E Lp (AW O P E ρ H fid ⟨dst,.index u x i,ty,pos,after,guard⟩) d ops l ks t Q=GoV O P E Lp (BQ P u (ρ x) (ρ i)) d ops l ks t H Q:=Dr (BQ P u (ρ x) (ρ i))
theorem ZJ (u:TypeId) (x i:Operand) (S:List Nat) (H':AH):CL O P E Lp (BG O P E ρ H' fid S ⟨dst,.index u x i,ty,pos,after,guard⟩) d ops l ks t H Q=Cz O P E Lp (BQ P u (ρ x) (ρ i)) d ops l ks t H Q:=DY (BQ P u (ρ x) (ρ i))
theorem ZK (x:Operand) (u w:TypeId) (ok:Bool):GoS O P E Lp (AW O P E ρ H fid ⟨dst,.typeAssert x u w ok,ty,pos,after,guard⟩) d ops l ks t Q=GoV O P E Lp (D6 P (ρ x) w ok) d ops l ks t H Q:=Dr (D6 P (ρ x) w ok)
theorem ZL (x:Operand) (u w:TypeId) (ok:Bool) (S:List Nat) (H':AH):CL O P E Lp (BG O P E ρ H' fid S ⟨dst,.typeAssert x u w ok,ty,pos,after,guard⟩) d ops l ks t H Q=Cz O P E Lp (D6 P (ρ x) w ok) d ops l ks t H Q:=DY (D6 P (ρ x) w ok)
theorem ZM (x:Operand) (i:Nat):GoS O P E Lp (AW O P E ρ H fid ⟨dst,.extract x i,ty,pos,after,guard⟩) d ops l ks t Q=GoV O P E Lp (BR (ρ x) i) d ops l ks t H Q:=Dr (BR (ρ x) i)
theorem ZN (x:Operand) (i:Nat) (S:List Nat) (H':AH):CL O P E Lp (BG O P E ρ H' fid S ⟨dst,.extract x i,ty,pos,after,guard⟩) d ops l ks t H Q=Cz O P E Lp (BR (ρ x) i) d ops l ks t H Q:=DY (BR (ρ x) i)
theorem ZO (x:Operand) (u:TypeId):GoS O P E Lp (AW O P E ρ H fid ⟨dst,.call ⟨.builtin .len,#[x],#[u]⟩,ty,pos,after,guard⟩) d ops l ks t Q=GoV O P E Lp (alen P u (ρ x)) d ops l ks t H Q:=Dr (alen P u (ρ x))
theorem ZP (x:Operand) (u:TypeId) (S:List Nat) (H':AH):CL O P E Lp (BG O P E ρ H' fid S ⟨dst,.call ⟨.builtin .len,#[x],#[u]⟩,ty,pos,after,guard⟩) d ops l ks t H Q=Cz O P E Lp (alen P u (ρ x)) d ops l ks t H Q:=DY (alen P u (ρ x))
theorem ZQ (x:Operand) (u:TypeId):GoS O P E Lp (AW O P E ρ H fid ⟨dst,.call ⟨.builtin .cap,#[x],#[u]⟩,ty,pos,after,guard⟩) d ops l ks t Q=GoV O P E Lp (I1 P u (ρ x)) d ops l ks t H Q:=Dr (I1 P u (ρ x))
theorem ZR (x:Operand) (u:TypeId) (S:List Nat) (H':AH):CL O P E Lp (BG O P E ρ H' fid S ⟨dst,.call ⟨.builtin .cap,#[x],#[u]⟩,ty,pos,after,guard⟩) d ops l ks t H Q=Cz O P E Lp (I1 P u (ρ x)) d ops l ks t H Q:=DY (I1 P u (ρ x))
theorem ZS (x y:Operand) (us:Array TypeId):GoS O P E Lp (AW O P E ρ H fid ⟨dst,.call ⟨.builtin .max,#[x,y],us⟩,ty,pos,after,guard⟩) d ops l ks t Q=GoV O P E Lp (ID (ρ x) (ρ y)) d ops l ks t H Q:=Dr (ID (ρ x) (ρ y))
theorem ZT (x y:Operand) (us:Array TypeId) (S:List Nat) (H':AH):CL O P E Lp (BG O P E ρ H' fid S ⟨dst,.call ⟨.builtin .max,#[x,y],us⟩,ty,pos,after,guard⟩) d ops l ks t H Q=Cz O P E Lp (ID (ρ x) (ρ y)) d ops l ks t H Q:=DY (ID (ρ x) (ρ y))
theorem ZU (x y:Operand) (us:Array TypeId):GoS O P E Lp (AW O P E ρ H fid ⟨dst,.call ⟨.builtin .min,#[x,y],us⟩,ty,pos,after,guard⟩) d ops l ks t Q=GoV O P E Lp (G5 (ρ x) (ρ y)) d ops l ks t H Q:=Dr (G5 (ρ x) (ρ y))
theorem ZV (x y:Operand) (us:Array TypeId) (S:List Nat) (H':AH):CL O P E Lp (BG O P E ρ H' fid S ⟨dst,.call ⟨.builtin .min,#[x,y],us⟩,ty,pos,after,guard⟩) d ops l ks t H Q=Cz O P E Lp (G5 (ρ x) (ρ y)) d ops l ks t H Q:=DY (G5 (ρ x) (ρ y))
theorem ZW (c a b:Operand):GoS O P E Lp (AW O P E ρ H fid ⟨dst,.pick c a b,ty,pos,after,guard⟩) d ops l ks t Q=GoV O P E Lp (HF (ρ c) (ρ a) (ρ b)) d ops l ks t H Q:=by rw [show AW O P E ρ H fid ⟨dst,.pick c a b,ty,pos,after,guard⟩=(HF (ρ c) (ρ a) (ρ b)).map (fun a=>(a,H)) from Yk ..];exact SU _
theorem ZX (c a b:Operand) (S:List Nat) (H':AH):CL O P E Lp (BG O P E ρ H' fid S ⟨dst,.pick c a b,ty,pos,after,guard⟩) d ops l ks t H Q=Cz O P E Lp (HF (ρ c) (ρ a) (ρ b)) d ops l ks t H Q:=by rw [show BG O P E ρ H' fid S ⟨dst,.pick c a b,ty,pos,after,guard⟩=(HF (ρ c) (ρ a) (ρ b)).map (fun a=>(a,[])) from SW ..];exact DY _
theorem ZY (u:TypeId) (x:Operand):GoS O P E Lp (AW O P E ρ H fid ⟨dst,.makeInterface u x,ty,pos,after,guard⟩) d ops l ks t Q=GoV O P E Lp (HG P u (ρ x)) d ops l ks t H Q:=by rw [show AW O P E ρ H fid ⟨dst,.makeInterface u x,ty,pos,after,guard⟩=(HG P u (ρ x)).map (fun a=>(a,H)) from Yl ..];exact SU _
theorem ZZ (u:TypeId) (x:Operand) (S:List Nat) (H':AH):CL O P E Lp (BG O P E ρ H' fid S ⟨dst,.makeInterface u x,ty,pos,after,guard⟩) d ops l ks t H Q=Cz O P E Lp (HG P u (ρ x)) d ops l ks t H Q:=by rw [show BG O P E ρ H' fid S ⟨dst,.makeInterface u x,ty,pos,after,guard⟩=(HG P u (ρ x)).map (fun a=>(a,[])) from SX ..];exact DY _
theorem Za (u:TypeId):GoS O P E Lp (AW O P E ρ H fid ⟨dst,.alloc u,ty,pos,after,guard⟩) d ops l ks t Q=GoU O P E Lp (JE P fid u) d ops l ks t H Q:=by rw [show AW O P E ρ H fid ⟨dst,.alloc u,ty,pos,after,guard⟩=(JE P fid u).map (fun r=>(r.1,AR H r.2)) from Ym ..];exact SV _
theorem Zb (u:TypeId) (x:Operand):GoS O P E Lp (AW O P E ρ H fid ⟨dst,.box u x,ty,pos,after,guard⟩) d ops l ks t Q=GoU O P E Lp (Hm E fid u (ρ x)) d ops l ks t H Q:=by rw [show AW O P E ρ H fid ⟨dst,.box u x,ty,pos,after,guard⟩=(Hm E fid u (ρ x)).map (fun r=>(r.1,AR H r.2)) from Yn ..];exact SV _
theorem Zc (u:TypeId) (a x:Operand):GoS O P E Lp (AW O P E ρ H fid ⟨dst,.store u a x,ty,pos,after,guard⟩) d ops l ks t Q=GoU O P E Lp (DC P H u (ρ a) (ρ x)) d ops l ks t H Q:=MG (DC P H u (ρ a) (ρ x))
theorem Zd (u:TypeId) (x y:Operand):GoS O P E Lp (AW O P E ρ H fid ⟨dst,.makeSlice u x y,ty,pos,after,guard⟩) d ops l ks t Q=GoU O P E Lp (Jf P fid u (ρ x) (ρ y)) d ops l ks t H Q:=MG (Jf P fid u (ρ x) (ρ y))
theorem Ze (s x:Operand) (u w:TypeId):GoS O P E Lp (AW O P E ρ H fid ⟨dst,.call ⟨.builtin .append,#[s,x],#[u,w]⟩,ty,pos,after,guard⟩) d ops l ks t Q=GoU O P E Lp (D8 P E H fid u w (ρ s) (ρ x)) d ops l ks t H Q:=MG (D8 P E H fid u w (ρ s) (ρ x))
theorem Zf (s x:Operand) (u w:TypeId):GoS O P E Lp (AW O P E ρ H fid ⟨dst,.call ⟨.builtin .copy,#[s,x],#[u,w]⟩,ty,pos,after,guard⟩) d ops l ks t Q=GoU O P E Lp (Jg P H u (ρ s) (ρ x)) d ops l ks t H Q:=MG (Jg P H u (ρ s) (ρ x))
theorem Zg (f:Operand) (aS:Array Operand) (us:Array TypeId):GoS O P E Lp (AW O P E ρ H fid ⟨dst,.call ⟨.value f,aS,us⟩,ty,pos,after,guard⟩) d ops l ks t Q=GoS O P E Lp (IL O P (ρ f) (aS.toList.map ρ) H) d ops l ks t Q:=by rw [Yo]
theorem Zh (f:Operand) (nm:String) (aS:Array Operand) (us:Array TypeId):GoS O P E Lp (AW O P E ρ H fid ⟨dst,.call ⟨.invoke f nm,aS,us⟩,ty,pos,after,guard⟩) d ops l ks t Q=GoS O P E Lp (MF O P E (ρ f) nm (aS.toList.map ρ) H) d ops l ks t Q:=by rw [Yp]
end
end
theorem Zi (E:Env) (n:Nat) (l:List (Nat × AV)) (k:Nat) (h:k<n):AC E (mkT n l) (.tmp k)=(l.lookup k).getD .undef:=X3 n l k h
theorem Zj (E:Env) (t:List AV) (v:Value):AC E t (.const v)=(BP v).getD .undef:=AS rfl
theorem Zk (E:Env) (t:List AV) (g:Nat):AC E t (.global g)=E.glob g:=AS rfl
theorem Zl (E:Env) (t:List AV) (f:FuncId):AC E t (.func f) = .func (.func f) [] []:=AS rfl
theorem Zm (ops:Array Oper) (t:List AV) (dst:Option Tmp) (op:Op) (ty:TypeId) (pos:String) (after:Array Edge):Ap ops t ⟨dst,op,ty,pos,after,none⟩=some true:=AS rfl
def gd (v:AV) (want:Bool):Option Bool:=match v with
 |.bool b=>some (b==want)
 |.tup _=>some false
 |_=>none
theorem Zn (b want:Bool):gd (.bool b) want=some (b==want):=AS rfl
theorem Zo (want:Bool):gd .nothing want=some false:=AS rfl
theorem Zp (ops:Array Oper) (n:Nat) (l:List (Nat × AV)) (dst:Option Tmp) (op:Op) (ty:TypeId) (pos:String) (after:Array Edge) (j:Nat) (want:Bool) {d:Nat} (hd:(ops[j]?).bind (·.dst)=some d) (h:d<n) :
  Ap ops (mkT n l) ⟨dst,op,ty,pos,after,some (j,want)⟩=gd ((l.lookup d).getD .undef) want:=by
 unfold Ap;simp only [hd,Jw,if_pos h];cases (l.lookup d).getD .undef<;>rfl
theorem zV (n:Nat) (l:List (Nat × AV)) (d:Tmp) (v:AV):AX (mkT n l) (some d) v=mkT n ((d,v)::l):=X4 n l d v
theorem Zq (t:List AV) (v:AV):AX t none v=t:=AS rfl
section
variable {O:Orc} {P:Program} {E:Env} {Lp:EH} {ks:List Fr} {t:List AV} {H:AH} {Q:AEx→List AV→AH→Prop}
def Oc (O:Orc) (P:Program) (E:Env) (Lp:EH) (r:Option (AV × AH)) (n:Nat) (d:Option Tmp) (ops:Array Oper) (l:List (Oper × Nat)) (ks:List Fr) (t:List AV) (H:AH) (Q:AEx→List AV→AH→Prop):Prop :=WS r fun r=>r.2.length=n∧GoP O P E Lp ops l ks (AX t d r.1) H Q
theorem Zr (v:AV) (H1:AH) (n:Nat) (d:Option Tmp) (ops:Array Oper) (l:List (Oper × Nat)):Oc O P E Lp (some (v,H1)) n d ops l ks t H Q=(H1.length=n∧GoP O P E Lp ops l ks (AX t d v) H Q):=AS rfl
theorem Zt (ρ:Operand→AV) (fid:Nat) (d dst:Option Tmp) (ty:TypeId) (pos:String) (after:Array Edge) (guard:Option (Nat × Bool)) (ops:Array Oper) (l:List (Oper × Nat)) (f:Operand) (aS:Array Operand) (us:Array TypeId) (H':AH) :
  CL O P E Lp (BG O P E ρ H' fid [] ⟨dst,.call ⟨.value f,aS,us⟩,ty,pos,after,guard⟩) d ops l ks t H Q=Oc O P E Lp (IL O P (ρ f) (aS.toList.map ρ) H') H'.length d ops l ks t H Q:=by
 simp only [BG,callee,IL];cases ρ f with
 |func fn a b =>
  cases fn with
  |func i =>
   simp only;cases AG P i with
   |true =>
    simp only [if_true];cases O i (a++aS.toList.map ρ++b) H' with
    |none=>rfl
    |some r =>
     obtain ⟨v,H1⟩:=r;simp only [Oc,WS]
     by_cases h:H1.length=H'.length
     ·rw [if_pos h]
      simp [CL,WU,h]
     ·rw [if_neg h]
      simp [CL,WU,h]
   |false=>rfl
  |_=>rfl
 |_=>rfl
end
section
variable {O:Orc} {P:Program} {E:Env} {Lp:EH} {ks:List Fr} {t:List AV} {H:AH} {Q:AEx→List AV→AH→Prop}
theorem Zu (ρ:Operand→AV) (fid:Nat) (d dst:Option Tmp) (ty:TypeId) (pos:String) (after:Array Edge) (guard:Option (Nat × Bool)) (ops:Array Oper) (l:List (Oper × Nat)) (S:List Nat) (u:TypeId) (x:Operand) (H':AH) :
  CL O P E Lp (BG O P E ρ H' fid S ⟨dst,.box u x,ty,pos,after,guard⟩) d ops l ks t H Q=CL O P E Lp (Hm E fid u (ρ x)) d ops l ks t H Q:=by
 simp only [BG,aop,Hm]
end
def Bg (P:Program) (t:TypeId) (sz:Nat):Bool :=
 match P.underlying t with
 |some (.slice e)=>(match P.info? e with
  |some i=>(match i.zero with
   |some z=>(z.cells.size==i.size)&&(i.size==sz)&&decide (0<sz)&&decide (i.bytes≤1024)
   |none=>false)
  |none=>false)
 |_=>false
section
variable {P:Program} {H:AH} {fid:Nat} {t:TypeId} {sz m n k:Nat} {ow:Own} {xs ys:List AV}
theorem yc (h:Bg P t sz=true) (ha:ys.all AV.one=true) :
  F0 P H fid t t .nilSlice (.slice ow sz 1 ys)=some (.lsl fid sz 0 [],[(fid,.loose 0 ys)]):=by
 unfold Bg at h;unfold F0
 split at h
 ·rename_i e he
  rw [he];simp only
  split at h
  ·rename_i i hi
   rw [hi];simp only
   split at h
   ·rename_i z hz
    rw [hz];simp only [Bool.and_eq_true,beq_iff_eq,decide_eq_true_eq] at h;obtain ⟨⟨⟨h1,h2⟩,h3⟩,h4⟩:=h;simp only
    have qU:1*i.bytes≤140737488355328:=by omega
    rw [if_pos ⟨h1,by omega,by simp [FX]⟩];simp only [D7,h2,if_true,ha,and_self];rw [if_pos qU]
   ·cases h
  ·cases h
 ·cases h
theorem Kz (h:Bg P t sz=true) (hk:H.at k=some (.tok n)) (hb:n+1≤137438953472) (ha:ys.all AV.one=true) :
  F0 P H fid t t (.slice (.tok k) sz n xs) (.slice ow sz 1 ys)=some (.lsl k sz n xs,[(k,.loose n ys)]):=by
 unfold Bg at h;unfold F0
 split at h
 ·rename_i e he
  rw [he];simp only
  split at h
  ·rename_i i hi
   rw [hi];simp only
   split at h
   ·rename_i z hz
    rw [hz];simp only [Bool.and_eq_true,beq_iff_eq,decide_eq_true_eq] at h;obtain ⟨⟨⟨h1,h2⟩,h3⟩,h4⟩:=h;simp only
    have qU:(n+1)*i.bytes≤140737488355328:=by
     calc (n+1)*i.bytes≤137438953472*1024:=Nat.mul_le_mul hb h4
      _=140737488355328:=by decide
    rw [if_pos ⟨h1,by omega,by simp [FX]⟩];simp only [D7,h2,if_true,ha,and_self];rw [if_pos ⟨trivial,qU,by omega⟩];simp only [hk,if_true]
   ·cases h
  ·cases h
 ·cases h
theorem F9 (h:Bg P t sz=true) (hm:0<m) (hb:m≤137438953472) (ha:ys.all AV.one=true) :
  DO P H fid t t .nilSlice (.slice ow sz m ys)=some (.slice (.tok fid) sz m ys,[(fid,.tok m)]):=by
 unfold Bg at h;unfold DO
 split at h
 ·rename_i e he
  rw [he];simp only
  split at h
  ·rename_i i hi
   rw [hi];simp only
   split at h
   ·rename_i z hz
    rw [hz];simp only [Bool.and_eq_true,beq_iff_eq,decide_eq_true_eq] at h;obtain ⟨⟨⟨h1,h2⟩,h3⟩,h4⟩:=h;simp only
    have qU:m*i.bytes≤140737488355328:=by
     calc m*i.bytes≤137438953472*1024:=Nat.mul_le_mul hb h4
      _=140737488355328:=by decide
    rw [if_pos ⟨h1,by omega,by simp [FX]⟩];simp only [D7,h2,if_true,ha];rw [if_neg (by omega),if_pos ⟨qU,by omega⟩]
   ·cases h
  ·cases h
 ·cases h
theorem EZ (h:Bg P t sz=true) (hk:H.at k=some (.tok n)) (hm:0<m) (hb:n+m≤137438953472) (ha:ys.all AV.one=true) :
  DO P H fid t t (.slice (.tok k) sz n xs) (.slice ow sz m ys)=some (.slice (.tok k) sz (n+m) (xs++ys),[(k,.tok (n+m))]):=by
 unfold Bg at h;unfold DO
 split at h
 ·rename_i e he
  rw [he];simp only
  split at h
  ·rename_i i hi
   rw [hi];simp only
   split at h
   ·rename_i z hz
    rw [hz];simp only [Bool.and_eq_true,beq_iff_eq,decide_eq_true_eq] at h;obtain ⟨⟨⟨h1,h2⟩,h3⟩,h4⟩:=h;simp only
    have qU:(n+m)*i.bytes≤140737488355328:=by
     calc (n+m)*i.bytes≤137438953472*1024:=Nat.mul_le_mul hb h4
      _=140737488355328:=by decide
    rw [if_pos ⟨h1,by omega,by simp [FX]⟩];simp only [D7,h2,if_true,ha];rw [if_neg (by omega),if_pos ⟨qU,by omega⟩];simp only [hk,if_true]
   ·cases h
  ·cases h
 ·cases h
theorem MH (h:Bg P t sz=true) (hm:0<m) (hb:n+m≤137438953472) (ha:ys.all AV.one=true) :
  DO P H fid t t (.slice .full sz n xs) (.slice ow sz m ys)=some (.slice (.tok fid) sz (n+m) (xs++ys),[(fid,.tok (n+m))]):=by
 unfold Bg at h;unfold DO
 split at h
 ·rename_i e he
  rw [he];simp only
  split at h
  ·rename_i i hi
   rw [hi];simp only
   split at h
   ·rename_i z hz
    rw [hz];simp only [Bool.and_eq_true,beq_iff_eq,decide_eq_true_eq] at h;obtain ⟨⟨⟨h1,h2⟩,h3⟩,h4⟩:=h;simp only
    have qU:(n+m)*i.bytes≤140737488355328:=by
     calc (n+m)*i.bytes≤137438953472*1024:=Nat.mul_le_mul hb h4
      _=140737488355328:=by decide
    rw [if_pos ⟨h1,by omega,by simp [FX]⟩];simp only [D7,h2,if_true,ha];rw [if_neg (by omega),if_pos ⟨qU,by omega⟩]
   ·cases h
  ·cases h
 ·cases h
end
attribute [simp] YA YB YC YD YE YF YG YH YI YJ YK YL
attribute [simp] YM YN YO YP YQ YR YS YT YU YV YW YX
attribute [simp] YY YZ Ya Yb Yc Yd Ye Yf Yg Yh Yi Yq
attribute [simp] Ys Yu Yw Yy Y0 Y2 Y4 Y6 Y8 ZA ZC ZE
attribute [simp] ZG ZI ZK ZM ZO ZQ ZS ZU ZW ZY Za Zb
attribute [simp] Zc Zd Ze Zf Zg Zh Yr Yt Yv Yx Yz Y1
attribute [simp] Y3 Y5 Y7 Y9 ZB ZD ZF ZH ZJ ZL ZN ZP
attribute [simp] ZR ZT ZV ZX ZZ Yj HG JE Hm IL Zi Zj
attribute [simp] Zk Zl Zm Zp Zn Zo zV Zq Eo AY Ai grow
attribute [simp] BP BW BU AR BC BH alen.eq_def BF.eq_def Bc Be aun BQ.eq_def
attribute [simp] BD.eq_def BY BR BS BV.eq_def Ao.eq_def A8.eq_def BI A6 aeq.eq_def An DC.eq_def
attribute [simp] D5 AV.known AV.one AH.at CY A1 inC Au Dq X5 Xq Xx
attribute [simp] Xy Xz Lm
attribute [simp] Ag C1 Cj Jw List.lookup
attribute [simp] frz Hl Oa strip CU JD Ep low lowL At AU
attribute [simp] BB FY OH.eq_def Jr.eq_def Hi.eq_def SH BN ED SI Op.operands Call.operands Dd
attribute [simp] X9 Zr Zt Zu
section
variable {P:Program} {E:Env} {O:Orc} {B:Bs} {Q:AEx→List AV→AH→Prop} {t:List AV} {H:AH}
theorem Tr.pre (X:Cx O P E) (hG:Al E B.g) (k:Nat) {c R:Code} (hR:Cj k c=R) (hs:EY k c=true) (hd:C2 E (C1 k c)=true) (h:Wx O P E (C1 k c) t H (Goes (fun t1 H1=>Tr P B R t1 H1 Q) Q)):Tr P B c t H Q:=by subst hR;exact Tr.runs X hG k hs hd h
theorem Tr.seqD {c a b:Code} (hc:c = .seq a b) (h:Tr P B a t H (Goes (fun t1 H1=>Tr P B b t1 H1 Q) Q)):Tr P B c t H Q:=by subst hc;exact Tr.seq h
theorem Tr.blockD {c a:Code} {id:Nat} (hc:c = .block id a) (h:Tr P B a t H (Blk id Q)):Tr P B c t H Q:=by subst hc;exact Tr.block h
theorem Tr.forD {c a:Code} {id:Nat} (hc:c = .block id (.loop a)) (I:Nat→List AV→AH→Prop) (k:Nat) (hI:I k t H)
  (h:∀k t H,I k t H→Tr P B a t H (Goes (fun t1 H1=>∃j t2 H2,j<k∧AD B t1 H1 t2 H2∧I j t2 H2) (Blk id Q))):Tr P B c t H Q:=by
 subst hc;exact Tr.block (Tr.loop I k hI h)
end
def Bu:Orc:=fun _ _ _=>none
theorem Fe {P:Program} {E:Env}:AT P E Bu:=fun _ _ _ _ _ h=>by cases h
theorem CS.run0 {O:Orc} {P:Program} {E:Env} (X:Cx O P E) (hE:∀i,low 0 (E.glob i)=true) {f:FuncId} {fn:Func} {args:List AV} {v:AV} (hf:P.funcs[f]? = some fn) (hb:fn.body=some (Au fn)) (hd:C2 E (Au fn)=true) (k:Nat)
  (hn:args.length≤fn.ntmps) (h:Go O P E Gb (Au fn) [] (mkT fn.ntmps (Eo 0 args)) [] (Fin P fn 0 k v [])) (hv:low 0 v=true) (ha:lowL 0 args=true) (H:AH):CS P E f args H v H :=
 (CS.of_Tr (H0:=[]) (H1:=[]) hf hb k hn (fun B hB hG=>Tr.run X hG hd h) hv rfl).frame hE ha H
theorem CS.tr0 {P:Program} {E:Env} (hE:∀i,low 0 (E.glob i)=true) {f:FuncId} {fn:Func} {args:List AV} {v:AV} (hf:P.funcs[f]? = some fn) (hb:fn.body=some (Au fn)) (k:Nat)
  (hn:args.length≤fn.ntmps) (h:∀B:Bs,B.H=[]→Al E B.g→Tr P B (Au fn) (mkT fn.ntmps (Eo 0 args)) [] (Fin P fn 0 k v [])) (hv:low 0 v=true) (ha:lowL 0 args=true) (H:AH):CS P E f args H v H :=
 (CS.of_Tr (H0:=[]) (H1:=[]) hf hb k hn h hv rfl).frame hE ha H
theorem AD.mk0 {B:Bs} {n:Nat} {l l':List (Nat × AV)} {H:AH} (hB:B.H=[]) (h:∀p∈l',(l.lookup p.1).getD .undef=p.2∧low 0 p.2=true):AD B (Fw.mkT n l) H (Fw.mkT n l') [] :=AD.mkT 0 (by simp [hB]) (fun p hp => .same (h p hp).1 (h p hp).2) rfl rfl
theorem Tr.go {O:Orc} {P:Program} {E:Env} {B:Bs} (X:Cx O P E) (hG:Al E B.g) {c:Code} {t:List AV} {H:AH} {Q:AEx→List AV→AH→Prop} (hd:C2 E c=true) (h:Go O P E (LpT P B) c [] t H Q):Tr P B c t H Q:=Wt.tr X hG hd h
section
variable {O:Orc} {P:Program} {E:Env} {Lp:EH} {B:Bs} {ks:List Fr} {t:List AV} {H:AH} {Q:AEx→List AV→AH→Prop}
theorem J1:unwind O P E Lp ks Q .normal t H=Go O P E Lp .skip ks t H Q:=AS rfl
theorem Zv (id:Nat):unwind O P E Lp ks Q (.exit id) t H=Go O P E Lp (.exit id) ks t H Q:=AS rfl
theorem Zw:unwind O P E Lp ks Q .ret t H=Go O P E Lp .ret ks t H Q:=AS rfl
attribute [simp] J1 Zv Zw
theorem LpT.loop {L:Code} (X:Cx O P E) (hG:Al E B.g) (hd:C2 E L=true) (I:Nat→List AV→AH→Prop) (k:Nat) {t':List AV} {H':AH} (hl:AD B t H t' H') (hI:I k t' H')
  (h:∀k t H,I k t H→Go O P E (LpT P B) L [] t H (Goes (fun t1 H1=>∃j t2 H2,j<k∧AD B t1 H1 t2 H2∧I j t2 H2) Q)):LpT P B L t H Q :=
 Tr.less hl (Tr.loop I k hI fun k t H hI=>Tr.go X hG hd (h k t H hI))
end
def Nxt (B:Bs) (I:Nat→List AV→AH→Prop) (k:Nat) (t:List AV) (H:AH):Prop:=∃j t2 H2,j<k∧AD B t H t2 H2∧I j t2 H2
theorem Nxt.mk {B:Bs} {I:Nat→List AV→AH→Prop} {k:Nat} {t:List AV} {H:AH} (j:Nat) (hj:j<k) {t2:List AV} {H2:AH} (hl:AD B t H t2 H2) (hI:I j t2 H2):Nxt B I k t H:=⟨j,t2,H2,hj,hl,hI⟩
section
variable {O:Orc} {P:Program} {E:Env} {B:Bs} {t:List AV} {H:AH} {Q:AEx→List AV→AH→Prop}
theorem LpT.loopN {L:Code} (X:Cx O P E) (hG:Al E B.g) (hd:C2 E L=true) (I:Nat→List AV→AH→Prop) (k:Nat) {t':List AV} {H':AH} (hl:AD B t H t' H') (hI:I k t' H')
  (h:∀k t H,I k t H→Go O P E (LpT P B) L [] t H (Goes (Nxt B I k) Q)):LpT P B L t H Q :=
 LpT.loop X hG hd I k hl hI h
end
def fI (P:Program) (t:TypeId) (i:Nat):Nat × TypeId × Bool:=match P.underlying t with
 |some (.struct fields)=>(match fields[i]? with
  |some f=>(match AZ P f.type with
   |some n=>(f.offset,f.type,!(n==0))
   |none=>(0,0,false))
  |none=>(0,0,false))
 |_=>(0,0,false)
theorem Od {P:Program} {t:TypeId} {i:Nat} (h:(fI P t i).2.2=true):∃fields f n,P.underlying t=some (.struct fields)∧fields[i]? = some f∧AZ P f.type=some n∧n≠0∧(fI P t i).1=f.offset∧(fI P t i).2.1=f.type:=by
 unfold fI at h ⊢
 split at h
 ·rename_i fields hu
  split at h
  ·rename_i f hf
   split at h
   ·rename_i n hn
    exact ⟨fields,f,n,hu,hf,hn,by simpa using h,rfl,rfl⟩
   ·cases h
  ·cases h
 ·cases h
@[simp] theorem fiA {P:Program} {t:TypeId} {i:Nat} (h:(fI P t i).2.2=true) (id off:Nat):BE P t (.ptr id off) i=some (.ptr id (off+(fI P t i).1)):=by obtain ⟨fields,f,n,h1,h2,h3,h4,h5,h6⟩:=Od h;simp only [BE,h1,h2,h3,h4,h5,if_false]
@[simp] theorem fiV {P:Program} {t:TypeId} {i:Nat} (h:(fI P t i).2.2=true) (cs:List AV) (off:Nat):BE P t (.vptr cs off) i=some (.vptr cs (off+(fI P t i).1)):=by obtain ⟨fields,f,n,h1,h2,h3,h4,h5,h6⟩:=Od h;simp only [BE,h1,h2,h3,h4,h5,if_false]
@[simp] theorem fiL {P:Program} {t:TypeId} {i:Nat} (h:(fI P t i).2.2=true) (cs:List AV):BM P t (.agg cs) i=BI P (fI P t i).2.1 cs (fI P t i).1:=by obtain ⟨fields,f,n,h1,h2,h3,h4,h5,h6⟩:=Od h;simp only [BM,h1,h2,h5,h6]
def K0 (ops:Array Oper) (k:Nat):List (Nat × Nat × Oper)→Bool
 |[]=>true
 |r::rs=>rs.all (fun s=>s.2.1.testBit r.1 || (!(r.1==k) && !(s.1==k)&&r.2.2.apart ops s.2.2))&&K0 ops k rs
theorem SZ {ops:Array Oper} {k:Nat}:∀(l:List BX),(∀r∈l,r.i≠k→r.u=[])→K0 ops k (l.map BX.syn)=true→chk ops l=true
 |[],_,_=>rfl
 |r::l,h,hc=>by
  simp only [List.map_cons,K0,Bool.and_eq_true] at hc;simp only [chk,Bool.and_eq_true];refine ⟨?_,SZ l (fun q hq=>h q (List.mem_cons_of_mem _ hq)) hc.2⟩;rw [List.all_eq_true];intro q hq;have h1:=List.all_eq_true.1 hc.1 q.syn (List.mem_map_of_mem hq);simp only [BX.syn,Bool.or_eq_true,Bool.and_eq_true,Bool.not_eq_true',beq_eq_false_iff_ne] at h1;simp only [Hj,Bool.or_eq_true,Bool.and_eq_true];rcases h1 with h1|⟨⟨h1,h2⟩,h3⟩
  ·exact .inl h1
  ·refine .inr ⟨h3,?_⟩
   simp [Js,h r List.mem_cons_self h1,h q (List.mem_cons_of_mem _ hq) h2]
theorem Sa {O:Orc} {P:Program} {E:Env} {ops:Array Oper}:∀(l1 l2:List (Oper × Nat)) (i:Nat) (ms:List Nat) {t t1 t2:List AV} {H H1 H2:AH} {a b:List BX},
  evD O P E ops i ms l1 t H=some (t1,H1,a)→evD O P E ops (i+l1.length) ms l2 t1 H1=some (t2,H2,b)→evD O P E ops i ms (l1++l2) t H=some (t2,H2,a++b)
 |[],l2,i,ms,t,t1,t2,H,H1,H2,a,b,h1,h2=>by simp only [evD,Option.some.injEq,Prod.mk.injEq] at h1;obtain ⟨rfl,rfl,rfl⟩:=h1;simpa using h2
 |p::l1,l2,i,ms,t,t1,t2,H,H1,H2,a,b,h1,h2=>by
  simp only [evD] at h1
  split at h1
  ·rename_i v u S hd
   split at h1
   ·rename_i t' K l hr
    simp only [Option.some.injEq,Prod.mk.injEq] at h1;obtain ⟨rfl,rfl,rfl⟩:=h1;have:=Sa l1 l2 (i+1) ms hr (by rw [List.length_cons] at h2;rw [show i+1+l1.length=i+(l1.length+1) by omega];exact h2);simp only [List.cons_append,evD,hd,this]
   ·cases h1
  ·cases h1
theorem Sb:∀(l1 l2:List (Oper × Nat)) (i:Nat) (ms:List Nat),Dc i ms (l1++l2)=Dc i ms l1++Dc (i+l1.length) ms l2
 |[],l2,i,ms=>by simp [Dc]
 |p::l1,l2,i,ms=>by simp only [List.cons_append,Dc,Sb l1 l2 (i+1) ms,List.length_cons];rw [show i+1+l1.length=i+(l1.length+1) by omega]
theorem Zx {O:Orc} {P:Program} {E:Env} {ops:Array Oper} {t t1 t2:List AV} {H:AH} {k:Nat} {l1 l2:List (Oper × Nat)} {p:Oper × Nat} {v:AV} {u:Ups} {S:List Nat} (h0:Ag E ops.toList=0)
  (hl:AY E ops.toList H.length=l1++p::l2) (hk:l1.length=k) (h1:evP O P E ops l1 t H=some t1) (hp:CX O P E ops t1 H p=some (v,u,S)) (h2:evP O P E ops l2 (AX t1 p.1.dst v) (AR H u)=some t2)
  (hs:K0 ops k (Dc 0 (CE [] ops.toList) (AY E ops.toList H.length))=true) (hb:F8 0 ops.toList=true):EE O P E ops t H=some (t2,AR H u):=by
 obtain ⟨a,a1,a2,a3⟩:=MC l1 0 (CE [] ops.toList) h1;obtain ⟨b,b1,b2,b3⟩:=MC l2 (0+l1.length+1) (CE [] ops.toList) h2
 have pg:evD O P E ops (0+l1.length) (CE [] ops.toList) (p::l2) t1 H=some (t2,AR H u,⟨0+l1.length,(CE [] ops.toList).getD (0+l1.length) 0,p,v,u,S⟩::b):=by simp only [evD,hp,b1]
 have sw:=Sa l1 (p::l2) 0 (CE [] ops.toList) a1 pg;rw [←hl] at sw
 have uD:(a++(⟨0+l1.length,(CE [] ops.toList).getD (0+l1.length) 0,p,v,u,S⟩:BX)::b).map BX.syn=Dc 0 (CE [] ops.toList) (AY E ops.toList H.length):=by rw [hl,Sb,List.map_append,List.map_cons,a3,b3];rfl
 have hg:grow H (Ag E ops.toList)=H:=by rw [h0];rfl
 have hu:∀r∈a++(⟨0+l1.length,(CE [] ops.toList).getD (0+l1.length) 0,p,v,u,S⟩:BX)::b,r.i≠k→r.u=[]:=by
  intro r hr tu;rcases List.mem_append.1 hr with hr|hr
  ·exact a2 r hr
  ·rcases List.mem_cons.1 hr with rfl|hr
   ·exact absurd (by simpa using hk) tu
   ·exact b2 r hr
 unfold EE;rw [hg,sw];simp only;rw [if_pos ⟨SZ (k:=k) _ hu (by rw [uD];exact hs),hb⟩]
def Sc (E:Env) (k:Nat) (ops:Array Oper):Bool:=(Ag E ops.toList==0)&&K0 ops k (Jx 0 (CE [] ops.toList) ops.toList)&&F8 0 ops.toList
def Sol (O:Orc) (P:Program) (E:Env) (ops:Array Oper) (k:Nat) (t1:List AV) (H:AH) (Q:AEx→List AV→AH→Prop):Prop :=∃p v u S,(AY E ops.toList H.length)[k]? = some p∧CX O P E ops t1 H p=some (v,u,S)∧GoP O P E Gb ops ((AY E ops.toList H.length).drop (k+1)) [] (AX t1 p.1.dst v) (AR H u) Q
theorem Tr.solid {O:Orc} {P:Program} {E:Env} {B:Bs} (X:Cx O P E) (hG:Al E B.g) (k:Nat) {id:Nat} {ops:Array Oper} {t:List AV} {H:AH} {Q:AEx→List AV→AH→Prop} (hd:Sc E k ops=true)
  (h:GoP O P E Gb ops ((AY E ops.toList H.length).take k) [] t H fun _ t1 _=>Sol O P E ops k t1 H Q):Tr P B (.region id ops true) t H Q:=by
 simp only [Sc,Bool.and_eq_true,beq_iff_eq] at hd;have h':=WPx.sound (O:=O) (P:=P) (E:=E) h;unfold WP at h';cases h1:evP O P E ops ((AY E ops.toList H.length).take k) t H with
 |none=>rw [h1] at h';exact h'.elim
 |some t1 =>
  rw [h1] at h';obtain ⟨p,v,u,S,hp,oS,hr⟩:=h';have hr':=WPx.sound (O:=O) (P:=P) (E:=E) hr;unfold WP at hr';cases h2:evP O P E ops ((AY E ops.toList H.length).drop (k+1)) (AX t1 p.1.dst v) (AR H u) with
  |none=>rw [h2] at hr';exact hr'.elim
  |some t2 =>
   rw [h2] at hr';obtain ⟨oX,yA⟩:=List.getElem?_eq_some_iff.1 hp
   have hl:AY E ops.toList H.length=(AY E ops.toList H.length).take k++p::(AY E ops.toList H.length).drop (k+1):=by rw [←yA,←List.drop_eq_getElem_cons oX,List.take_append_drop]
   have tB:=Zx (k:=k) hd.1.1 hl (by rw [List.length_take];omega) h1 oS h2 (by rw [Kx];exact hd.1.2) hd.2;refine Tr.of_W (n:=0) X.sound X.meth X.mix hG ?_;rw [OZ,tB];exact hr'
abbrev Es:=Nat × List Nat × List Nat
def BX.foot (r:BX):Es:=(r.i,r.u.map (·.1),r.S)
section
variable (O:Orc) (P:Program) (E:Env)
def WTr (ops:Array Oper) (ks bs:List Nat):Nat→List (Oper × Nat)→List AV→AH→List Es→(List AV→AH→List Es→Prop)→Prop
 |_,[],t,H,fs,K=>K t H fs
 |i,p::l,t,H,fs,K=>WG (Ap ops t p.1)
   (WTr ops ks bs (i+1) l (AX t p.1.dst .nothing) H (if bs.contains i=true then fs++[(i,[],[])] else fs) K)
   (WS (BG O P E (AC E t) (mask H (BB E H (AC E t) p)) p.2 (BB E H (AC E t) p) p.1) fun r =>
    (ks.contains i=true∨r.2=[])∧(r.2.all fun q=>(BB E H (AC E t) p).contains q.1)=true ∧
     WTr ops ks bs (i+1) l (AX t p.1.dst r.1) (AR H r.2) (if bs.contains i=true then fs++[(i,r.2.map (·.1),BB E H (AC E t) p)] else fs) K)
end
section
variable {O:Orc} {P:Program} {E:Env}
theorem WTr.items {ops:Array Oper} {ks bs ms:List Nat}:∀{l:List (Oper × Nat)} {i:Nat} {t:List AV} {H:AH} {fs:List Es} {K:List AV→AH→List Es→Prop},WTr O P E ops ks bs i l t H fs K →
  ∃t1 H1 its,evD O P E ops i ms l t H=some (t1,H1,its)∧(∀r∈its,ks.contains r.i=false→r.u=[])∧K t1 H1 (fs++(its.filter fun r=>bs.contains r.i).map BX.foot)
 |[],i,t,H,fs,K,h=>⟨t,H,[],rfl,by simp,by rw [List.filter_nil,List.map_nil,List.append_nil];exact h⟩
 |p::l,i,t,H,fs,K,h=>by
  simp only [WTr] at h;unfold WG at h
  split at h
  ·rename_i b hw
   cases b with
   |false =>
    obtain ⟨t1,H1,its,h1,h2,h3⟩:=WTr.items (ms:=ms) (h.1 rfl);refine ⟨t1,H1,⟨i,ms.getD i 0,p,.nothing,[],[]⟩::its,?_,?_,?_⟩
    ·simp only [evD,CX,hw,AR,h1]
    ·intro r hr hk
     rcases List.mem_cons.1 hr with rfl|hr
     ·rfl
     ·exact h2 r hr hk
    ·simp only [List.filter_cons]
     split
     ·rename_i hb
      rw [if_pos hb,List.append_assoc] at h3;exact h3
     ·rename_i hb
      rw [if_neg hb] at h3;exact h3
   |true =>
    have h:=h.2 rfl;cases hs:BG O P E (AC E t) (mask H (BB E H (AC E t) p)) p.2 (BB E H (AC E t) p) p.1 with
    |none=>rw [hs] at h;exact h.elim
    |some r =>
     obtain ⟨v,u⟩:=r;rw [hs] at h;simp only [WS] at h;obtain ⟨hk,hu,h⟩:=h;obtain ⟨t1,H1,its,h1,h2,h3⟩:=WTr.items (ms:=ms) h;refine ⟨t1,H1,⟨i,ms.getD i 0,p,v,u,BB E H (AC E t) p⟩::its,?_,?_,?_⟩
     ·simp only [evD,CX,hw,hs,hu,if_true,h1]
     ·intro r hr hk'
      rcases List.mem_cons.1 hr with rfl|hr
      ·rcases hk with hk|hk
       ·rw [hk] at hk';cases hk'
       ·exact hk
      ·exact h2 r hr hk'
     ·simp only [List.filter_cons]
      split
      ·rename_i hb
       rw [if_pos hb,List.append_assoc] at h3;exact h3
      ·rename_i hb
       rw [if_neg hb] at h3;exact h3
  ·exact h.elim
def MI (ops:Array Oper) (ks:List Nat) (bad:List (Nat × Nat)):List (Nat × Nat × Oper)→Bool
 |[]=>true
 |r::rs=>rs.all (fun s=>s.2.1.testBit r.1 || (r.2.2.apart ops s.2.2&&((!(ks.contains r.1) && !(ks.contains s.1)) || bad.contains (r.1,s.1))))&&MI ops ks bad rs
def MJ (a b:Es):Bool:=(a.2.1.all fun q => !(b.2.2.contains q))&&(b.2.1.all fun q => !(a.2.2.contains q))
def Gc (f:List Es):List (Nat × Nat)→Bool
 |[]=>true
 |(i,j)::r=>(match f.find? (fun x=>x.1==i),f.find? (fun x=>x.1==j) with
  |some a,some b=>MJ a b
  |_,_=>false)&&Gc f r
theorem Sd {f:List Es}:∀{bad:List (Nat × Nat)},Gc f bad=true→∀{i j:Nat},(i,j)∈bad→∃a b,f.find? (fun x=>x.1==i)=some a∧f.find? (fun x=>x.1==j)=some b∧MJ a b=true
 |[],_,_,_,h=>by cases h
 |(i',j')::bad,hb,i,j,h=>by
  simp only [Gc,Bool.and_eq_true] at hb;rcases List.mem_cons.1 h with h|h
  ·injection h with h1 h2
   subst h1;subst h2;have h1:=hb.1
   split at h1
   ·rename_i a b ha hb'
    exact ⟨a,b,ha,hb',h1⟩
   ·cases h1
  ·exact Sd hb.2 h
theorem MK:∀{l:List BX} {bs:List Nat} {r:BX},(l.Pairwise fun a b=>a.i≠b.i)→r∈l→bs.contains r.i=true→((l.filter fun r=>bs.contains r.i).map BX.foot).find? (fun x=>x.1==r.i)=some r.foot
 |[],_,_,_,h,_=>by cases h
 |a::l,bs,r,hp,h,hb=>by
  obtain ⟨h1,h2⟩:=List.pairwise_cons.1 hp;rcases List.mem_cons.1 h with rfl|h
  ·rw [List.filter_cons,if_pos hb,List.map_cons,List.find?_cons]
   simp [BX.foot]
  ·have oL:=h1 r h
   rw [List.filter_cons]
   split
   ·have:((a.foot).1==r.i)=false:=by simp [BX.foot,oL]
    rw [List.map_cons,List.find?_cons,this];exact MK h2 h hb
   ·exact MK h2 h hb
theorem Oe {ops:Array Oper} {ks:List Nat} {bad:List (Nat × Nat)} {L:List BX} (hL:L.Pairwise fun a b=>a.i≠b.i) (hu:∀r∈L,ks.contains r.i=false→r.u=[])
  (xG:Gc ((L.filter fun r=>(bad.flatMap fun p=>[p.1,p.2]).contains r.i).map BX.foot) bad=true):∀(l:List BX),(∀r∈l,r∈L)→MI ops ks bad (l.map BX.syn)=true→chk ops l=true
 |[],_,_=>rfl
 |r::l,hs,hc=>by
  simp only [List.map_cons,MI,Bool.and_eq_true] at hc;simp only [chk,Bool.and_eq_true];refine ⟨?_,Oe hL hu xG l (fun q hq=>hs q (List.mem_cons_of_mem _ hq)) hc.2⟩;rw [List.all_eq_true];intro q hq;have h1:=List.all_eq_true.1 hc.1 q.syn (List.mem_map_of_mem hq);simp only [BX.syn,Bool.or_eq_true,Bool.and_eq_true,Bool.not_eq_true'] at h1;simp only [Hj,Bool.or_eq_true,Bool.and_eq_true];rcases h1 with h1|⟨h1,h2|h2⟩
  ·exact .inl h1
  ·refine .inr ⟨h1,?_⟩
   simp [Js,hu r (hs r List.mem_cons_self) h2.1,hu q (hs q (List.mem_cons_of_mem _ hq)) h2.2]
  ·refine .inr ⟨h1,?_⟩
   have hm:(r.i,q.i)∈bad:=by simpa using h2
   obtain ⟨a,b,ha,hb,hf⟩:=Sd xG hm
   have m1:(bad.flatMap fun p=>[p.1,p.2]).contains r.i=true:=by rw [List.contains_iff_mem,List.mem_flatMap];exact ⟨_,hm,by simp⟩
   have m2:(bad.flatMap fun p=>[p.1,p.2]).contains q.i=true:=by rw [List.contains_iff_mem,List.mem_flatMap];exact ⟨_,hm,by simp⟩
   rw [MK hL (hs r List.mem_cons_self) m1] at ha;rw [MK hL (hs q (List.mem_cons_of_mem _ hq)) m2] at hb;injection ha with ha;injection hb with hb;subst ha;subst hb;simp only [MJ,BX.foot,Bool.and_eq_true,List.all_eq_true,List.mem_map,forall_exists_index,and_imp] at hf;simp only [Js,Bool.and_eq_true,List.all_eq_true];exact ⟨fun x hx=>hf.1 _ x hx rfl,fun x hx=>hf.2 _ x hx rfl⟩
theorem Of {ops:Array Oper} {ms:List Nat}:∀{ps:List (Oper × Nat)} {i:Nat} {t:List AV} {H:AH} {t1:List AV} {H1:AH} {l:List BX},evD O P E ops i ms ps t H=some (t1,H1,l)→l.map BX.syn=Dc i ms ps
 |[],i,t,H,t1,H1,l,h=>by simp only [evD,Option.some.injEq,Prod.mk.injEq] at h;obtain ⟨_,_,rfl⟩:=h;rfl
 |p::ps,i,t,H,t1,H1,l,h=>by
  simp only [evD] at h
  split at h
  ·split at h
   ·rename_i he
    simp only [Option.some.injEq,Prod.mk.injEq] at h;obtain ⟨_,_,rfl⟩:=h;simp only [List.map_cons,Dc,BX.syn,Of he]
   ·cases h
  ·cases h
def IM (ops:Array Oper) (ks:List Nat) (bad:List (Nat × Nat)):Bool:=MI ops ks bad (Jx 0 (CE [] ops.toList) ops.toList)&&F8 0 ops.toList
theorem Tr.turns {B:Bs} (X:Cx O P E) (hG:Al E B.g) (ks:List Nat) (bad:List (Nat × Nat)) {id:Nat} {ops:Array Oper} {t:List AV} {H:AH} {Q:AEx→List AV→AH→Prop} (hd:IM ops ks bad=true)
  (h:WTr O P E ops ks (bad.flatMap fun p=>[p.1,p.2]) 0 (AY E ops.toList H.length) t (grow H (Ag E ops.toList)) [] fun t1 H1 f=>Gc f bad=true∧Q .normal t1 H1):Tr P B (.region id ops true) t H Q:=by
 simp only [IM,Bool.and_eq_true] at hd;obtain ⟨t1,H1,its,h1,h2,h3,h4⟩:=WTr.items (ms:=CE [] ops.toList) h;obtain ⟨q1,q2,q3,q4⟩:=Ks _ _ _ _ _ _ _ h1
 have hp:its.Pairwise fun a b=>a.i≠b.i:=by
  have:(its.map (·.i)).Pairwise (· ≠ ·):=by rw [q4];exact (List.pairwise_lt_range' ..).imp (fun h=>Nat.ne_of_lt h)
  exact List.pairwise_map.1 this
 rw [List.nil_append] at h3;have uD:its.map BX.syn=Dc 0 (CE [] ops.toList) (AY E ops.toList H.length):=Of h1;have hc:chk ops its=true:=Oe hp h2 h3 its (fun _ h=>h) (by rw [uD,Kx];exact hd.1);refine Tr.of_W (n:=0) X.sound X.meth X.mix hG ?_;rw [OZ];unfold EE;rw [h1];simp only;rw [if_pos ⟨hc,hd.2⟩];exact h4
end
def soft:Code→Code
 |.region id ops true => .loop (.scope (.region id ops true))
 |.seq a b => .seq (soft a) (soft b)
 |.cond c a b => .cond c (soft a) (soft b)
 |.block id c => .block id (soft c)
 |c=>c
theorem Zy (id:Nat) (ops:Array Oper):soft (.region id ops true) = .loop (.scope (.region id ops true)):=AS rfl
theorem Zz (id:Nat) (ops:Array Oper):soft (.region id ops false) = .region id ops false:=AS rfl
theorem Z0 (a b:Code):soft (.seq a b) = .seq (soft a) (soft b):=AS rfl
theorem Z1 (c:Operand) (a b:Code):soft (.cond c a b) = .cond c (soft a) (soft b):=AS rfl
theorem Z2 (id:Nat) (c:Code):soft (.block id c) = .block id (soft c):=AS rfl
theorem Z3 (c:Code):soft (.loop c) = .loop c:=AS rfl
theorem Z4:soft .skip = .skip:=AS rfl
theorem Z5:soft .ret = .ret:=AS rfl
theorem Z6 (id:Nat):soft (.exit id) = .exit id:=AS rfl
attribute [simp] Zy Zz Z0 Z1 Z2 Z3 Z4 Z5 Z6
def Gd:Code→Bool
 |.loop (.scope _)=>false
 |.seq a b=>Gd a&&Gd b
 |.cond _ a b=>Gd a&&Gd b
 |.block _ c=>Gd c
 |.scope _=>false
 |_=>true
def LpD (P:Program) (B:Bs):EH:=fun c t H Q=>match c with
 |.scope r=>Tr P B r t H Q
 |c=>Tr P B (.loop c) t H Q
section
variable {O:Orc} {P:Program} {E:Env} {B:Bs}
theorem Wt.soft (X:Cx O P E) (hG:Al E B.g):∀{c:Code} {t:List AV} {H:AH} {Q:AEx→List AV→AH→Prop},Gd c=true→Wt O P E (LpD P B) (soft c) t H Q→Tr P B c t H Q
 |.skip,t,H,Q,_,h=>Tr.skip h
 |.region id ops false,t,H,Q,_,h=>Tr.run X hG (by simp [C2]) h
 |.region id ops true,t,H,Q,_,h=>h
 |.seq a b,t,H,Q,hd,h=>by
  simp only [Gd,Bool.and_eq_true] at hd;simp only [Fw.soft,Wt] at h;refine Tr.seq (Tr.mono (Wt.soft X hG hd.1 h) ?_);intro e t1 H1 h1;cases e with
  |normal=>exact Wt.soft X hG hd.2 h1
  |exit id=>exact h1
  |ret=>exact h1
 |.cond c a b,t,H,Q,hd,h=>by
  simp only [Gd,Bool.and_eq_true] at hd;simp only [Fw.soft,Wt] at h;unfold WB at h
  split at h
  ·rename_i v hv
   exact Tr.cond hG v hv (fun e=>Wt.soft X hG hd.1 (h.1 e)) (fun e=>Wt.soft X hG hd.2 (h.2 e))
  ·exact h.elim
 |.block id c,t,H,Q,hd,h=>by simp only [Gd] at hd;simp only [Fw.soft,Wt] at h;exact Tr.block (Wt.soft X hG hd h)
 |.exit id,t,H,Q,_,h=>Tr.exit h
 |.ret,t,H,Q,_,h=>Tr.ret h
 |.loop c,t,H,Q,hd,h=>by simp only [Fw.soft,Wt] at h;cases c<;>first|exact h|cases hd
 |.rangeFunc _ _ _ _,_,_,_,_,h=>h.elim
 |.scope _,_,_,_,hd,_=>by cases hd
 |.label _,_,_,_,_,h=>h.elim
 |.goto _,_,_,_,_,h=>h.elim
 |.refuse _,_,_,_,_,h=>h.elim
theorem Tr.goD (X:Cx O P E) (hG:Al E B.g) {c:Code} {t:List AV} {H:AH} {Q:AEx→List AV→AH→Prop} (h:Go O P E (LpD P B) (soft c) [] t H Q) (hd:Gd c=true:=by kernel_rfl):Tr P B c t H Q:=Wt.soft X hG hd h
@[simp] abbrev zL0:List (Nat × Nat):=[(1,5),(2,5),(3,5),(4,5)]
@[simp] abbrev zL1:List (Nat × Nat):=[(0,8),(0,12),(1,8),(1,12),(2,8),(2,12),(3,8),(3,12),(4,8),(4,12),(5,8),(5,12),(8,9),(8,10),(8,11)]
@[simp] abbrev zL2:List (Nat × Nat):=[(0,14),(1,14),(2,14),(3,14)]
@[simp] abbrev zL3:List (Nat × Nat):=[(0,15),(1,15),(2,15),(3,15),(4,15),(5,15),(6,15),(7,15),(8,15),(9,15),(10,15),(11,15),(12,15),(13,15),(13,16),(14,15),(14,16)]
@[simp] abbrev zL4:List (Nat × Nat):=[(0,7),(0,10),(0,13),(1,7),(1,10),(1,13),(2,7),(2,10),(2,13),(3,7),(3,10),(3,13),(4,7),(4,10),(4,13),(7,8),(7,9),(7,11),(7,12),(7,14),(7,15),(10,11),(10,12),(10,14),(10,15),(13,14),(13,15)]
@[simp] abbrev zL5:List (Nat × Nat):=[(1,6),(2,6),(3,6),(4,6),(5,6)]
@[simp] abbrev zL6:List (Nat × Nat):=[(8,12),(9,10),(9,11),(9,12)]
@[simp] abbrev zL7:List (Nat × Nat):=[(0,10),(1,10),(2,10),(3,10),(4,10),(5,10),(6,10),(7,10),(8,10),(9,10)]
theorem LpD.turns {Lp:EH} {ks0:List Fr} (X:Cx O P E) (hG:Al E B.g) (ks:List Nat) (bad:List (Nat × Nat)) {id:Nat} {ops:Array Oper} {t:List AV} {H:AH} {Q:AEx→List AV→AH→Prop}
  (h:WTr O P E ops ks (bad.flatMap fun p=>[p.1,p.2]) 0 (AY E ops.toList H.length) t (grow H (Ag E ops.toList)) [] fun t1 H1 f=>Gc f bad=true∧Go O P E Lp .skip ks0 t1 H1 Q) (hd:IM ops ks bad=true:=by kernel_rfl):LpD P B (.scope (.region id ops true)) t H (unwind O P E Lp ks0 Q) :=
 Tr.turns X hG ks bad hd (by simpa only [J1] using h)
theorem LpD.loopN {L:Code} {t:List AV} {H:AH} {Q:AEx→List AV→AH→Prop} (X:Cx O P E) (hG:Al E B.g) (I:Nat→List AV→AH→Prop) (k:Nat) {t':List AV} {H':AH} (hl:AD B t H t' H') (hI:I k t' H')
  (h:∀k t H,I k t H→Go O P E (LpD P B) (soft L) [] t H (Goes (Nxt B I k) Q)) (hd:Gd L=true:=by kernel_rfl):LpD P B L t H Q:=by
 have key:Tr P B (.loop L) t H Q:=Tr.less hl (Tr.loop I k hI fun k t H hI=>Tr.goD X hG (h k t H hI) hd);cases L<;>first|exact key|cases hd
end
theorem Ge {H:AH} {S:List Nat} {i:Nat} (h:i∈S):(mask H S).at i=H.at i:=by
 rw [fd]
 by_cases hl:i<H.length
 ·rw [if_pos hl,if_pos (by simpa using h)]
 ·rw [if_neg hl,C7 (by omega)]
theorem Se {x:AV} {i:Nat} (h:i∈BN x):∀{l:List AV},x∈l→i∈ED l
 |[],hx=>by cases hx
 |y::l,hx=>by
  rw [ED,List.mem_append];rcases List.mem_cons.1 hx with rfl|hx
  ·exact .inl h
  ·exact .inr (Se h hx)
theorem ML (E:Env) (H:AH) (ρ:Operand→AV) (o:Oper) (fid:Nat) (hq:OH o.op=false) {x:Operand} (hx:x∈Jr o.op) {i:Nat} (h:i∈BN (ρ x)):i∈BB E H ρ (o,fid):=by
 have h1:i∈FY ρ o:=by unfold FY;rw [if_neg (by rw [hq];decide)];exact Se h (List.mem_map_of_mem hx)
 have h2:=OG H (Hi o.op) _ i h1;unfold BB
 split
 ·exact List.mem_cons_of_mem _ h2
 ·exact h2
theorem Sf (P:Program) (u:TypeId) {H:AH} {S:List Nat} {a:AV} (h:∀i∈BN a,i∈S):A8 P (mask H S) u a=A8 P H u a:=by
 cases a with
 |ptr id off=>simp only [A8,Ge (h id (by simp [BN]))]
 |sptr id ver sz off=>simp only [A8,Ge (h id (by simp [BN]))]
 |_=>rfl
theorem Sg (P:Program) (u:TypeId) {H:AH} {S:List Nat} {a x:AV} (h:∀i∈BN a,i∈S):DC P (mask H S) u a x=DC P H u a x:=by
 cases a with
 |ptr id off=>simp only [DC,Ge (h id (by simp [BN]))]
 |lptr k sz n=>simp only [DC,Ge (h k (by simp [BN]))]
 |_=>rfl
theorem Ho (sz:Nat) {H:AH} {S:List Nat} {a:AV} (h:∀i∈BN a,i∈S):D7 (mask H S) sz a=D7 H sz a:=by
 cases a with
 |bsl id off s n c=>simp only [D7,Ge (h id (by simp [BN]))]
 |_=>rfl
theorem Z7 (P:Program) (fid:Nat) (u w:TypeId) {H:AH} {S:List Nat} {a x:AV} (h:∀i∈BN a,i∈S) (h':∀i∈BN x,i∈S):DO P (mask H S) fid u w a x=DO P H fid u w a x:=by
 unfold DO;cases a with
 |slice ow sz n cs =>
  cases ow with
  |tok k=>simp only [Ho _ h',Ge (h k (by simp [BN]))]
  |_=>simp only [Ho _ h']
 |bsl id off s n c=>simp only [Ho _ h',Ge (h id (by simp [BN]))]
 |_=>simp only [Ho _ h']
theorem Z8 (P:Program) (fid:Nat) (u w:TypeId) {H:AH} {S:List Nat} {a x:AV} (h:∀i∈BN a,i∈S) (h':∀i∈BN x,i∈S):F0 P (mask H S) fid u w a x=F0 P H fid u w a x:=by
 unfold F0;cases a with
 |slice ow sz n cs =>
  cases ow with
  |tok k=>simp only [Ho _ h',Ge (h k (by simp [BN]))]
  |_=>simp only [Ho _ h']
 |_=>simp only [Ho _ h']
theorem Z9 (P:Program) (fid:Nat) (u w:TypeId) {H:AH} {S:List Nat} {a x:AV} (h:∀i∈BN a,i∈S) (h':∀i∈BN x,i∈S):E6 P (mask H S) fid u w a x=E6 P H fid u w a x:=by
 unfold E6;cases a with
 |stk k ver sz n=>simp only [Ho _ h',Ge (h k (by simp [BN]))]
 |_=>simp only [Ho _ h']
theorem aA (P:Program) (E:Env) (fid:Nat) (u w:TypeId) {H:AH} {S:List Nat} {a x:AV} (h:∀i∈BN a,i∈S) (h':∀i∈BN x,i∈S):D8 P E (mask H S) fid u w a x=D8 P E H fid u w a x:=by unfold D8;rw [Z9 P fid u w h h',Z8 P fid u w h h',Z7 P fid u w h h']
def Og (S:List Nat) (n:Nat) (r:Option (AV × AH)):Option (AV × Ups):=match r with
 |some (v,H1)=>if H1.length=n then some (v,S.filterMap fun i=>(H1.at i).map fun e=>(i,e)) else none
 |none=>none
theorem aB (S:List Nat) (n:Nat) (v:AV) (H1:AH) (h:H1.length=n):Og S n (some (v,H1))=some (v,S.filterMap fun i=>(H1.at i).map fun e=>(i,e)):=by simp [Og,h]
section
variable (O:Orc) (P:Program) (E:Env)
abbrev TK:=List AV→AH→List Es→Prop
def WTq (ops:Array Oper) (ks bs:List Nat) (i:Nat) (o:Oper) (fid:Nat) (l:List (Oper × Nat)) (t:List AV) (H:AH) (fs:List Es) (K:TK):Prop :=
 WS (BG O P E (AC E t) (mask H (BB E H (AC E t) (o,fid))) fid (BB E H (AC E t) (o,fid)) o) fun r =>
    (ks.contains i=true∨r.2=[])∧(r.2.all fun q=>(BB E H (AC E t) (o,fid)).contains q.1)=true ∧
     WTr O P E ops ks bs (i+1) l (AX t o.dst r.1) (AR H r.2) (if bs.contains i=true then fs++[(i,r.2.map (·.1),BB E H (AC E t) (o,fid))] else fs) K
def WTg (b:Option Bool) (ops:Array Oper) (ks bs:List Nat) (i:Nat) (o:Oper) (fid:Nat) (l:List (Oper × Nat)) (t:List AV) (H:AH) (fs:List Es) (K:TK):Prop :=WG b (WTr O P E ops ks bs (i+1) l (AX t o.dst .nothing) H (if bs.contains i=true then fs++[(i,[],[])] else fs) K) (WTq O P E ops ks bs i o fid l t H fs K)
def WTv (r:Option AV) (ops:Array Oper) (ks bs:List Nat) (i:Nat) (o:Oper) (fid:Nat) (l:List (Oper × Nat)) (t:List AV) (H:AH) (fs:List Es) (K:TK):Prop :=WS r fun v=>WTr O P E ops ks bs (i+1) l (AX t o.dst v) H (if bs.contains i=true then fs++[(i,[],BB E H (AC E t) (o,fid))] else fs) K
def WTu (r:Option (AV × Ups)) (ops:Array Oper) (ks bs:List Nat) (i:Nat) (o:Oper) (fid:Nat) (l:List (Oper × Nat)) (t:List AV) (H:AH) (fs:List Es) (K:TK):Prop :=
 WS r fun r=>(ks.contains i=true∨r.2=[])∧(r.2.all fun q=>(BB E H (AC E t) (o,fid)).contains q.1)=true ∧
     WTr O P E ops ks bs (i+1) l (AX t o.dst r.1) (AR H r.2) (if bs.contains i=true then fs++[(i,r.2.map (·.1),BB E H (AC E t) (o,fid))] else fs) K
def WTc (f:Operand) (aS:Array Operand) (ops:Array Oper) (ks bs:List Nat) (i:Nat) (o:Oper) (fid:Nat) (l:List (Oper × Nat)) (t:List AV) (H:AH) (fs:List Es) (K:TK):Prop :=WTu O P E (Og (BB E H (AC E t) (o,fid)) H.length (IL O P (AC E t f) (aS.toList.map (AC E t)) (mask H (BB E H (AC E t) (o,fid))))) ops ks bs i o fid l t H fs K
end
section
variable {O:Orc} {P:Program} {E:Env} {ops:Array Oper} {ks bs:List Nat} {i:Nat} {l:List (Oper × Nat)} {t:List AV} {H:AH} {fs:List Es} {K:TK}
theorem aC:WTr O P E ops ks bs i [] t H fs K=K t H fs:=AS rfl
theorem aD (o:Oper) (fid:Nat):WTr O P E ops ks bs i ((o,fid)::l) t H fs K=WTg O P E (Ap ops t o) ops ks bs i o fid l t H fs K:=AS rfl
theorem aE (o:Oper) (fid:Nat):WTg O P E (some true) ops ks bs i o fid l t H fs K=WTq O P E ops ks bs i o fid l t H fs K:=by simp [WTg,WG]
theorem aF (o:Oper) (fid:Nat):WTg O P E (some false) ops ks bs i o fid l t H fs K=WTr O P E ops ks bs (i+1) l (AX t o.dst .nothing) H (if bs.contains i=true then fs++[(i,[],[])] else fs) K:=by simp [WTg,WG]
theorem aG (v:AV) (o:Oper) (fid:Nat):WTv O P E (some v) ops ks bs i o fid l t H fs K=WTr O P E ops ks bs (i+1) l (AX t o.dst v) H (if bs.contains i=true then fs++[(i,[],BB E H (AC E t) (o,fid))] else fs) K:=AS rfl
theorem aH (v:AV) (u:Ups) (o:Oper) (fid:Nat):WTu O P E (some (v,u)) ops ks bs i o fid l t H fs K=((ks.contains i=true∨u=[])∧(u.all fun q=>(BB E H (AC E t) (o,fid)).contains q.1)=true ∧
     WTr O P E ops ks bs (i+1) l (AX t o.dst v) (AR H u) (if bs.contains i=true then fs++[(i,u.map (·.1),BB E H (AC E t) (o,fid))] else fs) K):=AS rfl
theorem DR {o:Oper} {fid:Nat} {r:Option AV} (h:BG O P E (AC E t) (mask H (BB E H (AC E t) (o,fid))) fid (BB E H (AC E t) (o,fid)) o=r.map fun a=>(a,[])) :
  WTq O P E ops ks bs i o fid l t H fs K=WTv O P E r ops ks bs i o fid l t H fs K:=by
 unfold WTq WTv;rw [h];cases r<;>simp [WS,AR]
theorem K1 {o:Oper} {fid:Nat} {r:Option (AV × Ups)} (h:BG O P E (AC E t) (mask H (BB E H (AC E t) (o,fid))) fid (BB E H (AC E t) (o,fid)) o=r) :
  WTq O P E ops ks bs i o fid l t H fs K=WTu O P E r ops ks bs i o fid l t H fs K:=by
 unfold WTq WTu;rw [h]
section
variable (fid:Nat) (dst:Option Tmp) (ty:TypeId) (pos:String) (after:Array Edge) (guard:Option (Nat × Bool))
theorem aI (x:Operand):WTq O P E ops ks bs i ⟨dst,.move x,ty,pos,after,guard⟩ fid l t H fs K=WTv O P E (some ((AC E t) x)) ops ks bs i ⟨dst,.move x,ty,pos,after,guard⟩ fid l t H fs K:=DR rfl
theorem aJ (x:Operand):WTq O P E ops ks bs i ⟨dst,.assign x,ty,pos,after,guard⟩ fid l t H fs K=WTv O P E (some ((AC E t) x)) ops ks bs i ⟨dst,.assign x,ty,pos,after,guard⟩ fid l t H fs K:=DR rfl
theorem aK (u:TypeId) (parts:Array (Nat × Operand)):WTq O P E ops ks bs i ⟨dst,.build u parts,ty,pos,after,guard⟩ fid l t H fs K=WTv O P E (Aq P u (parts.toList.map fun p=>(p.1,(AC E t) p.2))) ops ks bs i ⟨dst,.build u parts,ty,pos,after,guard⟩ fid l t H fs K:=DR rfl
theorem aL (u:TypeId) (len:Nat) (parts:Array (Nat × Operand)):WTq O P E ops ks bs i ⟨dst,.buildSlice u len parts,ty,pos,after,guard⟩ fid l t H fs K=WTv O P E (CK P u len (parts.toList.map fun p=>(p.1,(AC E t) p.2))) ops ks bs i ⟨dst,.buildSlice u len parts,ty,pos,after,guard⟩ fid l t H fs K:=DR rfl
theorem aM (u:TypeId) (a:Operand):WTq O P E ops ks bs i ⟨dst,.load u a,ty,pos,after,guard⟩ fid l t H fs K=WTv O P E (A8 P H u ((AC E t) a)) ops ks bs i ⟨dst,.load u a,ty,pos,after,guard⟩ fid l t H fs K:=DR (by
  show (A8 P (mask H _) u (AC E t a)).map (fun a=>(a,([]:Ups)))=_
  rw [Sf P u fun i hi=>ML E H (AC E t) _ fid rfl (by simp [Op.operands]) hi])
theorem aO (x:Operand):WTq O P E ops ks bs i ⟨dst,.nilCheck x,ty,pos,after,guard⟩ fid l t H fs K=WTv O P E (BS ((AC E t) x)) ops ks bs i ⟨dst,.nilCheck x,ty,pos,after,guard⟩ fid l t H fs K:=DR rfl
theorem aP (op:BinOp) (u:TypeId) (x y:Operand) (w:TypeId):WTq O P E ops ks bs i ⟨dst,.binOp op u x y w,ty,pos,after,guard⟩ fid l t H fs K=WTv O P E (BF P op u (A6 x || A6 y) ((AC E t) x) ((AC E t) y)) ops ks bs i ⟨dst,.binOp op u x y w,ty,pos,after,guard⟩ fid l t H fs K:=DR rfl
theorem aQ (op:UnOp) (u:TypeId) (x:Operand):WTq O P E ops ks bs i ⟨dst,.unOp op u x,ty,pos,after,guard⟩ fid l t H fs K=WTv O P E (aun op ((AC E t) x)) ops ks bs i ⟨dst,.unOp op u x,ty,pos,after,guard⟩ fid l t H fs K:=DR rfl
theorem aR (fn:Fn) (first captured:Array Operand):WTq O P E ops ks bs i ⟨dst,.makeFunc fn first captured,ty,pos,after,guard⟩ fid l t H fs K=WTv O P E (some (.func fn (first.toList.map (AC E t)) (captured.toList.map (AC E t)))) ops ks bs i ⟨dst,.makeFunc fn first captured,ty,pos,after,guard⟩ fid l t H fs K:=DR rfl
theorem aT (u:TypeId) (x:Operand) (lo hi mx:Option Operand):WTq O P E ops ks bs i ⟨dst,.slice u x lo hi mx,ty,pos,after,guard⟩ fid l t H fs K=WTv O P E (BD P u ((AC E t) x) (lo.map (AC E t)) (hi.map (AC E t)) (mx.map (AC E t))) ops ks bs i ⟨dst,.slice u x lo hi mx,ty,pos,after,guard⟩ fid l t H fs K:=DR rfl
theorem aU (u:TypeId) (x:Operand) (f:Nat):WTq O P E ops ks bs i ⟨dst,.fieldAddr u x f,ty,pos,after,guard⟩ fid l t H fs K=WTv O P E (BE P u ((AC E t) x) f) ops ks bs i ⟨dst,.fieldAddr u x f,ty,pos,after,guard⟩ fid l t H fs K:=DR rfl
theorem aV (u:TypeId) (x:Operand) (f:Nat):WTq O P E ops ks bs i ⟨dst,.field u x f,ty,pos,after,guard⟩ fid l t H fs K=WTv O P E (BM P u ((AC E t) x) f) ops ks bs i ⟨dst,.field u x f,ty,pos,after,guard⟩ fid l t H fs K:=DR rfl
theorem aW (u:TypeId) (x j:Operand):WTq O P E ops ks bs i ⟨dst,.indexAddr u x j,ty,pos,after,guard⟩ fid l t H fs K=WTv O P E (Ao P u ((AC E t) x) ((AC E t) j)) ops ks bs i ⟨dst,.indexAddr u x j,ty,pos,after,guard⟩ fid l t H fs K:=DR rfl
theorem aX (u:TypeId) (x j:Operand):WTq O P E ops ks bs i ⟨dst,.index u x j,ty,pos,after,guard⟩ fid l t H fs K=WTv O P E (BQ P u ((AC E t) x) ((AC E t) j)) ops ks bs i ⟨dst,.index u x j,ty,pos,after,guard⟩ fid l t H fs K:=DR rfl
theorem aY (x:Operand) (u w:TypeId) (ok:Bool):WTq O P E ops ks bs i ⟨dst,.typeAssert x u w ok,ty,pos,after,guard⟩ fid l t H fs K=WTv O P E (D6 P ((AC E t) x) w ok) ops ks bs i ⟨dst,.typeAssert x u w ok,ty,pos,after,guard⟩ fid l t H fs K:=DR rfl
theorem aZ (x:Operand) (j:Nat):WTq O P E ops ks bs i ⟨dst,.extract x j,ty,pos,after,guard⟩ fid l t H fs K=WTv O P E (BR ((AC E t) x) j) ops ks bs i ⟨dst,.extract x j,ty,pos,after,guard⟩ fid l t H fs K:=DR rfl
theorem aa (x:Operand) (u:TypeId):WTq O P E ops ks bs i ⟨dst,.call ⟨.builtin .len,#[x],#[u]⟩,ty,pos,after,guard⟩ fid l t H fs K=WTv O P E (alen P u ((AC E t) x)) ops ks bs i ⟨dst,.call ⟨.builtin .len,#[x],#[u]⟩,ty,pos,after,guard⟩ fid l t H fs K:=DR rfl
theorem ab (x y:Operand) (us:Array TypeId):WTq O P E ops ks bs i ⟨dst,.call ⟨.builtin .max,#[x,y],us⟩,ty,pos,after,guard⟩ fid l t H fs K=WTv O P E (ID ((AC E t) x) ((AC E t) y)) ops ks bs i ⟨dst,.call ⟨.builtin .max,#[x,y],us⟩,ty,pos,after,guard⟩ fid l t H fs K:=DR rfl
theorem ac (x y:Operand) (us:Array TypeId):WTq O P E ops ks bs i ⟨dst,.call ⟨.builtin .min,#[x,y],us⟩,ty,pos,after,guard⟩ fid l t H fs K=WTv O P E (G5 ((AC E t) x) ((AC E t) y)) ops ks bs i ⟨dst,.call ⟨.builtin .min,#[x,y],us⟩,ty,pos,after,guard⟩ fid l t H fs K:=DR rfl
theorem ae (c a b:Operand):WTq O P E ops ks bs i ⟨dst,.pick c a b,ty,pos,after,guard⟩ fid l t H fs K=WTv O P E (HF ((AC E t) c) ((AC E t) a) ((AC E t) b)) ops ks bs i ⟨dst,.pick c a b,ty,pos,after,guard⟩ fid l t H fs K:=DR (SW ..)
theorem ag (u:TypeId) (x:Operand):WTq O P E ops ks bs i ⟨dst,.makeInterface u x,ty,pos,after,guard⟩ fid l t H fs K=WTv O P E (HG P u ((AC E t) x)) ops ks bs i ⟨dst,.makeInterface u x,ty,pos,after,guard⟩ fid l t H fs K:=DR (SX ..)
theorem ah (u:TypeId):WTq O P E ops ks bs i ⟨dst,.alloc u,ty,pos,after,guard⟩ fid l t H fs K=WTu O P E (JE P fid u) ops ks bs i ⟨dst,.alloc u,ty,pos,after,guard⟩ fid l t H fs K:=K1 (by
  simp only [BG,aop,JE]
  cases Ae P u<;>rfl)
theorem ai (u:TypeId) (x:Operand):WTq O P E ops ks bs i ⟨dst,.box u x,ty,pos,after,guard⟩ fid l t H fs K=WTu O P E (Hm E fid u ((AC E t) x)) ops ks bs i ⟨dst,.box u x,ty,pos,after,guard⟩ fid l t H fs K:=K1 (by simp only [BG,aop,Hm])
theorem aj (u:TypeId) (a x:Operand):WTq O P E ops ks bs i ⟨dst,.store u a x,ty,pos,after,guard⟩ fid l t H fs K=WTu O P E (DC P H u ((AC E t) a) ((AC E t) x)) ops ks bs i ⟨dst,.store u a x,ty,pos,after,guard⟩ fid l t H fs K:=K1 (by
  show DC P (mask H _) u (AC E t a) (AC E t x)=_
  rw [Sg P u fun i hi=>ML E H (AC E t) _ fid rfl (x:=a) (by simp [Op.operands]) hi])
theorem ak (s x:Operand) (u w:TypeId):WTq O P E ops ks bs i ⟨dst,.call ⟨.builtin .append,#[s,x],#[u,w]⟩,ty,pos,after,guard⟩ fid l t H fs K=WTu O P E (D8 P E H fid u w ((AC E t) s) ((AC E t) x)) ops ks bs i ⟨dst,.call ⟨.builtin .append,#[s,x],#[u,w]⟩,ty,pos,after,guard⟩ fid l t H fs K:=K1 (by
  show D8 P E (mask H _) fid u w (AC E t s) (AC E t x)=_
  rw [aA P E fid u w (fun i hi=>ML E H (AC E t) _ fid rfl (x:=s) (by simp [Op.operands,Call.operands]) hi) (fun i hi=>ML E H (AC E t) _ fid rfl (x:=x) (by simp [Op.operands,Call.operands]) hi)])
theorem al (f:Operand) (aS:Array Operand) (us:Array TypeId):WTq O P E ops ks bs i ⟨dst,.call ⟨.value f,aS,us⟩,ty,pos,after,guard⟩ fid l t H fs K=WTc O P E f aS ops ks bs i ⟨dst,.call ⟨.value f,aS,us⟩,ty,pos,after,guard⟩ fid l t H fs K:=K1 (by
 simp only [BG,callee,IL];rw [←GY H (BB E H (AC E t) (⟨dst,.call ⟨.value f,aS,us⟩,ty,pos,after,guard⟩,fid))];cases AC E t f with
 |func fn a b =>
  cases fn with
  |func i =>
   simp only;cases AG P i with
   |true =>
    simp only [if_true];cases O i (a++aS.toList.map (AC E t)++b) (mask H (BB E H (AC E t) (⟨dst,.call ⟨.value f,aS,us⟩,ty,pos,after,guard⟩,fid))) with
    |none=>rfl
    |some r=>rfl
   |false=>rfl
  |_=>rfl
 |_=>rfl)
end
end
attribute [simp] aC aD aE aF aG aH aB Gc MJ WTc DD F6 Kq mask
attribute [simp] GX aI aJ aK aL aM aO aP aQ aR aT aU aV aW
attribute [simp] aX aY aZ aa ab ac ae ag ah ai aj ak al
theorem CS.rd {P:Program} {E:Env} {f:FuncId} {fn:Func} {cs cs' rest:List AV} {v:AV} (hE:∀i,low 0 (E.glob i)=true) (hf:P.funcs[f]? = some fn) (hb:fn.body=some (Au fn)) (k:Nat) (hn:(AV.ptr 0 0::rest).length≤fn.ntmps)
  (h:∀B:Bs,B.H=[some (.box cs)]→Al E B.g→Tr P B (Au fn) (mkT fn.ntmps (Eo 0 (.ptr 0 0::rest))) [some (.box cs)] (Fin P fn 1 k v [some (.box cs')]))
  (hr:lowL 0 rest=true) (hv:low 0 v=true) (hc:lowL 0 cs=true) (hc':lowL 0 cs'=true) {H:AH} {id:Nat} (hH:H.at id=some (.box cs)):CS P E f (.ptr id 0::rest) H v (H.set id (some (.box cs'))) :=
 CS.box (CS.of_Tr (H0:=[some (.box cs)]) (H1:=[some (.box cs')]) hf hb k hn h (CA (Nat.zero_le 1) v hv) (by simp [AU,At,Am (Nat.zero_le 1) cs' hc'])) hE hr hv hc hc' hH
theorem CS.rdR {P:Program} {E:Env} {f:FuncId} {fn:Func} {cs cs' rest:List AV} {v:AV} (hE:∀i,low 0 (E.glob i)=true) (hf:P.funcs[f]? = some fn) (hb:fn.body=some (Au fn)) (k:Nat) (hn:(AV.ptr 0 0::rest).length≤fn.ntmps)
  (h:∀B:Bs,B.H=[some (.box cs)]→Al E B.g→Tr P B (Au fn) (mkT fn.ntmps (Eo 0 (.ptr 0 0::rest))) [some (.box cs)] (Fin P fn 1 k v [some (.box cs')]))
  (hr:lowL 1 rest=true) (hv:low 0 v=true) (hc:lowL 0 cs=true) (hc':lowL 0 cs'=true) {H:AH} {id:Nat} (hH:H.at id=some (.box cs)):CS P E f (.ptr id 0::AL (fun _=>id) rest) H v (H.set id (some (.box cs'))):=by
 have h1:=CS.of_Tr (H0:=[some (.box cs)]) (H1:=[some (.box cs')]) hf hb k hn h (CA (Nat.zero_le 1) v hv) (by simp [AU,At,Am (Nat.zero_le 1) cs' hc'])
 have:=CS.embed (k:=1) (fun _=>id) (H:=H) (H':=H.set id (some (.box cs'))) h1 rfl rfl (ME id) hE (by simp [lowL,low,hr]) (CA (Nat.zero_le 1) v hv)
  (by simp [AU,At,Am (Nat.zero_le 1) cs hc]) (by simp [AU,At,Am (Nat.zero_le 1) cs' hc'])
  (fun i hi=>by
   obtain rfl:i=0:=by omega
   simp [AH.at,AI,BZ _ cs hc]
   exact hH)
  (fun i hi=>by
   obtain rfl:i=0:=by omega
   rw [JC hH]
   simp [AH.at,AI,BZ _ cs' hc'])
  (fun j hj=>aSn (hj 0 (by omega)))
 rw [DE _ v hv] at this;simpa [AL,ren] using this
section
variable (O:Orc) (P:Program) (E:Env) (ops:Array Oper)
end
section
variable {O:Orc} {P:Program} {E:Env} {ops:Array Oper}
end
def am:Op→Bool
 |.makeMap _ _=>true
 |_=>false
attribute [simp] am
section
variable {O:Orc} {P:Program} {E:Env} {B:Bs}
end
end Go.Proofs.Fw
