/- Contracts aS values, oracles out of rows of them; rows of things that have cells. -/
import Derived.Test.YtmjfldclpijghaaGreatDoorZt3
import Derived.ChangeSlices
import Derived.WideShapes
import Derived.Carry
set_option linter.unusedSimpArgs false
set_option linter.unusedVariables false
namespace Go.Proofs.Fw
open Go.RowKit
structure AF (P:Program) (E:Env) where
 f:FuncId
 α:Type
 ok:α→AH→Prop
 args:α→List AV
 out:α→AV
 up:α→AH→AH
 cs:∀x H,ok x H→CS P E f (args x) H (out x) (up x H)∧Cb H (up x H)
 same:∀x y H,ok x H→ok y H→args x=args y→out x=out y∧up x H=up y H
section
variable {P:Program} {E:Env}
open Classical in
noncomputable def AF.orc (F:AF P E):Orc:=fun f args H =>if h:f=F.f∧∃x,F.ok x H∧args=F.args x then some (F.out h.2.choose,F.up h.2.choose H) else none
theorem AF.orc_at (F:AF P E) {x:F.α} {H:AH} (h:F.ok x H):F.orc F.f (F.args x) H=some (F.out x,F.up x H):=by
 have hh:F.f=F.f∧∃y,F.ok y H∧F.args x=F.args y:=⟨rfl,x,h,rfl⟩
 unfold AF.orc;rw [dif_pos hh];have hc:=hh.2.choose_spec;obtain ⟨h1,h2⟩:=F.same _ _ H hc.1 h hc.2.symm;rw [h1,h2]
theorem AF.orc_sound (F:AF P E):AT P E F.orc:=by
 intro f args H v H' ho;unfold AF.orc at ho
 split at ho
 ·rename_i hx
  injection ho with ho;simp only [Prod.mk.injEq] at ho;obtain ⟨rfl,rfl⟩:=ho;have hs:=hx.2.choose_spec;generalize hx.2.choose=y at *;obtain ⟨rfl,_⟩:=hx;rw [hs.2];obtain ⟨h1,h2⟩:=F.cs y H hs.1;exact ⟨h1,h2.1,h2.2⟩
 ·cases ho
noncomputable def oOf:List (AF P E)→Orc
 |[]=>fun _ _ _=>none
 |F::L=>fun f args H=>if f=F.f then F.orc f args H else oOf L f args H
theorem Sh:∀L:List (AF P E),AT P E (oOf L)
 |[]=>fun _ _ _ _ _ h=>by cases h
 |F::L=>fun f args H v H' ho=>by
  unfold oOf at ho
  split at ho
  ·exact F.orc_sound f args H v H' ho
  ·exact Sh L f args H v H' ho
theorem an (F:AF P E) (L:List (AF P E)) {x:F.α} {H:AH} (h:F.ok x H):oOf (F::L) F.f (F.args x) H=some (F.out x,F.up x H):=by unfold oOf;rw [if_pos rfl,F.orc_at h]
theorem ao (F:AF P E) (L:List (AF P E)) {f:FuncId} {args:List AV} {H:AH} (h:f≠F.f):oOf (F::L) f args H=oOf L f args H:=by
 conv=>lhs;unfold oOf
 rw [if_neg h]
theorem DS {L:List (AF P E)} (hL:(L.map (·.f)).Nodup) (F:AF P E) (hF:F∈L) {x:F.α} {H:AH} (h:F.ok x H):oOf L F.f (F.args x) H=some (F.out x,F.up x H):=by
 induction L with
 |nil=>cases hF
 |cons G L ih =>
  rw [List.map_cons,List.nodup_cons] at hL;rcases List.mem_cons.1 hF with rfl|hF
  ·exact an F L h
  ·have oL:F.f≠G.f:=fun he=>hL.1 (he ▸ List.mem_map_of_mem hF)
   rw [ao G L oL];exact ih hL.2 hF
theorem Bn (L:List (AF P E)) (hM:Ch P E) (pD:P.follows .mixedOrders=true):Cx (oOf L) P E:=⟨Sh L,hM,pD⟩
def AF.pure (f:FuncId) {α:Type} (ok:α→Prop) (mk:α→List AV) (out:α→AV) (cs:∀x,ok x→∀H,CS P E f (mk x) H (out x) H) (same:∀x y,ok x→ok y→mk x=mk y→out x=out y):AF P E where
 f:=f
 α:=α
 ok:=fun x _=>ok x
 args:=mk
 out:=out
 up:=fun _ H=>H
 cs:=fun x H h=>⟨cs x h H,Cb.refl H⟩
 same:=fun x y _ hx hy h=>⟨same x y hx hy h,rfl⟩
def AF.meth (f:FuncId) {S α:Type} (cell:S→List AV) (hc:∀s s',cell s=cell s'→s=s') (ok:α→S→Prop) (mk:Nat→α→List AV) (out:α→S→AV) (next:α→S→S)
  (cs:∀x s,ok x s→∀H id,H.at id=some (.box (cell s))→CS P E f (.ptr id 0::mk id x) H (out x s) (H.set id (some (.box (cell (next x s))))))
  (same:∀id x y s,ok x s→ok y s→mk id x=mk id y→out x s=out y s∧next x s=next y s):AF P E where
 f:=f
 α:=Nat × α × S
 ok:=fun x H=>H.at x.1=some (.box (cell x.2.2))∧ok x.2.1 x.2.2
 args:=fun x => .ptr x.1 0::mk x.1 x.2.1
 out:=fun x=>out x.2.1 x.2.2
 up:=fun x H=>H.set x.1 (some (.box (cell (next x.2.1 x.2.2))))
 cs:=fun x H h=>⟨cs x.2.1 x.2.2 h.2 H x.1 h.1,Cb.set h.1⟩
 same:=fun x y H hx hy h=>by obtain ⟨i,a,s⟩:=x;obtain ⟨j,b,s'⟩:=y;simp only [List.cons.injEq,AV.ptr.injEq,and_true] at h hx hy ⊢;obtain ⟨rfl,h⟩:=h;have he:=hx.1.symm.trans hy.1;simp only [Option.some.injEq,Ent.box.injEq] at he;have:=hc _ _ he;subst this;obtain ⟨h1,h2⟩:=same i a b s hx.2 hy.2 h;rw [h1,h2];exact ⟨rfl,rfl⟩
end
structure Enc (α:Type) where
 sz:Nat
 c:α→List AV
 pos:0<sz
 len:∀x,(c x).length=sz
 low:∀x,lowL 0 (c x)=true
 one:∀x,(c x).all AV.one=true
 inj:∀x y,c x=c y→x=y
mutual
theorem J2:∀a:AV,low 0 a=true→BN a=[]
 |.undef,_=>rfl
 |.bool _,_=>rfl
 |.int _ _,_=>rfl
 |.str _,_=>rfl
 |.nilPtr,_=>rfl
 |.nilSlice,_=>rfl
 |.emp,_=>rfl
 |.nilMap,_=>rfl
 |.nilFunc,_=>rfl
 |.adr _ _,_=>rfl
 |.nilIface,_=>rfl
 |.ptr _ _,h=>by simp [Fw.low] at h
 |.bsl _ _ _ _ _,h=>by simp [Fw.low] at h
 |.vptr _ _,_=>rfl
 |.slice .unk _ _ _,_=>rfl
 |.slice .full _ _ _,_=>rfl
 |.slice (.tok _) _ _ _,h=>by simp [Fw.low] at h
 |.lsl _ _ _ _,h=>by simp [Fw.low] at h
 |.lptr _ _ _,h=>by simp [Fw.low] at h
 |.stk _ _ _ _,h=>by simp [Fw.low] at h
 |.sptr _ _ _ _,h=>by simp [Fw.low] at h
 |.func _ a b,h=>by simp only [Fw.low,Bool.and_eq_true] at h;simp only [BN,JF a h.1,JF b h.2,List.append_nil]
 |.iface _ v,h=>by simp only [Fw.low] at h;simp only [BN,J2 v h]
 |.agg cs,h=>by simp only [Fw.low] at h;simp only [BN,JF cs h]
 |.tup cs,h=>by simp only [Fw.low] at h;simp only [BN,JF cs h]
theorem JF:∀aS:List AV,lowL 0 aS=true→ED aS=[]
 |[],_=>rfl
 |a::aS,h=>by simp only [Fw.lowL,Bool.and_eq_true] at h;simp only [ED,J2 a h.1,JF aS h.2,List.append_nil]
end
section
variable {α:Type} (E:Enc α)
def Enc.row:List α→List AV
 |[]=>[]
 |x::l=>E.c x++Enc.row l
theorem Enc.row_append:∀a b:List α,E.row (a++b)=E.row a++E.row b
 |[],b=>rfl
 |x::a,b=>by rw [List.cons_append,Enc.row,Enc.row,Enc.row_append a b,List.append_assoc]
theorem Enc.row_one1 (x:α):E.row [x]=E.c x:=by rw [Enc.row,Enc.row,List.append_nil]
theorem Enc.row_length:∀l:List α,(E.row l).length=l.length*E.sz
 |[]=>by simp [Enc.row]
 |x::l=>by rw [Enc.row,List.length_append,E.len,Enc.row_length l,List.length_cons,Nat.add_mul,Nat.one_mul,Nat.add_comm]
theorem Enc.row_low:∀l:List α,lowL 0 (E.row l)=true
 |[]=>rfl
 |x::l=>by rw [Enc.row,Dd,E.low x,Enc.row_low l];rfl
theorem Enc.row_lowm (m:Nat) (l:List α):lowL m (E.row l)=true:=Am (Nat.zero_le m) _ (E.row_low l)
theorem Enc.row_one:∀l:List α,(E.row l).all AV.one=true
 |[]=>rfl
 |x::l=>by rw [Enc.row,List.all_append,E.one x,Enc.row_one l];rfl
theorem Enc.row_inj:∀{a b:List α},E.row a=E.row b→a=b
 |[],[],_=>rfl
 |[],x::b,h=>by have h1:=congrArg List.length h;have h2:=E.pos;rw [E.row_length,E.row_length,List.length_cons,Nat.add_mul] at h1;simp at h1;omega
 |x::a,[],h=>by have h1:=congrArg List.length h;have h2:=E.pos;rw [E.row_length,E.row_length,List.length_cons,Nat.add_mul] at h1;simp at h1;omega
 |x::a,y::b,h=>by rw [Enc.row,Enc.row] at h;obtain ⟨h1,h2⟩:=List.append_inj h (by rw [E.len,E.len]);rw [E.inj x y h1,Enc.row_inj h2]
theorem Enc.row_at:∀(l:List α) (i:Nat) {x:α},l[i]? = some x→((E.row l).drop (i*E.sz)).take E.sz=E.c x∧i*E.sz+E.sz≤(E.row l).length
 |[],i,x,h=>by simp at h
 |y::l,0,x,h=>by simp only [List.getElem?_cons_zero,Option.some.injEq] at h;subst h;have hx:=E.len y;rw [Enc.row,Nat.zero_mul,List.drop_zero,List.take_append_of_le_length (by omega),List.take_of_length_le (by omega),List.length_append];exact ⟨rfl,by omega⟩
 |y::l,i+1,x,h=>by simp only [List.getElem?_cons_succ] at h;obtain ⟨h1,h2⟩:=Enc.row_at l i h;have hx:=E.len y;rw [Enc.row,List.length_append,Nat.add_mul,Nat.one_mul];refine ⟨?_,by omega⟩;rw [List.drop_append,List.drop_of_length_le (by omega),hx,List.nil_append,show i*E.sz+E.sz-E.sz=i*E.sz by omega];exact h1
theorem Enc.row_cell {l:List α} {i:Nat} {x:α} (h:l[i]? = some x) (k:Nat) (hk:k<E.sz):(E.row l)[i*E.sz+k]? = (E.c x)[k]? := by obtain ⟨h1,_⟩:=E.row_at l i h;rw [←h1,List.getElem?_take,if_pos hk,List.getElem?_drop]
def Enc.av (l:List α):AV:=if l=[] then .nilSlice else .slice .unk E.sz l.length (E.row l)
def Enc.tk (k:Nat) (l:List α):AV:=if l=[] then .nilSlice else .slice (.tok k) E.sz l.length (E.row l)
@[simp] theorem Enc.av_nil:E.av [] = .nilSlice:=AS rfl
@[simp] theorem Enc.tk_nil (k:Nat):E.tk k [] = .nilSlice:=AS rfl
theorem Enc.av_cons (x:α) (l:List α):E.av (x::l) = .slice .unk E.sz (l.length+1) (E.row (x::l)):=AS rfl
theorem Enc.av_ne {l:List α} (h:l≠[]):E.av l = .slice .unk E.sz l.length (E.row l):=if_neg h
theorem Enc.tk_ne (k:Nat) {l:List α} (h:l≠[]):E.tk k l = .slice (.tok k) E.sz l.length (E.row l):=if_neg h
@[simp ↓ high] theorem Enc.av_low0 (l:List α):Fw.low 0 (E.av l)=true:=by
 unfold Enc.av;split
 ·rfl
 ·exact E.row_low l
@[simp ↓ high] theorem Enc.av_low (m:Nat) (l:List α):Fw.low m (E.av l)=true:=CA (Nat.zero_le m) _ (E.av_low0 l)
@[simp ↓ high] theorem Enc.av_ids (l:List α):BN (E.av l)=[]:=J2 _ (E.av_low0 l)
@[simp ↓ high] theorem Enc.av_known (l:List α):(E.av l).known=true:=by unfold Enc.av;split<;>rfl
@[simp ↓ high] theorem Enc.av_one (l:List α):(E.av l).one=true:=by unfold Enc.av;split<;>rfl
@[simp ↓ high] theorem Enc.av_cells (l:List α):An (E.av l)=[E.av l]:=by unfold Enc.av;split<;>rfl
@[simp ↓ high] theorem Enc.row_lowS (m:Nat) (l:List α):lowL m (E.row l)=true:=E.row_lowm m l
theorem Enc.av_inj {a b:List α} (h:E.av a=E.av b):a=b:=by
 unfold Enc.av at h
 split at h
 ·split at h
  ·rename_i h1 h2;rw [h1,h2]
  ·cases h
 ·split at h
  ·cases h
  ·injection h with _ _ _ h
   exact E.row_inj h
theorem Enc.alen {P:Program} {t e:TypeId} (hu:P.underlying t=some (.slice e)) (l:List α):Fw.alen P t (E.av l)=some (.int .i64 l.length):=by
 unfold Enc.av
 split
 ·rename_i h;subst h;simp [Fw.alen,hu]
 ·simp [Fw.alen,hu]
theorem Enc.aidx {P:Program} {t e:TypeId} (hu:P.underlying t=some (.slice e)) (hs:AZ P e=some E.sz) {l:List α} {i:Nat} (h:i<l.length):Ao P t (E.av l) (.int .i64 (i:Int))=some (.vptr (E.row l) (i*E.sz)):=by
 have oL:l≠[]:=by rintro rfl;simp at h
 have:(i:Int)<l.length:=by omega
 simp [E.av_ne oL,Ao,hu,hs,h]
theorem Enc.app1_nil {P:Program} {H:AH} {fid:Nat} {t:TypeId} {ow:Own} (h:Bg P t E.sz=true) (x:α) :
  DO P H fid t t .nilSlice (.slice ow E.sz 1 (E.c x))=some (.slice (.tok fid) E.sz 1 (E.c x),[(fid,.tok 1)]) :=
 F9 h (by decide) (by decide) (E.one x)
theorem Enc.app1_tok {P:Program} {H:AH} {fid k n:Nat} {t:TypeId} {ow:Own} (h:Bg P t E.sz=true) (l:List α) (x:α) (hn:n=l.length) (hk:H.at k=some (.tok n)) (hb:n+1≤137438953472) :
  DO P H fid t t (.slice (.tok k) E.sz n (E.row l)) (.slice ow E.sz 1 (E.c x))=some (.slice (.tok k) E.sz (n+1) (E.row (l++[x])),[(k,.tok (n+1))]):=by
 rw [EZ h hk (by decide) hb (E.one x),E.row_append,E.row_one1]
end
theorem Bk {P:Program} {E:Env} {L:List (AF P E)} {f:FuncId} {S α:Type} {cell:S→List AV} {hc:∀s s',cell s=cell s'→s=s'} {ok:α→S→Prop} {mk:Nat→α→List AV} {out:α→S→AV} {next:α→S→S}
  {cs:∀x s,ok x s→∀H id,H.at id=some (.box (cell s))→CS P E f (.ptr id 0::mk id x) H (out x s) (H.set id (some (.box (cell (next x s)))))} {same:∀id x y s,ok x s→ok y s→mk id x=mk id y→out x s=out y s∧next x s=next y s}
  (hL:(L.map (·.f)).Nodup) (hF:AF.meth f cell hc ok mk out next cs same∈L) (x:α) (s:S) {H:AH} {id:Nat} (pA:H.at id=some (.box (cell s))) (o6:ok x s) :
  oOf L f (.ptr id 0::mk id x) H=some (out x s,H.set id (some (.box (cell (next x s))))):=DS hL _ hF (x:=(id,x,s)) ⟨pA,o6⟩
theorem C0 {P:Program} {E:Env} {L:List (AF P E)} {f:FuncId} {α:Type} {ok:α→Prop} {mk:α→List AV} {out:α→AV} {cs:∀x,ok x→∀H,CS P E f (mk x) H (out x) H} {same:∀x y,ok x→ok y→mk x=mk y→out x=out y}
  (hL:(L.map (·.f)).Nodup) (hF:AF.pure f ok mk out cs same∈L) (x:α) (o6:ok x) (H:AH):oOf L f (mk x) H=some (out x,H):=DS hL _ hF (x:=x) o6
section
variable {α:Type} (E:Enc α)
def AO (l:List α):Option Ent:=if l=[] then none else some (.tok l.length)
@[simp] theorem lu:AO ([]:List α)=none:=AS rfl
theorem C3 {l:List α} (h:l≠[]):AO l=some (.tok l.length):=if_neg h
theorem Gf (m:Nat) (l:List α):AU m [AO l]=true:=by unfold AO;split<;>rfl
theorem Ff (ψ:Nat→Nat) (l:List α):(AO l).map (AI ψ)=AO l:=by unfold AO;split<;>rfl
@[simp ↓ high] theorem Enc.tk_known (k:Nat) (l:List α):(E.tk k l).known=true:=by unfold Enc.tk;split<;>rfl
@[simp ↓ high] theorem Enc.tk_one (k:Nat) (l:List α):(E.tk k l).one=true:=by unfold Enc.tk;split<;>rfl
@[simp ↓ high] theorem Enc.tk_cells (k:Nat) (l:List α):An (E.tk k l)=[E.tk k l]:=by unfold Enc.tk;split<;>rfl
theorem Enc.tk_low {k m:Nat} (h:k<m) (l:List α):Fw.low m (E.tk k l)=true:=by
 unfold Enc.tk;split
 ·rfl
 ·simp [Fw.low,h,E.row_lowm m l]
theorem Enc.tk_strip {k n:Nat} (h:k<n) (l:List α):Fw.strip n (E.tk k l)=E.tk k l:=by
 unfold Enc.tk;split
 ·rfl
 ·simp [Fw.strip,h,Ep n _ (E.row_low l)]
theorem Enc.tk_cut {k n:Nat} (h:¬k<n) (l:List α):Fw.strip n (E.tk k l)=E.av l:=by
 unfold Enc.tk Enc.av;split
 ·rfl
 ·simp [Fw.strip,h,Ep n _ (E.row_low l)]
theorem Enc.tk_ren (ψ:Nat→Nat) (k:Nat) (l:List α):ren ψ (E.tk k l)=E.tk (ψ k) l:=by
 unfold Enc.tk;split
 ·rfl
 ·simp [ren,BZ ψ _ (E.row_low l)]
theorem Enc.av_strip (n:Nat) (l:List α):Fw.strip n (E.av l)=E.av l:=JD n _ (E.av_low0 l)
theorem Enc.row_strip (n:Nat) (l:List α):CU n (E.row l)=E.row l:=Ep n _ (E.row_low l)
theorem Enc.av_ren (ψ:Nat→Nat) (l:List α):ren ψ (E.av l)=E.av l:=DE ψ _ (E.av_low0 l)
theorem Enc.tk_len {P:Program} {t e:TypeId} (hu:P.underlying t=some (.slice e)) (k:Nat) (l:List α):Fw.alen P t (E.tk k l)=some (.int .i64 l.length):=by
 unfold Enc.tk
 split
 ·rename_i h;subst h;simp [Fw.alen,hu]
 ·simp [Fw.alen,hu]
end
theorem AD.trans {B:Bs} {t t' t'':List AV} {H H' H'':AH} (h:AD B t H t' H') (k:AD B t' H' t'' H''):AD B t H t'' H'':=fun a w x=>k a w (h a w x)
theorem AD.mkVH {B:Bs} {n:Nat} {l l':List (Nat × AV)} {H H':AH} (s:Nat) (ψ:Nat→Nat) (m:Nat) (hN:B.H.length≤m) (hψ:∀i j,i<m→j<m→ψ i=ψ j→i=j) (hid:∀i,i<B.H.length→B.H.at i≠none→ψ i=i) (oT:H'.length=m)
  (hH:∀i,i<m→H.at (ψ i)=(H'.at i).map (AI ψ)) (hl:AU m H'=true) (hv:∀p∈l',low m p.2=true∧Fw.strip s ((l.lookup p.1).getD .undef)=ren ψ p.2):AD B (Fw.mkT n l) H (Fw.mkT n l') H' :=
 AD.viewH ψ m hN hψ hid oT hH hl (EG.mkT fun p hp => .view s _ _ (hv p hp).1 (hv p hp).2)
theorem AD.mkV {B:Bs} {n:Nat} {l l':List (Nat × AV)} {H H':AH} (s:Nat) (ψ:Nat→Nat) (m:Nat) (hN:B.H.length≤m) (hψ:∀i j,i<m→j<m→ψ i=ψ j→i=j) (hid:∀i,i<B.H.length→ψ i=i) (oT:H'.length=m)
  (hH:∀i,i<m→H.at (ψ i)=(H'.at i).map (AI ψ)) (hl:AU m H'=true) (hv:∀p∈l',low m p.2=true∧Fw.strip s ((l.lookup p.1).getD .undef)=ren ψ p.2):AD B (Fw.mkT n l) H (Fw.mkT n l') H' :=
 AD.view ψ m hN hψ hid oT hH hl (EG.mkT fun p hp => .view s _ _ (hv p hp).1 (hv p hp).2)
section
open Classical in
theorem CS.grow {P:Program} {E:Env} {f:FuncId} {args:List AV} {v:AV} {k n:Nat} (φ:Nat→Nat) {H0 H0' H H':AH} (h:CS P E f args H0 v H0') (hk:H0.length=k) (hk':H0'.length=n) (ry:k≤n)
  (hφ:∀i j,i<n→j<n→φ i=φ j→i=j) (hE:∀i,low 0 (E.glob i)=true) (ha:lowL k args=true) (hv:low n v=true) (hl:AU k H0=true) (hl':AU n H0'=true)
  (hH:∀i,i<k→H.at (φ i)=(H0.at i).map (AI φ)) (hN:∀i,k≤i→i<n→H.at (φ i)=none) (hH':∀i,i<n→H'.at (φ i)=(H0'.at i).map (AI φ)) (hO:∀j,(∀i,i<n→φ i≠j)→H'.at j=H.at j) :
  CS P E f (AL φ args) H (ren φ v) H':=by
 intro g w cargs R hG hA
 let g0:Gh:={G:=g.G,M:=fun i=>if i<k then g.M (φ i) else none}
 have pO:∀i,i<k→g.M (φ i)=g0.M i:=fun i hi=>by simp [g0,hi]
 have R0:Rel g0 H0 w:=by
  refine ⟨R.imm,?_,?_,?_,?_⟩
  ·intro i hi
   by_cases oQ:i<k
   ·rw [←pO i oQ]
    exact R.free _ (by rw [hH i oQ,hi];rfl)
   ·simp [g0,oQ]
  ·intro i e he oL
   have oQ:i<k:=by rw [←hk];exact DQ he
   obtain ⟨ge,h1,h2⟩:=R.ent (φ i) (AI φ e) (by rw [hH i oQ,he];rfl) (by cases e<;>simp_all [AI]);exact ⟨ge,by rw [←pO i oQ];exact h1,(B9.ren (g:=g0) (g':=g) (k:=k) rfl pO (Hk hl he)).2 h2⟩
  ·intro i j e e' he he' hb
   by_cases oQ:i<k
   ·by_cases qr:j<k
    ·rw [←pO i oQ] at he
     rw [←pO j qr] at he';exact hφ i j (by omega) (by omega) (R.inj _ _ _ _ he he' hb)
    ·simp [g0,qr] at he'
   ·simp [g0,oQ] at he
  ·intro i e he
   by_cases oQ:i<k
   ·rw [←pO i oQ] at he
    exact R.blk _ _ he
   ·simp [g0,oQ] at he
 have uo:∀i,i<n→g.M (φ i)=g0.M i:=fun i hi=>by
  by_cases oQ:i<k
  ·exact pO i oQ
  ·rw [R.free _ (hN i (by omega) hi)];simp [g0,oQ]
 have uA:Al E g0:=fun i=>by
  have h1:AA (g.cut 0) (E.glob i) _:=AA.cut _ _ (hE i) (hG i);have vk:(g.cut 0).le g0:=⟨fun _ _ _ h=>h,fun _ _ h=>by simp [Gh.cut] at h⟩
  exact AA.mono vk _ _ h1
 have rx:AB g0 args cargs:=(AB.ren (g:=g0) (g':=g) (k:=k) rfl pO _ _ ha).2 hA;refine (h g0 w cargs R0 uA rx).mono ?_;rintro e w1 ⟨g1,cv,rfl,R1,p1,hr⟩
 let g':Gh:={G:=g1.G,M:=fun j=>if h:∃i,i<n∧φ i=j then g1.M (Classical.choose h) else g.M j}
 have pK:∀i,i<n→g'.M (φ i)=g1.M i:=fun i hi=>by
  have pq:∃i',i'<n∧φ i'=φ i:=⟨i,hi,rfl⟩
  have hc:=Classical.choose_spec pq;have he:Classical.choose pq=i:=hφ _ _ hc.1 hi hc.2;simp only [g',dif_pos pq,he]
 have od:∀j,(∀i,i<n→φ i≠j)→g'.M j=g.M j:=fun j hj=>by
  have:¬∃i,i<n∧φ i=j:=fun ⟨i,h1,h2⟩=>hj i h1 h2
  simp only [g',dif_neg this]
 have dec:∀j,(∃i,i<n∧φ i=j)∨(∀i,i<n→φ i≠j):=fun j=>by
  by_cases h:∃i,i<n∧φ i=j
  ·exact .inl h
  ·exact .inr fun i h1 h2=>h ⟨i,h1,h2⟩
 have oO:g.le g':=by
  refine ⟨fun b i v hb=>p1.le.G b i v hb,fun j e he => ?_⟩;rcases dec j with ⟨i,hi,rfl⟩|hj
  ·rw [pK i hi]
   exact p1.le.M i e (by rw [←uo i hi];exact he)
  ·exact ⟨e,by rw [od j hj];exact he,e.le_refl⟩
 have oY:∀j ge,(∀i,i<n→φ i≠j)→g.M j=some ge→w1.heap[ge.block]? = w.heap[ge.block]? ∧ ∀i,g1.G ge.block i=g.G ge.block i:=by
  intro j ge hj hM;refine p1.old ge.block (R.blk j ge hM) fun i e ge' he oL hM' hb => ?_
  have oQ:i<k:=by rw [←hk];exact DQ he
  rw [←pO i oQ] at hM';exact hj i (by omega) (R.inj _ _ _ _ hM' hM hb)
 have cross:∀i j e e',i<n→(∀i,i<n→φ i≠j)→g1.M i=some e→g.M j=some e'→e.block≠e'.block:=by
  intro i j e e' hi hj he he' hb;rcases p1.new i e he with ⟨e0,h0,pr⟩|h0
  ·rw [←uo i hi] at h0
   exact hj i hi (R.inj _ _ _ _ h0 he' (pr.trans hb))
  ·have:=R.blk j e' he'
   omega
 refine ⟨g',cv,rfl,⟨R1.imm,?_,?_,?_,?_⟩,⟨oO,?_,?_,?_,p1.size,p1.os,p1.tape,p1.output⟩,(AA.ren (g:=g1) (g':=g') (k:=n) rfl pK _ _ hv).1 hr⟩
 ·intro j hj
  rcases dec j with ⟨i,hi,rfl⟩|hj'
  ·rw [pK i hi]
   refine R1.free i ?_;rw [hH' i hi] at hj;cases h:H0'.at i with
   |none=>rfl
   |some e=>rw [h] at hj;cases hj
  ·rw [od j hj']
   exact R.free j (by rw [←hO j hj'];exact hj)
 ·intro j e he oL
  rcases dec j with ⟨i,hi,rfl⟩|hj'
  ·rw [hH' i hi] at he
   cases h:H0'.at i with
   |none=>rw [h] at he;cases he
   |some e0 =>rw [h] at he;simp only [Option.map_some,Option.some.injEq] at he;subst he;obtain ⟨ge,h1,h2⟩:=R1.ent i e0 h (by rintro rfl;exact oL rfl);exact ⟨ge,by rw [pK i hi];exact h1,(B9.ren (g:=g1) (g':=g') (k:=n) rfl pK (Hk hl' h)).1 h2⟩
  ·rw [hO j hj'] at he
   obtain ⟨ge,h1,h2⟩:=R.ent j e he oL;obtain ⟨h3,h4⟩:=oY j ge hj' h1;exact ⟨ge,by rw [od j hj'];exact h1,h2.keep oO h3 h4⟩
 ·intro j j' e e' he he' hb
  rcases dec j with ⟨i,hi,rfl⟩|hj
  ·rw [pK i hi] at he
   rcases dec j' with ⟨i',hi',rfl⟩|hj'
   ·rw [pK i' hi'] at he'
    rw [R1.inj i i' e e' he he' hb]
   ·rw [od j' hj'] at he'
    exact absurd hb (cross i j' e e' hi hj' he he')
  ·rw [od j hj] at he
   rcases dec j' with ⟨i',hi',rfl⟩|hj'
   ·rw [pK i' hi'] at he'
    exact absurd hb.symm (cross i' j e' e hi' hj he' he)
   ·rw [od j' hj'] at he'
    exact R.inj j j' e e' he he' hb
 ·intro j e he
  rcases dec j with ⟨i,hi,rfl⟩|hj
  ·rw [pK i hi] at he
   exact R1.blk i e he
  ·rw [od j hj] at he
   exact Nat.lt_of_lt_of_le (R.blk j e he) p1.size
 ·intro j hj
  rcases dec j with ⟨i,hi,rfl⟩|hj'
  ·have oQ:i<k:=by
    by_cases oQ:i<k
    ·exact oQ
    ·rw [hN i (by omega) hi] at hj;cases hj
   rw [hH i oQ] at hj;cases h:H0.at i with
   |none=>rw [h] at hj;cases hj
   |some e0 =>
    rw [h] at hj;simp only [Option.map_some,Option.some.injEq] at hj;have:e0 = .hid:=by cases e0<;>simp_all [AI]
    subst this;obtain ⟨h1,h2⟩:=p1.hid i h;exact ⟨by rw [pK i hi,h1,uo i hi],by rw [hH' i hi,h2];rfl⟩
  ·exact ⟨od j hj',by rw [hO j hj',hj]⟩
 ·intro j e he
  rcases dec j with ⟨i,hi,rfl⟩|hj'
  ·rw [pK i hi] at he
   rcases p1.new i e he with ⟨e0,h0,pr⟩|h0
   ·exact .inl ⟨e0,by rw [uo i hi];exact h0,pr⟩
   ·exact .inr h0
  ·rw [od j hj'] at he
   exact .inl ⟨e,he,rfl⟩
 ·intro b hb hn
  refine p1.old b hb fun i e ge he oL hM => ?_
  have oQ:i<k:=by rw [←hk];exact DQ he
  exact hn (φ i) (AI φ e) ge (by rw [hH i oQ,he];rfl) (by cases e<;>simp_all [AI]) (by rw [pO i oQ];exact hM)
end
theorem AH.set_at {H:AH} {id:Nat} {e:Ent} (h:H.at id=some e):H.set id (some e)=H:=by
 apply List.ext_getElem?;intro j;rw [List.getElem?_set]
 split
 ·rename_i hj
  subst hj;unfold AH.at at h;cases hH:H[id]? with
  |none=>rw [hH] at h;cases h
  |some x =>rw [hH] at h;simp only [Option.join_some] at h;rw [h];simp [(List.getElem?_eq_some_iff.1 hH).1]
 ·rfl
theorem CS.rd1 {P:Program} {E:Env} {f:FuncId} {fn:Func} {cs cs' args:List AV} {v:AV} (hE:∀i,low 0 (E.glob i)=true) (hf:P.funcs[f]? = some fn) (hb:fn.body=some (Au fn)) (k:Nat) (hn:args.length≤fn.ntmps)
  (h:∀B:Bs,B.H=[some (.box cs)]→Al E B.g→Tr P B (Au fn) (mkT fn.ntmps (Eo 0 args)) [some (.box cs)] (Fin P fn 1 k v [some (.box cs')]))
  (hr:lowL 1 args=true) (hv:low 0 v=true) (hc:lowL 0 cs=true) (hc':lowL 0 cs'=true) {H:AH} {id:Nat} (hH:H.at id=some (.box cs)):CS P E f (AL (fun _=>id) args) H v (H.set id (some (.box cs'))):=by
 have h1:=CS.of_Tr (H0:=[some (.box cs)]) (H1:=[some (.box cs')]) hf hb k hn h (CA (Nat.zero_le 1) v hv) (by simp [AU,At,Am (Nat.zero_le 1) cs' hc'])
 have:=CS.embed (k:=1) (fun _=>id) (H:=H) (H':=H.set id (some (.box cs'))) h1 rfl rfl (ME id) hE hr (CA (Nat.zero_le 1) v hv)
  (by simp [AU,At,Am (Nat.zero_le 1) cs hc]) (by simp [AU,At,Am (Nat.zero_le 1) cs' hc'])
  (fun i hi=>by
   obtain rfl:i=0:=by omega
   simp [AH.at,AI,BZ _ cs hc]
   exact hH)
  (fun i hi=>by
   obtain rfl:i=0:=by omega
   rw [JC hH]
   simp [AH.at,AI,BZ _ cs' hc'])
  (fun j hj=>aSn (hj 0 (by omega)))
 rw [DE _ v hv] at this;exact this
open Go.RowKit Go.WideShapes Go.ChangeShapes
def Cr (t n:Nat) (xs:List AV):AV→AV
 |.lsl k sz m cs=>if k=t∧m=n then .slice (.tok t) sz (n+1) (cs++xs) else .lsl k sz m cs
 |a=>a
def Bj (t n:Nat) (xs:List AV):Option Ent→Option Ent
 |some (.box cs)=>some (.box (cs.map (Cr t n xs)))
 |e=>e
theorem Oh {f:Option Ent→Option Ent} (hf:f none=none) (H:AH) (i:Nat):AH.at (H.map f) i=f (H.at i):=by
 unfold AH.at;rw [List.getElem?_map];cases H[i]? with
 |none=>simp [hf]
 |some x=>rfl
theorem aq (t n:Nat) (xs:List AV):Bj t n xs none=none:=rfl
theorem Sat.melt {B:Bs} {ts:List AV} {H:AH} {a:Act} {w:World} {t n:Nat} {xs:List AV} (h:H.at t=some (.loose n xs)) (hs:Sat B ts H a w) :
  Sat B (ts.map (Cr t n xs)) ((H.set t (some (.tok (n+1)))).map (Bj t n xs)) a w:=by
 obtain ⟨g,R,p,hT,hd⟩:=hs;obtain ⟨ge,hM,hr⟩:=R.ent t _ h (by simp);cases ge with
 |box b=>exact hr.elim
 |tok b n' sz cap =>
 simp only [B9] at hr;obtain ⟨rfl,qQ,so,⟨vs,el,pk,pI,pZ⟩,qR⟩:=hr;have qe:t<H.length:=DQ h
 have pH:n*sz+sz≤vs.length:=by have:(n+1)*sz≤cap*sz:=Nat.mul_le_mul_right _ qQ;rw [Nat.add_mul,Nat.one_mul] at this;omega
 generalize xH:(vs.drop (n*sz)).take sz=news at pZ;have hnl:news.length=sz:=by rw [←xH];simp;omega
 let g':Gh:={G:=fun k i=>if k=b∧n*sz≤i then news[i-n*sz]? else g.G k i,M:=g.M}
 have pz:∀k i,(k≠b∨i<n*sz)→g'.G k i=g.G k i:=fun k i h=>by
  show (if k=b∧n*sz≤i then _ else _)=_
  rw [if_neg (by omega)]
 have vl:∀i,n*sz≤i→g'.G b i=news[i-n*sz]? := fun i h=>by
  show (if b=b∧n*sz≤i then _ else _)=_
  rw [if_pos ⟨rfl,h⟩]
 have oO:g.le g':=⟨fun k i v hv=>by
  by_cases hk:k=b
  ·subst hk
   rcases Nat.lt_or_ge i (n*sz) with hi|hi
   ·rw [pz _ _ (.inr hi)];exact hv
   ·rw [qR i hi] at hv;cases hv
  ·rw [pz _ _ (.inl hk)];exact hv,fun j e he=>⟨e,he,e.le_refl⟩⟩
 have hmv:∀a v,AA g a v→AA g' (Cr t n xs a) v:=by
  intro a v hv;cases a with
  |lsl k sz' m cs =>
   simp only [Cr]
   split
   ·rename_i hc
    obtain ⟨rfl,rfl⟩:=hc;simp only [AA] at hv ⊢;obtain ⟨b',cap',us,rfl,h1,h2,h3,h4,b2,n2,cap2,h5,h6,h7⟩:=hv;rw [hM] at h5;injection h5 with h5;injection h5 with e1 e2 e3 e4;subst e1;subst e2;subst e3;subst e4;obtain ⟨rfl,rfl,_⟩:=h7 rfl;have hul:us.length=m*sz:=by rw [h1.length,h3]
    refine ⟨b,0,cap,us++news,rfl,(AB.mono oO _ _ h1).append (AB.mono oO _ _ pZ),Gh.has_append (Gh.has_mono oO h2) ?_,?_,qQ,b,m+1,cap,hM,Nat.le_refl _,fun _=>⟨rfl,rfl,rfl⟩⟩
    ·intro i v hi
     rw [Nat.zero_add,hul,vl _ (by omega),Nat.add_sub_cancel_left];exact hi
    ·rw [List.length_append,h3,so,Nat.add_mul,Nat.one_mul]
   ·exact AA.mono oO _ _ hv
  |_=>exact AA.mono oO _ _ hv
 have pA:∀i,AH.at ((H.set t (some (.tok (n+1)))).map (Bj t n xs)) i=if i=t then some (.tok (n+1)) else Bj t n xs (H.at i):=by
  intro i;rw [Oh (aq t n xs),AH.at_set]
  by_cases hi:i=t
  ·subst hi
   rw [if_pos ⟨rfl,qe⟩,if_pos rfl];rfl
  ·rw [if_neg (fun hh=>hi hh.1.symm),if_neg hi]
 have R':Rel g' ((H.set t (some (.tok (n+1)))).map (Bj t n xs)) w:=by
  refine ⟨?_,?_,?_,R.inj,R.blk⟩
  ·intro k i v hv
   by_cases hk:k=b
   ·subst hk
    rcases Nat.lt_or_ge i (n*sz) with hi|hi
    ·rw [pz _ _ (.inr hi)] at hv
     exact R.imm _ _ _ hv
    ·rw [vl i hi,←xH,List.getElem?_take] at hv
     split at hv
     ·rw [List.getElem?_drop,Nat.add_sub_cancel' hi] at hv
      simp only [World.cell?,pk];simpa using hv
     ·cases hv
   ·rw [pz _ _ (.inl hk)] at hv
    exact R.imm _ _ _ hv
  ·intro id hn
   rw [pA] at hn
   split at hn
   ·cases hn
   ·refine R.free id ?_
    cases hh:H.at id with
    |none=>rfl
    |some e=>rw [hh] at hn;cases e<;>simp [Bj] at hn
  ·intro id e he oL
   rw [pA] at he
   split at he
   ·rename_i hi
    subst hi;injection he with he;subst he;refine ⟨_,hM,rfl,qQ,⟨vs,el,pk,pI⟩,fun i hi => ?_⟩;rw [Nat.add_mul,Nat.one_mul] at hi;rw [vl i (by omega),List.getElem?_eq_none (by omega)]
   ·rename_i hi
    have key:∀e0,H.at id=some e0→e0 ≠ .hid→∃ge,g.M id=some ge∧B9 g w e0 ge∧∀i,g'.G ge.block i=g.G ge.block i:=fun e0 h0 sK=>by
     obtain ⟨ge,h1,h2⟩:=R.ent id e0 h0 sK;have qY:ge.block≠b:=fun hb=>hi (R.inj id t ge _ h1 hM hb)
     exact ⟨ge,h1,h2,fun i=>pz _ i (.inl qY)⟩
    cases hh:H.at id with
    |none=>rw [hh] at he;cases he
    |some e0 =>
     rw [hh] at he;cases e0 with
     |box cs =>
      simp only [Bj,Option.some.injEq] at he;subst he;obtain ⟨ge,h1,h2,h3⟩:=key _ hh (by simp);refine ⟨ge,h1,?_⟩;cases ge with
      |tok=>exact h2
      |box b2 =>obtain ⟨us,el2,h4,h5,h6⟩:=h2;exact ⟨us,el2,h4,AB.map hmv _ _ h5,fun i=>(h3 i).trans (h6 i)⟩
     |tok m =>simp only [Bj,Option.some.injEq] at he;subst he;obtain ⟨ge,h1,h2,h3⟩:=key _ hh (by simp);exact ⟨ge,h1,h2.keep oO rfl h3⟩
     |loose m cs =>simp only [Bj,Option.some.injEq] at he;subst he;obtain ⟨ge,h1,h2,h3⟩:=key _ hh (by simp);exact ⟨ge,h1,h2.keep oO rfl h3⟩
     |stk m cs =>simp only [Bj,Option.some.injEq] at he;subst he;obtain ⟨ge,h1,h2,h3⟩:=key _ hh (by simp);exact ⟨ge,h1,h2.keep oO rfl h3⟩
     |hid =>simp only [Bj,Option.some.injEq] at he;exact absurd he.symm oL
 refine ⟨g',R',AQ.trans B.R p ⟨oO,?_,fun _ e he => .inl ⟨e,he,rfl⟩,?_,Nat.le_refl _,rfl,rfl,rfl⟩,AB.map hmv _ _ hT,hd⟩
 ·intro id hh
  refine ⟨rfl,?_⟩;rw [pA,if_neg (fun hi=>by subst hi;rw [h] at hh;cases hh),hh];rfl
 ·intro k hk hn
  have oL:k≠b:=fun hb=>hn t _ _ h (by simp) hM (by simp [CW.block,hb])
  exact ⟨rfl,fun i=>pz k i (.inl oL)⟩
theorem AD.melt {B:Bs} {ts ts':List AV} {H H':AH} (t n:Nat) (xs:List AV) (h:H.at t=some (.loose n xs)) (h1:ts.map (Cr t n xs)=ts') (h2:(H.set t (some (.tok (n+1)))).map (Bj t n xs)=H'):AD B ts H ts' H':=by subst h1;subst h2;exact fun a w hs=>hs.melt h
theorem Sat.cutS {B:Bs} {ts:List AV} {H:AH} {a:Act} {w:World} {k ver:Nat} {cs:List AV} (m:Nat) (h:H.at k=some (.stk ver cs)) (hs:Sat B ts H a w):Sat B ts (H.set k (some (.stk ver (cs.take m)))) a w:=by
 obtain ⟨g,R,p,hT,hd⟩:=hs;have hl:=DQ h;refine ⟨g,⟨R.imm,?_,?_,R.inj,R.blk⟩,⟨p.le,?_,p.new,p.old,p.size,p.os,p.tape,p.output⟩,hT,hd⟩
 ·intro j hj
  rw [AH.at_set] at hj
  split at hj
  ·cases hj
  ·exact R.free j hj
 ·intro j e he oL
  rw [AH.at_set] at he
  split at he
  ·rename_i hc
   obtain ⟨rfl,_⟩:=hc;injection he with he;subst he;obtain ⟨ge,hM,hr⟩:=R.ent k _ h (by simp);refine ⟨ge,hM,?_⟩;cases ge with
   |box b=>exact hr
   |tok b n sz cap =>
    simp only [B9] at hr ⊢;obtain ⟨h1,h2,⟨vs,el,h3,h4,h5⟩,h6⟩:=hr;refine ⟨h1,?_,⟨vs,el,h3,h4,?_⟩,h6⟩
    ·rw [List.length_take];omega
    ·have:=h5.take m
     rw [List.take_take] at this;rw [List.length_take];exact this
  ·exact R.ent j e he oL
 ·intro j hj
  obtain ⟨h1,h2⟩:=p.hid j hj;refine ⟨h1,?_⟩
  rw [AH.at_set,if_neg (fun hc=>by
   obtain ⟨rfl,_⟩:=hc
   rw [h] at h2;cases h2)]
  exact h2
theorem AD.cutS {B:Bs} {ts:List AV} {H H':AH} {k ver:Nat} {cs:List AV} (m:Nat) (h:H.at k=some (.stk ver cs)) (hH:H.set k (some (.stk ver (cs.take m)))=H'):AD B ts H ts H':=by subst hH;exact fun a w hs=>hs.cutS m h
theorem Tr.post {P:Program} {B:Bs} {c:Code} {t:List AV} {H:AH} {Q:AEx→List AV→AH→Prop} (h:Tr P B c t H fun e t' H'=>∃t1 H1,AD B t' H' t1 H1∧Q e t1 H1):Tr P B c t H Q :=fun Q' a w hs k=>h Q' a w hs fun ex t' H' a' w' ⟨t1,H1,hl,hq⟩ h2=>k ex t1 H1 a' w' hq (hl a' w' h2)
section
variable {P:Program} {E:Env}
theorem CS.of_TrN (N:Nat) {f:FuncId} {fn:Func} {c:Code} {args:List AV} {v:AV} {H0 H1:AH} (hN:H0.length≤N) (hf:P.funcs[f]? = some fn) (hb:fn.body=some c) (k:Nat) (hn:args.length≤fn.ntmps)
  (h:∀B:Bs,B.H=H0→Al E B.g→Tr P B c (mkT fn.ntmps (Eo 0 args)) H0 (Fin P fn N k v H1)) (hv:low N v=true) (hl:AU N H1=true):CS P E f args H0 v H1:=by
 intro g w cargs R hG hA;refine calls_of_wp hf hb ?_
 have hT:AB g (args++List.replicate (fn.ntmps-args.length) .nothing) (List.toArray cargs++Array.replicate (fn.ntmps-(List.toArray cargs).size) undef).toList:=by simp only [Array.toList_append,Array.toList_replicate,List.size_toArray,hA.length];exact hA.append (AB.replicate _ (by simp [AV.nothing,AA,AB,undef]))
 refine h ⟨g,H0,w,R⟩ rfl hG _ _ w ⟨g,R,AQ.refl g H0 w,AB.mkT_args hn hT,rfl⟩ ?_;rintro ex t' H' a' w' ⟨oL,hw⟩ ⟨g',R',p',hT',hd'⟩;cases hr:BC P H' t' fn.results.toList with
 |none=>rw [hr] at hw;exact hw.elim
 |some vs =>
  rw [hr] at hw;obtain ⟨uB,uC⟩:=hw;obtain ⟨us,h1,h2⟩:=Kt (P:=P) R' hT' _ _ hr
  have oM:(results fn a'.tmps).run P w' = .ok (if hs:(List.toArray us).size=1 then (List.toArray us)[0] else .tuple (List.toArray us)) w':=by have e1:results fn a'.tmps=(do let vs ←fn.results.mapM (Jt a'.tmps);pure (if hs:vs.size=1 then vs[0] else .tuple vs)):=rfl;rw [e1,Array.mapM_eq_mapM_toList];simp only [Sem.run_bind,Sem.run_map,h2,Result.andThen_ok];rfl
  obtain ⟨g2,h3,h4,h5⟩:=Rel.gc_endN N hN R R' p' (L8 h1) k (by rw [uB];exact hv) (by rw [uC];exact hl);rw [uB] at h5;rw [uC] at h3 h4;cases ex with
  |normal=>exact ⟨hd',_,oM,g2,_,rfl,h3,h4,h5⟩
  |exit id=>exact (oL _ rfl).elim
  |ret=>exact ⟨hd',_,oM,g2,_,rfl,h3,h4,h5⟩
end
theorem Si (f:AV→AV) (k:Nat):∀l:List (Nat × AV),(l.map fun p=>(p.1,f p.2)).lookup k=(l.lookup k).map f
 |[]=>rfl
 |(j,a)::l=>by
  simp only [List.map_cons,List.lookup_cons];cases k==j with
  |true=>rfl
  |false=>exact Si f k l
theorem au {n:Nat} {l:List (Nat × AV)} (f:AV→AV) (hf:f .undef = .undef):(mkT n l).map f=mkT n (l.map fun p=>(p.1,f p.2)):=by
 unfold mkT;rw [List.map_map];refine List.map_congr_left fun i _ => ?_
 simp only [Function.comp,Si];cases l.lookup i with
 |none=>exact hf
 |some a=>rfl
theorem AD.put {B:Bs} {n:Nat} {l:List (Nat × AV)} {H H':AH} (t m:Nat) (xs:List AV) (h:H.at t=some (.loose m xs)) (ψ:Nat→Nat) (k:Nat) (hN:B.H.length≤k) (hψ:∀i j,i<k→j<k→ψ i=ψ j→i=j)
  (hid:∀i,i<B.H.length→ψ i=i) (oT:H'.length=k) (hH:∀i,i<k→AH.at ((H.set t (some (.tok (m+1)))).map (Bj t m xs)) (ψ i)=(H'.at i).map (AI ψ)) (hl:AU k H'=true) :
  AD B (Fw.mkT n l) H (Fw.mkT n []) H' :=
 AD.trans (AD.melt t m xs h (au _ rfl) rfl) (AD.mkV (l':=[]) 0 ψ k hN hψ hid oT hH hl (by simp))
theorem Fg {t n:Nat} {xs:List AV} {a:AV} (h:low t a=true):Cr t n xs a=a:=by
 cases a with
 |lsl k sz m cs =>simp only [low,Bool.and_eq_true,decide_eq_true_eq] at h;simp only [Cr];rw [if_neg (by omega)]
 |_=>rfl
theorem J3 {t n:Nat} {xs:List AV}:∀{aS:List AV},lowL t aS=true→aS.map (Cr t n xs)=aS
 |[],_=>rfl
 |a::aS,h=>by simp only [lowL,Bool.and_eq_true] at h;rw [List.map_cons,Fg h.1,J3 h.2]
theorem GA {t n:Nat} {xs:List AV} {e:Option Ent} (h:At t e=true):Bj t n xs e=e:=by
 cases e with
 |none=>rfl
 |some e=>cases e with
  |box cs=>simp only [At] at h;simp only [Bj,J3 h]
  |_=>rfl
mutual
theorem FC {φ:Nat→Nat} {m:Nat} (hf:∀i,i<m→φ i=i):∀(a:AV),low m a=true→ren φ a=a
 |.undef,_=>rfl
 |.bool _,_=>rfl
 |.int _ _,_=>rfl
 |.str _,_=>rfl
 |.nilPtr,_=>rfl
 |.nilSlice,_=>rfl
 |.emp,_=>rfl
 |.nilMap,_=>rfl
 |.nilFunc,_=>rfl
 |.adr _ _,_=>rfl
 |.nilIface,_=>rfl
 |.ptr _ _,h=>by simp only [low,decide_eq_true_eq] at h;simp only [ren,hf _ h]
 |.bsl _ _ _ _ _,h=>by simp only [low,decide_eq_true_eq] at h;simp only [ren,hf _ h]
 |.lptr _ _ _,h=>by simp only [low,decide_eq_true_eq] at h;simp only [ren,hf _ h]
 |.stk _ _ _ _,h=>by simp only [low,decide_eq_true_eq] at h;simp only [ren,hf _ h]
 |.sptr _ _ _ _,h=>by simp only [low,decide_eq_true_eq] at h;simp only [ren,hf _ h]
 |.lsl t _ _ cs,h=>by simp only [low,Bool.and_eq_true,decide_eq_true_eq] at h;simp only [ren,hf _ h.1,Ea hf cs h.2]
 |.vptr cs _,h=>by simp only [low] at h;simp only [ren,Ea hf cs h]
 |.slice .unk _ _ cs,h=>by simp only [low] at h;simp only [ren,Ea hf cs h]
 |.slice .full _ _ cs,h=>by simp only [low] at h;simp only [ren,Ea hf cs h]
 |.slice (.tok t) _ _ cs,h=>by simp only [low,Bool.and_eq_true,decide_eq_true_eq] at h;simp only [ren,hf _ h.1,Ea hf cs h.2]
 |.func _ a b,h=>by simp only [low,Bool.and_eq_true] at h;simp only [ren,Ea hf a h.1,Ea hf b h.2]
 |.iface _ v,h=>by simp only [low] at h;simp only [ren,FC hf v h]
 |.agg cs,h=>by simp only [low] at h;simp only [ren,Ea hf cs h]
 |.tup cs,h=>by simp only [low] at h;simp only [ren,Ea hf cs h]
theorem Ea {φ:Nat→Nat} {m:Nat} (hf:∀i,i<m→φ i=i):∀(aS:List AV),lowL m aS=true→AL φ aS=aS
 |[],_=>rfl
 |a::aS,h=>by simp only [lowL,Bool.and_eq_true] at h;simp only [AL,FC hf a h.1,Ea hf aS h.2]
end
theorem Et {φ:Nat→Nat} {m:Nat} (hf:∀i,i<m→φ i=i) {e:Option Ent} (h:At m e=true):e.map (AI φ)=e:=by
 cases e with
 |none=>rfl
 |some e=>cases e with
  |box cs=>simp only [At] at h;simp only [Option.map_some,AI,Ea hf cs h]
  |loose n cs=>simp only [At] at h;simp only [Option.map_some,AI,Ea hf cs h]
  |stk n cs=>simp only [At] at h;simp only [Option.map_some,AI,Ea hf cs h]
  |_=>rfl
section
variable {O:Orc} {P:Program} {E:Env} {ops:Array Oper}
def J4 (O:Orc) (P:Program) (E:Env) (ops:Array Oper) (ids:List Nat):Nat→Array Bool→List AV→AH→(List AV→AH→Prop)→Prop
 |0,listed,t,H,K=>Region.ready .any ops listed=[]∧K t H
 |n+1,listed,t,H,K=>Region.ready .any ops listed≠[]∧∀i∈Region.ready .any ops listed,∃o v u S,ops[i]? = some o∧(Ai E o.op=true→ids.getD i 0<H.length∧H.at (ids.getD i 0)=none) ∧
   CX O P E ops t H (o,ids.getD i 0)=some (v,u,S)∧J4 O P E ops ids n (listed.setIfInBounds i true) (AX t o.dst v) (AR H u) K
theorem aw (hS:AT P E O) (hM:Ch P E) {Q:Exit→Act→World→Prop} {K:List AV→AH→Prop} {ids:List Nat}:∀(n:Nat) (listed:Array Bool) (t:List AV) (H:AH) {g:Gh} {w:World} {a:Act},
  J4 O P E ops ids n listed t H K→Rel g H w→Al E g→AB g t a.tmps.toList→a.defers=[] →
  (∀g' t' H' a' w',K t' H'→Rel g' H' w'→AQ g H w g' H' w'→AB g' t' a'.tmps.toList→a'.defers=[]→Q .normal a' w')→wpAny P .any ops Q n listed a w:=by
 intro n
 induction n with
 |zero =>intro listed t H g w a h R hG hT hd hQ;exact ⟨h.1,hQ g t H a w h.2 R (AQ.refl g H w) hT hd⟩
 |succ n ih =>
  intro listed t H g w a h R hG hT hd hQ;refine ⟨fun hr=>absurd hr h.1,fun i hi => ?_⟩;obtain ⟨o,v,u,S,ho,hid,oS,hn⟩:=h.2 i hi
  have next:∀{g':Gh} {x:Value} {w':World},Rel g' (AR H u) w'→AQ g H w g' (AR H u) w'→AA g' v x→wpAny P .any ops Q n (listed.setIfInBounds i true) (a.put o.dst x) w':=by intro g' x w' R' p' hv;exact ih _ _ _ hn R' (hG.mono p'.le) (Hg (AB.mono p'.le _ _ hT) hv) (by rw [Hh];exact hd) fun g2 t2 H2 a2 w2 k R2 p2=>hQ g2 t2 H2 a2 w2 k R2 (AQ.trans R p' p2)
  unfold wpOp;simp only [ho];unfold CX at oS
  split at oS
  ·cases oS
  ·rename_i hw
   rw [GW hT hw];simp only [Bool.false_eq_true,if_false];injection oS with oS;simp only [Prod.mk.injEq] at oS;obtain ⟨hv,hu,_⟩:=oS;exact next (g':=g) (by rw [←hu];exact R) (by rw [←hu];exact AQ.refl _ _ _) (by rw [←hv];simp [AV.nothing,AA,AB,undef])
  ·rename_i hw
   rw [GW hT hw];simp only [if_true]
   split at oS
   ·rename_i v1 u1 vh
    split at oS
    ·injection oS with oS;simp only [Prod.mk.injEq] at oS
     obtain ⟨hv,hu,_⟩:=oS;refine .inl (Rp hS hM R hG hT (fun hn=>⟨(hid hn).1,(hid hn).2,by unfold BB;rw [if_pos hn];exact List.mem_cons_self⟩) vh fun g' cv w' h1 h2 h3 => ?_);exact next (by rw [←hu];exact h1) (by rw [←hu];exact h2) (by rw [←hv];exact h3)
    ·cases oS
   ·cases oS
theorem Tr.orders {B:Bs} (X:Cx O P E) (hG:Al E B.g) {id:Nat} {t:List AV} {H:AH} {Q:AEx→List AV→AH→Prop}
  (h:J4 O P E ops ((AY E ops.toList H.length).map (·.2)) ops.size (Array.replicate ops.size false) t (grow H (Ag E ops.toList)) fun t1 H1=>Q .normal t1 H1):Tr P B (.region id ops true) t H Q:=by
 intro Q' a w hs k;obtain ⟨g,R,p,hT,hd⟩:=hs;refine wp_region_any X.mix (aw X.sound X.meth ops.size _ t _ h ((R.grow _).same rfl) (hG.mono p.le) hT hd fun g' t' H' a' w' hq R' p' hT' hd' => ?_);refine k .normal t' H' a' w' hq ⟨g',R',?_,hT',hd'⟩;have:=AQ.trans (R.grow (Ag E ops.toList)) (AQ.drew g (grow H (Ag E ops.toList)) w) p';exact AQ.trans B.R p this.ungrow
end
theorem LpD.orders {O:Orc} {P:Program} {E:Env} {B:Bs} {Lp:EH} {ks0:List Fr} (X:Cx O P E) (hG:Al E B.g) {id:Nat} {ops:Array Oper} {t:List AV} {H:AH} {Q:AEx→List AV→AH→Prop}
  (h:J4 O P E ops ((AY E ops.toList H.length).map (·.2)) ops.size (Array.replicate ops.size false) t (grow H (Ag E ops.toList)) fun t1 H1=>Go O P E Lp .skip ks0 t1 H1 Q):LpD P B (.scope (.region id ops true)) t H (unwind O P E Lp ks0 Q) :=
 Tr.orders X hG (by simpa only [J1] using h)
def K2 (P:Program) (E:Env) (O:Orc):Prop:=∀f args H v H',O f args H=some (v,H')→CS P E f args H v H'
theorem AT.toC {P:Program} {E:Env} {O:Orc} (h:AT P E O):K2 P E O:=fun f args H v H' ho=>(h f args H v H' ho).1
structure CxW (O:Orc) (P:Program) (E:Env) (S:List FuncId):Prop where
 sound:K2 P E O
 keep:∀f,S.contains f=true→∀args H v H',O f args H=some (v,H')→Cb H H'
 meth:Ch P E
 mix:P.follows .mixedOrders=true
theorem Cx.toW {O:Orc} {P:Program} {E:Env} {S:List FuncId} (X:Cx O P E):CxW O P E S:=⟨X.sound.toC,fun f _ args H v H' h=>(X.sound f args H v H' h).2,X.meth,X.mix⟩
open Classical in
noncomputable def orP (f0:FuncId) (a0:List AV) (H0:AH) (v0:AV) (H1:AH) (O:Orc):Orc:=fun f a H=>if f=f0∧a=a0∧H=H0 then some (v0,H1) else O f a H
theorem FD (f0:FuncId) (a0:List AV) (H0:AH) (v0:AV) (H1:AH) (O:Orc):orP f0 a0 H0 v0 H1 O f0 a0 H0=some (v0,H1):=if_pos ⟨rfl,rfl,rfl⟩
theorem JG {f f0:FuncId} (h:f≠f0) (a0:List AV) (H0:AH) (v0:AV) (H1:AH) (O:Orc) (a:List AV) (H:AH):orP f0 a0 H0 v0 H1 O f a H=O f a H:=if_neg fun k=>h k.1
theorem Fh {P:Program} {E:Env} {f0:FuncId} {a0:List AV} {H0:AH} {v0:AV} {H1:AH} {O:Orc} {S:List FuncId} (h:CS P E f0 a0 H0 v0 H1) (X:CxW O P E S) (hf:S.contains f0=false:=by rfl):CxW (orP f0 a0 H0 v0 H1 O) P E S :=
 ⟨fun f args H v H' ho=>by
  unfold orP at ho
  split at ho
  ·rename_i hc
   obtain ⟨rfl,rfl,rfl⟩:=hc;injection ho with ho;simp only [Prod.mk.injEq] at ho;obtain ⟨rfl,rfl⟩:=ho;exact h
  ·exact X.sound f args H v H' ho,fun f hs args H v H' ho=>by
  have oL:f≠f0:=fun h=>by rw [h,hf] at hs;cases hs
  rw [JG oL] at ho
  exact X.keep f hs args H v H' ho,X.meth,X.mix⟩
theorem zDE {P:Program} {E:Env} {f0:FuncId} {a0:List AV} {H0:AH} {v0:AV} {H1:AH} {O:Orc} (h:CS P E f0 a0 H0 v0 H1) (hk:Cb H0 H1) (X:Cx O P E):Cx (orP f0 a0 H0 v0 H1 O) P E :=
 ⟨fun f args H v H' ho=>by
  unfold orP at ho
  split at ho
  ·rename_i hc
   obtain ⟨rfl,rfl,rfl⟩:=hc;injection ho with ho;simp only [Prod.mk.injEq] at ho;obtain ⟨rfl,rfl⟩:=ho;exact ⟨h,hk⟩
  ·exact X.sound f args H v H' ho,X.meth,X.mix⟩
section
variable {P:Program} {E:Env} {O:Orc} {g:Gh} {H:AH} {w:World}
theorem Sj (hS:K2 P E O) (hM:Ch P E) (R:Rel g H w) (hG:Al E g) {tmps:List AV} {a:Act} (hT:AB g tmps a.tmps.toList) {fid:Nat} {o:Oper}
  (hid:Ai E o.op=true→fid<H.length∧H.at fid=none) {v:AV} {H':AH} (h:AW O P E (AC E tmps) H fid o=some (v,H'))
  {K:Act→World→Prop} {Q:Exit→Act→World→Prop} (hK:∀g' u w',Rel g' H' w'→AQ g H w g' H' w'→AA g' v u→K (a.put o.dst u) w'):o.wp P a w K Q:=by
 have hρ:=fun x=>IE hG hT x
 have fin:∀{r u},aop P E (AC E tmps) H fid o=some (r,u)→some (r,AR H u)=some (v,H')→o.wp P a w K Q:=by
  intro r u ha h;injection h with h;simp only [Prod.mk.injEq] at h;obtain ⟨rfl,rfl⟩:=h;obtain ⟨g',nx,cv,w',ou,ol,h1,h2,h3⟩:=Ny (P:=P) R hρ hid ha;unfold Oper.wp;rw [ou];rcases ol with rfl|⟨rfl,rfl⟩
  ·exact hK g' cv w' h1 h2 h3
  ·exact hK g' undef w' h1 h2 h3
 unfold AW at h
 split at h
 ·rename_i c hc
  split at h
  ·rename_i i args tw
   split at h
   ·rename_i hg
    obtain ⟨cargs,hr,ou⟩:=OD (w:=w) hM hρ tw hg o.type;unfold Oper.wp
    have:(execOp a.eval o).run P w = .ok (.enter i (List.toArray cargs)) w:=by unfold execOp;simp only [hc];exact ou
    rw [this];simp only [Oper.upon];refine Calls.mono ((hS _ _ _ _ _ h) g w cargs R hG hr) ?_;rintro e w' ⟨g',cv,rfl,h1,h2,h3⟩;exact hK g' cv w' h1 h2 h3
   ·cases h
  ·split at h
   ·rename_i r u ha;exact fin ha h
   ·cases h
 ·split at h
  ·rename_i r u ha;exact fin ha h
  ·cases h
theorem Oi (hS:K2 P E O) (hM:Ch P E) {ops:Array Oper} {Q:Exit→Act→World→Prop}:∀(ps:List (Oper × Nat)) (is:List Nat) {g:Gh} {H:AH} {w:World} {tmps:List AV} {a:Act}
  {tmps':List AV} {H':AH},A5 O P E ops ps tmps H=some (tmps',H')→I7 (fun i p=>ops[i]? = some p.1) is ps→(∀p∈ps,Ai E p.1.op=false)→Rel g H w→Al E g→AB g tmps a.tmps.toList→a.defers=[] →
  (∀g' a' w',Rel g' H' w'→AQ g H w g' H' w'→AB g' tmps' a'.tmps.toList→a'.defers=[]→Q .normal a' w')→wpOps P ops Q is a w
 |[],is,g,H,w,tmps,a,tmps',H',h,hf,_,R,_,hT,hd,hQ=>by cases hf;simp only [A5] at h;injection h with h;simp only [Prod.mk.injEq] at h;obtain ⟨rfl,rfl⟩:=h;exact hQ g a w R (AQ.refl g H w) hT hd
 |(o,fid)::ps,is,g,H,w,tmps,a,tmps',H',h,hf,hr,R,hG,hT,hd,hQ=>by
  cases hf with
  |cons hi hf =>
   rename_i i is;have r1:=hr (o,fid) List.mem_cons_self;have r3:∀p∈ps,Ai E p.1.op=false:=fun p hp=>hr p (List.mem_cons_of_mem _ hp)
   simp only at r1;simp only [A5] at h;simp only [wpOps,hi]
   split at h
   ·cases h
   ·rename_i hw
    rw [GW hT hw];simp only [Bool.false_eq_true,if_false];exact Oi hS hM ps is h hf r3 R hG (Hg hT (by simp [AV.nothing,AA,AB,undef])) (by rw [Hh];exact hd) hQ
   ·rename_i hw
    rw [GW hT hw];simp only [if_true]
    split at h
    ·rename_i v H1 oS
     refine .inl (Sj hS hM R hG hT (fun hn=>by rw [r1] at hn;cases hn) oS fun g' u w' R' p' hv => ?_)
     exact Oi hS hM ps is h hf r3 R' (hG.mono p'.le) (Hg (AB.mono p'.le _ _ hT) hv) (by rw [Hh];exact hd)
      (fun g2 a2 w2 R2 p2=>hQ g2 a2 w2 R2 (AQ.trans R p' p2))
    ·cases h
theorem Sk:∀(os:List Oper) (n:Nat),Ag E os=0→∀p∈AY E os n,Ai E p.1.op=false
 |[],_,_,p,hp=>by simp [AY] at hp
 |o::os,n,h,p,hp=>by
  simp only [Ag] at h
  have h1:Ai E o.op=false:=by
   cases hn:Ai E o.op with
   |false=>rfl
   |true=>rw [hn] at h;simp at h
  rw [h1] at h;simp only [AY,List.mem_cons] at hp;rcases hp with rfl|hp
  ·exact h1
  ·exact Sk os _ (by simpa using h) p hp
def K3 (S:List FuncId) (o:Op):Bool:=match o with
 |.call {callee := .builtin _,..}=>true
 |.call {callee := .value (.func f),..}=>S.contains f
 |.call _=>false
 |_=>true
def IN (S:List FuncId) (O:Orc):Orc:=fun f args H=>if S.contains f=true then O f args H else none
theorem ax {S:List FuncId} (X:CxW O P E S):AT P E (IN S O):=fun f args H v H' h=>by
 unfold IN at h
 split at h
 ·rename_i hs
  exact ⟨X.sound f args H v H' h,X.keep f hs args H v H' h⟩
 ·cases h
theorem ay {S:List FuncId} {t:List AV} {fid:Nat} {o:Oper} (h:K3 S o.op=true):AW O P E (AC E t) H fid o=AW (IN S O) P E (AC E t) H fid o:=by
 unfold AW
 split
 ·rename_i c hc
  rw [hc] at h;obtain ⟨ce,aS,ts⟩:=c;cases ce with
  |builtin b=>rfl
  |value f =>
   cases f with
   |func f =>
    have hs:S.contains f=true:=h;have:∀args H,IN S O f args H=O f args H:=fun args H=>if_pos hs
    simp only [callee,AC,this]
   |_=>cases h
  |invoke r n=>cases h
 ·rfl
theorem Oj {S:List FuncId} {ops:Array Oper}:∀{l:List (Oper × Nat)} {t:List AV} {H:AH} {K:List AV→AH→Prop},(∀p∈l,K3 S p.1.op=true)→WOx O P E ops l t H K→WOx (IN S O) P E ops l t H K
 |[],_,_,_,_,h=>h
 |(o,fid)::rest,t,H,K,hc,h=>by
  have h1:=hc (o,fid) List.mem_cons_self;have h2:∀p∈rest,K3 S p.1.op=true:=fun p hp=>hc p (List.mem_cons_of_mem _ hp)
  simp only [WOx] at h ⊢
  revert h
  cases Ap ops t o with
  |none=>exact id
  |some b =>
   intro h;refine ⟨fun hb=>Oj h2 (h.1 hb),fun hb => ?_⟩;have:=h.2 hb;rw [ay h1] at this
   revert this
   cases AW (IN S O) P E (AC E t) H fid o with
   |none=>exact id
   |some r=>exact fun h=>Oj h2 h
variable {B:Bs} {t:List AV} {Q:AEx→List AV→AH→Prop} {S:List FuncId}
def Ok (E:Env) (S:List FuncId) (ops:Array Oper):Bool:=(Ag E ops.toList==0) || ops.toList.all fun o=>K3 S o.op
theorem Sl:∀(os:List Oper) (n:Nat),∀p∈AY E os n,p.1∈os
 |[],_,p,hp=>by simp [AY] at hp
 |o::os,n,p,hp=>by
  simp only [AY,List.mem_cons] at hp;rcases hp with rfl|hp
  ·exact List.mem_cons_self
  ·exact List.mem_cons_of_mem _ (Sl os _ p hp)
theorem Tr.regionW (X:CxW O P E S) (hG:Al E B.g) {id:Nat} {ops:Array Oper} (hd:Ok E S ops=true)
  (h:WOx O P E ops (AY E ops.toList H.length) t (grow H (Ag E ops.toList)) fun t1 H1=>Q .normal t1 H1):Tr P B (.region id ops false) t H Q:=by
 by_cases h0:Ag E ops.toList=0
 ·intro Q' a w hs k
  obtain ⟨g,R,p,hT,uE⟩:=hs;have hw:=WOx.sound h;unfold WO at hw;rw [h0] at hw;cases he:A5 O P E ops (AY E ops.toList H.length) t (grow H 0) with
  |none=>rw [he] at hw;exact hw.elim
  |some x =>
   obtain ⟨t',H'⟩:=x;rw [he] at hw;refine wp_region ?_;have hf:=L3 (E:=E) ops ops.toList H.length 0 (fun j=>by simp);rw [Array.length_toList,←List.range_eq_range'] at hf;refine Oi X.sound X.meth _ _ he hf (Sk _ _ h0) (R.grow 0) (hG.mono p.le) hT uE fun g' a' w' R' p' hT' hd' => ?_
   exact k .normal t' H' a' w' hw ⟨g',R',AQ.trans B.R p p'.ungrow,hT',hd'⟩
 ·unfold Ok at hd
  have ob:(ops.toList.all fun o=>K3 S o.op)=true:=by
   rcases Bool.or_eq_true _ _ ▸ hd with hd|hd
   ·exact absurd (by simpa using hd) h0
   ·exact hd
  rw [List.all_eq_true] at ob;have h2:WOx (IN S O) P E ops (AY E ops.toList H.length) t (grow H (Ag E ops.toList)) fun t1 H1=>Q .normal t1 H1:=Oj (fun p hp=>ob _ (Sl _ _ p hp)) h
  exact Tr.run (O:=IN S O) ⟨ax X,X.meth,X.mix⟩ hG (c := .region id ops false) (by simp [C2]) h2
def Gg (E:Env) (S:List FuncId):Code→Bool
 |.loop (.scope _)=>false
 |.region _ ops false=>Ok E S ops
 |.seq a b=>Gg E S a&&Gg E S b
 |.cond _ a b=>Gg E S a&&Gg E S b
 |.block _ c=>Gg E S c
 |.scope _=>false
 |_=>true
theorem Wt.softW (X:CxW O P E S) (hG:Al E B.g):∀{c:Code} {t:List AV} {H:AH} {Q:AEx→List AV→AH→Prop},Gg E S c=true→Wt O P E (LpD P B) (Fw.soft c) t H Q→Tr P B c t H Q
 |.skip,t,H,Q,_,h=>Tr.skip h
 |.region id ops false,t,H,Q,hd,h=>Tr.regionW X hG hd h
 |.region id ops true,t,H,Q,_,h=>h
 |.seq a b,t,H,Q,hd,h=>by
  simp only [Gg,Bool.and_eq_true] at hd;simp only [Fw.soft,Wt] at h;refine Tr.seq (Tr.mono (Wt.softW X hG hd.1 h) ?_);intro e t1 H1 h1;cases e with
  |normal=>exact Wt.softW X hG hd.2 h1
  |exit id=>exact h1
  |ret=>exact h1
 |.cond c a b,t,H,Q,hd,h=>by
  simp only [Gg,Bool.and_eq_true] at hd;simp only [Fw.soft,Wt] at h;unfold WB at h
  split at h
  ·rename_i v hv
   exact Tr.cond hG v hv (fun e=>Wt.softW X hG hd.1 (h.1 e)) (fun e=>Wt.softW X hG hd.2 (h.2 e))
  ·exact h.elim
 |.block id c,t,H,Q,hd,h=>by simp only [Gg] at hd;simp only [Fw.soft,Wt] at h;exact Tr.block (Wt.softW X hG hd h)
 |.exit id,t,H,Q,_,h=>Tr.exit h
 |.ret,t,H,Q,_,h=>Tr.ret h
 |.loop c,t,H,Q,hd,h=>by simp only [Fw.soft,Wt] at h;cases c<;>first|exact h|cases hd
 |.rangeFunc _ _ _ _,_,_,_,_,h=>h.elim
 |.scope _,_,_,_,hd,_=>by cases hd
 |.label _,_,_,_,_,h=>h.elim
 |.goto _,_,_,_,_,h=>h.elim
 |.refuse _,_,_,_,_,h=>h.elim
theorem Tr.goW (X:CxW O P E S) (hG:Al E B.g) {c:Code} (h:Go O P E (LpD P B) (soft c) [] t H Q) (hd:Gg E S c=true:=by kernel_rfl):Tr P B c t H Q:=Wt.softW X hG hd h
theorem LpD.turnsW {O':Orc} {Lp:EH} {ks0:List Fr} (X:Cx O' P E) (hG:Al E B.g) (ks:List Nat) (bad:List (Nat × Nat)) {id:Nat} {ops:Array Oper}
  (h:WTr O' P E ops ks (bad.flatMap fun p=>[p.1,p.2]) 0 (AY E ops.toList H.length) t (grow H (Ag E ops.toList)) [] fun t1 H1 f=>Gc f bad=true∧Go O P E Lp .skip ks0 t1 H1 Q) (hd:IM ops ks bad=true:=by kernel_rfl):LpD P B (.scope (.region id ops true)) t H (unwind O P E Lp ks0 Q) :=
 Tr.turns X hG ks bad hd (by simpa only [J1] using h)
theorem LpD.loopW {L:Code} (S:List FuncId) (hG:Al E B.g) (I:Nat→List AV→AH→Prop) (k:Nat) {t':List AV} {H':AH} (hl:AD B t H t' H') (hI:I k t' H')
  (h:∀k t H,I k t H→∃O',CxW O' P E S∧Go O' P E (LpD P B) (soft L) [] t H (Goes (Nxt B I k) Q)) (hd:Gg E S L=true:=by kernel_rfl):LpD P B L t H Q:=by
 have key:Tr P B (.loop L) t H Q:=Tr.less hl (Tr.loop I k hI fun k t H hI=>by
  obtain ⟨O',X,h'⟩:=h k t H hI
  exact Tr.goW X hG h' hd)
 cases L<;>first|exact key|cases hd
end
end Go.Proofs.Fw
