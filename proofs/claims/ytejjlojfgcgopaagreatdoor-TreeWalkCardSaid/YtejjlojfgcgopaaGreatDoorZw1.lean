/- An evaluator of the program over abstract values: values, heaps, its operations, each of them sound. -/
import Derived.WalkKit
set_option linter.unusedSimpArgs false
set_option linter.unusedVariables false
namespace Go.Proofs.Fw
open Go.RowKit
inductive Own where
 | unk|full|tok (t:Nat)
 deriving DecidableEq,Repr,Inhabited
inductive AV where
 | undef
 | bool (b:Bool)
 | int (k:IntKind) (n:Int)
 | str (s:List UInt8)
 | nilPtr|nilSlice|nilMap|nilFunc|nilIface
 | emp
 | adr (b o:Nat)
 | ptr (id off:Nat)
 | bsl (id off sz n cap:Nat)
 | vptr (cs:List AV) (off:Nat)
 | slice (ow:Own) (sz n:Nat) (cs:List AV)
 | lsl (t sz n:Nat) (cs:List AV)
 | lptr (t sz n:Nat)
 | stk (id ver sz n:Nat)
 | sptr (id ver sz off:Nat)
 | func (fn:Fn) (first captured:List AV)
 | iface (t:TypeId) (v:AV)
 | agg (cs:List AV)
 | tup (vs:List AV)
 deriving Inhabited
inductive Cd where
 | box (b:Nat)
 | tok (b n sz cap:Nat)
 deriving DecidableEq
def Cd.block:Cd→Nat
 | .box b=>b
 | .tok b _ _ _=>b
structure Gh where
 G:Nat→Nat→Option Value
 M:Nat→Option Cd
def Gh.has (g:Gh) (b o:Nat) (vs:List Value):Prop:=∀i v,vs[i]? = some v→g.G b (o+i)=some v
def EL (g:Gh) (ow:Own) (sz n b o cap:Nat):Prop :=
 match ow with
 | .unk=>True
 | .full=>cap=n
 | .tok t=>∃b' n' cap',g.M t=some (.tok b' n' sz cap')∧n≤n'∧(n=n'→b'=b∧cap'=cap∧o=0)
mutual
def AA (g:Gh):AV→Value→Prop
 | .undef,_=>True
 | .bool b,v=>v = .bool b
 | .int k n,v=>v = .int k n
 | .str s,v=>v = .string ⟨s.toArray⟩
 | .nilPtr,v=>v = .pointer none
 | .nilSlice,v=>v = .slice none 0 0
 | .emp,v=>∃a cap,v = .slice a 0 cap
 | .nilMap,v=>v = .map none
 | .nilFunc,v=>v = .nilFunc
 | .adr b o,v=>v = .pointer (some ⟨b,o,none⟩)
 | .nilIface,v=>v = .nilIface
 | .ptr id off,v=>∃b,g.M id=some (.box b)∧v = .pointer (some ⟨b,off,none⟩)
 | .bsl id off _ n cap,v=>∃b,g.M id=some (.box b)∧v = .slice (some ⟨b,off,none⟩) n cap∧n≤cap
 | .vptr cs off,v=>∃b o vs,v = .pointer (some ⟨b,o+off,none⟩)∧AB g cs vs∧g.has b o vs
 | .slice ow sz n cs,v=>∃b o cap vs,v = .slice (some ⟨b,o,none⟩) n cap∧AB g cs vs∧g.has b o vs∧cs.length=n*sz∧n≤cap∧EL g ow sz n b o cap
 | .lsl t sz n cs,v=>∃b cap vs,v = .slice (some ⟨b,0,none⟩) (n+1) cap∧AB g cs vs∧g.has b 0 vs∧cs.length=n*sz∧n+1≤cap∧EL g (.tok t) sz (n+1) b 0 cap
 | .lptr t sz n,v=>∃b cap,v = .pointer (some ⟨b,n*sz,none⟩)∧EL g (.tok t) sz (n+1) b 0 cap
 | .stk id ver sz n,v=>∃b cap,v = .slice (some ⟨b,0,none⟩) n cap∧n≤cap∧EL g (.tok id) sz ver b 0 cap
 | .sptr id ver sz off,v=>∃b cap,v = .pointer (some ⟨b,off,none⟩)∧EL g (.tok id) sz ver b 0 cap
 | .func fn fi ca,v=>∃fs cs,v = .func fn (List.toArray fs) (List.toArray cs)∧AB g fi fs∧AB g ca cs
 | .iface t x,v=>∃y,v = .iface t y∧AA g x y
 | .agg cs,v=>∃vs,v = .agg (List.toArray vs)∧AB g cs vs
 | .tup cs,v=>∃vs,v = .tuple (List.toArray vs)∧AB g cs vs
def AB (g:Gh):List AV→List Value→Prop
 | [],vs=>vs=[]
 | a::aS,vs=>∃v ws,vs=v::ws∧AA g a v∧AB g aS ws
end
def Cd.le (e e':Cd):Prop :=
 match e,e' with
 | .box b,.box b'=>b=b'
 | .tok b n sz cap,.tok b' n' sz' cap'=>sz=sz'∧(n<n'∨(b=b'∧n=n'∧cap=cap'))
 | _,_=>False
theorem Cd.le_refl (e:Cd):e.le e:=by cases e<;>simp [Cd.le]
theorem Cd.le_trans {a b c:Cd} (h:a.le b) (k:b.le c):a.le c:=by
 cases a<;>cases b<;>cases c<;>simp only [Cd.le] at h k ⊢
 ·exact h.trans k
 ·obtain ⟨rfl,h⟩:=h
  obtain ⟨rfl,k⟩:=k;refine ⟨rfl,?_⟩;rcases h with h|⟨rfl,rfl,rfl⟩
  ·rcases k with k|⟨rfl,rfl,rfl⟩
   ·exact .inl (by omega)
   ·exact .inl h
  ·exact k
structure Gh.le (g g':Gh):Prop where
 G:∀b i v,g.G b i=some v→g'.G b i=some v
 M:∀id e,g.M id=some e→∃e',g'.M id=some e'∧e.le e'
theorem Gh.le_refl (g:Gh):g.le g:=⟨fun _ _ _ h=>h,fun _ e h=>⟨e,h,e.le_refl⟩⟩
theorem Gh.le_trans {a b c:Gh} (h:a.le b) (k:b.le c):a.le c :=
 ⟨fun _ _ _ x=>k.G _ _ _ (h.G _ _ _ x),fun _ _ x=>by
  obtain ⟨e1,h1,l1⟩:=h.M _ _ x;obtain ⟨e2,h2,l2⟩:=k.M _ _ h1
  exact ⟨e2,h2,Cd.le_trans l1 l2⟩⟩
theorem Gh.has_mono {g g':Gh} (h:g.le g') {b o:Nat} {vs:List Value} (k:g.has b o vs):g'.has b o vs:=fun i v x=>h.G _ _ _ (k i v x)
theorem EL.mono {g g':Gh} (h:g.le g') {ow:Own} {sz n b o cap:Nat} (k:EL g ow sz n b o cap):EL g' ow sz n b o cap:=by
 cases ow with
 | unk=>trivial
 | full=>exact k
 | tok t =>
  obtain ⟨b',n',cap',hM,hn,he⟩:=k;obtain ⟨e',hM',hl⟩:=h.M _ _ hM;cases e' with
  | box b=>simp [Cd.le] at hl
  | tok b2 n2 sz2 cap2 =>
   simp only [Cd.le] at hl;obtain ⟨rfl,hl⟩:=hl;refine ⟨b2,n2,cap2,hM',by omega,fun hh => ?_⟩;rcases hl with hl|⟨rfl,rfl,rfl⟩
   ·omega
   ·exact he hh
mutual
theorem AA.mono {g g':Gh} (h:g.le g'):∀(a:AV) (v:Value),AA g a v→AA g' a v
 | .undef,_,_=>by simp [AA]
 | .bool _,_,k=>by simpa [AA] using k
 | .int _ _,_,k=>by simpa [AA] using k
 | .str _,_,k=>by simpa [AA] using k
 | .nilPtr,_,k=>by simpa [AA] using k
 | .nilSlice,_,k=>by simpa [AA] using k
 | .emp,_,k=>by simpa [AA] using k
 | .nilMap,_,k=>by simpa [AA] using k
 | .nilFunc,_,k=>by simpa [AA] using k
 | .adr _ _,_,k=>by simpa [AA] using k
 | .nilIface,_,k=>by simpa [AA] using k
 | .ptr id off,v,k=>by simp only [AA] at k ⊢;obtain ⟨b,hM,hv⟩:=k;obtain ⟨e',hM',hl⟩:=h.M _ _ hM;cases e'<;>simp only [Cd.le] at hl;subst hl;exact ⟨_,hM',hv⟩
 | .bsl id off sz n cap,v,k=>by simp only [AA] at k ⊢;obtain ⟨b,hM,hv⟩:=k;obtain ⟨e',hM',hl⟩:=h.M _ _ hM;cases e'<;>simp only [Cd.le] at hl;subst hl;exact ⟨_,hM',hv⟩
 | .vptr cs off,v,k=>by simp only [AA] at k ⊢;obtain ⟨b,o,vs,hv,hl,hh⟩:=k;exact ⟨b,o,vs,hv,AB.mono h _ _ hl,Gh.has_mono h hh⟩
 | .slice ow sz n cs,v,k=>by simp only [AA] at k ⊢;obtain ⟨b,o,cap,vs,hv,hl,hh,h1,h2,h3⟩:=k;exact ⟨b,o,cap,vs,hv,AB.mono h _ _ hl,Gh.has_mono h hh,h1,h2,h3.mono h⟩
 | .lsl t sz n cs,v,k=>by simp only [AA] at k ⊢;obtain ⟨b,cap,vs,hv,hl,hh,h1,h2,h3⟩:=k;exact ⟨b,cap,vs,hv,AB.mono h _ _ hl,Gh.has_mono h hh,h1,h2,h3.mono h⟩
 | .lptr t sz n,v,k=>by simp only [AA] at k ⊢;obtain ⟨b,cap,hv,h3⟩:=k;exact ⟨b,cap,hv,h3.mono h⟩
 | .stk id ver sz n,v,k=>by simp only [AA] at k ⊢;obtain ⟨b,cap,hv,h1,h3⟩:=k;exact ⟨b,cap,hv,h1,h3.mono h⟩
 | .sptr id ver sz off,v,k=>by simp only [AA] at k ⊢;obtain ⟨b,cap,hv,h3⟩:=k;exact ⟨b,cap,hv,h3.mono h⟩
 | .func fn fi ca,v,k=>by simp only [AA] at k ⊢;obtain ⟨fs,cs,hv,h1,h2⟩:=k;exact ⟨fs,cs,hv,AB.mono h _ _ h1,AB.mono h _ _ h2⟩
 | .iface t x,v,k=>by simp only [AA] at k ⊢;obtain ⟨y,hv,h1⟩:=k;exact ⟨y,hv,AA.mono h _ _ h1⟩
 | .agg cs,v,k=>by simp only [AA] at k ⊢;obtain ⟨vs,hv,h1⟩:=k;exact ⟨vs,hv,AB.mono h _ _ h1⟩
 | .tup cs,v,k=>by simp only [AA] at k ⊢;obtain ⟨vs,hv,h1⟩:=k;exact ⟨vs,hv,AB.mono h _ _ h1⟩
theorem AB.mono {g g':Gh} (h:g.le g'):∀(aS:List AV) (vs:List Value),AB g aS vs→AB g' aS vs
 | [],_,k=>by simpa [AB] using k
 | a::aS,vs,k=>by simp only [AB] at k ⊢;obtain ⟨v,ws,hv,h1,h2⟩:=k;exact ⟨v,ws,hv,AA.mono h _ _ h1,AB.mono h _ _ h2⟩
end
theorem AB.length {g:Gh}:∀{aS:List AV} {vs:List Value},AB g aS vs→vs.length=aS.length
 | [],_,h=>by simp only [AB] at h;subst h;rfl
 | _::_,_,h=>by simp only [AB] at h;obtain ⟨v,ws,rfl,_,h2⟩:=h;simp [h2.length]
theorem AB.get {g:Gh}:∀{aS:List AV} {vs:List Value},AB g aS vs→∀{i:Nat} {a:AV},aS[i]? = some a→∃v,vs[i]? = some v∧AA g a v
 | [],_,_,i,a,h=>by simp at h
 | a0::aS,vs,h,i,a,hi=>by
  simp only [AB] at h;obtain ⟨v,ws,rfl,h1,h2⟩:=h;cases i with
  | zero=>simp at hi;subst hi;exact ⟨v,rfl,h1⟩
  | succ i=>simp at hi ⊢;exact h2.get hi
theorem AB.append {g:Gh}:∀{aS bs:List AV} {vs ws:List Value},AB g aS vs→AB g bs ws→AB g (aS++bs) (vs++ws)
 | [],_,_,_,h,k=>by simp only [AB] at h;subst h;simpa using k
 | a::aS,bs,vs,ws,h,k=>by simp only [AB,List.cons_append] at h ⊢;obtain ⟨v,us,rfl,h1,h2⟩:=h;exact ⟨v,us++ws,rfl,h1,h2.append k⟩
theorem AB.drop {g:Gh}:∀{aS:List AV} {vs:List Value},AB g aS vs→∀n,AB g (aS.drop n) (vs.drop n)
 | [],_,h,n=>by simp only [AB] at h;subst h;simp [AB]
 | a::aS,vs,h,n=>by
  cases n with
  | zero=>simpa using h
  | succ n =>simp only [AB] at h;obtain ⟨v,us,rfl,h1,h2⟩:=h;simpa using h2.drop n
theorem AB.take {g:Gh}:∀{aS:List AV} {vs:List Value},AB g aS vs→∀n,AB g (aS.take n) (vs.take n)
 | [],_,h,n=>by simp only [AB] at h;subst h;simp [AB]
 | a::aS,vs,h,n=>by
  cases n with
  | zero=>simp [AB]
  | succ n =>simp only [AB] at h;obtain ⟨v,us,rfl,h1,h2⟩:=h;simp only [List.take_succ_cons,AB];exact ⟨v,_,rfl,h1,h2.take n⟩
theorem AB.set {g:Gh}:∀{aS:List AV} {vs:List Value},AB g aS vs→∀(n:Nat) {a:AV} {v:Value},AA g a v→AB g (aS.set n a) (vs.set n v)
 | [],_,h,n,a,v,k=>by simp only [AB] at h;subst h;simp [AB]
 | a0::aS,vs,h,n,a,v,k=>by
  simp only [AB] at h;obtain ⟨v0,us,rfl,h1,h2⟩:=h;cases n with
  | zero=>simp only [List.set_cons_zero,AB];exact ⟨v,us,rfl,k,h2⟩
  | succ n=>simp only [List.set_cons_succ,AB];exact ⟨v0,_,rfl,h1,h2.set n k⟩
theorem AB.replicate {g:Gh} (n:Nat) {a:AV} {v:Value} (h:AA g a v):AB g (List.replicate n a) (List.replicate n v):=by
 induction n with
 | zero=>simp [AB]
 | succ n ih=>simp only [List.replicate_succ,AB];exact ⟨v,_,rfl,h,ih⟩
theorem AB.getD {g:Gh} {aS:List AV} {vs:List Value} (h:AB g aS vs) (i:Nat) (v0:Value):AA g (aS.getD i .undef) (vs.getD i v0):=by
 rw [List.getD_eq_getElem?_getD,List.getD_eq_getElem?_getD];cases hi:aS[i]? with
 | none=>simp [AA]
 | some a =>obtain ⟨v,hv,hr⟩:=h.get hi;rw [hv];exact hr
theorem Gh.has_drop {g:Gh} {b o:Nat} {vs:List Value} (h:g.has b o vs) (n:Nat):g.has b (o+n) (vs.drop n):=by
 intro i v hi;rw [List.getElem?_drop] at hi;have:=h _ _ hi
 rwa [←Nat.add_assoc] at this
theorem Gh.has_take {g:Gh} {b o:Nat} {vs:List Value} (h:g.has b o vs) (n:Nat):g.has b o (vs.take n):=by
 intro i v hi;rw [List.getElem?_take] at hi
 split at hi
 ·exact h _ _ hi
 ·simp at hi
theorem Gh.has_append {g:Gh} {b o:Nat} {vs ws:List Value} (h:g.has b o vs) (k:g.has b (o+vs.length) ws):g.has b o (vs++ws):=by
 intro i v hi;rw [List.getElem?_append] at hi
 split at hi
 ·exact h _ _ hi
 ·have:=k _ _ hi
  rwa [show o+vs.length+(i-vs.length)=o+i by omega] at this
inductive Ent where
 | box (cs:List AV)
 | tok (n:Nat)
 | loose (n:Nat) (cs:List AV)
 | stk (ver:Nat) (cs:List AV)
 | hid
 deriving Inhabited
abbrev AH:=List (Option Ent)
def AH.at (H:AH) (id:Nat):Option Ent:=(H[id]?).join
def CH (g:Gh) (w:World):Ent→Cd→Prop
 | .hid,_=>True
 | .box cs,.box b=>∃vs el,w.heap[b]? = some (.cells (List.toArray vs) el (0,0))∧AB g cs vs∧∀i,g.G b i=none
 | .loose n cs,.tok b n' sz cap=>n+1=n'∧n+1≤cap∧cs.length=sz∧(∃vs el,w.heap[b]? = some (.cells (List.toArray vs) el (0,0))∧cap*sz≤vs.length∧AB g cs ((vs.drop (n*sz)).take sz))∧∀i,n*sz≤i→g.G b i=none
 | .stk ver cs,.tok b n' sz cap=>ver=n'∧cs.length≤cap*sz∧(∃vs el,w.heap[b]? = some (.cells (List.toArray vs) el (0,0))∧cap*sz≤vs.length∧AB g cs (vs.take cs.length))∧∀i,g.G b i=none
 | .tok n,.tok b n' sz cap=>n=n'∧n≤cap∧(∃vs el,w.heap[b]? = some (.cells (List.toArray vs) el (0,0))∧cap*sz≤vs.length)∧∀i,n*sz≤i→g.G b i=none
 | _,_=>False
structure Rel (g:Gh) (H:AH) (w:World):Prop where
 imm:∀b i v,g.G b i=some v→w.cell? ⟨b,i,none⟩=some v
 free:∀id,H.at id=none→g.M id=none
 ent:∀id e,H.at id=some e→e ≠ .hid→∃ge,g.M id=some ge∧CH g w e ge
 inj:∀id id' e e',g.M id=some e→g.M id'=some e'→e.block=e'.block→id=id'
 blk:∀id e,g.M id=some e→e.block<w.heap.size
structure AK (g:Gh) (H:AH) (w:World) (g':Gh) (H':AH) (w':World):Prop where
 le:g.le g'
 hid:∀id,H.at id=some .hid→g'.M id=g.M id∧H'.at id=some .hid
 new:∀id e',g'.M id=some e'→(∃e,g.M id=some e∧e.block=e'.block)∨w.heap.size≤e'.block
 old:∀b,b<w.heap.size→(∀id e ge,H.at id=some e→e ≠ .hid→g.M id=some ge→ge.block≠b)→w'.heap[b]? = w.heap[b]? ∧ ∀i,g'.G b i=g.G b i
 size:w.heap.size≤w'.heap.size
 os:w'.os=w.os
 tape:w'.tape=w.tape
 output:w'.output=w.output
theorem AK.refl (g:Gh) (H:AH) (w:World):AK g H w g H w :=⟨g.le_refl,fun _ h=>⟨rfl,h⟩,fun _ e h => .inl ⟨e,h,rfl⟩,fun _ _ _=>⟨rfl,fun _=>rfl⟩,Nat.le_refl _,rfl,rfl,rfl⟩
theorem AK.trans {g g1 g2:Gh} {H H1 H2:AH} {w w1 w2:World} (R:Rel g H w) (p:AK g H w g1 H1 w1) (q:AK g1 H1 w1 g2 H2 w2):AK g H w g2 H2 w2 where
 le:=Gh.le_trans p.le q.le
 hid:=fun id h=>by obtain ⟨h1,h2⟩:=p.hid id h;obtain ⟨h3,h4⟩:=q.hid id h2;exact ⟨h3.trans h1,h4⟩
 new:=fun id e h=>by
  rcases q.new id e h with ⟨e1,h1,hb⟩|h1
  ·rcases p.new id e1 h1 with ⟨e0,h0,re⟩|h0
   ·exact .inl ⟨e0,h0,re.trans hb⟩
   ·exact .inr (hb ▸ h0)
  ·exact .inr (Nat.le_trans p.size h1)
 old:=fun b hb hn=>by
  obtain ⟨h1,h2⟩:=p.old b hb hn
  have:=q.old b (Nat.lt_of_lt_of_le hb p.size) (fun id e ge he pp hM sh=>by
   rcases p.new id ge hM with ⟨e0,h0,re⟩|h0
   ·cases hH:H.at id with
    | none=>rw [R.free id hH] at h0;cases h0
    | some e' =>
     by_cases hh:e' = .hid
     ·subst hh
      have:=(p.hid id hH).2;rw [he] at this;injection this with this;exact pp this
     ·exact hn id e' e0 hH hh h0 (re.trans sh)
   ·omega)
  exact ⟨this.1.trans h1,fun i=>(this.2 i).trans (h2 i)⟩
 size:=Nat.le_trans p.size q.size
 os:=q.os.trans p.os
 tape:=q.tape.trans p.tape
 output:=q.output.trans p.output
theorem CH.keep {g g':Gh} {w w':World} {e:Ent} {ge:Cd} (pv:g.le g') (hb:w'.heap[ge.block]? = w.heap[ge.block]?) (hG:∀i,g'.G ge.block i=g.G ge.block i)
  (h:CH g w e ge):CH g' w' e ge:=by
 cases e with
 | hid=>trivial
 | box cs =>
  cases ge with
  | box b =>obtain ⟨vs,el,h1,h2,h3⟩:=h;simp only [Cd.block] at hb hG;exact ⟨vs,el,hb.trans h1,AB.mono pv _ _ h2,fun i=>(hG i).trans (h3 i)⟩
  | tok=>exact h
 | tok n =>
  cases ge with
  | box=>exact h
  | tok b n' sz cap =>simp only [CH,Cd.block] at h hb hG ⊢;obtain ⟨h1,h2,⟨vs,el,h3,h4⟩,h5⟩:=h;exact ⟨h1,h2,⟨vs,el,hb.trans h3,h4⟩,fun i hi=>(hG i).trans (h5 i hi)⟩
 | stk n cs =>
  cases ge with
  | box=>exact h
  | tok b n' sz cap =>simp only [CH,Cd.block] at h hb hG ⊢;obtain ⟨h1,h2,⟨vs,el,h3,h4,h6⟩,h5⟩:=h;exact ⟨h1,h2,⟨vs,el,hb.trans h3,h4,AB.mono pv _ _ h6⟩,fun i=>(hG i).trans (h5 i)⟩
 | loose n cs =>
  cases ge with
  | box=>exact h
  | tok b n' sz cap =>simp only [CH,Cd.block] at h hb hG ⊢;obtain ⟨h1,h2,h0,⟨vs,el,h3,h4,h6⟩,h5⟩:=h;exact ⟨h1,h2,h0,⟨vs,el,hb.trans h3,h4,AB.mono pv _ _ h6⟩,fun i hi=>(hG i).trans (h5 i hi)⟩
theorem Rel.lt {g:Gh} {H:AH} {w:World} (R:Rel g H w) {b i:Nat} {v:Value} (h:g.G b i=some v):b<w.heap.size :=World.block_lt_of_cell? w ⟨b,i,none⟩ (R.imm b i v h)
theorem D4 {w w':World} {b i:Nat} (h:w'.heap[b]? = w.heap[b]?):w'.cell? ⟨b,i,none⟩=w.cell? ⟨b,i,none⟩:=by simp only [World.cell?,h]
theorem Rel.same {g:Gh} {H:AH} {w w':World} (R:Rel g H w) (h:w'.heap=w.heap):Rel g H w' where
 imm:=fun b i v hh=>(D4 (by rw [h])).trans (R.imm b i v hh)
 free:=R.free
 ent:=fun id e he pp=>by obtain ⟨ge,hM,hr⟩:=R.ent id e he pp;exact ⟨ge,hM,hr.keep (Gh.le_refl g) (by rw [h]) (fun _=>rfl)⟩
 inj:=R.inj
 blk:=fun id e he=>by rw [h];exact R.blk id e he
theorem AK.same {g:Gh} {H:AH} {w w':World} (h:w'.heap=w.heap) (ho:w'.os=w.os) (ht:w'.tape=w.tape) (hu:w'.output=w.output):AK g H w g H w' :=⟨g.le_refl,fun _ h=>⟨rfl,h⟩,fun _ e h => .inl ⟨e,h,rfl⟩,fun _ _ _=>⟨by rw [h],fun _=>rfl⟩,by rw [h];exact Nat.le_refl _,ho,ht,hu⟩
def Gh.row (g:Gh) (b:Nat) (vs:List Value):Gh:={g with G:=fun b' i=>if b'=b then vs[i]? else g.G b' i}
theorem Rel.alloc_row {g:Gh} {H:AH} {w:World} (R:Rel g H w) (c:Array Value) (el:TypeId) (fr:Nat × Nat) (vs:List Value) (hv:∀(i:Nat) (v:Value),vs[i]? = some v→c[i]? = some v) :
  Rel (g.row w.heap.size vs) H (w.alloc (.cells c el fr))∧AK g H w (g.row w.heap.size vs) H (w.alloc (.cells c el fr))∧(g.row w.heap.size vs).has w.heap.size 0 vs:=by
 have qE:∀b,b<w.heap.size→(w.alloc (.cells c el fr)).heap[b]? = w.heap[b]? := fun b hb=>Below.heap_alloc w _ b hb
 have pv:g.le (g.row w.heap.size vs):=⟨fun b i v h=>by
   have:=R.lt h;simp only [Gh.row];rw [if_neg (by omega)]
   exact h,fun id e h=>⟨e,h,e.le_refl⟩⟩
 refine ⟨⟨?_,R.free,?_,R.inj,?_⟩,⟨pv,fun _ h=>⟨rfl,h⟩,fun _ e h => .inl ⟨e,h,rfl⟩,?_,by simp,rfl,rfl,rfl⟩,?_⟩
 ·intro b i v h
  simp only [Gh.row] at h
  split at h
  ·subst b
   have:=hv i v h;have hh:(w.alloc (.cells c el fr)).heap[w.heap.size]? = some (.cells c el fr):=by show (w.heap.push _)[w.heap.size]? = _;simp
   simp only [World.cell?,hh];exact this
  ·exact (D4 (qE b (R.lt h))).trans (R.imm b i v h)
 ·intro id e he pp
  obtain ⟨ge,hM,hr⟩:=R.ent id e he pp;have hb:=R.blk id ge hM;exact ⟨ge,hM,hr.keep pv (qE _ hb) (fun i=>by simp only [Gh.row];rw [if_neg (by omega)])⟩
 ·intro id e he
  have:=R.blk id e he;simp;omega
 ·intro b hb _
  exact ⟨qE b hb,fun i=>by simp only [Gh.row];rw [if_neg (by omega)]⟩
 ·intro i v h
  simp [Gh.row,h]
theorem AH.at_set {H:AH} {id j:Nat} {e:Option Ent}:AH.at (H.set id e) j=if id=j∧j<H.length then e else H.at j:=by
 unfold AH.at;rw [List.getElem?_set]
 by_cases h:id=j
 ·subst h
  by_cases hl:id<H.length
  ·simp [hl]
  ·simp [hl]
 ·simp [h]
theorem Rel.alloc_box {g:Gh} {H:AH} {w:World} (R:Rel g H w) (vs:List Value) (cs:List AV) (el:TypeId) (id:Nat) (hid:id<H.length) (hf:H.at id=none) (hr:AB g cs vs) :
  ∃g',Rel g' (H.set id (some (.box cs))) (w.alloc (.cells (List.toArray vs) el))∧AK g H w g' (H.set id (some (.box cs))) (w.alloc (.cells (List.toArray vs) el))∧g'.M id=some (.box w.heap.size):=by
 have qE:∀b,b<w.heap.size→(w.alloc (.cells (List.toArray vs) el)).heap[b]? = w.heap[b]? := fun b hb=>Below.heap_alloc w _ b hb
 have hMf:=R.free id hf
 let g':Gh:={g with M:=fun j=>if j=id then some (.box w.heap.size) else g.M j}
 have hM:∀j,j≠id→g'.M j=g.M j:=fun j hj=>by simp [g',hj]
 have qY:g'.M id=some (.box w.heap.size):=by simp [g']
 have pv:g.le g':=⟨fun _ _ _ h=>h,fun j e h=>⟨e,by
   rw [hM j (fun hh=>by subst hh;rw [hMf] at h;cases h)]
   exact h,e.le_refl⟩⟩
 refine ⟨g',⟨?_,?_,?_,?_,?_⟩,⟨pv,?_,?_,?_,by simp,rfl,rfl,rfl⟩,qY⟩
 ·exact fun b i v h=>(D4 (qE b (R.lt h))).trans (R.imm b i v h)
 ·intro j hj
  rw [AH.at_set] at hj
  by_cases pr:j=id
  ·subst pr;simp [hid] at hj
  ·rw [if_neg (fun h=>pr h.1.symm)] at hj
   rw [hM j pr];exact R.free j hj
 ·intro j e he pp
  rw [AH.at_set] at he
  by_cases pr:j=id
  ·subst pr
   simp [hid] at he;subst he;refine ⟨_,qY,vs,el,by show (w.heap.push _)[w.heap.size]? = _;simp,AB.mono pv _ _ hr,fun i => ?_⟩;cases hG:g'.G w.heap.size i with
   | none=>rfl
   | some v=>have:=R.lt (show g.G w.heap.size i=some v from hG);omega
  ·rw [if_neg (fun h=>pr h.1.symm)] at he
   obtain ⟨ge,rl,hr⟩:=R.ent j e he pp;exact ⟨ge,by rw [hM j pr];exact rl,hr.keep pv (qE _ (R.blk j ge rl)) (fun _=>rfl)⟩
 ·intro j k e e' hj hk hb
  by_cases pr:j=id
  ·by_cases ql:k=id
   ·rw [pr,ql]
   ·rw [pr,qY] at hj
    rw [hM k ql] at hk;injection hj with hj;subst hj;have:=R.blk k e' hk;have hb':w.heap.size=e'.block:=hb;omega
  ·rw [hM j pr] at hj
   by_cases ql:k=id
   ·rw [ql,qY] at hk
    injection hk with hk;subst hk;have:=R.blk j e hj;have hb':e.block=w.heap.size:=hb;omega
   ·rw [hM k ql] at hk
    exact R.inj j k e e' hj hk hb
 ·intro j e hj
  simp only [World.size_alloc]
  by_cases pr:j=id
  ·rw [pr,qY] at hj
   injection hj with hj;subst hj;simp [Cd.block]
  ·rw [hM j pr] at hj
   have:=R.blk j e hj;omega
 ·intro j hj
  have pr:j≠id:=fun h=>by subst h;rw [hf] at hj;cases hj
  refine ⟨hM j pr,?_⟩;rw [AH.at_set,if_neg (fun h=>pr h.1.symm)];exact hj
 ·intro j e hj
  by_cases pr:j=id
  ·rw [pr,qY] at hj
   injection hj with hj;subst hj;exact .inr (Nat.le_refl _)
  ·rw [hM j pr] at hj
   exact .inl ⟨e,hj,rfl⟩
 ·exact fun b hb _=>⟨qE b hb,fun _=>rfl⟩
theorem Rel.write_box {g:Gh} {H:AH} {w w':World} (R:Rel g H w) {id b:Nat} {cs0 cs:List AV} {vs:List Value} {el:TypeId} (hid:H.at id=some (.box cs0)) (hM:g.M id=some (.box b))
  (hb:w'.heap[b]? = some (.cells (List.toArray vs) el (0,0))) (hr:AB g cs vs) (qE:∀k,k≠b→w'.heap[k]? = w.heap[k]?) (hs:w'.heap.size=w.heap.size)
  (ho:w'.os=w.os) (ht:w'.tape=w.tape) (hu:w'.output=w.output) :
  Rel g (H.set id (some (.box cs))) w'∧AK g H w g (H.set id (some (.box cs))) w':=by
 have hG:∀i,g.G b i=none:=by obtain ⟨ge,hM',h⟩:=R.ent id _ hid (by simp);rw [hM] at hM';injection hM' with hM';subst hM';obtain ⟨_,_,_,_,h3⟩:=h;exact h3
 have hl:id<H.length:=by
  unfold AH.at at hid;rcases Nat.lt_or_ge id H.length with h|h
  ·exact h
  ·simp [List.getElem?_eq_none h] at hid
 refine ⟨⟨?_,?_,?_,R.inj,?_⟩,⟨g.le_refl,?_,fun _ e h => .inl ⟨e,h,rfl⟩,?_,by rw [hs];exact Nat.le_refl _,ho,ht,hu⟩⟩
 ·intro k i v h
  have:k≠b:=fun hk=>by subst hk;rw [hG] at h;cases h
  exact (D4 (qE k this)).trans (R.imm k i v h)
 ·intro j hj
  rw [AH.at_set] at hj
  by_cases pr:id=j
  ·subst pr;simp [hl] at hj
  ·rw [if_neg (fun h=>pr h.1)] at hj
   exact R.free j hj
 ·intro j e he pp
  rw [AH.at_set] at he
  by_cases pr:id=j
  ·subst pr
   simp [hl] at he;subst he;exact ⟨_,hM,vs,el,hb,hr,hG⟩
  ·rw [if_neg (fun h=>pr h.1)] at he
   obtain ⟨ge,rl,hr⟩:=R.ent j e he pp;refine ⟨ge,rl,hr.keep g.le_refl (qE _ fun hk=>pr ?_) (fun _=>rfl)⟩;exact R.inj id j (.box b) ge hM rl hk.symm
 ·intro j e he
  rw [hs];exact R.blk j e he
 ·intro j hj
  have pr:id≠j:=fun h=>by subst h;rw [hid] at hj;cases hj
  refine ⟨rfl,?_⟩;rw [AH.at_set,if_neg (fun h=>pr h.1)];exact hj
 ·intro k hk hn
  refine ⟨qE k fun xB => ?_,fun _=>rfl⟩;exact hn id _ _ hid (by simp) hM (by simp [Cd.block,xB])
theorem Rel.write_loose {g:Gh} {H:AH} {w w':World} (R:Rel g H w) {id b n sz cap:Nat} {ys cs:List AV} {us:List Value} {el:TypeId} (hid:H.at id=some (.loose n ys)) (hM:g.M id=some (.tok b (n+1) sz cap))
  (hb:w'.heap[b]? = some (.cells (List.toArray us) el (0,0))) (rK:∀i,i<n*sz→us[i]? = w.cell? ⟨b,i,none⟩) (sT:n+1≤cap) (qM:cs.length=sz) (pw:cap*sz≤us.length) (hr:AB g cs ((us.drop (n*sz)).take sz))
  (qE:∀k,k≠b→w'.heap[k]? = w.heap[k]?) (hs:w'.heap.size=w.heap.size) (ho:w'.os=w.os) (ht:w'.tape=w.tape) (hu:w'.output=w.output) :
  Rel g (H.set id (some (.loose n cs))) w'∧AK g H w g (H.set id (some (.loose n cs))) w':=by
 have hG:∀i,n*sz≤i→g.G b i=none:=by obtain ⟨ge,hM',h⟩:=R.ent id _ hid (by simp);rw [hM] at hM';injection hM' with hM';subst hM';exact h.2.2.2.2
 have hl:id<H.length:=by
  unfold AH.at at hid;rcases Nat.lt_or_ge id H.length with h|h
  ·exact h
  ·simp [List.getElem?_eq_none h] at hid
 refine ⟨⟨?_,?_,?_,R.inj,?_⟩,⟨g.le_refl,?_,fun _ e h => .inl ⟨e,h,rfl⟩,?_,by rw [hs];exact Nat.le_refl _,ho,ht,hu⟩⟩
 ·intro k i v h
  by_cases hk:k=b
  ·subst hk
   have hi:i<n*sz:=by
    rcases Nat.lt_or_ge i (n*sz) with hi|hi
    ·exact hi
    ·rw [hG i hi] at h;cases h
   have h2:=R.imm _ i v h;rw [←h2,←rK i hi];simp only [World.cell?,hb];simp
  ·exact (D4 (qE k hk)).trans (R.imm k i v h)
 ·intro j hj
  rw [AH.at_set] at hj
  by_cases pr:id=j
  ·subst pr;simp [hl] at hj
  ·rw [if_neg (fun h=>pr h.1)] at hj
   exact R.free j hj
 ·intro j e he pp
  rw [AH.at_set] at he
  by_cases pr:id=j
  ·subst pr
   simp [hl] at he;subst he;exact ⟨_,hM,rfl,sT,qM,⟨us,el,hb,pw,hr⟩,hG⟩
  ·rw [if_neg (fun h=>pr h.1)] at he
   obtain ⟨ge,rl,hr⟩:=R.ent j e he pp;refine ⟨ge,rl,hr.keep g.le_refl (qE _ fun hk=>pr ?_) (fun _=>rfl)⟩;exact R.inj id j _ ge hM rl hk.symm
 ·intro j e he
  rw [hs];exact R.blk j e he
 ·intro j hj
  have pr:id≠j:=fun h=>by subst h;rw [hid] at hj;cases hj
  refine ⟨rfl,?_⟩;rw [AH.at_set,if_neg (fun h=>pr h.1)];exact hj
 ·intro k hk hn
  refine ⟨qE k fun xB => ?_,fun _=>rfl⟩;exact hn id _ _ hid (by simp) hM (by simp [Cd.block,xB])
theorem Lq (w:World) (o:Obj):(w.alloc o).heap[w.heap.size]? = some o:=by
 show (w.heap.push o)[w.heap.size]? = _
 simp
theorem Rel.drew {g:Gh} {H:AH} {w:World} (R:Rel g H w):Rel g H w.drew:=R.same rfl
theorem AK.drew (g:Gh) (H:AH) (w:World):AK g H w g H w.drew:=AK.same rfl rfl rfl rfl
theorem Rel.row_growE {g:Gh} {H:AH} {w:World} (R:Rel g H w) (c:Array Value) (el:TypeId) (vs:List Value) (hv:∀(i:Nat) (v:Value),vs[i]? = some v→c[i]? = some v)
  (id N sz cap:Nat) (hid:id<H.length) (e:Ent) (xC:e ≠ .hid) (hE:∀g':Gh,g.le g'→(∀i,g'.G w.heap.size i=vs[i]?)→CH g' (w.alloc (.cells c el)) e (.tok w.heap.size N sz cap))
  (hf:H.at id=none∨∃e0 n0 b0 cap0,H.at id=some e0∧e0 ≠ .hid∧g.M id=some (.tok b0 n0 sz cap0)∧n0<N) :
  ∃g',Rel g' (H.set id (some e)) (w.alloc (.cells c el))∧AK g H w g' (H.set id (some e)) (w.alloc (.cells c el)) ∧
   g'.M id=some (.tok w.heap.size N sz cap)∧g'.has w.heap.size 0 vs:=by
 have qE:∀b,b<w.heap.size→(w.alloc (.cells c el)).heap[b]? = w.heap[b]? := fun b hb=>Below.heap_alloc w _ b hb
 let g':Gh:={G:=(g.row w.heap.size vs).G,M:=fun j=>if j=id then some (.tok w.heap.size N sz cap) else g.M j}
 have hM:∀j,j≠id→g'.M j=g.M j:=fun j hj=>by simp [g',hj]
 have qY:g'.M id=some (.tok w.heap.size N sz cap):=by simp [g']
 have rm:∀b i,b<w.heap.size→g'.G b i=g.G b i:=fun b i hb=>by
  show (if b=w.heap.size then vs[i]? else g.G b i)=_
  rw [if_neg (by omega)]
 have sU:∀i,g'.G w.heap.size i=vs[i]? := fun i=>by
  show (if w.heap.size=w.heap.size then vs[i]? else _)=_
  rw [if_pos rfl]
 have pv:g.le g':=⟨fun b i v h=>by rw [rm b i (R.lt h)];exact h,fun j e h=>by
  by_cases pr:j=id
  ·subst pr
   rcases hf with hf|⟨e0,n0,b0,cap0,_,_,h1,h2⟩
   ·rw [R.free j hf] at h;cases h
   ·rw [h1] at h
    injection h with h;subst h;exact ⟨_,qY,rfl,.inl h2⟩
  ·exact ⟨e,by rw [hM j pr];exact h,e.le_refl⟩⟩
 refine ⟨g',⟨?_,?_,?_,?_,?_⟩,⟨pv,?_,?_,?_,by simp,rfl,rfl,rfl⟩,qY,?_⟩
 ·intro b i v h
  by_cases hb:b=w.heap.size
  ·subst hb
   rw [sU] at h;have:=hv i v h;simp only [World.cell?,Lq];exact this
  ·have h':g.G b i=some v:=by
    have:g'.G b i=g.G b i:=by show (if b=w.heap.size then vs[i]? else g.G b i)=_;rw [if_neg hb]
    rw [←this];exact h
   exact (D4 (qE b (R.lt h'))).trans (R.imm b i v h')
 ·intro j hj
  rw [AH.at_set] at hj
  by_cases pr:j=id
  ·subst pr;simp [hid] at hj
  ·rw [if_neg (fun h=>pr h.1.symm)] at hj
   rw [hM j pr];exact R.free j hj
 ·intro j e1 he xD
  rw [AH.at_set] at he
  by_cases pr:j=id
  ·subst pr
   simp [hid] at he;subst he;exact ⟨_,qY,hE g' pv sU⟩
  ·rw [if_neg (fun h=>pr h.1.symm)] at he
   obtain ⟨ge,rl,hr⟩:=R.ent j e1 he xD;have hb:=R.blk j ge rl;exact ⟨ge,by rw [hM j pr];exact rl,hr.keep pv (qE _ hb) (fun i=>rm _ i hb)⟩
 ·intro j k e e' hj hk hb
  by_cases pr:j=id
  ·by_cases ql:k=id
   ·rw [pr,ql]
   ·rw [pr,qY] at hj
    rw [hM k ql] at hk;injection hj with hj;subst hj;have:=R.blk k e' hk;have hb':w.heap.size=e'.block:=hb;omega
  ·rw [hM j pr] at hj
   by_cases ql:k=id
   ·rw [ql,qY] at hk
    injection hk with hk;subst hk;have:=R.blk j e hj;have hb':e.block=w.heap.size:=hb;omega
   ·rw [hM k ql] at hk
    exact R.inj j k e e' hj hk hb
 ·intro j e hj
  simp only [World.size_alloc]
  by_cases pr:j=id
  ·rw [pr,qY] at hj
   injection hj with hj;subst hj;simp [Cd.block]
  ·rw [hM j pr] at hj
   have:=R.blk j e hj;omega
 ·intro j hj
  have pr:j≠id:=fun h=>by
   subst h;rcases hf with hf|⟨e0,n0,b0,cap0,hf,tX,_,_⟩
   ·rw [hf] at hj;cases hj
   ·rw [hf] at hj;injection hj with hj;exact tX hj
  refine ⟨hM j pr,?_⟩;rw [AH.at_set,if_neg (fun h=>pr h.1.symm)];exact hj
 ·intro j e hj
  by_cases pr:j=id
  ·rw [pr,qY] at hj
   injection hj with hj;subst hj;exact .inr (Nat.le_refl _)
  ·rw [hM j pr] at hj
   exact .inl ⟨e,hj,rfl⟩
 ·exact fun b hb _=>⟨qE b hb,fun i=>rm b i hb⟩
 ·intro i v h
  rw [Nat.zero_add,sU];exact h
theorem Rel.row_grow {g:Gh} {H:AH} {w:World} (R:Rel g H w) (c:Array Value) (el:TypeId) (vs:List Value) (hv:∀(i:Nat) (v:Value),vs[i]? = some v→c[i]? = some v)
  (id N sz cap:Nat) (hid:id<H.length) (e:Ent) (xC:e ≠ .hid) (hE:∀g':Gh,g.le g'→(∀i,g'.G w.heap.size i=vs[i]?)→CH g' (w.alloc (.cells c el)) e (.tok w.heap.size N sz cap))
  (hf:H.at id=none∨∃n0 b0 cap0,H.at id=some (.tok n0)∧g.M id=some (.tok b0 n0 sz cap0)∧n0<N) :
  ∃g',Rel g' (H.set id (some e)) (w.alloc (.cells c el))∧AK g H w g' (H.set id (some e)) (w.alloc (.cells c el)) ∧
   g'.M id=some (.tok w.heap.size N sz cap)∧g'.has w.heap.size 0 vs :=
 R.row_growE c el vs hv id N sz cap hid e xC hE (hf.imp (fun h=>h) fun ⟨n0,b0,cap0,h1,h2,h3⟩=>⟨_,n0,b0,cap0,h1,by simp,h2,h3⟩)
theorem Rel.stk_room {g:Gh} {H:AH} {w w':World} (R:Rel g H w) {id b ver sz cap:Nat} {cs0 cs:List AV} {us:List Value} {el:TypeId} (hid:H.at id=some (.stk ver cs0)) (hM:g.M id=some (.tok b ver sz cap))
  (hb:w'.heap[b]? = some (.cells (List.toArray us) el (0,0))) (pw:cap*sz≤us.length) (sV:cs.length≤cap*sz) (hr:AB g cs (us.take cs.length)) (qE:∀k,k≠b→w'.heap[k]? = w.heap[k]?) (hs:w'.heap.size=w.heap.size)
  (ho:w'.os=w.os) (ht:w'.tape=w.tape) (hu:w'.output=w.output) :
  ∃g',Rel g' (H.set id (some (.stk (ver+1) cs))) w'∧AK g H w g' (H.set id (some (.stk (ver+1) cs))) w'∧g'.M id=some (.tok b (ver+1) sz cap):=by
 have hG:∀i,g.G b i=none:=by obtain ⟨ge,hM',h⟩:=R.ent id _ hid (by simp);rw [hM] at hM';injection hM' with hM';subst hM';exact h.2.2.2
 have hl:id<H.length:=by
  unfold AH.at at hid;rcases Nat.lt_or_ge id H.length with h|h
  ·exact h
  ·simp [List.getElem?_eq_none h] at hid
 have xF:b<w.heap.size:=R.blk id _ hM
 let g':Gh:={G:=g.G,M:=fun j=>if j=id then some (.tok b (ver+1) sz cap) else g.M j}
 have qH:∀j,j≠id→g'.M j=g.M j:=fun j hj=>by simp [g',hj]
 have qY:g'.M id=some (.tok b (ver+1) sz cap):=by simp [g']
 have pv:g.le g':=⟨fun _ _ _ h=>h,fun j e h=>by
  by_cases pr:j=id
  ·subst pr
   rw [hM] at h;injection h with h;subst h;exact ⟨_,qY,rfl,.inl (Nat.lt_succ_self _)⟩
  ·exact ⟨e,by rw [qH j pr];exact h,e.le_refl⟩⟩
 refine ⟨g',⟨?_,?_,?_,?_,?_⟩,⟨pv,?_,?_,?_,by rw [hs];exact Nat.le_refl _,ho,ht,hu⟩,qY⟩
 ·intro k i v h
  have hk:k≠b:=fun hk=>by subst hk;rw [show g'.G k i=g.G k i from rfl,hG] at h;cases h
  exact (D4 (qE k hk)).trans (R.imm k i v h)
 ·intro j hj
  rw [AH.at_set] at hj
  by_cases pr:j=id
  ·subst pr;simp [hl] at hj
  ·rw [if_neg (fun h=>pr h.1.symm)] at hj
   rw [qH j pr];exact R.free j hj
 ·intro j e he pp
  rw [AH.at_set] at he
  by_cases pr:j=id
  ·subst pr
   simp [hl] at he;subst he;exact ⟨_,qY,rfl,sV,⟨us,el,hb,pw,AB.mono pv _ _ hr⟩,hG⟩
  ·rw [if_neg (fun h=>pr h.1.symm)] at he
   obtain ⟨ge,rl,hr⟩:=R.ent j e he pp;have sh:ge.block≠b:=fun hh=>pr (R.inj j id ge _ rl hM hh)
   exact ⟨ge,by rw [qH j pr];exact rl,hr.keep pv (qE _ sh) (fun _=>rfl)⟩
 ·intro j k e e' hj hk hb
  by_cases pr:j=id
  ·by_cases ql:k=id
   ·rw [pr,ql]
   ·rw [pr,qY] at hj
    rw [qH k ql] at hk;injection hj with hj;subst hj;exact absurd (R.inj k id e' _ hk hM hb.symm) ql
  ·rw [qH j pr] at hj
   by_cases ql:k=id
   ·rw [ql,qY] at hk
    injection hk with hk;subst hk;exact absurd (R.inj j id e _ hj hM hb) pr
   ·rw [qH k ql] at hk
    exact R.inj j k e e' hj hk hb
 ·intro j e hj
  rw [hs]
  by_cases pr:j=id
  ·rw [pr,qY] at hj
   injection hj with hj;subst hj;exact xF
  ·rw [qH j pr] at hj
   exact R.blk j e hj
 ·intro j hj
  have pr:j≠id:=fun h=>by subst h;rw [hid] at hj;cases hj
  refine ⟨qH j pr,?_⟩;rw [AH.at_set,if_neg (fun h=>pr h.1.symm)];exact hj
 ·intro j e hj
  by_cases pr:j=id
  ·rw [pr,qY] at hj
   injection hj with hj;subst hj;exact .inl ⟨.tok b ver sz cap,by rw [pr];exact hM,rfl⟩
  ·rw [qH j pr] at hj
   exact .inl ⟨e,hj,rfl⟩
 ·intro k hk hn
  have pp:k≠b:=fun hh=>hn id _ _ hid (by simp) hM (by simp [Cd.block,hh])
  exact ⟨qE k pp,fun i=>rfl⟩
theorem Rel.row_room {g:Gh} {H:AH} {w:World} (R:Rel g H w) (id b n m sz cap:Nat) (news:List Value) (cur:Array Value) (el:TypeId) (hid:H.at id=some (.tok n)) (hM:g.M id=some (.tok b n sz cap))
  (hl:news.length=m*sz) (hm:0<m) (qn:n+m≤cap) (fz:List Value) (yT:∀(i:Nat) (v:Value),fz[i]? = some v→news[i]? = some v) (e:Ent) (xC:e ≠ .hid) (hE:∀g':Gh,g.le g'→∀w':World,w'.heap[b]? = some (.cells (cur.toList.take (n*sz)++news++cur.toList.drop (n*sz+news.length)).toArray el (0,0))→(∀i,n*sz≤i→g'.G b i=fz[i-n*sz]?)→CH g' w' e (.tok b (n+m) sz cap)) (uS:w.heap[b]? = some (.cells cur el (0,0))) (qo:n*sz+news.length≤cur.size) :
  ∃g',Rel g' (H.set id (some e)) (w.setRow b (cur.toList.take (n*sz)++news++cur.toList.drop (n*sz+news.length)).toArray) ∧
   AK g H w g' (H.set id (some e)) (w.setRow b (cur.toList.take (n*sz)++news++cur.toList.drop (n*sz+news.length)).toArray) ∧
   g'.M id=some (.tok b (n+m) sz cap)∧g'.has b (n*sz) fz:=by
 have xF:b<w.heap.size:=R.blk id _ hM;have zU:=R.ent id _ hid (by simp);obtain ⟨ge,hM',qa⟩:=zU;rw [hM] at hM';injection hM' with hM';subst hM';obtain ⟨_,ru,⟨vs0,el0,rO,sV⟩,zV⟩:=qa
 have uA:id<H.length:=by
  unfold AH.at at hid;rcases Nat.lt_or_ge id H.length with h|h
  ·exact h
  ·simp [List.getElem?_eq_none h] at hid
 let W:=w.setRow b (cur.toList.take (n*sz)++news++cur.toList.drop (n*sz+news.length)).toArray
 have qE:∀k,k≠b→W.heap[k]? = w.heap[k]? := fun k hk=>setRow_other w b k _ hk
 have tL:W.heap[b]? = some (.cells (cur.toList.take (n*sz)++news++cur.toList.drop (n*sz+news.length)).toArray el (0,0)):=setRow_heap w b cur _ el _ uS;have uq:W.heap.size=w.heap.size:=by simp [W,World.setRow]
 let g':Gh:={G:=fun k i=>if k=b∧n*sz≤i then fz[i-n*sz]? else g.G k i,M:=fun j=>if j=id then some (.tok b (n+m) sz cap) else g.M j}
 have qH:∀j,j≠id→g'.M j=g.M j:=fun j hj=>by simp [g',hj]
 have qY:g'.M id=some (.tok b (n+m) sz cap):=by simp [g']
 have rm:∀k i,(k≠b∨i<n*sz)→g'.G k i=g.G k i:=fun k i h=>by
  show (if k=b∧n*sz≤i then _ else _)=_
  rw [if_neg (by omega)]
 have sU:∀i,n*sz≤i→g'.G b i=fz[i-n*sz]? := fun i h=>by
  show (if b=b∧n*sz≤i then _ else _)=_
  rw [if_pos ⟨rfl,h⟩]
 have pv:g.le g':=⟨fun k i v h=>by
   by_cases hk:k=b
   ·subst hk
    rcases Nat.lt_or_ge i (n*sz) with hi|hi
    ·rw [rm _ _ (.inr hi)];exact h
    ·rw [zV i hi] at h;cases h
   ·rw [rm _ _ (.inl hk)];exact h,fun j e h=>by
   by_cases pr:j=id
   ·subst pr
    rw [hM] at h;injection h with h;subst h;exact ⟨_,qY,rfl,.inl (by omega)⟩
   ·exact ⟨e,by rw [qH j pr];exact h,e.le_refl⟩⟩
 refine ⟨g',⟨?_,?_,?_,?_,?_⟩,⟨pv,?_,?_,?_,by rw [uq];exact Nat.le_refl _,rfl,rfl,rfl⟩,qY,?_⟩
 ·intro k i v h
  by_cases hk:k=b
  ·subst hk
   show W.cell? _=_
   simp only [World.cell?,tL];rcases Nat.lt_or_ge i (n*sz) with hi|hi
   ·rw [rm _ _ (.inr hi)] at h
    have hc:=R.imm k i v h;simp only [World.cell?,uS] at hc;have p9:i<(cur.toList.take (n*sz)).length:=by simp;omega
    simp only [List.getElem?_toArray,List.append_assoc];rw [List.getElem?_append_left p9,List.getElem?_take,if_pos hi];simpa using hc
   ·rw [sU i hi] at h
    have h:=yT _ _ h;have pw:(cur.toList.take (n*sz)).length=n*sz:=by simp;omega
    have p9:i-n*sz<news.length:=(List.getElem?_eq_some_iff.1 h).1;simp only [List.getElem?_toArray,List.append_assoc];rw [List.getElem?_append_right (by omega),pw,List.getElem?_append_left p9];simpa using h
  ·rw [rm _ _ (.inl hk)] at h
   exact (D4 (qE k hk)).trans (R.imm k i v h)
 ·intro j hj
  rw [AH.at_set] at hj
  by_cases pr:j=id
  ·subst pr;simp [uA] at hj
  ·rw [if_neg (fun h=>pr h.1.symm)] at hj
   rw [qH j pr];exact R.free j hj
 ·intro j e1 he xD
  rw [AH.at_set] at he
  by_cases pr:j=id
  ·subst pr
   simp [uA] at he;subst he;exact ⟨_,qY,hE g' pv W tL sU⟩
  ·rw [if_neg (fun h=>pr h.1.symm)] at he
   obtain ⟨ge,rl,hr⟩:=R.ent j e1 he xD;have pp:ge.block≠b:=fun hh=>pr (R.inj j id ge _ rl hM hh)
   exact ⟨ge,by rw [qH j pr];exact rl,hr.keep pv (qE _ pp) (fun i=>rm _ i (.inl pp))⟩
 ·intro j k e e' hj hk hb
  by_cases pr:j=id
  ·by_cases ql:k=id
   ·rw [pr,ql]
   ·rw [pr,qY] at hj
    rw [qH k ql] at hk;injection hj with hj;subst hj;exact absurd (R.inj k id e' _ hk hM hb.symm) ql
  ·rw [qH j pr] at hj
   by_cases ql:k=id
   ·rw [ql,qY] at hk
    injection hk with hk;subst hk;exact absurd (R.inj j id e _ hj hM hb) pr
   ·rw [qH k ql] at hk
    exact R.inj j k e e' hj hk hb
 ·intro j e hj
  show _<W.heap.size
  rw [uq]
  by_cases pr:j=id
  ·rw [pr,qY] at hj
   injection hj with hj;subst hj;exact xF
  ·rw [qH j pr] at hj
   exact R.blk j e hj
 ·intro j hj
  have pr:j≠id:=fun h=>by subst h;rw [hid] at hj;cases hj
  refine ⟨qH j pr,?_⟩;rw [AH.at_set,if_neg (fun h=>pr h.1.symm)];exact hj
 ·intro j e hj
  by_cases pr:j=id
  ·rw [pr,qY] at hj
   injection hj with hj;subst hj;exact .inl ⟨.tok b n sz cap,by rw [pr];exact hM,rfl⟩
  ·rw [qH j pr] at hj
   exact .inl ⟨e,hj,rfl⟩
 ·intro k hk hn
  have pp:k≠b:=fun hh=>hn id _ _ hid (by simp) hM (by simp [Cd.block,hh])
  exact ⟨qE k pp,fun i=>rm k i (.inl pp)⟩
 ·intro i v h
  rw [sU _ (by omega),Nat.add_sub_cancel_left];exact h
theorem Rel.tok_grow {g:Gh} {H:AH} {w:World} (R:Rel g H w) (c:Array Value) (el:TypeId) (vs:List Value) (hv:∀(i:Nat) (v:Value),vs[i]? = some v→c[i]? = some v)
  (id N sz cap:Nat) (hid:id<H.length) (hl:vs.length=N*sz) (hc:cap*sz≤c.size) (hN:N≤cap)
  (hf:H.at id=none∨∃n0 b0 cap0,H.at id=some (.tok n0)∧g.M id=some (.tok b0 n0 sz cap0)∧n0<N) :
  ∃g',Rel g' (H.set id (some (.tok N))) (w.alloc (.cells c el))∧AK g H w g' (H.set id (some (.tok N))) (w.alloc (.cells c el)) ∧
   g'.M id=some (.tok w.heap.size N sz cap)∧g'.has w.heap.size 0 vs:=by
 refine R.row_grow c el vs hv id N sz cap hid (.tok N) (by simp) (fun g' pv hG=>⟨rfl,hN,⟨c.toList,el,by rw [Lq],by simpa using hc⟩,fun i hi => ?_⟩) hf;rw [hG,List.getElem?_eq_none (by omega)]
theorem Rel.tok_room {g:Gh} {H:AH} {w:World} (R:Rel g H w) (id b n m sz cap:Nat) (news:List Value) (hid:H.at id=some (.tok n)) (hM:g.M id=some (.tok b n sz cap))
  (hl:news.length=m*sz) (hm:0<m) (qn:n+m≤cap) (cur:Array Value) (el:TypeId) (uS:w.heap[b]? = some (.cells cur el (0,0))) (qo:n*sz+news.length≤cur.size) :
  ∃g',Rel g' (H.set id (some (.tok (n+m)))) (w.setRow b (cur.toList.take (n*sz)++news++cur.toList.drop (n*sz+news.length)).toArray) ∧
   AK g H w g' (H.set id (some (.tok (n+m)))) (w.setRow b (cur.toList.take (n*sz)++news++cur.toList.drop (n*sz+news.length)).toArray) ∧
   g'.M id=some (.tok b (n+m) sz cap)∧g'.has b (n*sz) news:=by
 have sV:cap*sz≤cur.size:=by obtain ⟨ge,hM',qa⟩:=R.ent id _ hid (by simp);rw [hM] at hM';injection hM' with hM';subst hM';obtain ⟨_,_,⟨vs0,el0,rO,h4⟩,_⟩:=qa;rw [uS] at rO;injection rO with rO;injection rO with rO;rw [rO];simpa using h4
 refine R.row_room id b n m sz cap news cur el hid hM hl hm qn news (fun _ _ h=>h) (.tok (n+m)) (by simp) (fun g' pv w' hw' hG=>⟨rfl,qn,⟨_,el,hw',?_⟩,fun i hi => ?_⟩) uS qo
 ·simp only [List.length_append,List.length_take,List.length_drop,Array.length_toList]
  omega
 ·rw [Nat.add_mul] at hi
  rw [hG i (by omega),List.getElem?_eq_none (by omega)]
structure Env where
 glob:Nat→AV
 meth:TypeId→String→Option FuncId
 imm:TypeId→Bool
 soft:TypeId→Bool:=fun _=>false
 stk:TypeId→Bool:=fun _=>false
def AV.nothing:AV := .tup []
def BW:Value→Option AV
 | .bool b=>some (.bool b)
 | .int k n=>some (.int k n)
 | .string s=>some (.str s.data.toList)
 | .pointer none=>some .nilPtr
 | .slice none 0 0=>some .nilSlice
 | .map none=>some .nilMap
 | .nilFunc=>some .nilFunc
 | .nilIface=>some .nilIface
 | _=>none
def BU:List Value→Option (List AV)
 | []=>some []
 | v::vs=>match BW v,BU vs with
  | some a,some aS=>some (a::aS)
  | _,_=>none
def BP:Value→Option AV
 | .agg cs=>(BU cs.toList).map .agg
 | v=>BW v
def AC (E:Env) (tmps:List AV):Operand→AV
 | .tmp t=>tmps.getD t .nothing
 | .const v=>(BP v).getD .undef
 | .global g=>E.glob g
 | .func f => .func (.func f) [] []
def At:AV→List AV
 | .agg cs=>cs
 | v=>[v]
def AV.one:AV→Bool
 | .undef | .agg _ | .tup _=>false
 | _=>true
def AV.known:AV→Bool
 | .undef=>false
 | _=>true
def Ad (P:Program) (t:TypeId):Option Nat:=(P.info? t).map (·.size)
def Au (P:Program) (t:TypeId):Option Bool :=
 match P.underlying t with
 | some (.struct _)|some (.array _ _)=>some true
 | some _=>some false
 | none=>none
def Ae (P:Program) (t:TypeId):Option AV :=
 match P.info? t with
 | some i=>(match i.zero with
  | some z=>BP z
  | none=>none)
 | none=>none
def BL (P:Program) (t:TypeId) (cs:List AV) (off:Nat):Option AV :=
 match Au P t with
 | some true=>(match Ad P t with
  | some n=>if off+n≤cs.length then some (.agg ((cs.drop off).take n)) else none
  | none=>none)
 | some false=>cs[off]?
 | none=>none
def BB (P:Program) (H:AH) (t:TypeId) (x:AV):Option AV :=
 match x with
 | .ptr id off=>(match H.at id with
  | some (.box cs)=>BL P t cs off
  | _=>none)
 | .vptr cs off=>BL P t cs off
 | .sptr id ver _ off=>(match H.at id with
  | some (.stk ver' cs)=>if ver'=ver then BL P t cs off else none
  | _=>none)
 | _=>none
def EM (cs:List AV) (off:Nat) (vs:List AV):List AV:=cs.take off++vs++cs.drop (off+vs.length)
abbrev Ups:=List (Nat × Ent)
def DT (P:Program) (H:AH) (t:TypeId) (x v:AV):Option (AV × Ups) :=
 match x with
 | .ptr id off=>(match H.at id,Ad P t with
  | some (.box cs),some n =>if v.known=true∧(At v).length=n∧(At v).all AV.one=true∧off+n≤cs.length then some (.nothing,[(id,.box (EM cs off (At v)))]) else none
  | _,_=>none)
 | .lptr k sz n=>(match H.at k,Ad P t with
  | some (.loose n' _),some m =>if n'=n∧m=sz∧v.known=true∧(At v).length=m∧(At v).all AV.one=true then some (.nothing,[(k,.loose n (At v))]) else none
  | _,_=>none)
 | _=>none
def FK (place:Nat→Option (Nat × Nat)) (cells:List AV):List (Nat × AV)→Option (List AV)
 | []=>some cells
 | (i,v)::rest =>
  match place i with
  | none=>none
  | some (off,size) =>if v.known=true∧(At v).length=size∧off+(At v).length≤cells.length then FK place (EM cells off (At v)) rest else none
def Kg (P:Program):List Field→Option (List (Nat × Nat))
 | []=>some []
 | f::fs=>match Ad P f.type,Kg P fs with
  | some n,some l=>some ((f.offset,n)::l)
  | _,_=>none
def A3 (P:Program) (t:TypeId) (parts:List (Nat × AV)):Option AV :=
 match Ae P t,P.underlying t with
 | some z,some (.struct fields)=>(match Kg P fields.toList with
  | some l=>(FK (fun i=>l[i]?) (At z) parts).map .agg
  | none=>none)
 | some z,some (.array _ elem)=>(match Ad P elem with
  | some n=>(FK (fun i=>some (i*n,n)) (At z) parts).map .agg
  | none=>none)
 | _,_=>none
def Ix (zs:List AV):Nat→List AV
 | 0=>[]
 | n+1=>zs++Ix zs n
def Ch (P:Program) (t:TypeId) (len:Nat) (parts:List (Nat × AV)):Option AV :=
 match P.underlying t with
 | some (.slice elem)=>(match Ad P elem,Ae P elem with
  | some n,some z =>
   if (At z).length=n∧0<n∧len*n≤16777216 then
    (FK (fun i=>some (i*n,n)) (Ix (At z) len) parts).map (.slice .full n len)
   else none
  | _,_=>none)
 | _=>none
def Lr (op:BinOp) (k:IntKind) (a b:Int):Option AV :=
 match op with
 | .and=>some (.int k (k.wrap ((BitVec.ofInt k.bits a &&& BitVec.ofInt k.bits b).toNat:Int)))
 | .or=>some (.int k (k.wrap ((BitVec.ofInt k.bits a ||| BitVec.ofInt k.bits b).toNat:Int)))
 | .xor=>some (.int k (k.wrap ((BitVec.ofInt k.bits a ^^^ BitVec.ofInt k.bits b).toNat:Int)))
 | .andNot=>some (.int k (k.wrap ((BitVec.ofInt k.bits a &&& ~~~ (BitVec.ofInt k.bits b)).toNat:Int)))
 | _=>none
def Bc (op:BinOp) (k:IntKind) (a b:Int):Option AV :=
 match op with
 | .add=>some (.int k (k.wrap (a+b)))
 | .sub=>some (.int k (k.wrap (a-b)))
 | .mul=>some (.int k (k.wrap (a*b)))
 | .quo=>if b=0 then none else some (.int k (k.wrap (a.tdiv b)))
 | .rem=>if b=0 then none else some (.int k (a.tmod b))
 | .eql=>some (.bool (a==b))
 | .neq=>some (.bool (a != b))
 | .lss=>some (.bool (decide (a<b)))
 | .leq=>some (.bool (decide (a≤b)))
 | .gtr=>some (.bool (decide (a>b)))
 | .geq=>some (.bool (decide (a≥b)))
 | op=>Lr op k a b
def Be (op:BinOp) (a b:List UInt8):Option AV :=
 match op with
 | .add=>if a.length+b.length≤9223372036854775807 then some (.str (a++b)) else none
 | .eql=>some (.bool (a==b))
 | .neq=>some (.bool !(a==b))
 | .lss=>some (.bool (Op.bytesLess a b))
 | .leq=>some (.bool (Op.bytesLess a b || a==b))
 | .gtr=>some (.bool !(Op.bytesLess a b || a==b))
 | .geq=>some (.bool !(Op.bytesLess a b))
 | _=>none
def aeq (P:Program) (t:TypeId) (x y:AV):Option Bool :=
 match P.underlying t,x,y with
 | some .bool,.bool a,.bool b=>some (a==b)
 | some (.pointer _),.nilPtr,.nilPtr=>some true
 | some (.pointer _),.nilPtr,.ptr _ _=>some false
 | some (.pointer _),.nilPtr,.vptr _ _=>some false
 | some (.pointer _),.ptr _ _,.nilPtr=>some false
 | some (.pointer _),.vptr _ _,.nilPtr=>some false
 | some (.slice _),.nilSlice,.nilSlice=>some true
 | some (.slice _),.nilSlice,.slice _ _ _ _=>some false
 | some (.slice _),.slice _ _ _ _,.nilSlice=>some false
 | some (.slice _),.nilSlice,.bsl _ _ _ _ _=>some false
 | some (.slice _),.bsl _ _ _ _ _,.nilSlice=>some false
 | some (.func _ _ _),.nilFunc,.nilFunc=>some true
 | some (.func _ _ _),.nilFunc,.func _ _ _=>some false
 | some (.func _ _ _),.func _ _ _,.nilFunc=>some false
 | some (.interface _),.nilIface,.nilIface=>some true
 | some (.interface _),.nilIface,.iface _ _=>some false
 | some (.interface _),.iface _ _,.nilIface=>some false
 | some (.interface _),.iface tx vx,.iface ty vy =>
  if tx=ty then
   (match P.info? tx,P.underlying tx,vx,vy with
   | some i,some (.int _),.int k a,.int k' b=>if i.comparable=true∧k=k' then some (a==b) else none
   | _,_,_,_=>none)
  else some false
 | _,_,_=>none
def A9:Operand→Bool
 | .const _=>true
 | _=>false
def BI (P:Program) (op:BinOp) (t:TypeId) (cst:Bool) (x y:AV):Option AV :=
 match x,y with
 | .int k a,.int k' b =>
  (match op with
  | .shl=>if 0≤b then some (.int k (k.wrap (a*2 ^ (min b.toNat k.bits)))) else none
  | .shr=>if 0≤b then some (.int k (a.fdiv (2 ^ (min b.toNat k.bits)))) else none
  | op=>if k=k' then Bc op k a b else none)
 | .str a,.str b=>Be op a b
 | .nilIface,.nilIface =>
  if cst=true then
   (match op with
   | .eql=>(aeq P t .nilIface .nilIface).map .bool
   | .neq=>(aeq P t .nilIface .nilIface).map (.bool !·)
   | _=>none)
  else none
 | .agg _,.agg _=>none
 | x,y =>
  (match op with
  | .eql=>(aeq P t x y).map .bool
  | .neq=>(aeq P t x y).map (.bool !·)
  | _=>none)
def aun (op:UnOp) (x:AV):Option AV :=
 match op,x with
 | .neg,.int k n=>some (.int k (k.wrap (0-n)))
 | .not,.bool b=>some (.bool !b)
 | .xor,.int k n=>Lr .xor k (if k.signed then -1 else k.max) n
 | _,_=>none
def II:List AV→Option (List UInt8)
 | []=>some []
 | a::r=>(match a,II r with
  | .int .u8 n,some s=>some (UInt8.ofNat n.toNat::s)
  | _,_=>none)
def Dd (s:List UInt8):List AV:=s.map fun b => .int .u8 (b.toNat:Int)
def BV (P:Program) (H:AH) (src dst:TypeId) (x:AV):Option AV :=
 match P.underlying src,P.underlying dst,x with
 | some _,some (.int k),.int _ n=>some (.int k (k.wrap n))
 | some _,some .string,.str s=>some (.str s)
 | some .string,some (.slice e),.str s=>(match P.underlying e with
  | some (.int .u8)=>if s.length≤9223372036854775807 then some (.slice .unk 1 s.length (Dd s)) else none
  | _=>none)
 | some (.slice e),some .string,.nilSlice=>(match P.underlying e with
  | some (.int .u8)=>some (.str [])
  | _=>none)
 | some (.slice e),some .string,.slice _ 1 _ cs=>(match P.underlying e with
  | some (.int .u8)=>(II cs).map .str
  | _=>none)
 | some (.slice e),some .string,.bsl id off 1 n _=>(match P.underlying e,H.at id with
  | some (.int .u8),some (.box cs)=>if off+n≤cs.length then (II ((cs.drop off).take n)).map .str else none
  | _,_=>none)
 | _,_,_=>none
def BZ:Option AV→Option (Option Int)
 | none=>some none
 | some (.int _ n)=>some (some n)
 | _=>none
def BG (P:Program) (t:TypeId) (x:AV) (lo hi mx:Option AV):Option AV :=
 match BZ lo,BZ hi,BZ mx with
 | some l,some h,some m =>
  (match P.underlying t,x with
  | some .string,.str s =>
   if m=none∧0≤l.getD 0∧l.getD 0≤h.getD s.length∧h.getD s.length≤s.length then
    some (.str ((s.take (h.getD s.length).toNat).drop (l.getD 0).toNat)) else none
  | some (.slice e),.nilSlice=>if m=none∧l.getD 0=0∧h.getD 0=0∧(Ad P e).isSome=true then some .nilSlice else if m=some 0∧h=some 0∧l.getD 0=0∧(Ad P e).isSome=true then some .nilSlice else none
  | some (.slice e),.slice ow sz n cs =>
   (match Ad P e with
   | some sz' =>
    if sz'=sz∧m=none∧0≤l.getD 0∧l.getD 0≤h.getD n∧h.getD n≤n then
     let a:=(l.getD 0).toNat
     let b:=(h.getD n).toNat
     some (.slice (if b=n then (if a=0 then ow else if ow = .full then .full else .unk) else .unk) sz (b-a) ((cs.drop (a*sz)).take ((b-a)*sz)))
    else if sz'=sz∧m=h∧h≠none∧0≤l.getD 0∧l.getD 0≤h.getD n∧h.getD n≤n then
     let a:=(l.getD 0).toNat
     let b:=(h.getD n).toNat
     some (.slice .full sz (b-a) ((cs.drop (a*sz)).take ((b-a)*sz)))
    else none
   | none=>none)
  | some (.slice e),.bsl id off sz n c =>
   (match Ad P e with
   | some sz' =>
    if sz'=sz∧m=none∧0≤l.getD 0∧l.getD 0≤h.getD n∧h.getD n≤n then
     let a:=(l.getD 0).toNat
     let b:=(h.getD n).toNat
     some (.bsl id (if c=a then off else off+a*sz) sz (b-a) (c-a))
    else none
   | none=>none)
  | some (.slice e),.stk id ver sz n =>
   (match Ad P e with
   | some sz'=>if sz'=sz∧m=none∧l.getD 0=0∧0≤h.getD n∧h.getD n≤n then some (.stk id ver sz (h.getD n).toNat) else none
   | none=>none)
  | some (.pointer q),.ptr id off =>
   (match P.underlying q with
   | some (.array n e)=>(match Ad P e with
    | some sz =>
     if m=none∧0≤l.getD 0∧l.getD 0≤h.getD n∧h.getD n≤n then
      let a:=(l.getD 0).toNat
      let b:=(h.getD n).toNat
      some (.bsl id (if n=a then off else off+a*sz) sz (b-a) (n-a))
     else none
    | none=>none)
   | _=>none)
  | some (.array n e),.ptr id off =>
   (match Ad P e with
   | some sz =>
    if m=none∧0≤l.getD 0∧l.getD 0≤h.getD n∧h.getD n≤n then
     let a:=(l.getD 0).toNat
     let b:=(h.getD n).toNat
     some (.bsl id (if n=a then off else off+a*sz) sz (b-a) (n-a))
    else none
   | none=>none)
  | _,_=>none)
 | _,_,_=>none
def BH (P:Program) (t:TypeId) (x:AV) (i:Nat):Option AV :=
 match P.underlying t with
 | some (.struct fields)=>(match fields[i]? with
  | some f=>(match Ad P f.type with
   | some n =>
    if n=0 then none else (match x with
     | .ptr id off=>some (.ptr id (off+f.offset))
     | .vptr cs off=>some (.vptr cs (off+f.offset))
     | _=>none)
   | none=>none)
  | none=>none)
 | _=>none
def BN (P:Program) (t:TypeId) (x:AV) (i:Nat):Option AV :=
 match P.underlying t,x with
 | some (.struct fields),.agg cs=>(match fields[i]? with
  | some f=>BL P f.type cs f.offset
  | none=>none)
 | _,_=>none
def Av (P:Program) (t:TypeId) (x i:AV):Option AV :=
 match i with
 | .int _ i =>
  (match P.underlying t,x with
  | some (.slice e),.slice _ sz n cs =>
   (match Ad P e with
   | some sz'=>if sz'=sz∧0≤i∧i<(n:Int) then some (.vptr cs (i.toNat*sz)) else none
   | none=>none)
  | some (.slice e),.bsl id off sz n _ =>
   (match Ad P e with
   | some sz'=>if sz'=sz∧0≤i∧i<(n:Int) then some (.ptr id (off+i.toNat*sz)) else none
   | none=>none)
  | some (.slice e),.lsl k sz n _ =>
   (match Ad P e with
   | some sz'=>if sz'=sz∧i=(n:Int) then some (.lptr k sz n) else none
   | none=>none)
  | some (.slice e),.stk id ver sz n =>
   (match Ad P e with
   | some sz'=>if sz'=sz∧0≤i∧i<(n:Int) then some (.sptr id ver sz (i.toNat*sz)) else none
   | none=>none)
  | some (.array n e),.ptr id off =>
   (match Ad P e with
   | some sz=>if 0≤i∧i<(n:Int) then some (.ptr id (off+i.toNat*sz)) else none
   | none=>none)
  | some (.array n e),.vptr cs off =>
   (match Ad P e with
   | some sz=>if 0≤i∧i<(n:Int) then some (.vptr cs (off+i.toNat*sz)) else none
   | none=>none)
  | _,_=>none)
 | _=>none
def BQ (P:Program) (t:TypeId) (x i:AV):Option AV :=
 match i with
 | .int _ i =>
  (match P.underlying t,x with
  | some .string,.str s=>if 0≤i then (match s[i.toNat]? with
   | some b=>some (.int .u8 (b.toNat:Int))
   | none=>none) else none
  | some (.array n e),.agg cs=>(match Ad P e with
   | some sz=>if 0≤i∧i<(n:Int) then BL P e cs (i.toNat*sz) else none
   | none=>none)
  | _,_=>none)
 | _=>none
def BR (x:AV) (i:Nat):Option AV :=
 match x with
 | .tup vs=>vs[i]?
 | _=>none
def BS (x:AV):Option AV :=
 match x with
 | .ptr id off=>some (.ptr id off)
 | .vptr cs off=>some (.vptr cs off)
 | .func (.func f) a b=>some (.func (.func f) a b)
 | .iface t v=>some (.iface t v)
 | _=>none
def EN (P:Program) (x:AV) (asserted:TypeId) (ok:Bool):Option AV :=
 let fails:Option AV:=if ok then (match Ae P asserted with
  | some z=>some (.tup [z,.bool false])
  | none=>none) else none
 let yU (v:AV):Option AV:=some (if ok then .tup [v,.bool true] else v)
 match P.underlying asserted,x with
 | some _,.nilIface=>fails
 | some (.interface want),.iface t v=>(match P.info? t with
  | some i=>(match Instr.missingMethod want i.methods with
   | none=>yU (.iface t v)
   | some _=>fails)
  | none=>none)
 | some _,.iface t v=>if t=asserted then yU v else fails
 | _,_=>none
def alen (P:Program) (t:TypeId) (x:AV):Option AV :=
 match P.underlying t,x with
 | some .string,.str s=>some (.int .i64 s.length)
 | some (.slice _),.nilSlice=>some (.int .i64 0)
 | some (.slice _),.emp=>some (.int .i64 0)
 | some (.slice _),.slice _ _ n _=>some (.int .i64 n)
 | some (.slice _),.bsl _ _ _ n _=>some (.int .i64 n)
 | some (.slice _),.stk _ _ _ n=>some (.int .i64 n)
 | some (.array n _),_=>some (.int .i64 n)
 | _,_=>none
def Iy (P:Program) (t:TypeId) (x:AV):Option AV :=
 match P.underlying t,x with
 | some (.slice _),.nilSlice=>some (.int .i64 0)
 | some (.slice _),.bsl _ _ _ _ c=>some (.int .i64 c)
 | _,_=>none
def Ji (P:Program) (fid:Nat) (t:TypeId) (x y:AV):Option (AV × Ups) :=
 match P.underlying t,x,y with
 | some (.slice e),.int _ l,.int _ c=>(match Ad P e,Ae P e,P.info? e with
  | some n,some z,some i =>
   if (At z).length=n∧0<n∧0≤l∧l≤c∧c*i.bytes≤140737488355328∧c≤9223372036854775807∧0<i.bytes then
    some (.bsl fid 0 n l.toNat c.toNat,[(fid,.box (Ix (At z) c.toNat))])
   else none
  | _,_,_=>none)
 | _,_,_=>none
def E0 (H:AH) (sz:Nat) (x:AV):Option (Nat × List AV) :=
 match x with
 | .nilSlice=>some (0,[])
 | .slice _ sz' n cs=>if sz'=sz then some (n,cs) else none
 | .bsl id off sz' n _=>(match H.at id with
  | some (.box cs)=>if sz'=sz∧off+n*sz≤cs.length then some (n,(cs.drop off).take (n*sz)) else none
  | _=>none)
 | .str s=>if sz=1 then some (s.length,Dd s) else none
 | _=>none
def Gb (P:Program) (t u e:TypeId):Bool:=t==u || (match P.underlying u,P.underlying e with
 | some .string,some (.int .u8)=>true
 | _,_=>false)
def De (P:Program) (H:AH) (fid:Nat) (t u:TypeId) (s x:AV):Option (AV × Ups) :=
 match P.underlying t with
 | some (.slice e)=>(match P.info? e with
  | some i=>(match i.zero with
   | some z =>
    if z.cells.size=i.size∧0<i.size∧Gb P t u e=true then
     (match E0 H i.size x with
     | some (m,ys) =>
      if ys.all AV.one=true then
       (match s with
       | .nilSlice=>if m=0 then some (.nilSlice,[]) else if m*i.bytes≤140737488355328∧m≤4611686018427387904 then some (.slice (.tok fid) i.size m ys,[(fid,.tok m)]) else none
       | .slice ow sz n xs =>
        if sz=i.size then
         (if m=0 then some (.slice ow sz n xs,[]) else
         if (n+m)*i.bytes≤140737488355328∧n+m≤4611686018427387904 then
          (match ow with
          | .full=>some (.slice (.tok fid) sz (n+m) (xs++ys),[(fid,.tok (n+m))])
          | .tok k=>(match H.at k with
           | some (.tok n')=>if n'=n then some (.slice (.tok k) sz (n+m) (xs++ys),[(k,.tok (n+m))]) else none
           | _=>none)
          | .unk=>none)
         else none)
        else none
       | .bsl id off sz n c=>(match H.at id with
        | some (.box cs) =>
         if sz=i.size∧off+n*sz≤cs.length then
          (if m=0 then some (.bsl id off sz n c,[]) else
          if c<n+m∧(n+m)*i.bytes≤140737488355328∧n+m≤4611686018427387904 then
           some (.slice (.tok fid) sz (n+m) ((cs.drop off).take (n*sz)++ys),[(fid,.tok (n+m))])
          else none)
         else none
        | _=>none)
       | _=>none)
      else none
     | none=>none)
    else none
   | none=>none)
  | none=>none)
 | _=>none
def F9 (P:Program) (H:AH) (fid:Nat) (t u:TypeId) (s x:AV):Option (AV × Ups) :=
 match P.underlying t with
 | some (.slice e)=>(match P.info? e with
  | some i=>(match i.zero with
   | some z =>
    if z.cells.size=i.size∧0<i.size∧Gb P t u e=true then
     (match E0 H i.size x with
     | some (m,ys) =>
      if m=1∧ys.all AV.one=true then
       (match s with
       | .nilSlice=>if 1*i.bytes≤140737488355328 then some (.lsl fid i.size 0 [],[(fid,.loose 0 ys)]) else none
       | .slice (.tok k) sz n xs =>
        if sz=i.size∧(n+1)*i.bytes≤140737488355328∧n+1≤4611686018427387904 then
         (match H.at k with
         | some (.tok n')=>if n'=n then some (.lsl k sz n xs,[(k,.loose n ys)]) else none
         | _=>none)
        else none
       | _=>none)
      else none
     | none=>none)
    else none
   | none=>none)
  | none=>none)
 | _=>none
def Iz (P:Program) (H:AH) (fid:Nat) (t u:TypeId) (s x:AV):Option (AV × Ups) :=
 match P.underlying t with
 | some (.slice e)=>(match P.info? e with
  | some i=>(match i.zero with
   | some z =>
    if z.cells.size=i.size∧0<i.size∧Gb P t u e=true then
     (match E0 H i.size x with
     | some (m,ys) =>
      if m=1∧ys.all AV.one=true then
       (match s with
       | .nilSlice=>if 1*i.bytes≤140737488355328 then some (.stk fid 1 i.size 1,[(fid,.stk 1 ys)]) else none
       | .stk k ver sz n =>
        if sz=i.size∧(n+1)*i.bytes≤140737488355328∧n+1≤4611686018427387904 then
         (match H.at k with
         | some (.stk ver' cs)=>if ver'=ver∧n*sz≤cs.length then some (.stk k (ver+1) sz (n+1),[(k,.stk (ver+1) (cs.take (n*sz)++ys))]) else none
         | _=>none)
        else none
       | _=>none)
      else none
     | none=>none)
    else none
   | none=>none)
  | none=>none)
 | _=>none
def E2 (P:Program) (E:Env) (H:AH) (fid:Nat) (t u:TypeId) (s x:AV):Option (AV × Ups):=if E.soft t=true then (if E.stk t=true then Iz P H fid t u s x else F9 P H fid t u s x) else De P H fid t u s x
theorem N5 {P:Program} {E:Env} {H:AH} {fid:Nat} {t u:TypeId} {s x:AV} (h:E.soft t=false):E2 P E H fid t u s x=De P H fid t u s x:=by simp [E2,h]
theorem HA {P:Program} {E:Env} {H:AH} {fid:Nat} {t u:TypeId} {s x:AV} (h:E.soft t=true) (h2:E.stk t=false:=by rfl):E2 P E H fid t u s x=F9 P H fid t u s x:=by simp [E2,h,h2]
def HB (x y:AV):Option AV :=
 match x,y with
 | .int k a,.int _ b=>some (.int k (if b>a then b else a))
 | _,_=>none
def IJ (x y:AV):Option AV :=
 match x,y with
 | .int k a,.int _ b=>some (.int k (if b<a then b else a))
 | _,_=>none
def Jj (P:Program) (H:AH) (t:TypeId) (d x:AV):Option (AV × Ups) :=
 match P.underlying t,d with
 | some (.slice e),.bsl id off sz n _ =>
  (match Ad P e,E0 H sz x,H.at id with
  | some sz',some (m,ys),some (.box cs) =>
   let k:=min m n
   if sz'=sz∧ys.all AV.one=true∧off+k*sz≤cs.length then
    some (.int .i64 k,[(id,.box (EM cs off (ys.take (k*sz))))])
   else none
  | _,_,_=>none)
 | _,_=>none
def aop (P:Program) (E:Env) (ρ:Operand→AV) (H:AH) (fid:Nat) (o:Oper):Option (AV × Ups) :=
 let v (x:Option AV):Option (AV × Ups):=x.map fun a=>(a,[])
 match o.op with
 | .move x | .assign x=>some (ρ x,[])
 | .pick c a b=>(match ρ c with
  | .bool t=>some (if t then ρ a else ρ b,[])
  | _=>none)
 | .alloc t=>(match Ae P t with
  | some z=>some (.ptr fid 0,[(fid,.box (At z))])
  | none=>none)
 | .box t x =>
  if E.imm t=true then (if (ρ x).known=true then some (.vptr (At (ρ x)) 0,[]) else none)
  else if (ρ x).known=true then some (.ptr fid 0,[(fid,.box (At (ρ x)))]) else none
 | .build t parts=>v (A3 P t (parts.toList.map fun p=>(p.1,ρ p.2)))
 | .buildSlice t len parts=>v (Ch P t len (parts.toList.map fun p=>(p.1,ρ p.2)))
 | .load t a=>v (BB P H t (ρ a))
 | .store t a x=>DT P H t (ρ a) (ρ x)
 | .nilCheck x=>v (BS (ρ x))
 | .binOp op t x y _=>v (BI P op t (A9 x || A9 y) (ρ x) (ρ y))
 | .unOp op _ x=>v (aun op (ρ x))
 | .convert src dst x=>v (BV P H src dst (ρ x))
 | .makeInterface t x=>(match P.underlying t with
  | some (.interface _)=>none
  | some _=>some (.iface t (ρ x),[])
  | none=>none)
 | .makeFunc fn first captured=>some (.func fn (first.toList.map ρ) (captured.toList.map ρ),[])
 | .slice t x lo hi mx=>v (BG P t (ρ x) (lo.map ρ) (hi.map ρ) (mx.map ρ))
 | .fieldAddr t x f=>v (BH P t (ρ x) f)
 | .field t x f=>v (BN P t (ρ x) f)
 | .indexAddr t x i=>v (Av P t (ρ x) (ρ i))
 | .index t x i=>v (BQ P t (ρ x) (ρ i))
 | .typeAssert x _ t ok=>v (EN P (ρ x) t ok)
 | .makeSlice t x y=>Ji P fid t (ρ x) (ρ y)
 | .extract x i=>v (BR (ρ x) i)
 | .call {callee := .builtin b,args,argTypes} =>
  (match b with
  | .len=>(match argTypes[0]?,args[0]? with
   | some t,some x=>v (alen P t (ρ x))
   | _,_=>none)
  | .cap=>(match argTypes[0]?,args[0]? with
   | some t,some x=>v (Iy P t (ρ x))
   | _,_=>none)
  | .max=>(match args.toList with
   | [x,y]=>v (HB (ρ x) (ρ y))
   | _=>none)
  | .min=>(match args.toList with
   | [x,y]=>v (IJ (ρ x) (ρ y))
   | _=>none)
  | .copy=>(match argTypes[0]?,args[0]?,args[1]? with
   | some t,some d,some x=>Jj P H t (ρ d) (ρ x)
   | _,_,_=>none)
  | .append=>(match argTypes[0]?,argTypes[1]?,args[0]?,args[1]? with
   | some t,some u,some s,some x=>E2 P E H fid t u (ρ s) (ρ x)
   | _,_,_,_=>none)
  | _=>none)
 | _=>none
def Ao (E:Env):Op→Bool
 | .alloc _=>true
 | .box t _ => !(E.imm t)
 | .call {callee := .builtin .append,..}=>true
 | .makeSlice _ _ _=>true
 | _=>false
variable {P:Program} {g:Gh} {H:AH} {w:World}
theorem Q4 {v:Value} {a:AV} (h:BW v=some a):AA g a v:=by
 unfold BW at h
 split at h<;>first|(injection h with h;subst h;simp [AA])|(cases h)
theorem Q5:∀{vs:List Value} {aS:List AV},BU vs=some aS→AB g aS vs
 | [],_,h=>by simp only [BU] at h;injection h with h;subst h;simp [AB]
 | v::vs,aS,h=>by
  simp only [BU] at h
  split at h
  ·rename_i a as' h1 h2
   injection h with h;subst h;simp only [AB];exact ⟨v,vs,rfl,Q4 h1,Q5 h2⟩
  ·cases h
theorem Q6 {v:Value} {a:AV} (h:BP v=some a):AA g a v:=by
 unfold BP at h
 split at h
 ·rename_i cs
  cases hc:BU cs.toList with
  | none=>rw [hc] at h;cases h
  | some aS =>rw [hc] at h;simp only [Option.map_some] at h;injection h with h;subst h;simp only [AA];exact ⟨cs.toList,by simp,Q5 hc⟩
 ·exact Q4 h
def An (E:Env) (g:Gh):Prop:=∀i,AA g (E.glob i) (.pointer (some ⟨i,0,none⟩))
theorem An.mono {E:Env} {g g':Gh} (h:An E g) (hl:g.le g'):An E g':=fun i=>AA.mono hl _ _ (h i)
theorem IK {E:Env} (hG:An E g) {tmps:List AV} {a:Act} (h:AB g tmps a.tmps.toList) (x:Operand):AA g (AC E tmps x) (a.eval x):=by
 cases x with
 | tmp t =>
  simp only [AC,Act.eval];have:=h.getD t undef;rw [List.getD_eq_getElem?_getD,List.getD_eq_getElem?_getD] at *;rw [Array.getD_eq_getD_getElem?];rw [←Array.getElem?_toList];cases hi:tmps[t]? with
  | none =>
   have hl:=h.length
   have:a.tmps.toList[t]? = none:=by rw [List.getElem?_eq_none_iff] at hi ⊢;omega
   rw [this];simp [AV.nothing,AA,undef,AB]
  | some v =>obtain ⟨u,hu,hr⟩:=h.get hi;rw [hu];exact hr
 | const v =>
  simp only [AC,Act.eval];cases hc:BP v with
  | none=>simp [AA]
  | some u=>exact Q6 hc
 | global i=>exact hG i
 | func f=>simp [AC,Act.eval,AA,AB]
theorem HC {a:AV} {v:Value} (h:AA g a v) (hk:a.known=true):AB g (At a) v.cells.toList:=by
 cases a with
 | undef=>simp [AV.known] at hk
 | agg cs =>simp only [AA] at h;obtain ⟨vs,rfl,h⟩:=h;simpa [At,Value.cells] using h
 | bool b=>simp only [AA] at h;subst h;simp [At,Value.cells,AB,AA]
 | int k n=>simp only [AA] at h;subst h;simp [At,Value.cells,AB,AA]
 | str s=>simp only [AA] at h;subst h;simp [At,Value.cells,AB,AA]
 | nilPtr=>simp only [AA] at h;subst h;simp [At,Value.cells,AB,AA]
 | nilSlice=>simp only [AA] at h;subst h;simp [At,Value.cells,AB,AA]
 | emp =>have h':=h;simp only [AA] at h;obtain ⟨b,cap,rfl⟩:=h;simp only [At,Value.cells,AB];exact ⟨_,_,rfl,h',rfl⟩
 | nilMap=>simp only [AA] at h;subst h;simp [At,Value.cells,AB,AA]
 | nilFunc=>simp only [AA] at h;subst h;simp [At,Value.cells,AB,AA]
 | adr b o=>simp only [AA] at h;subst h;simp [At,Value.cells,AB,AA]
 | nilIface=>simp only [AA] at h;subst h;simp [At,Value.cells,AB,AA]
 | ptr id off =>have h':=h;simp only [AA] at h;obtain ⟨b,_,rfl⟩:=h;simp only [At,Value.cells,AB];exact ⟨_,_,rfl,h',rfl⟩
 | bsl id off sz n cap =>have h':=h;simp only [AA] at h;obtain ⟨b,_,rfl,_⟩:=h;simp only [At,Value.cells,AB];exact ⟨_,_,rfl,h',rfl⟩
 | vptr cs off =>have h':=h;simp only [AA] at h;obtain ⟨b,o,vs,rfl,_⟩:=h;simp only [At,Value.cells,AB];exact ⟨_,_,rfl,h',rfl⟩
 | slice ow sz n cs =>have h':=h;simp only [AA] at h;obtain ⟨b,o,cap,vs,rfl,_⟩:=h;simp only [At,Value.cells,AB];exact ⟨_,_,rfl,h',rfl⟩
 | lsl t sz n cs =>have h':=h;simp only [AA] at h;obtain ⟨b,cap,vs,rfl,_⟩:=h;simp only [At,Value.cells,AB];exact ⟨_,_,rfl,h',rfl⟩
 | lptr t sz n =>have h':=h;simp only [AA] at h;obtain ⟨b,cap,rfl,_⟩:=h;simp only [At,Value.cells,AB];exact ⟨_,_,rfl,h',rfl⟩
 | stk id ver sz n =>have h':=h;simp only [AA] at h;obtain ⟨b,cap,rfl,_⟩:=h;simp only [At,Value.cells,AB];exact ⟨_,_,rfl,h',rfl⟩
 | sptr id ver sz off =>have h':=h;simp only [AA] at h;obtain ⟨b,cap,rfl,_⟩:=h;simp only [At,Value.cells,AB];exact ⟨_,_,rfl,h',rfl⟩
 | func fn fi ca =>have h':=h;simp only [AA] at h;obtain ⟨fs,cs,rfl,_⟩:=h;simp only [At,Value.cells,AB];exact ⟨_,_,rfl,h',rfl⟩
 | iface t x =>have h':=h;simp only [AA] at h;obtain ⟨y,rfl,_⟩:=h;simp only [At,Value.cells,AB];exact ⟨_,_,rfl,h',rfl⟩
 | tup vs =>have h':=h;simp only [AA] at h;obtain ⟨y,rfl,_⟩:=h;simp only [At,Value.cells,AB];exact ⟨_,_,rfl,h',rfl⟩
theorem WQ {a:AV} {v:Value} (h:AA g a v) (hk:a.one=true):v.oneCell'=true:=by
 cases a with
 | undef=>simp [AV.one] at hk
 | agg cs=>simp [AV.one] at hk
 | tup cs=>simp [AV.one] at hk
 | ptr id off=>simp only [AA] at h;obtain ⟨b,_,rfl⟩:=h;rfl
 | bsl id off sz n cap=>simp only [AA] at h;obtain ⟨b,_,rfl,_⟩:=h;rfl
 | vptr cs off=>simp only [AA] at h;obtain ⟨b,o,vs,rfl,_⟩:=h;rfl
 | slice ow sz n cs=>simp only [AA] at h;obtain ⟨b,o,cap,vs,rfl,_⟩:=h;rfl
 | lsl t sz n cs=>simp only [AA] at h;obtain ⟨b,cap,vs,rfl,_⟩:=h;rfl
 | lptr t sz n=>simp only [AA] at h;obtain ⟨b,cap,rfl,_⟩:=h;rfl
 | stk id ver sz n=>simp only [AA] at h;obtain ⟨b,cap,rfl,_⟩:=h;rfl
 | sptr id ver sz off=>simp only [AA] at h;obtain ⟨b,cap,rfl,_⟩:=h;rfl
 | func fn fi ca=>simp only [AA] at h;obtain ⟨fs,cs,rfl,_⟩:=h;rfl
 | iface t x=>simp only [AA] at h;obtain ⟨y,rfl,_⟩:=h;rfl
 | bool b=>simp only [AA] at h;subst h;rfl
 | int k n=>simp only [AA] at h;subst h;rfl
 | str s=>simp only [AA] at h;subst h;rfl
 | nilPtr=>simp only [AA] at h;subst h;rfl
 | nilSlice=>simp only [AA] at h;subst h;rfl
 | emp=>simp only [AA] at h;obtain ⟨b,cap,rfl⟩:=h;rfl
 | nilMap=>simp only [AA] at h;subst h;rfl
 | nilFunc=>simp only [AA] at h;subst h;rfl
 | adr b o=>simp only [AA] at h;subst h;rfl
 | nilIface=>simp only [AA] at h;subst h;rfl
theorem I0:∀{aS:List AV} {vs:List Value},AB g aS vs→aS.all AV.one=true→∀v∈vs,v.oneCell'=true
 | [],vs,h,_=>by simp only [AB] at h;subst h;simp
 | a::aS,vs,h,ho=>by
  simp only [AB] at h;obtain ⟨v,ws,rfl,h1,h2⟩:=h;simp only [List.all_cons,Bool.and_eq_true] at ho;intro u hu;rcases List.mem_cons.1 hu with rfl|hu
  ·exact WQ h1 ho.1
  ·exact I0 h2 ho.2 u hu
theorem Jk {t:TypeId} {z:AV} (h:Ae P t=some z):∃i zv,P.info? t=some i∧i.zero=some zv∧∀g,AA g z zv:=by
 unfold Ae at h
 split at h
 ·rename_i i hi
  split at h
  ·rename_i zv hz
   exact ⟨i,zv,hi,hz,fun g=>Q6 h⟩
  ·cases h
 ·cases h
theorem Gc {t:TypeId} {i:TypeInfo} (h:P.info? t=some i):(typeInfo t).run P w = .ok i w:=by simp [typeInfo,h]
theorem Cw {t:TypeId} {n:Nat} (h:Ad P t=some n):(sizeOf t).run P w = .ok n w:=by
 unfold Ad at h;cases hi:P.info? t with
 | none=>rw [hi] at h;cases h
 | some i =>rw [hi] at h;simp only [Option.map_some] at h;injection h with h;simp [sizeOf,Gc hi,h]
theorem Ls {t:TypeId} {b:Bool} (h:Au P t=some b):(isAgg t).run P w = .ok b w:=by
 unfold Au at h;unfold isAgg
 split at h
 ·rename_i f hu;injection h with h;subst h;simp [run_underlying hu]
 ·rename_i f hu;injection h with h;subst h;simp [run_underlying hu]
 ·rename_i d h1 h2 hu
  injection h with h;subst h;simp only [Sem.run_bind,run_underlying hu,Result.andThen_ok];rfl
 ·cases h
theorem N6 {t:TypeId} {cs:List AV} {off:Nat} {r:AV} (h:BL P t cs off=some r) {b o:Nat} {vs:List Value} (hr:AB g cs vs)
  (hc:∀i v,vs[i]? = some v→w.cell? ⟨b,o+i,none⟩=some v) :
  ∃rv,(loadVar t ⟨b,o+off,none⟩).run P w = .ok rv w∧AA g r rv:=by
 unfold BL at h
 split at h
 ·rename_i ha
  split at h
  ·rename_i n hn
   split at h
   ·rename_i hl
    injection h with h;subst h;have pw:((vs.drop off).take n).length=n:=by simp [hr.length];omega
    have ur:=run_loadCells_list (P:=P) w ⟨b,o+off,none⟩ ((vs.drop off).take n) (fun j v hj=>by
     rw [List.getElem?_take] at hj
     split at hj
     ·rw [List.getElem?_drop] at hj
      rw [Addr.add_lit,Nat.add_assoc];exact hc _ _ hj
     ·cases hj)
    rw [pw] at ur;refine ⟨.agg ((vs.drop off).take n).toArray,?_,?_⟩
    ·simp [loadVar,Ls ha,Cw hn,ur]
    ·simp only [AA]
     exact ⟨_,rfl,(hr.drop off).take n⟩
   ·cases h
  ·cases h
 ·rename_i ha
  obtain ⟨v,hv,qa⟩:=hr.get h;refine ⟨v,?_,qa⟩;simp [loadVar,Ls ha,hc _ _ hv]
 ·cases h
theorem Hh (R:Rel g H w) {id b:Nat} {cs:List AV} (h:H.at id=some (.box cs)) (hM:g.M id=some (.box b)) :
  ∃vs el,w.heap[b]? = some (.cells (List.toArray vs) el (0,0))∧AB g cs vs∧∀i v,vs[i]? = some v→w.cell? ⟨b,0+i,none⟩=some v:=by
 obtain ⟨ge,hM',qa⟩:=R.ent id _ h (by simp);rw [hM] at hM';injection hM' with hM';subst hM';obtain ⟨vs,el,h1,h2,_⟩:=qa;refine ⟨vs,el,h1,h2,fun i v hv => ?_⟩;simp [World.cell?,h1,hv]
theorem Q7 (R:Rel g H w) {t:TypeId} {x r:AV} (h:BB P H t x=some r) {xv:Value} (hx:AA g x xv) :
  ∃rv,(Instr.loadAt t xv).run P w = .ok rv w∧AA g r rv:=by
 unfold BB at h
 split at h
 ·rename_i id off
  split at h
  ·rename_i cs hH
   simp only [AA] at hx;obtain ⟨b,hM,rfl⟩:=hx;obtain ⟨vs,el,_,h2,h3⟩:=Hh R hH hM;obtain ⟨rv,h4,h5⟩:=N6 (w:=w) h h2 h3;rw [Nat.zero_add] at h4;exact ⟨rv,by simp [Instr.loadAt,Instr.sureAddr,h4],h5⟩
  ·cases h
 ·rename_i cs off
  simp only [AA] at hx;obtain ⟨b,o,vs,rfl,h2,h3⟩:=hx;obtain ⟨rv,h4,h5⟩:=N6 (w:=w) h h2 (fun i v hv=>R.imm _ _ _ (h3 i v hv));exact ⟨rv,by simp [Instr.loadAt,Instr.sureAddr,h4],h5⟩
 ·rename_i id ver sz off
  split at h
  ·rename_i ver' cs hH
   split at h
   ·rename_i hv
    subst hv;simp only [AA] at hx;obtain ⟨b,cap,rfl,b',n',cap',hM,_,rf⟩:=hx;obtain ⟨ge,hM',qa⟩:=R.ent id _ hH (by simp);rw [hM] at hM';injection hM' with hM';subst hM';simp only [CH] at qa;obtain ⟨rfl,_,⟨vs,el,h1,_,h2⟩,_⟩:=qa;obtain ⟨rfl,rfl,_⟩:=rf rfl
    obtain ⟨rv,h4,h5⟩:=N6 (w:=w) (b:=b') (o:=0) h h2 (fun i v hv=>by
     rw [List.getElem?_take] at hv
     split at hv
     ·simp [World.cell?,h1,hv]
     ·cases hv)
    rw [Nat.zero_add] at h4;exact ⟨rv,by simp [Instr.loadAt,Instr.sureAddr,h4],h5⟩
   ·cases h
  ·cases h
 ·cases h
theorem N7 {cs vs:List AV} {us ws:List Value} (h:AB g cs us) (k:AB g vs ws) (off:Nat):AB g (EM cs off vs) (us.take off++ws++us.drop (off+ws.length)):=by unfold EM;rw [k.length];exact ((h.take off).append k).append (h.drop _)
def AQ (H:AH):Ups→AH
 | []=>H
 | (i,e)::r=>AQ (H.set i (some e)) r
theorem WR (R:Rel g H w) {t:TypeId} {x v r:AV} {u:Ups} (h:DT P H t x v=some (r,u)) {xv vv:Value} (hx:AA g x xv) (hv:AA g v vv) :
  r = .nothing∧∃w',(Instr.storeAt t xv vv).run P w = .ok () w'∧Rel g (AQ H u) w'∧AK g H w g (AQ H u) w':=by
 unfold DT at h
 split at h
 ·rename_i id off
  split at h
  ·rename_i cs n hH hn
   split at h
   ·rename_i hc
    obtain ⟨hk,pw,sJ,qo⟩:=hc;injection h with h;simp only [Prod.mk.injEq] at h;obtain ⟨rfl,rfl⟩:=h;simp only [AA] at hx;obtain ⟨b,hM,rfl⟩:=hx;obtain ⟨vs,el,h1,h2,_⟩:=Hh R hH hM;have si:=HC hv hk
    have qC:vv.cells.size=n:=by have:=si.length;rw [Array.length_toList] at this;omega
    have pu:=run_storeCells_at P b off el vv.cells.toList 0 (List.toArray vs) w h1 (by
     have:=h2.length
     simp [qC];omega) (I0 si sJ)
    simp only [Nat.add_zero] at pu;refine ⟨rfl,w.setRow b (List.take off vs++vv.cells.toList++List.drop (off+vv.cells.toList.length) vs).toArray,?_,?_⟩
    ·simp only [Instr.storeAt,Instr.sureAddr,storeVar,Sem.run_bind,Sem.run_pure,Result.andThen_ok,Cw hn,qC,ne_eq,not_true_eq_false,if_false]
     exact pu
    ·exact R.write_box (cs:=EM cs off (At v)) hH hM (setRow_heap w b _ _ el _ h1)
      (by simpa using N7 h2 si off) (fun k hk=>setRow_other w b k _ hk) (by simp [World.setRow]) rfl rfl rfl
   ·cases h
  ·cases h
 ·rename_i k sz n
  split at h
  ·rename_i n' ys m hH hn
   split at h
   ·rename_i hc
    obtain ⟨rfl,rfl,hk,pw,sJ⟩:=hc;injection h with h;simp only [Prod.mk.injEq] at h;obtain ⟨rfl,rfl⟩:=h;simp only [AA,EL] at hx;obtain ⟨b,cap,rfl,b',n1,cap',hM,pv,rf⟩:=hx;obtain ⟨ge,hM',qa⟩:=R.ent k _ hH (by simp);rw [hM] at hM';injection hM' with hM';subst hM';simp only [CH] at qa;obtain ⟨rfl,sT,tM,⟨vs,el,h1,sV,rW⟩,sU⟩:=qa;obtain ⟨rfl,rfl,_⟩:=rf rfl;have si:=HC hv hk
    have qC:vv.cells.size=m:=by have:=si.length;rw [Array.length_toList] at this;omega
    have qn:n'*m+m≤vs.length:=by have:(n'+1)*m≤cap'*m:=Nat.mul_le_mul_right _ sT;rw [Nat.add_mul,Nat.one_mul] at this;omega
    have pu:=run_storeCells_at P b' (n'*m) el vv.cells.toList 0 (List.toArray vs) w h1 (by simp [qC];omega) (I0 si sJ);simp only [Nat.add_zero] at pu;have ra:vv.cells.toList.length=m:=by simpa using qC
    refine ⟨rfl,w.setRow b' (List.take (n'*m) vs++vv.cells.toList++List.drop (n'*m+vv.cells.toList.length) vs).toArray,?_,?_⟩
    ·simp only [Instr.storeAt,Instr.sureAddr,storeVar,Sem.run_bind,Sem.run_pure,Result.andThen_ok,Cw hn,qC,ne_eq,not_true_eq_false,if_false]
     exact pu
    ·refine R.write_loose (ys:=ys) hH hM (setRow_heap w b' _ _ el _ h1) ?_ sT (by rw [pw]) ?_ ?_ (fun k hk=>setRow_other w b' k _ hk) (by simp [World.setRow]) rfl rfl rfl
     ·intro i hi
      have h3:(List.take (n'*m) vs).length=n'*m:=by simp;omega
      rw [List.append_assoc,List.getElem?_append_left (by omega),List.getElem?_take,if_pos hi];simp only [World.cell?,h1];simp
     ·simp only [List.length_append,List.length_take,List.length_drop,ra]
      have:min (n'*m) vs.length=n'*m:=by omega
      omega
     ·have h3:(List.take (n'*m) vs).length=n'*m:=by simp;omega
      rw [List.append_assoc,List.drop_append_of_le_length (by omega),List.drop_eq_nil_of_le (by omega),List.nil_append,List.take_append_of_le_length (by omega),List.take_of_length_le (by omega)];exact si
   ·cases h
  ·cases h
 ·cases h
theorem WT (R:Rel g H w) {t:TypeId} {z:AV} (hz:Ae P t=some z) (hk:z.known=true) {fid:Nat} (hl:fid<H.length) (hf:H.at fid=none) :
  ∃g' v w',(Instr.alloc t true (.tuple #[])).run P w = .ok v w'∧Rel g' (H.set fid (some (.box (At z)))) w'∧AK g H w g' (H.set fid (some (.box (At z)))) w'∧AA g' (.ptr fid 0) v:=by
 obtain ⟨i,zv,hi,sW,hr⟩:=Jk hz;obtain ⟨g',h1,h2,h3⟩:=R.alloc_box zv.cells.toList (At z) t fid hl hf (HC (hr g) hk);refine ⟨g',.pointer (some ⟨w.heap.size,0,none⟩),w.alloc (.cells (List.toArray zv.cells.toList) t),?_,h1,h2,?_⟩
 ·simp [Instr.alloc,zeroValue,Gc hi,sW,newVar,newRow]
 ·simp only [AA]
  exact ⟨_,h3,rfl⟩
theorem WV (R:Rel g H w) {t:TypeId} {x:AV} {xv:Value} (hx:AA g x xv) (hk:x.known=true) {fid:Nat} (hl:fid<H.length) (hf:H.at fid=none) :
  ∃g' v w',(Instr.box t xv).run P w = .ok v w'∧Rel g' (H.set fid (some (.box (At x)))) w'∧AK g H w g' (H.set fid (some (.box (At x)))) w'∧AA g' (.ptr fid 0) v:=by
 obtain ⟨g',h1,h2,h3⟩:=R.alloc_box xv.cells.toList (At x) t fid hl hf (HC hx hk);refine ⟨g',.pointer (some ⟨w.heap.size,0,none⟩),w.alloc (.cells (List.toArray xv.cells.toList) t),?_,h1,h2,?_⟩
 ·simp [Instr.box,newVar,newRow]
 ·simp only [AA]
  exact ⟨_,h3,rfl⟩
theorem WW (R:Rel g H w) {t:TypeId} {x:AV} {xv:Value} (hx:AA g x xv) (hk:x.known=true) :
  ∃g' v w',(Instr.box t xv).run P w = .ok v w'∧Rel g' H w'∧AK g H w g' H w'∧AA g' (.vptr (At x) 0) v:=by
 obtain ⟨h1,h2,h3⟩:=R.alloc_row xv.cells t (0,0) xv.cells.toList (fun i v h=>by simpa using h);refine ⟨_,.pointer (some ⟨w.heap.size,0,none⟩),_,?_,h1,h2,?_⟩
 ·simp [Instr.box,newVar,newRow]
 ·simp only [AA]
  exact ⟨w.heap.size,0,_,rfl,AB.mono h2.le _ _ (HC hx hk),h3⟩
variable {P:Program} {g:Gh} {H:AH} {w:World}
theorem Q8 (off:Nat):∀(ws:List Value) (k:Nat) (cs:Array Value),off+k+ws.length≤cs.size →
  (ws.zipIdx k).foldl (fun cs (x:Value × Nat)=>cs.setIfInBounds (off+x.2) x.1) cs=(cs.toList.take (off+k)++ws++cs.toList.drop (off+k+ws.length)).toArray
 | [],k,cs,h=>by simp
 | v::ws,k,cs,h=>by
  simp only [List.zipIdx_cons,List.foldl_cons];rw [Q8 off ws (k+1) _ (by simp at h ⊢;omega)];apply Array.ext';simp only [Array.toList_setIfInBounds];apply List.ext_getElem?;intro i;simp only [List.length_cons] at h;have qC:cs.toList.length=cs.size:=by simp
  have p9:(List.take (off+k) cs.toList).length=off+k:=by rw [List.length_take,qC];omega
  have wU:(List.take (off+(k+1)) (cs.toList.set (off+k) v)).length=off+(k+1):=by rw [List.length_take,List.length_set,qC];omega
  rcases Nat.lt_or_ge i (off+k) with hi|hi
  ·rw [List.append_assoc,List.append_assoc,List.getElem?_append_left (by omega),List.getElem?_append_left (by omega),List.getElem?_take,List.getElem?_take,if_pos (by omega),if_pos hi,List.getElem?_set_ne (by omega)]
  ·rcases Nat.eq_or_lt_of_le hi with hi|hi
   ·subst hi
    rw [List.append_assoc,List.append_assoc,List.getElem?_append_left (by omega),List.getElem?_append_right (by omega),p9,List.getElem?_take,if_pos (by omega),List.getElem?_set_self (by omega)];simp
   ·rw [List.append_assoc,List.append_assoc,List.getElem?_append_right (l₁:=List.take (off+(k+1)) _) (by omega),List.getElem?_append_right (l₁:=List.take (off+k) _) (by omega),p9,wU]
    rw [show i-(off+k)=(i-(off+(k+1)))+1 by omega];rw [List.cons_append,List.getElem?_cons_succ];rw [List.getElem?_append,List.getElem?_append]
    split
    ·rfl
    ·rw [List.getElem?_drop,List.getElem?_drop,List.getElem?_set_ne (by omega)]
     simp only [List.length_cons]
     congr 1
     omega
theorem Lt (place:Nat→Option (Nat × Nat)):∀(parts:List (Nat × AV)) (pvs:List (Nat × Value)) (cells r:List AV) (cvs:List Value),
  FK place cells parts=some r→AB g cells cvs→parts.map (·.1)=pvs.map (·.1)→AB g (parts.map (·.2)) (pvs.map (·.2)) →
  ∃rvs,Instr.fill place (List.toArray cvs) pvs=some (List.toArray rvs)∧AB g r rvs
 | [],pvs,cells,r,cvs,h,hc,h1,_=>by
  simp only [FK] at h;injection h with h;subst h;cases pvs with
  | nil=>exact ⟨cvs,rfl,hc⟩
  | cons p ps=>simp at h1
 | (i,v)::rest,pvs,cells,r,cvs,h,hc,h1,h2=>by
  cases pvs with
  | nil=>simp at h1
  | cons p ps =>
   obtain ⟨j,u⟩:=p;simp only [List.map_cons,List.cons.injEq] at h1;obtain ⟨rfl,h1⟩:=h1;simp only [List.map_cons,AB] at h2;obtain ⟨u',ps',he,h2,h3⟩:=h2;injection he with uB qT;subst uB;subst qT;simp only [FK] at h
   split at h
   ·cases h
   ·rename_i off size hp
    split at h
    ·rename_i vR
     obtain ⟨hk,hl,qo⟩:=vR;have wV:=HC h2 hk;have yV:u.cells.toList.length=(At v).length:=wV.length;have qM:=hc.length;obtain ⟨rvs,qP,qN⟩:=Lt place rest ps (EM cells off (At v)) r _ h (N7 hc wV off) h1 h3;refine ⟨rvs,?_,qN⟩;simp only [Instr.fill,hp];rw [if_neg]
     ·have hf:=Q8 off u.cells.toList 0 (List.toArray cvs) (by simp at yV ⊢;omega)
      simp only [Nat.add_zero] at hf;rw [←qP,←Array.foldl_toList,Array.toList_zipIdx,hf]
     ·simp at yV ⊢
      omega
    ·cases h
theorem Q9:∀(fs:List Field) (l:List (Nat × Nat)),Kg P fs=some l →
  (fs.mapM fun f=>do pure (f.offset,←sizeOf f.type):Sem (List (Nat × Nat))).run P w = .ok l w
 | [],l,h=>by simp only [Kg] at h;injection h with h;subst h;simp
 | f::fs,l,h=>by
  simp only [Kg] at h
  split at h
  ·rename_i n l' h1 h2
   injection h with h;subst h;have:=Q9 fs l' h2;simp only [List.mapM_cons,Sem.run_bind,Cw h1,Result.andThen_ok,Sem.run_pure,this]
  ·cases h
theorem WX {t:TypeId} {parts:List (Nat × AV)} {pvs:List (Nat × Value)} {r:AV} (h:A3 P t parts=some r) (h1:parts.map (·.1)=pvs.map (·.1)) (h2:AB g (parts.map (·.2)) (pvs.map (·.2)))
  (uC:∀z,Ae P t=some z→z.known=true) :
  ∃rv,(Instr.build t (List.toArray pvs)).run P w = .ok rv w∧AA g r rv:=by
 unfold A3 at h
 split at h
 ·rename_i z fields hz hu
  obtain ⟨i,zv,hi,sW,hr⟩:=Jk hz
  split at h
  ·rename_i l hl
   cases hf:FK (fun (i:Nat)=>l[i]?) (At z) parts with
   | none=>rw [hf] at h;cases h
   | some rc =>
    rw [hf] at h;simp only [Option.map_some] at h;injection h with h;subst h;obtain ⟨rvs,qP,qN⟩:=Lt (g:=g) _ parts pvs _ rc _ hf (HC (hr g) (uC z hz)) h1 h2;have hm:=Q9 (w:=w) _ _ hl;refine ⟨.agg (List.toArray rvs),?_,by simp only [AA];exact ⟨rvs,rfl,qN⟩⟩
    have hmA:(fields.mapM fun f=>do pure (f.offset,←sizeOf f.type):Sem (Array (Nat × Nat))).run P w = .ok (List.toArray l) w:=by rw [Array.mapM_eq_mapM_toList];simp only [Sem.run_map,hm,Result.andThen_ok]
    simp only [Instr.build,zeroValue,Sem.run_bind,Gc hi,Result.andThen_ok,sW,Sem.run_pure,run_underlying hu,hmA];have:(fun (i:Nat)=>(List.toArray l)[i]?)=fun (i:Nat)=>l[i]? := by funext i;simp
    simp only [this];have ur:(List.toArray zv.cells.toList)=zv.cells:=by simp
    rw [ur] at qP;rw [qP];rfl
  ·cases h
 ·rename_i z n elem hz hu
  obtain ⟨i,zv,hi,sW,hr⟩:=Jk hz
  split at h
  ·rename_i sz qC
   cases hf:FK (fun i=>some (i*sz,sz)) (At z) parts with
   | none=>rw [hf] at h;cases h
   | some rc =>
    rw [hf] at h;simp only [Option.map_some] at h;injection h with h;subst h;obtain ⟨rvs,qP,qN⟩:=Lt (g:=g) _ parts pvs _ rc _ hf (HC (hr g) (uC z hz)) h1 h2;refine ⟨.agg (List.toArray rvs),?_,by simp only [AA];exact ⟨rvs,rfl,qN⟩⟩;simp only [Instr.build,zeroValue,Sem.run_bind,Gc hi,Result.andThen_ok,sW,Sem.run_pure,run_underlying hu,Cw qC];have ur:(List.toArray zv.cells.toList)=zv.cells:=by simp
    rw [ur] at qP;rw [qP];rfl
  ·cases h
 ·cases h
theorem RA {zs:List AV} {zvs:List Value} (h:AB g zs zvs) (n:Nat) :
  AB g (Ix zs n) ((List.range (n*zvs.length)).map fun i=>zvs[i % zvs.length]!):=by
 induction n with
 | zero=>simp [Ix,AB]
 | succ n ih =>
  have he:(List.range ((n+1)*zvs.length)).map (fun i=>zvs[i % zvs.length]!)=zvs++(List.range (n*zvs.length)).map fun i=>zvs[i % zvs.length]! := by
   apply List.ext_getElem?;intro i;rw [List.getElem?_append];simp only [List.getElem?_map]
   split
   ·rename_i hi
    rw [List.getElem?_range (by rw [Nat.add_mul];omega)];simp [Nat.mod_eq_of_lt hi,hi]
   ·rename_i hi
    rcases Nat.lt_or_ge i ((n+1)*zvs.length) with p9|tY
    ·rw [List.getElem?_range p9,List.getElem?_range (by rw [Nat.add_mul] at p9;omega)]
     simp only [Option.map_some]
     have:i % zvs.length=(i-zvs.length) % zvs.length:=by rw [Nat.mod_eq_sub_mod (by omega)]
     rw [this]
    ·rw [List.getElem?_eq_none (by simpa using tY),List.getElem?_eq_none (by simp;rw [Nat.add_mul] at tY;omega)]
  rw [he];exact h.append ih
theorem WY (R:Rel g H w) {t:TypeId} {len:Nat} {parts:List (Nat × AV)} {pvs:List (Nat × Value)} {r:AV} (h:Ch P t len parts=some r) (h1:parts.map (·.1)=pvs.map (·.1))
  (h2:AB g (parts.map (·.2)) (pvs.map (·.2))) (uC:∀t z,Ae P t=some z→z.known=true) :
  ∃g' rv w',(Instr.buildSlice t len (List.toArray pvs)).run P w = .ok rv w'∧Rel g' H w'∧AK g H w g' H w'∧AA g' r rv:=by
 unfold Ch at h
 split at h
 ·rename_i elem hu
  split at h
  ·rename_i n z hn hz
   split at h
   ·rename_i vR
    obtain ⟨xG,hnp,tN⟩:=vR;obtain ⟨i,zv,hi,sW,hr⟩:=Jk hz;have vS:=HC (hr g) (uC _ z hz);have ut:zv.cells.toList.length=n:=vS.length.trans xG;cases hf:FK (fun i=>some (i*n,n)) (Ix (At z) len) parts with
    | none=>rw [hf] at h;cases h
    | some rc =>
     rw [hf] at h;simp only [Option.map_some] at h;injection h with h;subst h;have vT:=RA vS len;obtain ⟨rvs,qP,qN⟩:=Lt (g:=g) _ parts pvs _ rc _ hf vT h1 h2;rw [ut] at qP
     have rW:rvs.length=len*n:=by
      have:∀(pl:Nat→Option (Nat × Nat)) (ps:List (Nat × AV)) (cs rs:List AV),FK pl cs ps=some rs→rs.length=cs.length:=by
       intro pl ps
       induction ps with
       | nil=>intro cs rs h;simp only [FK] at h;injection h with h;rw [h]
       | cons p ps ih =>
        intro cs rs h;obtain ⟨i,v⟩:=p;simp only [FK] at h
        split at h
        ·cases h
        ·split at h
         ·rename_i hc
          rw [ih _ _ h];simp [EM];omega
         ·cases h
      have h3:=this _ _ _ _ hf;have h4:=vT.length;have h5:=qN.length;simp [ut] at h4;omega
     obtain ⟨hR,hP,hH⟩:=R.alloc_row (List.toArray rvs) elem (0,0) rvs (fun i v h=>by simpa using h);refine ⟨_,.slice (some ⟨w.heap.size,0,none⟩) len len,_,?_,hR,hP,?_⟩
     ·have qC:zv.cells.size=n:=by simpa using ut
      have wW:(Array.range (len*n)).map (fun x=>zv.cells[x % zv.cells.size]!)=List.toArray ((List.range (len*n)).map fun x=>zv.cells.toList[x % n]!):=by apply Array.ext';simp [qC];intro a _;rw [getElem!_def];cases zv.cells[a % n]? <;> rfl
      simp only [Instr.buildSlice,Sem.run_bind,run_underlying hu,Result.andThen_ok,Cw hn];rw [if_neg (by omega)]
      by_cases qK:len*n=0
      ·rw [if_pos qK]
       simp only [Sem.run_bind,Sem.run_pure,Result.andThen_ok];rw [qK] at qP ⊢;simp only [List.range_zero,List.map_nil] at qP;have xH:∀f:Nat→Value,(Array.range 0).map f=List.toArray []:=fun f=>by apply Array.ext';simp
       rw [xH,qP];simp [newRow]
      ·rw [if_neg qK]
       simp only [Sem.run_bind,zeroValue,Gc hi,Result.andThen_ok,sW,Sem.run_pure];rw [wW,qP];simp [newRow]
     ·simp only [AA]
      exact ⟨w.heap.size,0,len,rvs,rfl,AB.mono hP.le _ _ qN,hH,by rw [←qN.length];exact rW,Nat.le_refl _,rfl⟩
   ·cases h
  ·cases h
 ·cases h
variable {P:Program} {g:Gh} {H:AH} {w:World}
theorem N8 (s:List UInt8):(ByteArray.mk (List.toArray s)).size=s.length:=rfl
theorem WZ (s:List UInt8):(ByteArray.mk (List.toArray s)).toList=s:=by rw [ByteArray.toList_eq]
theorem Wa (a b:List UInt8):(ByteArray.mk (List.toArray a))++(ByteArray.mk (List.toArray b))=ByteArray.mk (List.toArray (a++b)):=by apply ByteArray.ext;rw [ByteArray.data_append];simp
theorem RB (s:List UInt8) (a b:Nat):(ByteArray.mk (List.toArray s)).extract a b=ByteArray.mk (List.toArray ((s.take b).drop a)):=by apply ByteArray.ext;rw [ByteArray.data_extract];simp [List.drop_take]
theorem N9 (op:BinOp) (t:TypeId) (xo yo:Operand) (a b:Value) (h:¬(a = .nilIface∧b = .nilIface)) (h':∀xs ys,¬(a = .agg xs∧b = .agg ys)) :
  (eqGuard op t xo yo a b).run P w = .ok () w:=by
 unfold eqGuard
 split
 case h_3=>rfl
 all_goals
  simp only [Bool.not_true,Bool.false_eq_true,if_false]
  split
  ·exact absurd ⟨rfl,rfl⟩ h
  ·exact absurd ⟨rfl,rfl⟩ (h' _ _)
  ·rfl
theorem Wb (op:BinOp) (t:TypeId) (xo yo:Operand) (h:(A9 xo || A9 yo)=true) :
  (eqGuard op t xo yo .nilIface .nilIface).run P w = .ok () w:=by
 unfold eqGuard
 split
 case h_3=>rfl
 all_goals
  simp only [Bool.not_true,Bool.false_eq_true,if_false];cases xo<;>cases yo<;>first|rfl|(simp [A9] at h)
theorem RC {op:BinOp} {k:IntKind} {a b:Int} {r:AV} (h:Lr op k a b=some r):∃rv,(Op.intBits op k a b).run P w = .ok rv w∧AA g r rv:=by
 unfold Lr at h
 split at h<;>first|(injection h with h;subst h;exact ⟨_,rfl,by simp [AA]⟩)|(cases h)
theorem Wc {op:BinOp} {k:IntKind} {a b:Int} {r:AV} (h:Bc op k a b=some r) (h1:op ≠ .shl) (h2:op ≠ .shr) (t:TypeId) :
  ∃rv,(binOp op t (.int k a) (.int k b)).run P w = .ok rv w∧AA g r rv:=by
 unfold Bc at h
 split at h
 ·injection h with h;subst h;exact ⟨_,by simp [binOp,Op.intArith];rfl,by simp [AA]⟩
 ·injection h with h;subst h;exact ⟨_,by simp [binOp,Op.intArith];rfl,by simp [AA]⟩
 ·injection h with h;subst h;exact ⟨_,by simp [binOp,Op.intArith];rfl,by simp [AA]⟩
 ·split at h
  ·cases h
  ·rename_i hb;injection h with h;subst h;exact ⟨_,by simp [binOp,Op.intDiv,hb];rfl,by simp [AA]⟩
 ·split at h
  ·cases h
  ·rename_i hb;injection h with h;subst h;exact ⟨_,by simp [binOp,Op.intDiv,hb];rfl,by simp [AA]⟩
 ·injection h with h;subst h;exact ⟨_,by simp [binOp,Op.intCmp];rfl,by simp [AA]⟩
 ·injection h with h;subst h;exact ⟨_,by simp [binOp,Op.intCmp];rfl,by simp [AA]⟩
 ·injection h with h;subst h;exact ⟨_,by simp [binOp,Op.intCmp];rfl,by simp [AA]⟩
 ·injection h with h;subst h;exact ⟨_,by simp [binOp,Op.intCmp];rfl,by simp [AA]⟩
 ·injection h with h;subst h;exact ⟨_,by simp [binOp,Op.intCmp];rfl,by simp [AA]⟩
 ·injection h with h;subst h;exact ⟨_,by simp [binOp,Op.intCmp];rfl,by simp [AA]⟩
 ·obtain ⟨rv,h3,h4⟩:=RC (P:=P) (w:=w) (g:=g) h
  refine ⟨rv,?_,h4⟩;rw [←h3];cases op<;>simp_all [binOp]
theorem We {op:BinOp} {a b:List UInt8} {r:AV} (h:Be op a b=some r) (t:TypeId) :
  ∃rv,(binOp op t (.string ⟨List.toArray a⟩) (.string ⟨List.toArray b⟩)).run P w = .ok rv w∧AA g r rv:=by
 unfold Be at h
 split at h
 ·split at h
  ·rename_i hl
   injection h with h;subst h;refine ⟨.string ⟨List.toArray (a++b)⟩,?_,by simp [AA]⟩;simp only [binOp,Op.stringOp];rw [if_neg (by simp only [N8];show ¬((a.length+b.length:Nat):Int)>IntKind.i64.max;simp only [IntKind.max,IntKind.bits,IntKind.signed];simp;omega)];rw [Wa];rfl
  ·cases h
 all_goals first
  | (injection h with h;subst h;exact ⟨_,by simp only [binOp,Op.stringOp,WZ];rfl,by simp [AA]⟩)
  | (cases h)
theorem D5 (t:TypeId) (x y:Value):Op.equal t x y=Op.equalIn (9998+1+1) t x y:=rfl
theorem EO {t:TypeId} {xv yv:Value} {b:Bool} (h:(Op.equal t xv yv).run P w = .ok b w) (h1:binOp .eql t xv yv=(do pure (.bool (←Op.equal t xv yv))))
  (h2:binOp .neq t xv yv=(do pure (.bool (!(←Op.equal t xv yv))))) (h3:¬(xv = .nilIface∧yv = .nilIface)) (h4:∀xs ys,¬(xv = .agg xs∧yv = .agg ys)) :
  ∀op,op = .eql∨op = .neq→∀xo yo,(do eqGuard op t xo yo xv yv;binOp op t xv yv:Sem Value).run P w = .ok (.bool (if op = .eql then b else !b)) w:=by
 intro op ho xo yo;rw [Sem.run_bind,N9 op t xo yo xv yv h3 h4,Result.andThen_ok];rcases ho with rfl|rfl
 ·rw [h1,Sem.run_bind,h];rfl
 ·rw [h2,Sem.run_bind,h];rfl
theorem RD {t:TypeId} {b:Bool} (h:(Op.equal t .nilIface .nilIface).run P w = .ok b w) {xo yo:Operand} (hc:(A9 xo || A9 yo)=true) :
  ∀op,op = .eql∨op = .neq→(do eqGuard op t xo yo .nilIface .nilIface;binOp op t .nilIface .nilIface:Sem Value).run P w = .ok (.bool (if op = .eql then b else !b)) w:=by
 intro op ho;rw [Sem.run_bind,Wb op t xo yo hc,Result.andThen_ok];rcases ho with rfl|rfl
 ·show (do pure (.bool (←Op.equal t .nilIface .nilIface)):Sem Value).run P w=_
  rw [Sem.run_bind,h];rfl
 ·show (do pure (.bool (!(←Op.equal t .nilIface .nilIface))):Sem Value).run P w=_
  rw [Sem.run_bind,h];rfl
theorem RE {t:TypeId} {x y:AV} {b:Bool} (h:aeq P t x y=some b) {xv yv:Value} (hx:AA g x xv) (hy:AA g y yv) (hn:¬(x = .nilIface∧y = .nilIface)) :
  ∀op,op = .eql∨op = .neq→∀xo yo,(do eqGuard op t xo yo xv yv;binOp op t xv yv:Sem Value).run P w = .ok (.bool (if op = .eql then b else !b)) w:=by
 unfold aeq at h
 split at h
 all_goals rename_i hu
 case h_18 =>
  rename_i tx vx ty vy;simp only [AA] at hx hy;obtain ⟨ux,rfl,hx⟩:=hx;obtain ⟨uy,rfl,hy⟩:=hy;refine EO ?_ rfl rfl (by simp) (by simp);rw [D5,Op.equalIn];simp only [Sem.run_bind,run_underlying hu,Result.andThen_ok]
  split at h
  ·rename_i he
   subst he
   split at h
   ·rename_i i k' k a k'' b' hi hui
    split at h
    ·rename_i hc
     obtain ⟨hc,rfl⟩:=hc;injection h with h;subst h;simp only [AA] at hx hy;subst hx hy;rw [if_neg (by simp)];simp only [Sem.run_bind,Gc hi,Result.andThen_ok,hc,Bool.not_true,Bool.false_eq_true,if_false];rw [Op.equalIn];simp only [Sem.run_bind,run_underlying hui,Result.andThen_ok,if_true];rfl
    ·cases h
   ·cases h
  ·rename_i he
   injection h with h;subst h;rw [if_pos he];rfl
 case h_19=>cases h
 all_goals
  injection h with h;subst h;simp only [AA] at hx hy
 case h_1=>subst hx hy;exact EO (by rw [D5,Op.equalIn];simp only [Sem.run_bind,run_underlying hu,Result.andThen_ok];rfl) rfl rfl (by simp) (by simp)
 case h_2=>subst hx hy;exact EO (by rw [D5,Op.equalIn];simp only [Sem.run_bind,run_underlying hu,Result.andThen_ok];rfl) rfl rfl (by simp) (by simp)
 case h_3=>obtain ⟨b,_,rfl⟩:=hy;subst hx;exact EO (by rw [D5,Op.equalIn];simp only [Sem.run_bind,run_underlying hu,Result.andThen_ok];rfl) rfl rfl (by simp) (by simp)
 case h_4=>obtain ⟨b,o,vs,rfl,_⟩:=hy;subst hx;exact EO (by rw [D5,Op.equalIn];simp only [Sem.run_bind,run_underlying hu,Result.andThen_ok];rfl) rfl rfl (by simp) (by simp)
 case h_5=>obtain ⟨b,_,rfl⟩:=hx;subst hy;exact EO (by rw [D5,Op.equalIn];simp only [Sem.run_bind,run_underlying hu,Result.andThen_ok];rfl) rfl rfl (by simp) (by simp)
 case h_6=>obtain ⟨b,o,vs,rfl,_⟩:=hx;subst hy;exact EO (by rw [D5,Op.equalIn];simp only [Sem.run_bind,run_underlying hu,Result.andThen_ok];rfl) rfl rfl (by simp) (by simp)
 case h_7=>subst hx hy;exact EO (by rw [D5,Op.equalIn];simp only [Sem.run_bind,run_underlying hu,Result.andThen_ok];rfl) rfl rfl (by simp) (by simp)
 case h_8=>obtain ⟨b,o,cap,vs,rfl,_⟩:=hy;subst hx;exact EO (by rw [D5,Op.equalIn];simp only [Sem.run_bind,run_underlying hu,Result.andThen_ok];rfl) rfl rfl (by simp) (by simp)
 case h_9=>obtain ⟨b,o,cap,vs,rfl,_⟩:=hx;subst hy;exact EO (by rw [D5,Op.equalIn];simp only [Sem.run_bind,run_underlying hu,Result.andThen_ok];rfl) rfl rfl (by simp) (by simp)
 case h_10=>obtain ⟨b,_,rfl,_⟩:=hy;subst hx;exact EO (by rw [D5,Op.equalIn];simp only [Sem.run_bind,run_underlying hu,Result.andThen_ok];rfl) rfl rfl (by simp) (by simp)
 case h_11=>obtain ⟨b,_,rfl,_⟩:=hx;subst hy;exact EO (by rw [D5,Op.equalIn];simp only [Sem.run_bind,run_underlying hu,Result.andThen_ok];rfl) rfl rfl (by simp) (by simp)
 case h_12=>subst hx hy;exact EO (by rw [D5,Op.equalIn];simp only [Sem.run_bind,run_underlying hu,Result.andThen_ok];rfl) rfl rfl (by simp) (by simp)
 case h_13=>obtain ⟨fs,cs,rfl,_⟩:=hy;subst hx;exact EO (by rw [D5,Op.equalIn];simp only [Sem.run_bind,run_underlying hu,Result.andThen_ok];rfl) rfl rfl (by simp) (by simp)
 case h_14=>obtain ⟨fs,cs,rfl,_⟩:=hx;subst hy;exact EO (by rw [D5,Op.equalIn];simp only [Sem.run_bind,run_underlying hu,Result.andThen_ok];rfl) rfl rfl (by simp) (by simp)
 case h_15=>exact absurd ⟨rfl,rfl⟩ hn
 case h_16=>obtain ⟨u,rfl,_⟩:=hy;subst hx;exact EO (by rw [D5,Op.equalIn];simp only [Sem.run_bind,run_underlying hu,Result.andThen_ok];rfl) rfl rfl (by simp) (by simp)
 case h_17=>obtain ⟨u,rfl,_⟩:=hx;subst hy;exact EO (by rw [D5,Op.equalIn];simp only [Sem.run_bind,run_underlying hu,Result.andThen_ok];rfl) rfl rfl (by simp) (by simp)
variable {P:Program} {g:Gh} {H:AH} {w:World}
theorem Wf {op:BinOp} {t:TypeId} {xo yo:Operand} {x y r:AV} (h:BI P op t (A9 xo || A9 yo) x y=some r) {xv yv:Value} (hx:AA g x xv) (hy:AA g y yv) :
  ∃rv,(do eqGuard op t xo yo xv yv;binOp op t xv yv:Sem Value).run P w = .ok rv w∧AA g r rv:=by
 unfold BI at h
 split at h
 ·rename_i k a k' b
  simp only [AA] at hx hy;subst hx hy;rw [Sem.run_bind,N9 op t xo yo _ _ (by simp) (by simp),Result.andThen_ok]
  split at h
  ·split at h
   ·rename_i hb
    injection h with h;subst h;refine ⟨.int k (k.wrap (a*2 ^ (min b.toNat k.bits))),?_,by simp only [AA]⟩;simp only [binOp,Op.shift];rw [if_neg (by omega)];rfl
   ·cases h
  ·split at h
   ·rename_i hb
    injection h with h;subst h;refine ⟨.int k (a.fdiv (2 ^ (min b.toNat k.bits))),?_,by simp only [AA]⟩;simp only [binOp,Op.shift];rw [if_neg (by omega)];rfl
   ·cases h
  ·rename_i h1 h2
   split at h
   ·rename_i hk
    subst hk;exact Wc h h1 h2 t
   ·cases h
 ·rename_i a b
  simp only [AA] at hx hy;subst hx hy;rw [Sem.run_bind,N9 op t xo yo _ _ (by simp) (by simp),Result.andThen_ok];exact We h t
 ·simp only [AA] at hx hy
  subst hx hy
  split at h
  ·rename_i hc
   have key:∀b,aeq P t .nilIface .nilIface=some b→(Op.equal t .nilIface .nilIface).run P w = .ok b w:=by
    intro b hb;unfold aeq at hb;cases hu:P.underlying t with
    | none=>simp [hu] at hb
    | some d =>cases d<;>simp [hu] at hb;subst hb;rw [D5,Op.equalIn];simp only [Sem.run_bind,run_underlying hu,Result.andThen_ok];rfl
   split at h
   ·cases hb:aeq P t .nilIface .nilIface with
    | none=>rw [hb] at h;cases h
    | some b =>rw [hb] at h;injection h with h;subst h;exact ⟨_,RD (key b hb) hc .eql (.inl rfl),by simp [AA]⟩
   ·cases hb:aeq P t .nilIface .nilIface with
    | none=>rw [hb] at h;cases h
    | some b =>rw [hb] at h;injection h with h;subst h;exact ⟨_,RD (key b hb) hc .neq (.inr rfl),by simp [AA]⟩
   ·cases h
  ·cases h
 ·cases h
 ·rename_i rD qr r8 sK
  have hn:¬(x = .nilIface∧y = .nilIface):=fun hh=>r8 hh.1 hh.2
  split at h
  ·cases hb:aeq P t x y with
   | none=>rw [hb] at h;cases h
   | some b =>rw [hb] at h;injection h with h;subst h;exact ⟨_,RE hb hx hy hn .eql (.inl rfl) xo yo,by simp [AA]⟩
  ·cases hb:aeq P t x y with
   | none=>rw [hb] at h;cases h
   | some b =>rw [hb] at h;injection h with h;subst h;exact ⟨_,RE hb hx hy hn .neq (.inr rfl) xo yo,by simp [AA]⟩
  ·cases h
theorem Wg {op:UnOp} {x r:AV} (h:aun op x=some r) {xv:Value} (hx:AA g x xv):∃rv,(Op.unary op xv).run P w = .ok rv w∧AA g r rv:=by
 unfold aun at h
 split at h
 ·simp only [AA] at hx;subst hx;injection h with h;subst h
  exact ⟨_,rfl,by simp [AA]⟩
 ·simp only [AA] at hx;subst hx;injection h with h;subst h
  exact ⟨_,rfl,by simp [AA]⟩
 ·simp only [AA] at hx;subst hx
  obtain ⟨rv,h1,h2⟩:=RC (P:=P) (w:=w) (g:=g) h;exact ⟨rv,h1,h2⟩
 ·cases h
theorem RF (s:List UInt8):AB g (Dd s) (s.map fun b=>Value.int .u8 (b.toNat:Int)):=by
 unfold Dd
 induction s with
 | nil=>simp [AB]
 | cons b s ih=>simp only [List.map_cons,AB];exact ⟨_,_,rfl,by simp [AA],ih⟩
theorem OA:∀{cs:List AV} {s:List UInt8},II cs=some s→∀{vs:List Value},AB g cs vs →
  ∃xs:List Int,vs=xs.map (Value.int .u8)∧s=xs.map fun n=>UInt8.ofNat n.toNat
 | [],s,h,vs,hv=>by simp only [II] at h;injection h with h;subst h;simp only [AB] at hv;subst hv;exact ⟨[],rfl,rfl⟩
 | c::cs,s,h,vs,hv=>by
  simp only [AB] at hv;obtain ⟨v,ws,rfl,h1,h2⟩:=hv;simp only [II] at h
  split at h
  ·rename_i n s' hb
   injection h with h;subst h;simp only [AA] at h1;subst h1;obtain ⟨xs,hx1,sj⟩:=OA hb h2;exact ⟨n::xs,by simp [hx1],by simp [sj]⟩
  ·cases h
theorem Wh (R:Rel g H w) {src dst:TypeId} {x r:AV} (h:BV P H src dst x=some r) {xv:Value} (hx:AA g x xv) :
  ∃g' rv w',(convert src dst xv).run P w = .ok rv w'∧Rel g' H w'∧AK g H w g' H w'∧AA g' r rv:=by
 unfold BV at h
 split at h
 ·rename_i hs hd
  simp only [AA] at hx;subst hx;injection h with h;subst h;refine ⟨g,_,w,?_,R,AK.refl g H w,by simp only [AA];rfl⟩;simp [convert,run_underlying hs,run_underlying hd,Conv.intToInt]
 ·rename_i hs hd
  simp only [AA] at hx;subst hx;injection h with h;subst h;refine ⟨g,_,w,?_,R,AK.refl g H w,by simp only [AA];rfl⟩;simp only [convert,Sem.run_bind,run_underlying hs,run_underlying hd,Result.andThen_ok];rfl
 ·rename_i s hs hd
  split at h
  ·rename_i he
   simp only [AA] at hx;subst hx
   split at h
   ·injection h with h;subst h
    have qQ:=run_bytes_of_string (P:=P) w src dst _ ⟨List.toArray s⟩ hs hd he;have sT:=grownCap_ge w (ByteArray.mk (List.toArray s)).size 0;rw [N8] at sT qQ
    obtain ⟨h1,h2,h3⟩:=(R.drew).alloc_row (bytesRow ⟨List.toArray s⟩ (grownCap w s.length 0 _)) _ ((bytesRow ⟨List.toArray s⟩ (grownCap w s.length 0 _)).size,(bytesRow ⟨List.toArray s⟩ (grownCap w s.length 0 _)).size+1) (s.map fun b=>Value.int .u8 (b.toNat:Int)) (fun i v hi=>by
     unfold bytesRow;rw [Array.getElem?_append_left (by simp;have:=(List.getElem?_eq_some_iff.1 hi).1;simpa using this)]
     simpa using hi)
    exact ⟨_,_,_,qQ,h1,AK.trans R (AK.drew g H w) h2,by
     simp only [AA]
     exact ⟨w.heap.size,0,_,_,rfl,AB.mono h2.le _ _ (RF s),h3,by simp [Dd],sT _,trivial⟩⟩
   ·cases h
  ·cases h
 ·rename_i hs hd
  split at h
  ·rename_i he
   simp only [AA] at hx;subst hx;injection h with h;subst h;exact ⟨g,_,w,run_convert_bytes_nil (P:=P) w src _ hs he 0 0 dst hd,R,AK.refl g H w,by simp only [AA];rfl⟩
  ·cases h
 ·rename_i n cs hs hd
  split at h
  ·rename_i he
   cases hb:II cs with
   | none=>rw [hb] at h;cases h
   | some s =>
    rw [hb] at h;injection h with h;subst h;simp only [AA] at hx;obtain ⟨b,o,cap,vs,rfl,hr,hh,hl,hc,_⟩:=hx;obtain ⟨xs,rfl,rfl⟩:=OA hb hr;have pw:xs.length=n:=by have:=hr.length;simp at this;omega
    have:=run_convert_bytes_arg (P:=P) w src _ hs he b o n cap xs pw (fun i hi=>by
     refine R.imm _ _ _ (hh i _ ?_)
     simp [List.getElem?_eq_getElem (show i<xs.length by omega),List.getD_eq_getElem?_getD]) dst hd
    exact ⟨g,_,w,this,R,AK.refl g H w,by simp only [AA,strOfNums]⟩
  ·cases h
 ·rename_i id off n c hs hd
  split at h
  ·rename_i cs he hH
   split at h
   ·rename_i qo
    cases hb:II ((cs.drop off).take n) with
    | none=>rw [hb] at h;cases h
    | some s =>
     rw [hb] at h;injection h with h;subst h;simp only [AA] at hx;obtain ⟨b,hM,rfl,hc⟩:=hx;obtain ⟨vs,el,h1,h2,h3⟩:=Hh R hH hM;have hr:=(h2.drop off).take n;obtain ⟨xs,qb,rfl⟩:=OA hb hr;have ra:=h2.length
     have pw:xs.length=n:=by have:=congrArg List.length qb;simp at this;omega
     have:=run_convert_bytes_arg (P:=P) w src _ hs he b off n c xs pw (fun i hi=>by
      have h4:=h3 (off+i) (.int .u8 (xs.getD i 0)) (by
       have h5:((vs.drop off).take n)[i]? = some (.int .u8 (xs.getD i 0)):=by rw [qb];simp [List.getElem?_eq_getElem (show i<xs.length by omega),List.getD_eq_getElem?_getD]
       rw [List.getElem?_take,if_pos hi,List.getElem?_drop] at h5
       exact h5)
      rw [Nat.zero_add] at h4
      exact h4) dst hd
     exact ⟨g,_,w,this,R,AK.refl g H w,by simp only [AA,strOfNums]⟩
   ·cases h
  ·cases h
 ·cases h
variable {P:Program} {g:Gh} {H:AH} {w:World}
theorem OB {o:Option AV} {l:Option Int} (h:BZ o=some l) {ov:Option Value} (ho:∀x,o=some x→∃v,ov=some v∧AA g x v) (hn:o=none→ov=none) :
  (l=none∧ov=none)∨∃k n,l=some n∧ov=some (.int k n):=by
 unfold BZ at h
 split at h
 ·injection h with h;subst h;exact .inl ⟨rfl,hn rfl⟩
 ·rename_i k n
  injection h with h;subst h;obtain ⟨v,hv,hr⟩:=ho _ rfl;simp only [AA] at hr;subst hr;exact .inr ⟨k,n,rfl,hv⟩
 ·cases h
theorem I1 {isS:Bool} {n c:Nat} {l h:Option Int} {lo hi:Option Value} (hl:(l=none∧lo=none)∨∃k m,l=some m∧lo=some (.int k m)) (hh:(h=none∧hi=none)∨∃k m,h=some m∧hi=some (.int k m))
  (h0:0≤l.getD 0) (h1:l.getD 0≤h.getD n) (h2:h.getD n≤n) (hc:n≤c) :
  (Instr.sliceBounds isS n c lo hi none).run P w = .ok ((l.getD 0).toNat,(h.getD n).toNat,c) w:=by
 have hb:∀(k:IntKind) (m:Int) (y:Nat) (code:BoundsCode),0≤m→m≤y→(Instr.sliceBound (.int k m) y code).run P w = .ok m.toNat w:=by intro k m y code ha hb;simp [Instr.sliceBound,asIntOf,ha,hb]
 rcases hh with ⟨rfl,rfl⟩|⟨k,m,rfl,rfl⟩
 ·rcases hl with ⟨rfl,rfl⟩|⟨k',m',rfl,rfl⟩
  ·simp [Instr.sliceBounds]
  ·simp only [Option.getD_some,Option.getD_none] at h0 h1 h2 ⊢
   simp only [Instr.sliceBounds,Sem.run_bind,Sem.run_pure,Result.andThen_ok];rw [hb _ _ _ _ h0 h1];simp
 ·simp only [Option.getD_some] at h1 h2
  rcases hl with ⟨rfl,rfl⟩|⟨k',m',rfl,rfl⟩
  ·simp only [Option.getD_none,Option.getD_some] at h0 h1 ⊢
   simp only [Instr.sliceBounds,Sem.run_bind,Sem.run_pure,Result.andThen_ok];rw [hb _ _ _ _ h1 (by omega)];simp
  ·simp only [Option.getD_some] at h0 h1 ⊢
   simp only [Instr.sliceBounds,Sem.run_bind,Sem.run_pure,Result.andThen_ok];rw [hb _ _ _ _ (by omega) (by omega)];simp only [Result.andThen_ok];rw [hb _ _ _ _ h0 (by omega)];simp
theorem RG {isS:Bool} {n c:Nat} {l:Option Int} {m:Int} {lo hi mx:Option Value} {k k2:IntKind} (hl:(l=none∧lo=none)∨∃k m,l=some m∧lo=some (.int k m)) (hh:hi=some (.int k m)) (hm:mx=some (.int k2 m))
  (h0:0≤l.getD 0) (h1:l.getD 0≤m) (h2:m≤n) (hc:n≤c) :
  (Instr.sliceBounds isS n c lo hi mx).run P w = .ok ((l.getD 0).toNat,m.toNat,m.toNat) w:=by
 have hb:∀(k:IntKind) (m:Int) (y:Nat) (code:BoundsCode),0≤m→m≤y→(Instr.sliceBound (.int k m) y code).run P w = .ok m.toNat w:=by intro k m y code ha hb;simp [Instr.sliceBound,asIntOf,ha,hb]
 subst hh hm;rcases hl with ⟨rfl,rfl⟩|⟨k',m',rfl,rfl⟩
 ·simp only [Option.getD_none] at h0 h1 ⊢
  simp only [Instr.sliceBounds,Sem.run_bind,Sem.run_pure,Result.andThen_ok];rw [hb _ _ _ _ h1 (by omega)];simp only [Result.andThen_ok];rw [hb _ _ _ _ h1 (by omega)];simp
 ·simp only [Option.getD_some] at h0 h1 ⊢
  simp only [Instr.sliceBounds,Sem.run_bind,Sem.run_pure];rw [hb _ _ _ _ (by omega) (by omega)];simp only [Result.andThen_ok];rw [hb _ _ _ _ (by omega) (by omega)];simp only [Result.andThen_ok];rw [hb _ _ _ _ h0 (by omega)];simp
theorem RH {ow':Own} {sz n a b:Nat} {cs:List AV} {bk o cap':Nat} {vs:List Value} (hr:AB g cs vs) (hh:g.has bk o vs) (hl:cs.length=n*sz) (rg:a≤b) (yW:b≤n)
  (ha:Nat) (hae:ha=o+a*sz∨b=a) (sT:b-a≤cap') (rx:EL g ow' sz (b-a) bk ha cap') :
  AA g (.slice ow' sz (b-a) ((cs.drop (a*sz)).take ((b-a)*sz))) (.slice (some ⟨bk,ha,none⟩) (b-a) cap'):=by
 simp only [AA];refine ⟨bk,ha,cap',(vs.drop (a*sz)).take ((b-a)*sz),rfl,(hr.drop _).take _,?_,?_,sT,rx⟩
 ·rcases hae with rfl|rfl
  ·exact Gh.has_take (Gh.has_drop hh _) _
  ·intro i v hi
   simp at hi
 ·simp only [List.length_take,List.length_drop]
  have:a*sz+(b-a)*sz≤n*sz:=by rw [←Nat.add_mul];exact Nat.mul_le_mul_right _ (by omega)
  omega
theorem Wi {t:TypeId} {x r:AV} {lo hi mx:Option AV} (h:BG P t x lo hi mx=some r) {xv:Value} (hx:AA g x xv) {lov xI mxv:Option Value}
  (hlo:∀x,lo=some x→∃v,lov=some v∧AA g x v) (zW:lo=none→lov=none) (hhi:∀x,hi=some x→∃v,xI=some v∧AA g x v) (zX:hi=none→xI=none)
  (hmx:∀x,mx=some x→∃v,mxv=some v∧AA g x v) (zY:mx=none→mxv=none) :
  ∃rv,(Instr.sliceAt t xv lov xI mxv).run P w = .ok rv w∧AA g r rv:=by
 unfold BG at h
 split at h
 ·rename_i l hh m h1 h2 h3
  have hl:=OB h1 hlo zW;have hu:=OB h2 hhi zX;have hm:=OB h3 hmx zY
  split at h
  ·rename_i s r9
   simp only [AA] at hx;subst hx
   split at h
   ·rename_i hc
    obtain ⟨rfl,c1,c2,c3⟩:=hc;injection h with h;subst h;have sL:mxv=none:=by rcases hm with ⟨_,h⟩|⟨_,_,h,_⟩<;>simp_all
    subst sL;have hb:=I1 (P:=P) (w:=w) (isS:=false) (c:=s.length) hl hu c1 c2 c3 (Nat.le_refl _);refine ⟨.string ⟨List.toArray ((s.take (hh.getD s.length).toNat).drop (l.getD 0).toNat)⟩,?_,by simp only [AA]⟩;simp only [Instr.sliceAt,Sem.run_bind,run_underlying r9,Result.andThen_ok,Instr.slice];simp only [Option.isSome_none,Bool.false_eq_true,if_false,Sem.run_bind,N8,hb,Result.andThen_ok,RB,Sem.run_pure]
   ·cases h
  ·rename_i e r9
   simp only [AA] at hx;subst hx
   split at h
   ·rename_i hc
    obtain ⟨rfl,c1,c2,c3⟩:=hc;injection h with h;subst h;have sL:mxv=none:=by rcases hm with ⟨_,h⟩|⟨_,_,h,_⟩<;>simp_all
    subst sL;have hb:=I1 (P:=P) (w:=w) (isS:=true) (n:=0) (c:=0) hl hu (by omega) (by show l.getD 0≤hh.getD 0;omega) (by show hh.getD 0≤0;omega) (Nat.le_refl _);obtain ⟨n,hn⟩:=Option.isSome_iff_exists.1 c3;refine ⟨.slice none 0 0,?_,by simp only [AA]⟩;have xJ:hh.getD ((0:Nat):Int)=0:=c2;simp only [Instr.sliceAt,Sem.run_bind,run_underlying r9,Result.andThen_ok,Instr.slice,hb,Cw hn,Sem.run_pure,c1,xJ];rfl
   ·split at h
    ·rename_i hc
     obtain ⟨rfl,rfl,c1,c3⟩:=hc;injection h with h;subst h;rcases hm with ⟨h,_⟩|⟨k,mm,h,uu⟩
     ·cases h
     ·injection h with h;subst h
      rcases hu with ⟨h,_⟩|⟨k2,mm2,h,xK⟩
      ·cases h
      ·injection h with h;subst h
       have hb:=RG (P:=P) (w:=w) (isS:=true) (n:=0) (c:=0) hl xK uu (by omega) (by omega) (by omega) (Nat.le_refl _);obtain ⟨n,hn⟩:=Option.isSome_iff_exists.1 c3;refine ⟨.slice none 0 0,?_,by simp only [AA]⟩;simp only [Instr.sliceAt,Sem.run_bind,run_underlying r9,Result.andThen_ok,Instr.slice,hb,Cw hn,Sem.run_pure,c1];rfl
    ·cases h
  ·rename_i e ow sz n cs r9
   simp only [AA] at hx;obtain ⟨bk,o,cap,vs,rfl,hr,yX,pw,ru,rx⟩:=hx
   split at h
   ·rename_i sz' qC
    split at h
    ·rename_i hc
     obtain ⟨rfl,rfl,c1,c2,c3⟩:=hc;injection h with h;subst h;have sL:mxv=none:=by rcases hm with ⟨_,h⟩|⟨_,_,h,_⟩<;>simp_all
     subst sL;have hb:=I1 (P:=P) (w:=w) (isS:=true) (c:=cap) hl hu c1 c2 c3 ru;refine ⟨.slice (some ⟨bk,if cap=(l.getD 0).toNat then o else o+(l.getD 0).toNat*sz',none⟩) ((hh.getD n).toNat-(l.getD 0).toNat) (cap-(l.getD 0).toNat),?_,?_⟩
     ·simp only [Instr.sliceAt,Sem.run_bind,run_underlying r9,Result.andThen_ok,Instr.slice,hb,Cw qC,Sem.run_pure]
      split<;>simp [Addr.add_lit]
     ·refine RH hr yX pw (by omega) (by omega) _ ?_ (by omega) ?_
      ·split
       ·exact .inr (by omega)
       ·exact .inl rfl
      ·split
       ·rename_i yW
        split
        ·rename_i ha0
         simp only [ha0,yW,Nat.sub_zero,Nat.zero_mul,Nat.add_zero,ite_self];exact rx
        ·split
         ·rename_i hf
          subst hf;simp only [EL] at rx ⊢;omega
         ·trivial
       ·trivial
    ·split at h
     ·rename_i hc
      obtain ⟨rfl,rfl,c0,c1,c2,c3⟩:=hc;injection h with h;subst h;rcases hm with ⟨h,_⟩|⟨k,mm,rfl,uu⟩
      ·exact absurd h c0
      ·rcases hu with ⟨h,_⟩|⟨k2,mm2,h,xK⟩
       ·cases h
       ·injection h with h;subst h
        simp only [Option.getD_some] at c2 c3 ⊢;have hb:=RG (P:=P) (w:=w) (isS:=true) (c:=cap) hl xK uu c1 c2 c3 ru;refine ⟨.slice (some ⟨bk,if mm.toNat=(l.getD 0).toNat then o else o+(l.getD 0).toNat*sz',none⟩) (mm.toNat-(l.getD 0).toNat) (mm.toNat-(l.getD 0).toNat),?_,?_⟩
        ·simp only [Instr.sliceAt,Sem.run_bind,run_underlying r9,Result.andThen_ok,Instr.slice,hb,Cw qC,Sem.run_pure]
         split<;>simp [Addr.add_lit]
        ·refine RH hr yX pw (by omega) (by omega) _ ?_ (Nat.le_refl _) rfl
         split
         ·exact .inr (by omega)
         ·exact .inl rfl
     ·cases h
   ·cases h
  ·rename_i e id off sz n c r9
   simp only [AA] at hx;obtain ⟨bk,hM,rfl,ru⟩:=hx
   split at h
   ·rename_i sz' qC
    split at h
    ·rename_i hc
     obtain ⟨rfl,rfl,c1,c2,c3⟩:=hc;injection h with h;subst h;have sL:mxv=none:=by rcases hm with ⟨_,h⟩|⟨_,_,h,_⟩<;>simp_all
     subst sL;have hb:=I1 (P:=P) (w:=w) (isS:=true) (c:=c) hl hu c1 c2 c3 ru;refine ⟨.slice (some ⟨bk,if c=(l.getD 0).toNat then off else off+(l.getD 0).toNat*sz',none⟩) ((hh.getD n).toNat-(l.getD 0).toNat) (c-(l.getD 0).toNat),?_,?_⟩
     ·simp only [Instr.sliceAt,Sem.run_bind,run_underlying r9,Result.andThen_ok,Instr.slice,hb,Cw qC,Sem.run_pure]
      split<;>simp [Addr.add_lit]
     ·simp only [AA]
      exact ⟨bk,hM,rfl,by omega⟩
    ·cases h
   ·cases h
  ·rename_i e id ver sz n r9
   simp only [AA] at hx;obtain ⟨bk,cap,rfl,ru,rx⟩:=hx
   split at h
   ·rename_i sz' qC
    split at h
    ·rename_i hc
     obtain ⟨rfl,rfl,c1,c2,c3⟩:=hc;injection h with h;subst h;have sL:mxv=none:=by rcases hm with ⟨_,h⟩|⟨_,_,h,_⟩<;>simp_all
     subst sL;have hb:=I1 (P:=P) (w:=w) (isS:=true) (n:=n) (c:=cap) hl hu (by omega) (by omega) c3 ru;refine ⟨.slice (some ⟨bk,0,none⟩) (hh.getD n).toNat cap,?_,?_⟩
     ·simp only [Instr.sliceAt,Sem.run_bind,run_underlying r9,Result.andThen_ok,Instr.slice,hb,Cw qC,Sem.run_pure,c1]
      simp [Addr.add_lit]
     ·simp only [AA]
      exact ⟨bk,cap,rfl,by omega,rx⟩
    ·cases h
   ·cases h
  ·rename_i q id off r9
   simp only [AA] at hx;obtain ⟨bk,hM,rfl⟩:=hx
   split at h
   ·rename_i n e hq
    split at h
    ·rename_i sz qC
     split at h
     ·rename_i hc
      obtain ⟨rfl,c1,c2,c3⟩:=hc;injection h with h;subst h;have sL:mxv=none:=by rcases hm with ⟨_,h⟩|⟨_,_,h,_⟩<;>simp_all
      subst sL;have hb:=I1 (P:=P) (w:=w) (isS:=false) (c:=n) hl hu c1 c2 c3 (Nat.le_refl _);refine ⟨.slice (some ⟨bk,if n=(l.getD 0).toNat then off else off+(l.getD 0).toNat*sz,none⟩) ((hh.getD n).toNat-(l.getD 0).toNat) (n-(l.getD 0).toNat),?_,?_⟩
      ·simp only [Instr.sliceAt,Sem.run_bind,run_underlying r9,run_underlying hq,Result.andThen_ok,Instr.slice,hb,Cw qC,Sem.run_pure,Instr.sureAddr,asAddr]
       split<;>simp [Addr.add_lit]
      ·simp only [AA]
       exact ⟨bk,hM,rfl,by omega⟩
     ·cases h
    ·cases h
   ·cases h
  ·rename_i n e id off r9
   simp only [AA] at hx;obtain ⟨bk,hM,rfl⟩:=hx
   split at h
   ·rename_i sz qC
    split at h
    ·rename_i hc
     obtain ⟨rfl,c1,c2,c3⟩:=hc;injection h with h;subst h;have sL:mxv=none:=by rcases hm with ⟨_,h⟩|⟨_,_,h,_⟩<;>simp_all
     subst sL;have hb:=I1 (P:=P) (w:=w) (isS:=false) (c:=n) hl hu c1 c2 c3 (Nat.le_refl _);refine ⟨.slice (some ⟨bk,if n=(l.getD 0).toNat then off else off+(l.getD 0).toNat*sz,none⟩) ((hh.getD n).toNat-(l.getD 0).toNat) (n-(l.getD 0).toNat),?_,?_⟩
     ·simp only [Instr.sliceAt,Sem.run_bind,run_underlying r9,Result.andThen_ok,hb,Cw qC,Sem.run_pure,Instr.sureAddr]
      split<;>simp [Addr.add_lit]
     ·simp only [AA]
      exact ⟨bk,hM,rfl,by omega⟩
    ·cases h
   ·cases h
  ·cases h
 ·cases h
theorem Wj {t:TypeId} {x r:AV} {i:Nat} (h:BH P t x i=some r) {xv:Value} (hx:AA g x xv):∃rv,(Instr.fieldAt t xv i).run P w = .ok rv w∧AA g r rv:=by
 unfold BH at h
 split at h
 ·rename_i fields hu
  split at h
  ·rename_i f hf
   split at h
   ·rename_i n hn
    split at h
    ·cases h
    ·rename_i uT
     split at h
     ·rename_i id off
      injection h with h;subst h;simp only [AA] at hx;obtain ⟨b,hM,rfl⟩:=hx;refine ⟨.pointer (some ⟨b,off+f.offset,none⟩),?_,by simp only [AA];exact ⟨b,hM,rfl⟩⟩;simp only [Instr.fieldAt,Sem.run_bind,run_underlying hu,Result.andThen_ok,hf,Instr.sureAddr,Sem.run_pure,fieldPlace,Cw hn];rw [if_neg uT];simp [Addr.add_lit]
     ·rename_i cs off
      injection h with h;subst h;simp only [AA] at hx;obtain ⟨b,o,vs,rfl,h1,h2⟩:=hx;refine ⟨.pointer (some ⟨b,o+off+f.offset,none⟩),?_,by simp only [AA];exact ⟨b,o,vs,by rw [Nat.add_assoc],h1,h2⟩⟩;simp only [Instr.fieldAt,Sem.run_bind,run_underlying hu,Result.andThen_ok,hf,Instr.sureAddr,Sem.run_pure,fieldPlace,Cw hn];rw [if_neg uT];simp [Addr.add_lit]
     ·cases h
   ·cases h
  ·cases h
 ·cases h
theorem RJ {t:TypeId} {cs:List AV} {off:Nat} {r:AV} (h:BL P t cs off=some r) {vs:List Value} (hr:AB g cs vs) :
  ∃rv,(part t (List.toArray vs) off).run P w = .ok rv w∧AA g r rv:=by
 unfold BL at h
 split at h
 ·rename_i ha
  split at h
  ·rename_i n hn
   split at h
   ·injection h with h;subst h
    refine ⟨.agg (List.toArray ((vs.drop off).take n)),?_,by simp only [AA];exact ⟨_,rfl,(hr.drop off).take n⟩⟩;simp only [part,Sem.run_bind,Ls ha,Result.andThen_ok,if_true,Cw hn,Sem.run_pure];simp
   ·cases h
  ·cases h
 ·rename_i ha
  obtain ⟨v,hv,qa⟩:=hr.get h;refine ⟨v,?_,qa⟩;simp only [part,Sem.run_bind,Ls ha,Result.andThen_ok,Bool.false_eq_true,if_false];have:(List.toArray vs)[off]? = some v:=by simpa using hv
  simp only [this];rfl
 ·cases h
theorem Wl {t:TypeId} {x r:AV} {i:Nat} (h:BN P t x i=some r) {xv:Value} (hx:AA g x xv):∃rv,(Instr.field t xv i).run P w = .ok rv w∧AA g r rv:=by
 unfold BN at h
 split at h
 ·rename_i fields cs hu
  split at h
  ·rename_i f hf
   simp only [AA] at hx;obtain ⟨vs,rfl,hr⟩:=hx;obtain ⟨rv,h1,h2⟩:=RJ (w:=w) h hr;refine ⟨rv,?_,h2⟩;simp only [Instr.field,Sem.run_bind,run_underlying hu,Result.andThen_ok,hf,asAgg,Sem.run_pure,h1]
  ·cases h
 ·cases h
theorem Wm {t:TypeId} {x i r:AV} (h:Av P t x i=some r) {xv iv:Value} (hx:AA g x xv) (hi:AA g i iv):∃rv,(Instr.indexAt t xv iv).run P w = .ok rv w∧AA g r rv:=by
 unfold Av at h
 split at h
 ·rename_i k i
  simp only [AA] at hi;subst hi
  split at h
  ·rename_i e ow sz n cs hu
   split at h
   ·rename_i sz' qC
    split at h
    ·rename_i hc
     obtain ⟨rfl,c1,c2⟩:=hc;injection h with h;subst h;simp only [AA] at hx;obtain ⟨b,o,cap,vs,rfl,h1,h2,_⟩:=hx;refine ⟨.pointer (some ⟨b,o+i.toNat*sz',none⟩),?_,by simp only [AA];exact ⟨b,o,vs,rfl,h1,h2⟩⟩;simp only [Instr.indexAt,asIntOf,Sem.run_bind,Sem.run_pure,run_underlying hu,Result.andThen_ok];rw [if_pos ⟨c1,c2⟩];simp [Cw qC,Addr.add_lit]
    ·cases h
   ·cases h
  ·rename_i e id off sz n c hu
   split at h
   ·rename_i sz' qC
    split at h
    ·rename_i hc
     obtain ⟨rfl,c1,c2⟩:=hc;injection h with h;subst h;simp only [AA] at hx;obtain ⟨b,hM,rfl,_⟩:=hx;refine ⟨.pointer (some ⟨b,off+i.toNat*sz',none⟩),?_,by simp only [AA];exact ⟨b,hM,rfl⟩⟩;simp only [Instr.indexAt,asIntOf,Sem.run_bind,Sem.run_pure,run_underlying hu,Result.andThen_ok];rw [if_pos ⟨c1,c2⟩];simp [Cw qC,Addr.add_lit]
    ·cases h
   ·cases h
  ·rename_i e k sz n cs hu
   split at h
   ·rename_i sz' qC
    split at h
    ·rename_i hc
     obtain ⟨rfl,rfl⟩:=hc;injection h with h;subst h;simp only [AA] at hx;obtain ⟨b,cap,vs,rfl,_,_,_,_,ho⟩:=hx;refine ⟨.pointer (some ⟨b,n*sz',none⟩),?_,by simp only [AA];exact ⟨b,cap,rfl,ho⟩⟩;simp only [Instr.indexAt,asIntOf,Sem.run_bind,Sem.run_pure,run_underlying hu,Result.andThen_ok];rw [if_pos ⟨by omega,by omega⟩];simp [Cw qC,Addr.add_lit]
    ·cases h
   ·cases h
  ·rename_i e id ver sz n hu
   split at h
   ·rename_i sz' qC
    split at h
    ·rename_i hc
     obtain ⟨rfl,c1,c2⟩:=hc;injection h with h;subst h;simp only [AA] at hx;obtain ⟨b,cap,rfl,_,ho⟩:=hx;refine ⟨.pointer (some ⟨b,i.toNat*sz',none⟩),?_,by simp only [AA];exact ⟨b,cap,rfl,ho⟩⟩;simp only [Instr.indexAt,asIntOf,Sem.run_bind,Sem.run_pure,run_underlying hu,Result.andThen_ok];rw [if_pos ⟨c1,c2⟩];simp [Cw qC,Addr.add_lit]
    ·cases h
   ·cases h
  ·rename_i n e id off hu
   split at h
   ·rename_i sz qC
    split at h
    ·rename_i hc
     injection h with h;subst h;simp only [AA] at hx;obtain ⟨b,hM,rfl⟩:=hx;refine ⟨.pointer (some ⟨b,off+i.toNat*sz,none⟩),?_,by simp only [AA];exact ⟨b,hM,rfl⟩⟩;simp only [Instr.indexAt,asIntOf,Sem.run_bind,Sem.run_pure,run_underlying hu,Result.andThen_ok,Instr.sureAddr];rw [if_pos hc];simp [Cw qC,Addr.add_lit]
    ·cases h
   ·cases h
  ·rename_i n e cs off hu
   split at h
   ·rename_i sz qC
    split at h
    ·rename_i hc
     injection h with h;subst h;simp only [AA] at hx;obtain ⟨b,o,vs,rfl,h1,h2⟩:=hx;refine ⟨.pointer (some ⟨b,o+off+i.toNat*sz,none⟩),?_,by simp only [AA];exact ⟨b,o,vs,by rw [Nat.add_assoc],h1,h2⟩⟩;simp only [Instr.indexAt,asIntOf,Sem.run_bind,Sem.run_pure,run_underlying hu,Result.andThen_ok,Instr.sureAddr];rw [if_pos hc];simp [Cw qC,Addr.add_lit]
    ·cases h
   ·cases h
  ·cases h
 ·cases h
theorem Wn {t:TypeId} {x i r:AV} (h:BQ P t x i=some r) {xv iv:Value} (hx:AA g x xv) (hi:AA g i iv):∃rv,(Instr.index t xv iv).run P w = .ok rv w∧AA g r rv:=by
 unfold BQ at h
 split at h
 ·rename_i k i
  simp only [AA] at hi;subst hi
  split at h
  ·rename_i s hu
   split at h
   ·rename_i hc
    split at h
    ·rename_i b hb
     injection h with h;subst h;simp only [AA] at hx;subst hx;refine ⟨.int .u8 (b.toNat:Int),?_,by simp only [AA]⟩
     have hg:(ByteArray.mk (List.toArray s))[i.toNat]? = some b:=by
      have p9:=(List.getElem?_eq_some_iff.1 hb)
      obtain ⟨p9,hv⟩:=p9;rw [getElem?_pos (ByteArray.mk (List.toArray s)) i.toNat p9]
      congr 1
     simp only [Instr.index,asIntOf,Sem.run_bind,Sem.run_pure,run_underlying hu,Result.andThen_ok];rw [if_pos hc,hg];rfl
    ·cases h
   ·cases h
  ·rename_i n e cs hu
   split at h
   ·rename_i sz qC
    split at h
    ·rename_i hc
     simp only [AA] at hx;obtain ⟨vs,rfl,hr⟩:=hx;obtain ⟨rv,h1,h2⟩:=RJ (w:=w) h hr;refine ⟨rv,?_,h2⟩;simp only [Instr.index,asIntOf,Sem.run_bind,Sem.run_pure,run_underlying hu,Result.andThen_ok];rw [if_pos hc];simp only [Sem.run_bind,Cw qC,Result.andThen_ok,h1]
    ·cases h
   ·cases h
  ·cases h
 ·cases h
theorem Wo {x r:AV} {i:Nat} (h:BR x i=some r) {xv:Value} (hx:AA g x xv):∃rv,(Instr.extract xv i).run P w = .ok rv w∧AA g r rv:=by
 unfold BR at h
 split at h
 ·simp only [AA] at hx
  obtain ⟨vs,rfl,hr⟩:=hx;obtain ⟨v,hv,qa⟩:=hr.get h;refine ⟨v,?_,qa⟩;have:(List.toArray vs)[i]? = some v:=by simpa using hv
  simp only [Instr.extract,this];rfl
 ·cases h
theorem Wp {x r:AV} {xT t:TypeId} {ok:Bool} (h:EN P x t ok=some r) {xv:Value} (hx:AA g x xv) :
  ∃rv,(Instr.typeAssert xv xT t ok).run P w = .ok rv w∧AA g r rv:=by
 have hf:∀{r:AV} {s d:Option TypeId} {m:String},(if ok=true then (match Ae P t with|some z=>some (AV.tup [z,.bool false])|none=>none) else none)=some r →
   ∃rv,(if ok=true then (do pure (.tuple #[←zeroValue t,.bool false])) else runtimePanic (.typeAssertion s d t m):Sem Value).run P w = .ok rv w∧AA g r rv:=by
  intro r s d m h
  split at h
  ·rename_i qR
   split at h
   ·rename_i z hz
    injection h with h;subst h;obtain ⟨i,zv,hi,sW,hr⟩:=Jk hz;refine ⟨.tuple #[zv,.bool false],?_,by simp only [AA];exact ⟨[zv,.bool false],rfl,by simp only [AB,AA];exact ⟨_,_,rfl,hr g,_,_,rfl,rfl,rfl⟩⟩⟩;simp [qR,zeroValue,Gc hi,sW]
   ·cases h
  ·cases h
 have hh:∀{a r:AV} {v:Value},AA g a v→some (if ok then AV.tup [a,.bool true] else a)=some r→∃rv,(pure (if ok=true then Value.tuple #[v,.bool true] else v):Sem Value).run P w = .ok rv w∧AA g r rv:=by
  intro a r v ha h;injection h with h;subst h;refine ⟨_,rfl,?_⟩;cases ok
  ·simpa using ha
  ·simp only [if_true,AA]
   exact ⟨[v,.bool true],rfl,by simp only [AB,AA];exact ⟨_,_,rfl,ha,_,_,rfl,rfl,rfl⟩⟩
 unfold EN at h;simp only at h
 split at h
 ·rename_i d hu
  simp only [AA] at hx;subst hx;cases d<;>(simp only [Instr.typeAssert,Sem.run_bind,run_underlying hu,Result.andThen_ok];exact hf h)
 ·rename_i want tx v hu
  have hx':=hx;simp only [AA] at hx;obtain ⟨y,rfl,hy⟩:=hx
  split at h
  ·rename_i i hi
   split at h
   ·rename_i hm
    simp only [Instr.typeAssert,Sem.run_bind,run_underlying hu,Result.andThen_ok,Gc hi,hm];exact hh hx' h
   ·rename_i m hm
    simp only [Instr.typeAssert,Sem.run_bind,run_underlying hu,Result.andThen_ok,Gc hi,hm];exact hf h
  ·cases h
 ·rename_i d tx v vU hu
  simp only [AA] at hx;obtain ⟨y,rfl,hy⟩:=hx;have hd:∀want,d ≠ .interface want:=fun want hh=>vU want (by rw [hh])
  split at h
  ·rename_i he
   cases d<;>first
    | (exact absurd rfl (hd _))
    | (simp only [Instr.typeAssert,Sem.run_bind,run_underlying hu,Result.andThen_ok];rw [if_pos he];exact hh hy h)
  ·rename_i he
   cases d<;>first
    | (exact absurd rfl (hd _))
    | (simp only [Instr.typeAssert,Sem.run_bind,run_underlying hu,Result.andThen_ok];rw [if_neg he];exact hf h)
 ·cases h
theorem Wq {t ty:TypeId} {x r:AV} (h:alen P t x=some r) {xv:Value} (hx:AA g x xv) {ts:Array TypeId} {xs:Array Value} (ht:ts[0]? = some t) (qb:xs[0]? = some xv) :
  ∃rv,(Builtin.len_ ts ty xs).run P w = .ok rv w∧AA g r rv:=by
 unfold alen at h
 split at h
 ·rename_i s hu
  simp only [AA] at hx;subst hx;injection h with h;subst h;refine ⟨_,?_,by simp only [AA];rfl⟩;simp only [Builtin.len_,ht,qb,Sem.run_bind,run_underlying hu,Result.andThen_ok];rfl
 ·rename_i e hu
  simp only [AA] at hx;subst hx;injection h with h;subst h;refine ⟨_,?_,by simp only [AA];rfl⟩;simp only [Builtin.len_,ht,qb,Sem.run_bind,run_underlying hu,Result.andThen_ok];rfl
 ·rename_i e hu
  simp only [AA] at hx;obtain ⟨ad,c,rfl⟩:=hx;injection h with h;subst h;refine ⟨_,?_,by simp only [AA];rfl⟩;simp only [Builtin.len_,ht,qb,Sem.run_bind,run_underlying hu,Result.andThen_ok];rfl
 ·rename_i e ow sz n cs hu
  simp only [AA] at hx;obtain ⟨b,o,cap,vs,rfl,_⟩:=hx;injection h with h;subst h;refine ⟨_,?_,by simp only [AA];rfl⟩;simp only [Builtin.len_,ht,qb,Sem.run_bind,run_underlying hu,Result.andThen_ok];rfl
 ·rename_i e id off sz n c hu
  simp only [AA] at hx;obtain ⟨b,_,rfl,_⟩:=hx;injection h with h;subst h;refine ⟨_,?_,by simp only [AA];rfl⟩;simp only [Builtin.len_,ht,qb,Sem.run_bind,run_underlying hu,Result.andThen_ok];rfl
 ·rename_i e id ver sz n hu
  simp only [AA] at hx;obtain ⟨b,cap,rfl,_⟩:=hx;injection h with h;subst h;refine ⟨_,?_,by simp only [AA];rfl⟩;simp only [Builtin.len_,ht,qb,Sem.run_bind,run_underlying hu,Result.andThen_ok];rfl
 ·rename_i n e hu
  injection h with h;subst h;refine ⟨.int .i64 n,?_,by simp only [AA]⟩;simp only [Builtin.len_,ht,qb,Sem.run_bind,run_underlying hu,Result.andThen_ok];rfl
 ·cases h
theorem Wr {t ty:TypeId} {x r:AV} (h:Iy P t x=some r) {xv:Value} (hx:AA g x xv) {ts:Array TypeId} {xs:Array Value} (ht:ts[0]? = some t) (qb:xs[0]? = some xv) :
  ∃rv,(Builtin.cap_ ts ty xs).run P w = .ok rv w∧AA g r rv:=by
 unfold Iy at h
 split at h
 ·rename_i e hu
  simp only [AA] at hx;subst hx;injection h with h;subst h;refine ⟨_,?_,by simp only [AA];rfl⟩;simp only [Builtin.cap_,ht,qb,Sem.run_bind,run_underlying hu,Result.andThen_ok];rfl
 ·rename_i e id off sz n c hu
  simp only [AA] at hx;obtain ⟨b,_,rfl,_⟩:=hx;injection h with h;subst h;refine ⟨_,?_,by simp only [AA];rfl⟩;simp only [Builtin.cap_,ht,qb,Sem.run_bind,run_underlying hu,Result.andThen_ok];rfl
 ·cases h
theorem Ws {x y r:AV} (h:HB x y=some r) {xv yv:Value} (hx:AA g x xv) (hy:AA g y yv) (ts:Array TypeId) (ty:TypeId) :
  ∃rv,(Builtin.max_ ts ty #[xv,yv]).run P w = .ok rv w∧AA g r rv:=by
 unfold HB at h
 split at h
 ·simp only [AA] at hx hy;subst hx;subst hy
  injection h with h;subst h;refine ⟨_,?_,by simp only [AA];rfl⟩;simp [Builtin.max_,Builtin.max2]
 ·cases h
theorem Wu {x y r:AV} (h:IJ x y=some r) {xv yv:Value} (hx:AA g x xv) (hy:AA g y yv) (ts:Array TypeId) (ty:TypeId) :
  ∃rv,(Builtin.min_ ts ty #[xv,yv]).run P w = .ok rv w∧AA g r rv:=by
 unfold IJ at h
 split at h
 ·simp only [AA] at hx hy;subst hx;subst hy
  injection h with h;subst h;refine ⟨_,?_,by simp only [AA];rfl⟩;simp [Builtin.min_,Builtin.min2]
 ·cases h
variable {P:Program} {g:Gh} {H:AH} {w:World}
theorem OC (t u ty e:TypeId) (i:TypeInfo) (z:Value) (d:TypeDesc) (ht:P.underlying t=some (.slice e)) (hu:P.underlying u=some d) (hd:∀k,d ≠ .int k) (hi:P.info? e=some i) (hz:i.zero=some z)
  (base:Option Addr) (sLen sCap m:Nat) (olds news:List Value) (xv:Value)
  (pw:∀w':World,(Builtin.lenOf xv).run P w' = .ok m w') (tL:∀w':World,w'.heap=w.heap→(Builtin.firstCells i.size m xv).run P w' = .ok (List.toArray news) w')
  (qE:∀w':World,w'.heap=w.heap→(Builtin.firstCells i.size sLen (.slice base sLen sCap)).run P w' = .ok (List.toArray olds) w')
  (hg:sCap<sLen+m) (h63:((sLen+m:Nat):Int)≤9223372036854775807) (qo:Builtin.nextslicecap (sLen+m) sCap*i.bytes≤281474976710656) :
  (Builtin.append_ #[t,u] ty #[.slice base sLen sCap,xv]).run P w =
   .ok (.slice (some ⟨w.heap.size,0,none⟩) (sLen+m) (grownCap w (sLen+m) sCap e))
    (w.drew.alloc (.cells (List.toArray (olds++news)++Builtin.zeroCells z.cells (grownCap w (sLen+m) sCap e-(sLen+m))) e)):=by
 have hn:¬(sLen+m≤sCap):=by omega
 have zZ:¬(9223372036854775807<((sLen:Int)+(m:Int))):=by omega
 have za:¬(281474976710656<Builtin.nextslicecap (sLen+m) sCap*i.bytes):=by omega
 have hf:=tL w.drew rfl;have xL:=qE w.drew rfl;simp [Builtin.append_,run_underlying ht,run_underlying hu,sizeOf,typeInfo,zeroValue,hi,hz,pw,hn,zZ,za,Question.forced,hf,xL,newRow,grownCap]
 congr 2
 apply Array.ext';simp [List.append_assoc]
theorem OD (t u ty e:TypeId) (i:TypeInfo) (d:TypeDesc) (ht:P.underlying t=some (.slice e)) (hu:P.underlying u=some d) (hd:∀k,d ≠ .int k) (hi:P.info? e=some i)
  (b sLen sCap m:Nat) (news:List Value) (xv:Value) (cur:Array Value) (el:TypeId) (uS:w.heap[b]? = some (.cells cur el (0,0)))
  (pw:∀w':World,(Builtin.lenOf xv).run P w' = .ok m w') (tL:∀w':World,w'.heap=w.heap→(Builtin.firstCells i.size m xv).run P w' = .ok (List.toArray news) w')
  (h1:∀u∈news,u.oneCell'=true) (qn:sLen+m≤sCap) (qo:sLen*i.size+news.length≤cur.size) :
  (Builtin.append_ #[t,u] ty #[.slice (some ⟨b,0,none⟩) sLen sCap,xv]).run P w =
   .ok (.slice (some ⟨b,0,none⟩) (sLen+m) sCap) (w.setRow b (cur.toList.take (sLen*i.size)++news++cur.toList.drop (sLen*i.size+news.length)).toArray):=by
 have hf:=tL w rfl;have pu:=run_storeCells_at P b (sLen*i.size) el news 0 cur w uS (by simpa using qo) h1;simp only [Nat.add_zero] at pu;simp [Builtin.append_,run_underlying ht,run_underlying hu,sizeOf,typeInfo,hi,pw,qn,hf,Addr.add_lit,pu]
theorem OE (t u ty e:TypeId) (i:TypeInfo) (d:TypeDesc) (ht:P.underlying t=some (.slice e)) (hu:P.underlying u=some d) (hd:∀k,d ≠ .int k) (hi:P.info? e=some i)
  (base:Option Addr) (sLen sCap:Nat) (xv:Value) (pw:∀w':World,(Builtin.lenOf xv).run P w' = .ok 0 w') (tL:∀w':World,w'.heap=w.heap→(Builtin.firstCells i.size 0 xv).run P w' = .ok #[] w') (hc:sLen≤sCap) :
  (Builtin.append_ #[t,u] ty #[.slice base sLen sCap,xv]).run P w = .ok (.slice base sLen sCap) w:=by
 have hf:=tL w rfl;cases base<;>simp [Builtin.append_,run_underlying ht,run_underlying hu,sizeOf,typeInfo,hi,pw,hc,hf,storeCells]
theorem RK (R:Rel g H w) {sz:Nat} {x:AV} {m:Nat} {ys:List AV} (h:E0 H sz x=some (m,ys)) {xv:Value} (hx:AA g x xv) :
  ∃news:List Value,AB g ys news∧news.length=m*sz∧(∀w':World,(Builtin.lenOf xv).run P w' = .ok m w') ∧
   (∀k,k≤m→∀w':World,w'.heap=w.heap→(Builtin.firstCells sz k xv).run P w' = .ok (List.toArray (news.take (k*sz))) w'):=by
 unfold E0 at h
 split at h
 ·injection h with h
  simp only [Prod.mk.injEq] at h;obtain ⟨rfl,rfl⟩:=h;simp only [AA] at hx;subst hx;exact ⟨[],by simp [AB],by simp,fun _=>rfl,fun _ _ _ _=>by simp [Builtin.firstCells]⟩
 ·rename_i ow sz' n cs
  split at h
  ·rename_i qC
   subst qC;injection h with h;simp only [Prod.mk.injEq] at h;obtain ⟨rfl,rfl⟩:=h;simp only [AA] at hx;obtain ⟨b,o,cap,vs,rfl,hr,hh,hl,_⟩:=hx;have ra:vs.length=n*sz':=by rw [hr.length,hl]
   refine ⟨vs,hr,ra,fun _=>rfl,fun k hk w' hw => ?_⟩;have hkm:k*sz'≤n*sz':=Nat.mul_le_mul_right _ hk;refine run_firstCells_some w' sz' k ⟨b,o,none⟩ n cap _ (by simp;omega) (fun j v hj => ?_);rw [Addr.add_lit,D4 (w:=w) (by rw [hw])];rw [List.getElem?_take] at hj
   split at hj
   ·exact R.imm _ _ _ (hh j v hj)
   ·cases hj
  ·cases h
 ·rename_i id off sz' n c
  split at h
  ·rename_i cs hH
   split at h
   ·rename_i hc
    obtain ⟨rfl,qo⟩:=hc;injection h with h;simp only [Prod.mk.injEq] at h;obtain ⟨rfl,rfl⟩:=h;simp only [AA] at hx;obtain ⟨b,hM,rfl,_⟩:=hx;obtain ⟨vs,el,h1,h2,h3⟩:=Hh R hH hM;have ra:=h2.length;have hl:((vs.drop off).take (n*sz')).length=n*sz':=by simp;omega
    refine ⟨(vs.drop off).take (n*sz'),(h2.drop off).take _,hl,fun _=>rfl,fun k hk w' hw => ?_⟩;have hkm:k*sz'≤n*sz':=Nat.mul_le_mul_right _ hk;refine run_firstCells_some w' sz' k ⟨b,off,none⟩ n c _ (by rw [List.length_take,hl];omega) (fun j v hj => ?_);rw [Addr.add_lit,D4 (w:=w) (by rw [hw])];rw [List.getElem?_take] at hj
    split at hj
    ·rw [List.getElem?_take] at hj
     split at hj
     ·rw [List.getElem?_drop] at hj
      have:=h3 _ _ hj
      rwa [Nat.zero_add] at this
     ·cases hj
    ·cases hj
   ·cases h
  ·cases h
 ·rename_i s
  split at h
  ·rename_i qC
   subst qC;injection h with h;simp only [Prod.mk.injEq] at h;obtain ⟨rfl,rfl⟩:=h;simp only [AA] at hx;subst hx;refine ⟨_,RF s,by simp,fun _=>rfl,fun k hk w' hw => ?_⟩;simp only [Builtin.firstCells,Sem.run_pure];rw [RB];simp
  ·cases h
 ·cases h
theorem OF (R:Rel g H w) {sz:Nat} {x:AV} {m:Nat} {ys:List AV} (h:E0 H sz x=some (m,ys)) {xv:Value} (hx:AA g x xv) :
  ∃news:List Value,AB g ys news∧news.length=m*sz∧(∀w':World,(Builtin.lenOf xv).run P w' = .ok m w') ∧
   (∀w':World,w'.heap=w.heap→(Builtin.firstCells sz m xv).run P w' = .ok (List.toArray news) w'):=by
 obtain ⟨news,h1,h2,h3,h4⟩:=RK (P:=P) R h hx;refine ⟨news,h1,h2,h3,fun w' hw => ?_⟩;rw [h4 m (Nat.le_refl _) w' hw,List.take_of_length_le (by omega)]
theorem Wv (R:Rel g H w) {fid:Nat} {t u ty:TypeId} {s x r:AV} {up:Ups} (h:De P H fid t u s x=some (r,up)) {sv xv:Value} (hs:AA g s sv) (hx:AA g x xv)
  (hid:fid<H.length∧H.at fid=none) :
  ∃g' rv w',(Builtin.append_ #[t,u] ty #[sv,xv]).run P w = .ok rv w'∧Rel g' (AQ H up) w'∧AK g H w g' (AQ H up) w'∧AA g' r rv:=by
 obtain ⟨hl,hf⟩:=hid;unfold De at h
 split at h
 ·rename_i e ht
  split at h
  ·rename_i i hi
   split at h
   ·rename_i z hz
    split at h
    ·rename_i hc
     obtain ⟨vV,qC,sM⟩:=hc
     have vW:∃d,P.underlying u=some d∧∀k,d ≠ .int k:=by
      unfold Gb at sM
      by_cases uD:t=u
      ·subst uD;exact ⟨_,ht,by simp⟩
      ·have:(t==u)=false:=by simpa using uD
       rw [this,Bool.false_or] at sM
       split at sM
       ·rename_i h1 h2;exact ⟨_,h1,by simp⟩
       ·cases sM
     obtain ⟨d,hu,hd⟩:=vW
     split at h
     ·rename_i m ys ha
      obtain ⟨news,rD,qr,r8,sK⟩:=OF (P:=P) R ha hx
      split at h
      ·rename_i sJ
       have vX:=I0 rD sJ
       have grow:∀(base:Option Addr) (n cap:Nat) (xs:List AV) (olds:List Value) (id:Nat),AB g xs olds→olds.length=n*i.size→id<H.length →
         (H.at id=none∨∃n0 b0 cap0,H.at id=some (.tok n0)∧g.M id=some (.tok b0 n0 i.size cap0)∧n0<n+m) →
         (∀w':World,w'.heap=w.heap→(Builtin.firstCells i.size n (.slice base n cap)).run P w' = .ok (List.toArray olds) w')→cap<n+m→(n+m)*i.bytes≤140737488355328→n+m≤4611686018427387904 →
         ∃g' rv w',(Builtin.append_ #[t,u] ty #[.slice base n cap,xv]).run P w = .ok rv w'∧Rel g' (H.set id (some (.tok (n+m)))) w'∧AK g H w g' (H.set id (some (.tok (n+m)))) w' ∧
          AA g' (.slice (.tok id) i.size (n+m) (xs++ys)) rv:=by
        intro base n cap xs olds id qb sr uA vY qE uE vZ yY;have qQ:=OC (P:=P) (w:=w) t u ty e i z d ht hu hd hi hz base n cap m olds news xv r8 sK qE uE (by omega) (growslice_fits uE vZ);have uF:=grownCap_ge w (n+m) cap e
        obtain ⟨g',h1,h2,h3,h4⟩:=(R.drew).tok_grow (List.toArray (olds++news)++Builtin.zeroCells z.cells (grownCap w (n+m) cap e-(n+m))) e (olds++news)
         (fun j v hj=>by
          rw [Array.getElem?_append_left (by have:=(List.getElem?_eq_some_iff.1 hj).1;simpa using this)]
          simpa using hj)
         id (n+m) i.size (grownCap w (n+m) cap e) uA (by rw [List.length_append,sr,qr,Nat.add_mul])
         (by simp only [Array.size_append,List.size_toArray,List.length_append,size_zeroCells,vV,sr,qr,←Nat.add_mul];exact Nat.le_of_eq (by congr 1;omega)) uF vY
        refine ⟨g',_,_,qQ,h1,AK.trans R (AK.drew g H w) h2,?_⟩;simp only [AA];refine ⟨w.heap.size,0,_,olds++news,rfl,AB.mono h2.le _ _ (qb.append rD),h4,?_,uF,?_⟩
        ·have e1:=qb.length
         have e2:=rD.length;rw [List.length_append,←e1,←e2,sr,qr,Nat.add_mul]
        ·exact ⟨w.heap.size,n+m,_,h3,Nat.le_refl _,fun _=>⟨rfl,rfl,rfl⟩⟩
       split at h
       ·-- onto nil
        simp only [AA] at hs;subst hs
        split at h
        ·rename_i hm
         subst hm;injection h with h;simp only [Prod.mk.injEq] at h;obtain ⟨rfl,rfl⟩:=h;have ss:news=[]:=List.eq_nil_of_length_eq_zero (by simpa using qr);subst ss;exact ⟨g,_,w,OE (P:=P) t u ty e i d ht hu hd hi none 0 0 xv r8 sK (Nat.le_refl _),R,AK.refl g H w,by simp only [AA]⟩
        ·rename_i hm
         split at h
         ·rename_i hb
          injection h with h;simp only [Prod.mk.injEq] at h;obtain ⟨rfl,rfl⟩:=h;have:=grow none 0 0 [] [] fid (by simp [AB]) (by simp) hl (.inl hf) (fun w' _=>by simp [Builtin.firstCells]) (by omega) (by simpa using hb.1) (by simpa using hb.2);simpa [AQ] using this
         ·cases h
       ·rename_i ow sz n xs
        split at h
        ·rename_i va
         subst va;have xM:=hs;simp only [AA] at hs;obtain ⟨b,o,cap,vs,rfl,hr,hh,qZ,ru,rx⟩:=hs;have ra:vs.length=n*i.size:=by rw [hr.length,qZ]
         have qE:∀w':World,w'.heap=w.heap→(Builtin.firstCells i.size n (.slice (some ⟨b,o,none⟩) n cap)).run P w' = .ok (List.toArray vs) w':=fun w' hw=>by refine run_firstCells_some w' i.size n ⟨b,o,none⟩ n cap vs ra (fun j v hj => ?_);rw [Addr.add_lit,D4 (w:=w) (by rw [hw])];exact R.imm _ _ _ (hh j v hj)
         split at h
         ·rename_i hm
          subst hm;injection h with h;simp only [Prod.mk.injEq] at h;obtain ⟨rfl,rfl⟩:=h;have ss:news=[]:=List.eq_nil_of_length_eq_zero (by simpa using qr);subst ss;exact ⟨g,_,w,OE (P:=P) t u ty e i d ht hu hd hi _ n cap xv r8 sK ru,R,AK.refl g H w,xM⟩
         ·rename_i hm
          split at h
          ·rename_i hb
           split at h
           ·injection h with h
            simp only [Prod.mk.injEq] at h;obtain ⟨rfl,rfl⟩:=h;simp only [EL] at rx;exact grow _ n cap xs vs fid hr ra hl (.inl hf) qE (by omega) hb.1 hb.2
           ·rename_i k
            split at h
            ·rename_i n' hk
             split at h
             ·rename_i ss
              subst ss;injection h with h;simp only [Prod.mk.injEq] at h;obtain ⟨rfl,rfl⟩:=h;obtain ⟨b',n2,cap',hM,pv,rf⟩:=rx;obtain ⟨ge,hM',qa⟩:=R.ent k _ hk (by simp);rw [hM] at hM';injection hM' with hM';subst hM';simp only [CH] at qa;obtain ⟨rfl,zb,⟨cs0,el0,rO,yZ⟩,sU⟩:=qa;obtain ⟨rfl,rfl,rfl⟩:=rf rfl
              have vb:k<H.length:=by
               unfold AH.at at hk;rcases Nat.lt_or_ge k H.length with h|h
               ·exact h
               ·simp [List.getElem?_eq_none h] at hk
              by_cases qn:n'+m≤cap'
              ·have qo:n'*i.size+news.length≤(List.toArray cs0).size:=by
                have:(n'+m)*i.size≤cap'*i.size:=Nat.mul_le_mul_right _ qn;rw [Nat.add_mul] at this;simp only [List.size_toArray];omega
               have qQ:=OD (P:=P) (w:=w) t u ty e i d ht hu hd hi b' n' cap' m news xv (List.toArray cs0) el0 rO r8 sK vX qn qo;obtain ⟨g',q1,q2,q3,q4⟩:=R.tok_room k b' n' m i.size cap' news hk hM qr (by omega) qn (List.toArray cs0) el0 rO qo;refine ⟨g',_,_,qQ,q1,q2,?_⟩;simp only [AA];refine ⟨b',0,cap',vs++news,rfl,AB.mono q2.le _ _ (hr.append rD),?_,?_,qn,?_⟩
               ·refine Gh.has_append (Gh.has_mono q2.le hh) ?_
                rw [Nat.zero_add,ra];exact q4
               ·have e1:=hr.length
                have e2:=rD.length;rw [List.length_append,←e1,←e2,ra,qr,Nat.add_mul]
               ·exact ⟨b',n'+m,cap',q3,Nat.le_refl _,fun _=>⟨rfl,rfl,rfl⟩⟩
              ·exact grow _ n' cap' xs vs k hr ra vb (.inr ⟨n',b',cap',hk,hM,by omega⟩) qE (by omega) hb.1 hb.2
             ·cases h
            ·cases h
           ·cases h
          ·cases h
        ·cases h
       ·rename_i id off sz n c
        split at h
        ·rename_i cs hH
         split at h
         ·rename_i hc
          obtain ⟨rfl,qo⟩:=hc;have xM:=hs;simp only [AA] at hs;obtain ⟨b,hM,rfl,ru⟩:=hs;obtain ⟨vs,el,k1,k2,k3⟩:=Hh R hH hM;have ra:=k2.length;have wX:((vs.drop off).take (n*i.size)).length=n*i.size:=by simp;omega
          have qE:∀w':World,w'.heap=w.heap→(Builtin.firstCells i.size n (.slice (some ⟨b,off,none⟩) n c)).run P w' = .ok (List.toArray ((vs.drop off).take (n*i.size))) w':=fun w' hw=>by
           refine run_firstCells_some w' i.size n ⟨b,off,none⟩ n c _ wX (fun j v hj => ?_);rw [Addr.add_lit,D4 (w:=w) (by rw [hw])];rw [List.getElem?_take] at hj
           split at hj
           ·rw [List.getElem?_drop] at hj
            have:=k3 _ _ hj
            rwa [Nat.zero_add] at this
           ·cases hj
          split at h
          ·rename_i hm
           subst hm;injection h with h;simp only [Prod.mk.injEq] at h;obtain ⟨rfl,rfl⟩:=h;have ss:news=[]:=List.eq_nil_of_length_eq_zero (by simpa using qr);subst ss;exact ⟨g,_,w,OE (P:=P) t u ty e i d ht hu hd hi _ n c xv r8 sK ru,R,AK.refl g H w,xM⟩
          ·rename_i hm
           split at h
           ·rename_i hb
            injection h with h;simp only [Prod.mk.injEq] at h;obtain ⟨rfl,rfl⟩:=h;exact grow _ n c _ _ fid ((k2.drop off).take _) wX hl (.inl hf) qE hb.1 hb.2.1 hb.2.2
           ·cases h
         ·cases h
        ·cases h
       ·cases h
      ·cases h
     ·cases h
    ·cases h
   ·cases h
  ·cases h
 ·cases h
theorem Ab {n:Int} (h0:0≤n) (h:n≤9223372036854775807):IntKind.i64.wrap n=n:=by simp [IntKind.wrap,IntKind.bits,IntKind.signed];omega
theorem Ww (R:Rel g H w) {fid:Nat} {t:TypeId} {x y r:AV} {up:Ups} (h:Ji P fid t x y=some (r,up)) {xv yv:Value} (hx:AA g x xv) (hy:AA g y yv)
  (hid:fid<H.length∧H.at fid=none) (uC:∀t z,Ae P t=some z→z.known=true) :
  ∃g' rv w',(Instr.makeSlice t xv yv).run P w = .ok rv w'∧Rel g' (AQ H up) w'∧AK g H w g' (AQ H up) w'∧AA g' r rv:=by
 obtain ⟨hl,hf⟩:=hid;unfold Ji at h
 split at h
 ·rename_i e k l k' c hu
  simp only [AA] at hx hy;subst hx hy
  split at h
  ·rename_i n z i hn hz hi
   split at h
   ·rename_i hc
    obtain ⟨xG,hnp,qK,hlc,hcb,zc,hib⟩:=hc;injection h with h;simp only [Prod.mk.injEq] at h;obtain ⟨rfl,rfl⟩:=h;obtain ⟨i',zv,hi',sW,hr⟩:=Jk hz;rw [hi] at hi';injection hi' with hi';subst hi';have vS:=HC (hr g) (uC _ z hz);have ut:zv.cells.toList.length=n:=vS.length.trans xG;have vT:=RA vS c.toNat;rw [ut] at vT;obtain ⟨g',h1,h2,h3⟩:=R.alloc_box _ _ e fid hl hf vT;refine ⟨g',.slice (some ⟨w.heap.size,0,none⟩) l.toNat c.toNat,_,?_,h1,h2,?_⟩
    ·have qC:zv.cells.size=n:=by simpa using ut
     have wW:(Array.range (c.toNat*n)).map (fun x=>zv.cells[x % zv.cells.size]!)=List.toArray ((List.range (c.toNat*n)).map fun x=>zv.cells.toList[x % n]!):=by apply Array.ext';simp [qC];intro a _;rw [getElem!_def];cases zv.cells[a % n]? <;> rfl
     have w1:=Ab qK (by omega);have w2:=Ab (show 0≤c by omega) zc
     have t1:¬(281474976710656<(i.bytes:Int)*c):=by have:(i.bytes:Int)*c=c*i.bytes:=Int.mul_comm _ _;omega
     have t2:¬(140737488355328<c.toNat*i.bytes):=by
      have:((c.toNat*i.bytes:Nat):Int)=c*i.bytes:=by rw [Int.natCast_mul,Int.toNat_of_nonneg (by omega)]
      omega
     have t3:¬c<0:=by omega
     have t4:¬l<0:=by omega
     have t5:¬c<l:=by omega
     simp only [Instr.makeSlice,Sem.run_bind,run_underlying hu,Result.andThen_ok,asInt,asIntOf,Sem.run_pure,Gc hi,w1,w2];rw [if_neg (by simp;omega)]
     have qn:(askRoom (c.toNat*i.bytes)).run P w = .ok () w:=by
      unfold askRoom
      split
      ·rename_i hgt
       exact absurd hgt (by show ¬(140737488355328<c.toNat*i.bytes);exact t2)
      ·rfl
     simp only [Sem.run_bind,qn,Result.andThen_ok,Cw hn]
     by_cases qc:c.toNat*n=0
     ·rw [if_pos qc]
      simp only [Sem.run_pure,Result.andThen_ok,Sem.run_bind];rw [qc] at wW ⊢;have xH:∀f:Nat→Value,(Array.range 0).map f=List.toArray []:=fun f=>by apply Array.ext';simp
      rw [xH];simp [newRow]
     ·rw [if_neg qc]
      simp only [Sem.run_pure,Result.andThen_ok,Sem.run_bind,zeroValue,Gc hi,sW,wW];simp [newRow]
    ·simp only [AA]
     exact ⟨_,h3,rfl,by omega⟩
   ·cases h
  ·cases h
 ·cases h
theorem Wy (R:Rel g H w) {t ty:TypeId} {d x r:AV} {up:Ups} (h:Jj P H t d x=some (r,up)) {dv xv:Value} (hd:AA g d dv) (hx:AA g x xv)
  {ts:Array TypeId} {xs:Array Value} (ht:ts[0]? = some t) (h0:xs[0]? = some dv) (h1:xs[1]? = some xv) :
  ∃g' rv w',(Builtin.copy_ ts ty xs).run P w = .ok rv w'∧Rel g' (AQ H up) w'∧AK g H w g' (AQ H up) w'∧AA g' r rv:=by
 unfold Jj at h
 split at h
 ·rename_i e id off sz n c hu
  split at h
  ·rename_i sz' m ys cs qC hc hH
   simp only at h
   split at h
   ·rename_i vR
    obtain ⟨rfl,sJ,qo⟩:=vR;injection h with h;simp only [Prod.mk.injEq] at h;obtain ⟨rfl,rfl⟩:=h;obtain ⟨news,rD,qr,r8,sK⟩:=RK (P:=P) R hc hx;simp only [AA] at hd;obtain ⟨b,hM,rfl,ru⟩:=hd;obtain ⟨vs,el,k1,k2,k3⟩:=Hh R hH hM;have ra:=k2.length;have zd:=sK (min m n) (Nat.min_le_left _ _) w rfl
    have pu:=run_storeCells_at P b off el (news.take (min m n*sz')) 0 (List.toArray vs) w k1 (by
     simp [qr];have:min (min m n*sz') (m*sz')≤min m n*sz':=Nat.min_le_left _ _;have:=k2.length
     omega) (fun u hu=>I0 rD sJ u (List.mem_of_mem_take hu))
    simp only [Nat.add_zero] at pu
    have hw:=R.write_box (w':=w.setRow b (List.take off vs++news.take (min m n*sz')++List.drop (off+(news.take (min m n*sz')).length) vs).toArray)
     (cs:=EM cs off (ys.take (min m n*sz'))) hH hM (setRow_heap w b _ _ el _ k1)
      (by simpa using N7 k2 (rD.take (min m n*sz')) off) (fun k hk=>setRow_other w b k _ hk) (by simp [World.setRow]) rfl rfl rfl
    refine ⟨g,.int .i64 (min m n:Nat),_,?_,hw.1,hw.2,by simp only [AA]⟩;simp only [Builtin.copy_,ht,h0,h1,Sem.run_bind,run_underlying hu,Result.andThen_ok,r8 w,Cw qC];have sX:Nat.min m n=min m n:=rfl;simp only [sX,zd,Result.andThen_ok,pu];rfl
   ·cases h
  ·cases h
 ·cases h
theorem Wz (R:Rel g H w) {fid:Nat} {t u ty:TypeId} {s x r:AV} {up:Ups} (h:F9 P H fid t u s x=some (r,up)) {sv xv:Value} (hs:AA g s sv) (hx:AA g x xv)
  (hid:fid<H.length∧H.at fid=none) :
  ∃g' rv w',(Builtin.append_ #[t,u] ty #[sv,xv]).run P w = .ok rv w'∧Rel g' (AQ H up) w'∧AK g H w g' (AQ H up) w'∧AA g' r rv:=by
 obtain ⟨hl,hf⟩:=hid;unfold F9 at h
 split at h
 ·rename_i e ht
  split at h
  ·rename_i i hi
   split at h
   ·rename_i z hz
    split at h
    ·rename_i hc
     obtain ⟨vV,qC,sM⟩:=hc
     have vW:∃d,P.underlying u=some d∧∀k,d ≠ .int k:=by
      unfold Gb at sM
      by_cases uD:t=u
      ·subst uD;exact ⟨_,ht,by simp⟩
      ·have:(t==u)=false:=by simpa using uD
       rw [this,Bool.false_or] at sM
       split at sM
       ·rename_i h1 h2;exact ⟨_,h1,by simp⟩
       ·cases sM
     obtain ⟨d,hu,hd⟩:=vW
     split at h
     ·rename_i m ys ha
      obtain ⟨news,rD,qr,r8,sK⟩:=OF (P:=P) R ha hx
      split at h
      ·rename_i qf
       obtain ⟨rfl,sJ⟩:=qf;have vX:=I0 rD sJ;have tM:ys.length=i.size:=by rw [←rD.length,qr,Nat.one_mul]
       have grow:∀(base:Option Addr) (n cap:Nat) (xs:List AV) (olds:List Value) (id:Nat),AB g xs olds→olds.length=n*i.size→id<H.length →
         (H.at id=none∨∃n0 b0 cap0,H.at id=some (.tok n0)∧g.M id=some (.tok b0 n0 i.size cap0)∧n0<n+1) →
         (∀w':World,w'.heap=w.heap→(Builtin.firstCells i.size n (.slice base n cap)).run P w' = .ok (List.toArray olds) w')→cap<n+1→(n+1)*i.bytes≤140737488355328→n+1≤4611686018427387904 →
         ∃g' rv w',(Builtin.append_ #[t,u] ty #[.slice base n cap,xv]).run P w = .ok rv w'∧Rel g' (H.set id (some (.loose n ys))) w'∧AK g H w g' (H.set id (some (.loose n ys))) w' ∧
          AA g' (.lsl id i.size n xs) rv:=by
        intro base n cap xs olds id qb sr uA vY qE uE vZ yY;have qQ:=OC (P:=P) (w:=w) t u ty e i z d ht hu hd hi hz base n cap 1 olds news xv r8 sK qE uE (by omega) (growslice_fits uE vZ);have uF:=grownCap_ge w (n+1) cap e;have vc:news.length=i.size:=by rw [qr,Nat.one_mul]
        have uq:(List.toArray (olds++news)++Builtin.zeroCells z.cells (grownCap w (n+1) cap e-(n+1))).size=grownCap w (n+1) cap e*i.size:=by simp only [Array.size_append,List.size_toArray,List.length_append,size_zeroCells,vV,sr,qr,←Nat.add_mul];congr 1;omega
        obtain ⟨g',h1,h2,h3,h4⟩:=(R.drew).row_grow (List.toArray (olds++news)++Builtin.zeroCells z.cells (grownCap w (n+1) cap e-(n+1))) e olds
         (fun j v hj=>by
          have hj2:=(List.getElem?_eq_some_iff.1 hj).1;rw [Array.getElem?_append_left (by simp;omega)];simp only [List.getElem?_toArray];rw [List.getElem?_append_left hj2]
          exact hj)
         id (n+1) i.size (grownCap w (n+1) cap e) uA (.loose n ys) (by simp) (fun g' pv hG=>by
          refine ⟨rfl,uF,tM,⟨(List.toArray (olds++news)++Builtin.zeroCells z.cells (grownCap w (n+1) cap e-(n+1))).toList,e,by rw [Lq],?_,?_⟩,fun j hj => ?_⟩
          ·rw [Array.length_toList,uq];exact Nat.le_refl _
          ·rw [Array.toList_append]
           simp only;rw [List.append_assoc,←sr,List.drop_left,List.take_left' vc];exact AB.mono pv _ _ rD
          ·rw [hG,List.getElem?_eq_none (by omega)]) vY
        refine ⟨g',_,_,qQ,h1,AK.trans R (AK.drew g H w) h2,?_⟩;simp only [AA];exact ⟨w.heap.size,_,olds,rfl,AB.mono h2.le _ _ qb,h4,by rw [←qb.length,sr],uF,w.heap.size,n+1,_,h3,Nat.le_refl _,fun _=>⟨rfl,rfl,rfl⟩⟩
       split at h
       ·simp only [AA] at hs;subst hs
        split at h
        ·rename_i hb
         injection h with h;simp only [Prod.mk.injEq] at h;obtain ⟨rfl,rfl⟩:=h;have:=grow none 0 0 [] [] fid (by simp [AB]) (by simp) hl (.inl hf) (fun w' _=>by simp [Builtin.firstCells]) (by omega) (by simpa using hb) (by decide);simpa [AQ] using this
        ·cases h
       ·rename_i k sz n xs
        split at h
        ·rename_i va
         obtain ⟨rfl,qF,qA⟩:=va;simp only [AA] at hs;obtain ⟨b,o,cap,vs,rfl,hr,hh,qZ,ru,rx⟩:=hs;have ra:vs.length=n*i.size:=by rw [hr.length,qZ]
         have qE:∀w':World,w'.heap=w.heap→(Builtin.firstCells i.size n (.slice (some ⟨b,o,none⟩) n cap)).run P w' = .ok (List.toArray vs) w':=fun w' hw=>by refine run_firstCells_some w' i.size n ⟨b,o,none⟩ n cap vs ra (fun j v hj => ?_);rw [Addr.add_lit,D4 (w:=w) (by rw [hw])];exact R.imm _ _ _ (hh j v hj)
         split at h
         ·rename_i n' hk
          split at h
          ·rename_i ss
           subst ss;injection h with h;simp only [Prod.mk.injEq] at h;obtain ⟨rfl,rfl⟩:=h;obtain ⟨b',n2,cap',hM,pv,rf⟩:=rx;obtain ⟨ge,hM',qa⟩:=R.ent k _ hk (by simp);rw [hM] at hM';injection hM' with hM';subst hM';simp only [CH] at qa;obtain ⟨rfl,zb,⟨cs0,el0,rO,yZ⟩,sU⟩:=qa;obtain ⟨rfl,rfl,rfl⟩:=rf rfl
           have vb:k<H.length:=by
            unfold AH.at at hk;rcases Nat.lt_or_ge k H.length with h|h
            ·exact h
            ·simp [List.getElem?_eq_none h] at hk
           have vc:news.length=i.size:=by rw [qr,Nat.one_mul]
           by_cases qn:n'+1≤cap'
           ·have qo:n'*i.size+news.length≤(List.toArray cs0).size:=by
             have:(n'+1)*i.size≤cap'*i.size:=Nat.mul_le_mul_right _ qn;rw [Nat.add_mul] at this;simp only [List.size_toArray];omega
            have qQ:=OD (P:=P) (w:=w) t u ty e i d ht hu hd hi b' n' cap' 1 news xv (List.toArray cs0) el0 rO r8 sK vX qn qo
            obtain ⟨g',q1,q2,q3,q4⟩:=R.row_room k b' n' 1 i.size cap' news (List.toArray cs0) el0 hk hM qr (by omega) qn [] (by simp) (.loose n' ys) (by simp) (fun g' pv w' hw' hG=>by
             refine ⟨rfl,qn,tM,⟨_,el0,hw',?_,?_⟩,fun j hj=>by rw [hG j hj];simp⟩
             ·simp only [List.size_toArray] at qo
              simp only [List.length_append,List.length_take,List.length_drop];have:min (n'*i.size) cs0.length=n'*i.size:=by omega
              omega
             ·simp only [List.size_toArray] at qo
              have h3:(List.take (n'*i.size) cs0).length=n'*i.size:=by simp;omega
              rw [show (List.toArray cs0).toList=cs0 from rfl,List.append_assoc,List.drop_append_of_le_length (by omega),List.drop_eq_nil_of_le (by omega),List.nil_append,List.take_append_of_le_length (by omega),List.take_of_length_le (by omega)]
              exact AB.mono pv _ _ rD) rO qo
            refine ⟨g',_,_,qQ,q1,q2,?_⟩;simp only [AA];exact ⟨b',cap',vs,rfl,AB.mono q2.le _ _ hr,Gh.has_mono q2.le hh,qZ,qn,b',n'+1,cap',q3,Nat.le_refl _,fun _=>⟨rfl,rfl,rfl⟩⟩
           ·exact grow _ n' cap' xs vs k hr ra vb (.inr ⟨n',b',cap',hk,hM,by omega⟩) qE (by omega) qF qA
          ·cases h
         ·cases h
        ·cases h
       ·cases h
      ·cases h
     ·cases h
    ·cases h
   ·cases h
  ·cases h
 ·cases h
theorem W0 (R:Rel g H w) {fid:Nat} {t u ty:TypeId} {s x r:AV} {up:Ups} (h:Iz P H fid t u s x=some (r,up)) {sv xv:Value} (hs:AA g s sv) (hx:AA g x xv)
  (hid:fid<H.length∧H.at fid=none) :
  ∃g' rv w',(Builtin.append_ #[t,u] ty #[sv,xv]).run P w = .ok rv w'∧Rel g' (AQ H up) w'∧AK g H w g' (AQ H up) w'∧AA g' r rv:=by
 obtain ⟨hl,hf⟩:=hid;unfold Iz at h
 split at h
 ·rename_i e ht
  split at h
  ·rename_i i hi
   split at h
   ·rename_i z hz
    split at h
    ·rename_i hc
     obtain ⟨vV,qC,sM⟩:=hc
     have vW:∃d,P.underlying u=some d∧∀k,d ≠ .int k:=by
      unfold Gb at sM
      by_cases uD:t=u
      ·subst uD;exact ⟨_,ht,by simp⟩
      ·have:(t==u)=false:=by simpa using uD
       rw [this,Bool.false_or] at sM
       split at sM
       ·rename_i h1 h2;exact ⟨_,h1,by simp⟩
       ·cases sM
     obtain ⟨d,hu,hd⟩:=vW
     split at h
     ·rename_i m ys ha
      obtain ⟨news,rD,qr,r8,sK⟩:=OF (P:=P) R ha hx
      split at h
      ·rename_i qf
       obtain ⟨rfl,sJ⟩:=qf;have vX:=I0 rD sJ;have tM:ys.length=i.size:=by rw [←rD.length,qr,Nat.one_mul]
       have vc:news.length=i.size:=by rw [qr,Nat.one_mul]
       have grow:∀(base:Option Addr) (n cap ver:Nat) (xs:List AV) (olds:List Value) (id:Nat),AB g xs olds→olds.length=n*i.size→id<H.length →
         (H.at id=none∨∃e0 n0 b0 cap0,H.at id=some e0∧e0 ≠ .hid∧g.M id=some (.tok b0 n0 i.size cap0)∧n0<ver) →
         (∀w':World,w'.heap=w.heap→(Builtin.firstCells i.size n (.slice base n cap)).run P w' = .ok (List.toArray olds) w')→cap<n+1→(n+1)*i.bytes≤140737488355328→n+1≤4611686018427387904 →
         ∃g' rv w',(Builtin.append_ #[t,u] ty #[.slice base n cap,xv]).run P w = .ok rv w'∧Rel g' (H.set id (some (.stk ver (xs++ys)))) w'∧AK g H w g' (H.set id (some (.stk ver (xs++ys)))) w' ∧
          AA g' (.stk id ver i.size (n+1)) rv:=by
        intro base n cap ver xs olds id qb sr uA vY qE uE vZ yY;have qQ:=OC (P:=P) (w:=w) t u ty e i z d ht hu hd hi hz base n cap 1 olds news xv r8 sK qE uE (by omega) (growslice_fits uE vZ);have uF:=grownCap_ge w (n+1) cap e;have uv:xs.length=n*i.size:=by rw [←qb.length,sr]
        have uq:(List.toArray (olds++news)++Builtin.zeroCells z.cells (grownCap w (n+1) cap e-(n+1))).size=grownCap w (n+1) cap e*i.size:=by simp only [Array.size_append,List.size_toArray,List.length_append,size_zeroCells,vV,sr,qr,←Nat.add_mul];congr 1;omega
        have tZ:(xs++ys).length=(n+1)*i.size:=by rw [List.length_append,uv,tM,Nat.add_mul,Nat.one_mul]
        obtain ⟨g',h1,h2,h3,h4⟩:=(R.drew).row_growE (List.toArray (olds++news)++Builtin.zeroCells z.cells (grownCap w (n+1) cap e-(n+1))) e []
         (fun j v hj=>by cases hj)
         id ver i.size (grownCap w (n+1) cap e) uA (.stk ver (xs++ys)) (by simp) (fun g' pv hG=>by
          refine ⟨rfl,?_,⟨(List.toArray (olds++news)++Builtin.zeroCells z.cells (grownCap w (n+1) cap e-(n+1))).toList,e,by rw [Lq],?_,?_⟩,fun j => ?_⟩
          ·rw [tZ];exact Nat.mul_le_mul_right _ uF
          ·rw [Array.length_toList,uq];exact Nat.le_refl _
          ·rw [Array.toList_append]
           simp only;rw [List.take_left' (by rw [tZ,List.length_append,sr,vc,Nat.add_mul,Nat.one_mul])];exact AB.mono pv _ _ (qb.append rD)
          ·rw [hG];rfl) vY
        refine ⟨g',_,_,qQ,h1,AK.trans R (AK.drew g H w) h2,?_⟩;simp only [AA];exact ⟨w.heap.size,_,rfl,uF,w.heap.size,ver,_,h3,Nat.le_refl _,fun _=>⟨rfl,rfl,rfl⟩⟩
       split at h
       ·simp only [AA] at hs;subst hs
        split at h
        ·rename_i hb
         injection h with h;simp only [Prod.mk.injEq] at h;obtain ⟨rfl,rfl⟩:=h;have:=grow none 0 0 1 [] [] fid (by simp [AB]) (by simp) hl (.inl hf) (fun w' _=>by simp [Builtin.firstCells]) (by omega) (by simpa using hb) (by decide);simpa [AQ] using this
        ·cases h
       ·rename_i k ver sz n
        split at h
        ·rename_i va
         obtain ⟨rfl,qF,qA⟩:=va;simp only [AA] at hs;obtain ⟨b,cap,rfl,ru,rx⟩:=hs
         split at h
         ·rename_i ver' cs hk
          split at h
          ·rename_i ss
           obtain ⟨rfl,zf⟩:=ss;injection h with h;simp only [Prod.mk.injEq] at h;obtain ⟨rfl,rfl⟩:=h;obtain ⟨b',n2,cap',hM,pv,rf⟩:=rx;obtain ⟨ge,hM',qa⟩:=R.ent k _ hk (by simp);rw [hM] at hM';injection hM' with hM';subst hM';simp only [CH] at qa;obtain ⟨rfl,qM,⟨vs0,el0,rO,yZ,rW⟩,sU⟩:=qa;obtain ⟨rfl,rfl,_⟩:=rf rfl
           have vb:k<H.length:=by
            unfold AH.at at hk;rcases Nat.lt_or_ge k H.length with h|h
            ·exact h
            ·simp [List.getElem?_eq_none h] at hk
           have rK:AB g (cs.take (n*i.size)) (vs0.take (n*i.size)):=by
            have:=rW.take (n*i.size)
            rwa [List.take_take,Nat.min_eq_left zf] at this
           have ra:(vs0.take (n*i.size)).length=n*i.size:=by rw [rK.length,List.length_take];omega
           have qE:∀w':World,w'.heap=w.heap→(Builtin.firstCells i.size n (.slice (some ⟨b',0,none⟩) n cap')).run P w' = .ok (List.toArray (vs0.take (n*i.size))) w':=fun w' hw=>by
            refine run_firstCells_some w' i.size n ⟨b',0,none⟩ n cap' _ ra (fun j v hj => ?_);rw [Addr.add_lit,D4 (w:=w) (by rw [hw])];rw [List.getElem?_take] at hj
            split at hj
            ·simp [World.cell?,rO,hj]
            ·cases hj
           by_cases qn:n+1≤cap'
           ·have qo:n*i.size+news.length≤(List.toArray vs0).size:=by
             have:(n+1)*i.size≤cap'*i.size:=Nat.mul_le_mul_right _ qn;rw [Nat.add_mul] at this;simp only [List.size_toArray];omega
            have qQ:=OD (P:=P) (w:=w) t u ty e i d ht hu hd hi b' n cap' 1 news xv (List.toArray vs0) el0 rO r8 sK vX qn qo;simp only [List.size_toArray] at qo
            obtain ⟨g',q1,q2,q3⟩:=R.stk_room (cs:=cs.take (n*i.size)++ys) (us:=(List.toArray vs0).toList.take (n*i.size)++news++(List.toArray vs0).toList.drop (n*i.size+news.length)) hk hM (setRow_heap w b' _ _ el0 _ rO) (by
              simp only [List.length_append,List.length_take,List.length_drop];have:min (n*i.size) vs0.length=n*i.size:=by omega
              omega) (by
              have:(n+1)*i.size≤cap'*i.size:=Nat.mul_le_mul_right _ qn;rw [Nat.add_mul,Nat.one_mul] at this;simp only [List.length_append,List.length_take,tM]
              omega) (by
              have qI:(cs.take (n*i.size)++ys).length=(vs0.take (n*i.size)++news).length:=by simp only [List.length_append,List.length_take,tM,vc];omega
              rw [show (List.toArray vs0).toList=vs0 from rfl,List.take_left' qI.symm]
              exact rK.append rD) (fun k hk=>setRow_other w b' k _ hk) (by simp [World.setRow]) rfl rfl rfl
            refine ⟨g',_,_,qQ,q1,q2,?_⟩;simp only [AA];exact ⟨b',cap',rfl,qn,b',ver'+1,cap',q3,Nat.le_refl _,fun _=>⟨rfl,rfl,rfl⟩⟩
           ·exact grow _ n cap' (ver'+1) _ _ k rK ra vb (.inr ⟨_,ver',b',cap',hk,by simp,hM,by omega⟩) qE (by omega) qF qA
          ·cases h
         ·cases h
        ·cases h
       ·cases h
      ·cases h
     ·cases h
    ·cases h
   ·cases h
  ·cases h
 ·cases h
theorem W1 {E:Env} (R:Rel g H w) {fid:Nat} {t u ty:TypeId} {s x r:AV} {up:Ups} (h:E2 P E H fid t u s x=some (r,up)) {sv xv:Value} (hs:AA g s sv) (hx:AA g x xv)
  (hid:fid<H.length∧H.at fid=none) :
  ∃g' rv w',(Builtin.append_ #[t,u] ty #[sv,xv]).run P w = .ok rv w'∧Rel g' (AQ H up) w'∧AK g H w g' (AQ H up) w'∧AA g' r rv:=by
 unfold E2 at h
 split at h
 ·split at h
  ·exact W0 R h hs hx hid
  ·exact Wz R h hs hx hid
 ·exact Wv R h hs hx hid
variable {P:Program} {g:Gh} {H:AH} {w:World}
theorem W2 {v:Value} {a:AV} (h:BW v=some a):a.known=true:=by
 unfold BW at h
 split at h<;>first|(injection h with h;subst h;rfl)|(cases h)
theorem W3 {v:Value} {a:AV} (h:BP v=some a):a.known=true:=by
 unfold BP at h
 split at h
 ·rename_i cs
  cases hc:BU cs.toList with
  | none=>rw [hc] at h;cases h
  | some aS=>rw [hc] at h;injection h with h;subst h;rfl
 ·exact W2 h
theorem Lu (t:TypeId) (z:AV) (h:Ae P t=some z):z.known=true:=by
 unfold Ae at h
 split at h
 ·split at h
  ·exact W3 h
  ·cases h
 ·cases h
theorem Jl {ρ:Operand→AV} {σ:Operand→Value} (hρ:∀x,AA g (ρ x) (σ x)):∀l:List Operand,AB g (l.map ρ) (l.map σ)
 | []=>by simp [AB]
 | x::l=>by simp only [List.map_cons,AB];exact ⟨_,_,rfl,hρ x,Jl hρ l⟩
theorem RL {ρ:Operand→AV} {σ:Operand→Value} (hρ:∀x,AA g (ρ x) (σ x)) (l:List (Nat × Operand)) :
  AB g ((l.map fun p=>(p.1,ρ p.2)).map (·.2)) ((l.map fun p=>(p.1,σ p.2)).map (·.2)):=by
 have:=Jl hρ (l.map (·.2));simpa [List.map_map,Function.comp_def] using this
theorem OG {ρ:Operand→AV} {σ:Operand→Value} (hρ:∀x,AA g (ρ x) (σ x)) (o:Option Operand):(∀x,o.map ρ=some x→∃v,o.map σ=some v∧AA g x v)∧(o.map ρ=none→o.map σ=none):=by
 cases o with
 | none=>simp
 | some y=>simp;exact hρ y
def OH (P:Program) (g:Gh) (H H':AH) (w:World) (r:AV) (s:Sem Next):Prop :=∃g' nx v w',s.run P w = .ok nx w'∧(nx = .value v∨(nx = .skip∧v=undef))∧Rel g' H' w'∧AK g H w g' H' w'∧AA g' r v
theorem EP (R:Rel g H w) {r:AV} {s:Sem Value} (h:∃rv,s.run P w = .ok rv w∧AA g r rv):OH P g H H w r (do pure (.value (←s))):=by obtain ⟨rv,h1,h2⟩:=h;exact ⟨g,.value rv,rv,w,by rw [Sem.run_bind,h1];rfl,.inl rfl,R,AK.refl g H w,h2⟩
theorem IL {H':AH} {r:AV} {s:Sem Value} (h:∃g' rv w',s.run P w = .ok rv w'∧Rel g' H' w'∧AK g H w g' H' w'∧AA g' r rv):OH P g H H' w r (do pure (.value (←s))):=by obtain ⟨g',rv,w',h1,h2,h3,h4⟩:=h;exact ⟨g',.value rv,rv,w',by rw [Sem.run_bind,h1];rfl,.inl rfl,h2,h3,h4⟩
theorem map_nil {x:Option AV} {r:AV} {u:Ups} (h:x.map (fun a=>(a,([]:Ups)))=some (r,u)):x=some r∧u=[]:=by
 cases x with
 | none=>cases h
 | some a=>simp only [Option.map_some] at h;injection h with h;simp only [Prod.mk.injEq] at h;exact ⟨by rw [h.1],h.2.symm⟩
theorem W5 {ts:Array TypeId} {xs:Array Value} {t u ty:TypeId} {s x:Value} (h1:ts[0]? = some t) (h2:ts[1]? = some u) (h3:xs[0]? = some s) (h4:xs[1]? = some x) :
  Builtin.append_ ts ty xs=Builtin.append_ #[t,u] ty #[s,x]:=by
 unfold Builtin.append_;simp only [h1,h2,h3,h4];rfl
theorem OI (R:Rel g H w) {E:Env} {ρ:Operand→AV} {σ:Operand→Value} (hρ:∀x,AA g (ρ x) (σ x)) {fid:Nat} {o:Oper} (hid:Ao E o.op=true→fid<H.length∧H.at fid=none)
  {r:AV} {u:Ups} (h:aop P E ρ H fid o=some (r,u)):OH P g H (AQ H u) w r (execOp σ o):=by
 obtain ⟨dst,op,ty,pos,after,guard⟩:=o;cases op
 case move x =>simp only [aop] at h;injection h with h;simp only [Prod.mk.injEq] at h;obtain ⟨rfl,rfl⟩:=h;exact ⟨g,_,_,w,rfl,.inl rfl,R,AK.refl g H w,hρ x⟩
 case assign x =>simp only [aop] at h;injection h with h;simp only [Prod.mk.injEq] at h;obtain ⟨rfl,rfl⟩:=h;exact ⟨g,_,_,w,rfl,.inl rfl,R,AK.refl g H w,hρ x⟩
 case pick c a b =>
  simp only [aop] at h
  split at h
  ·rename_i t hc
   injection h with h;simp only [Prod.mk.injEq] at h;obtain ⟨rfl,rfl⟩:=h;have:=hρ c;rw [hc] at this;simp only [AA] at this;refine ⟨g,.value (if t then σ a else σ b),if t then σ a else σ b,w,?_,.inl rfl,R,AK.refl g H w,?_⟩
   ·simp only [execOp,this,asBool,Sem.run_bind,Sem.run_pure,Result.andThen_ok]
   ·cases t
    ·exact hρ b
    ·exact hρ a
  ·cases h
 case alloc t =>
  simp only [aop] at h
  split at h
  ·rename_i z hz
   injection h with h;simp only [Prod.mk.injEq] at h;obtain ⟨rfl,rfl⟩:=h;exact IL (WT R hz (Lu t z hz) (hid rfl).1 (hid rfl).2)
  ·cases h
 case box t x =>
  simp only [aop] at h
  split at h
  ·split at h
   ·rename_i hk
    injection h with h;simp only [Prod.mk.injEq] at h;obtain ⟨rfl,rfl⟩:=h;exact IL (WW R (hρ x) hk)
   ·cases h
  ·rename_i xN
   have hid:=hid (by simp [Ao,xN])
   split at h
   ·rename_i hk
    injection h with h;simp only [Prod.mk.injEq] at h;obtain ⟨rfl,rfl⟩:=h;exact IL (WV R (hρ x) hk hid.1 hid.2)
   ·cases h
 case build t parts =>
  simp only [aop] at h;obtain ⟨h',rfl⟩:=map_nil h;have:=WX (P:=P) (w:=w) h' (pvs:=parts.toList.map fun p=>(p.1,σ p.2)) (by simp [List.map_map,Function.comp_def]) (RL hρ _) (fun z hz=>Lu t z hz);have e:(parts.map fun (p:Nat × Operand)=>(p.1,σ p.2))=List.toArray (parts.toList.map fun p=>(p.1,σ p.2)):=by apply Array.ext';simp
  simp only [execOp];rw [e];exact EP R this
 case buildSlice t len parts =>
  simp only [aop] at h;obtain ⟨h',rfl⟩:=map_nil h;have:=WY (P:=P) R h' (pvs:=parts.toList.map fun p=>(p.1,σ p.2)) (by simp [List.map_map,Function.comp_def]) (RL hρ _) (fun t z hz=>Lu t z hz);have e:(parts.map fun (p:Nat × Operand)=>(p.1,σ p.2))=List.toArray (parts.toList.map fun p=>(p.1,σ p.2)):=by apply Array.ext';simp
  simp only [execOp];rw [e];exact IL this
 case load t a =>simp only [aop] at h;obtain ⟨h',rfl⟩:=map_nil h;exact EP R (Q7 R h' (hρ a))
 case store t a x =>simp only [aop] at h;obtain ⟨rfl,w',h1,h2,h3⟩:=WR R h (hρ a) (hρ x);refine ⟨g,.skip,undef,w',?_,.inr ⟨rfl,rfl⟩,h2,h3,by simp [AV.nothing,AA,AB,undef]⟩;simp only [execOp,Sem.run_bind,h1,Result.andThen_ok];rfl
 case nilCheck x =>
  simp only [aop] at h;obtain ⟨h',rfl⟩:=map_nil h;have hx:=hρ x;refine ⟨g,.value (σ x),σ x,w,?_,.inl rfl,R,AK.refl g H w,?_⟩
  ·simp only [execOp]
   unfold BS at h'
   split at h'
   ·rename_i he;rw [he] at hx;simp only [AA] at hx;obtain ⟨b,_,hx⟩:=hx;rw [hx];rfl
   ·rename_i he;rw [he] at hx;simp only [AA] at hx;obtain ⟨b,o,vs,hx,_⟩:=hx;rw [hx];rfl
   ·rename_i he;rw [he] at hx;simp only [AA] at hx;obtain ⟨fs,cs,hx,_⟩:=hx;rw [hx];rfl
   ·rename_i he;rw [he] at hx;simp only [AA] at hx;obtain ⟨y,hx,_⟩:=hx;rw [hx];rfl
   ·cases h'
  ·unfold BS at h'
   split at h'<;>first|(rename_i he;injection h' with h';subst h';rw [he] at hx;exact hx)|(cases h')
 case binOp op t x y yt =>simp only [aop] at h;obtain ⟨h',rfl⟩:=map_nil h;exact EP R (Wf h' (hρ x) (hρ y))
 case unOp op t x =>simp only [aop] at h;obtain ⟨h',rfl⟩:=map_nil h;exact EP R (Wg h' (hρ x))
 case convert src d x =>simp only [aop] at h;obtain ⟨h',rfl⟩:=map_nil h;exact IL (Wh R h' (hρ x))
 case makeInterface t x =>
  simp only [aop] at h
  split at h
  ·cases h
  ·rename_i d vU hu
   injection h with h;simp only [Prod.mk.injEq] at h;obtain ⟨rfl,rfl⟩:=h;refine EP R ⟨.iface t (σ x),?_,by simp only [AA];exact ⟨_,rfl,hρ x⟩⟩;simp only [Instr.makeInterface,Sem.run_bind,run_underlying hu,Result.andThen_ok];cases d<;>first|rfl|(exact absurd rfl (vU _))
  ·cases h
 case makeFunc fn first captured =>simp only [aop] at h;injection h with h;simp only [Prod.mk.injEq] at h;obtain ⟨rfl,rfl⟩:=h;refine EP R ⟨.func fn (first.map σ) (captured.map σ),rfl,?_⟩;simp only [AA];exact ⟨first.toList.map σ,captured.toList.map σ,by congr 1<;>(apply Array.ext';simp),Jl hρ _,Jl hρ _⟩
 case slice t x lo hi mx =>simp only [aop] at h;obtain ⟨h',rfl⟩:=map_nil h;obtain ⟨a1,a2⟩:=OG hρ lo;obtain ⟨b1,b2⟩:=OG hρ hi;obtain ⟨c1,c2⟩:=OG hρ mx;exact EP R (Wi h' (hρ x) a1 a2 b1 b2 c1 c2)
 case fieldAddr t x f =>simp only [aop] at h;obtain ⟨h',rfl⟩:=map_nil h;exact EP R (Wj h' (hρ x))
 case field t x f =>simp only [aop] at h;obtain ⟨h',rfl⟩:=map_nil h;exact EP R (Wl h' (hρ x))
 case indexAddr t x i =>simp only [aop] at h;obtain ⟨h',rfl⟩:=map_nil h;exact EP R (Wm h' (hρ x) (hρ i))
 case index t x i =>simp only [aop] at h;obtain ⟨h',rfl⟩:=map_nil h;exact EP R (Wn h' (hρ x) (hρ i))
 case typeAssert x t0 t ok =>simp only [aop] at h;obtain ⟨h',rfl⟩:=map_nil h;exact EP R (Wp h' (hρ x))
 case extract x i =>simp only [aop] at h;obtain ⟨h',rfl⟩:=map_nil h;exact EP R (Wo h' (hρ x))
 case makeSlice t x y =>simp only [aop] at h;exact IL (Ww R h (hρ x) (hρ y) (hid rfl) (fun t z hz=>Lu t z hz))
 case call c =>
  obtain ⟨callee,args,argTypes⟩:=c;cases callee with
  | value f=>simp only [aop] at h;cases h
  | invoke x m=>simp only [aop] at h;cases h
  | builtin b =>
   simp only [aop] at h
   split at h
   ·split at h
    ·rename_i t x ht hx
     obtain ⟨h',rfl⟩:=map_nil h;have:=Wq (P:=P) (w:=w) (ty:=ty) h' (hρ x) ht (xs:=args.map σ) (by simp [hx]);exact EP R this
    ·cases h
   ·split at h
    ·rename_i t x ht hx
     obtain ⟨h',rfl⟩:=map_nil h;have:=Wr (P:=P) (w:=w) (ty:=ty) h' (hρ x) ht (xs:=args.map σ) (by simp [hx]);exact EP R this
    ·cases h
   ·split at h
    ·rename_i x y he
     obtain ⟨h',rfl⟩:=map_nil h;have:=Ws (P:=P) (w:=w) h' (hρ x) (hρ y) argTypes ty;have e:args.map σ = #[σ x,σ y]:=by apply Array.ext';simp [he]
     refine EP R ?_
     show ∃rv,(Builtin.max_ argTypes ty (args.map σ)).run P w = .ok rv w∧_
     rw [e];exact this
    ·cases h
   ·split at h
    ·rename_i x y he
     obtain ⟨h',rfl⟩:=map_nil h;have:=Wu (P:=P) (w:=w) h' (hρ x) (hρ y) argTypes ty;have e:args.map σ = #[σ x,σ y]:=by apply Array.ext';simp [he]
     refine EP R ?_
     show ∃rv,(Builtin.min_ argTypes ty (args.map σ)).run P w = .ok rv w∧_
     rw [e];exact this
    ·cases h
   ·split at h
    ·rename_i t d x ht hd hx
     have:=Wy (P:=P) R (ty:=ty) h (hρ d) (hρ x) ht (xs:=args.map σ) (by simp [hd]) (by simp [hx]);exact IL this
    ·cases h
   ·split at h
    ·rename_i t u' s x ht hu hs hx
     have:=W1 (P:=P) R (ty:=ty) h (hρ s) (hρ x) (hid rfl);rw [←W5 (ts:=argTypes) (xs:=args.map σ) ht hu (by simp [hs]) (by simp [hx])] at this;exact IL this
    ·cases h
   ·cases h
 all_goals (simp only [aop] at h;cases h)
theorem RM {E:Env} {ρ:Operand→AV} {fid:Nat} {o:Oper} {r:AV} {u:Ups} (h:aop P E ρ H fid o=some (r,u)) :
  ∀p∈u,(p.1=fid∧Ao E o.op=true)∨∃e,H.at p.1=some e:=by
 obtain ⟨dst,op,ty,pos,after,guard⟩:=o
 have hm:∀{x:Option AV},x.map (fun a=>(a,([]:Ups)))=some (r,u)→∀p∈u,(p.1=fid∧Ao E op=true)∨∃e,H.at p.1=some e:=by intro x h;obtain ⟨_,rfl⟩:=map_nil h;simp
 cases op
 case alloc t =>
  simp only [aop] at h
  split at h
  ·injection h with h;simp only [Prod.mk.injEq] at h;obtain ⟨rfl,rfl⟩:=h;intro p hp;simp only [List.mem_singleton] at hp;subst hp;exact .inl ⟨rfl,rfl⟩
  ·cases h
 case box t x =>
  simp only [aop] at h
  split at h
  ·split at h
   ·injection h with h;simp only [Prod.mk.injEq] at h;obtain ⟨rfl,rfl⟩:=h;simp
   ·cases h
  ·rename_i xN
   split at h
   ·injection h with h;simp only [Prod.mk.injEq] at h;obtain ⟨rfl,rfl⟩:=h;intro p hp;simp only [List.mem_singleton] at hp;subst hp;exact .inl ⟨rfl,by simp [Ao,xN]⟩
   ·cases h
 case store t a x =>
  simp only [aop,DT] at h
  split at h
  ·rename_i id off _
   split at h
   ·rename_i cs n hH hn
    split at h
    ·injection h with h;simp only [Prod.mk.injEq] at h;obtain ⟨rfl,rfl⟩:=h;intro p hp;simp only [List.mem_singleton] at hp;subst hp;exact .inr ⟨_,hH⟩
    ·cases h
   ·cases h
  ·split at h
   ·rename_i hH hn
    split at h
    ·injection h with h;simp only [Prod.mk.injEq] at h;obtain ⟨rfl,rfl⟩:=h;intro p hp;simp only [List.mem_singleton] at hp;subst hp;exact .inr ⟨_,hH⟩
    ·cases h
   ·cases h
  ·cases h
 case makeSlice t x y =>
  simp only [aop,Ji] at h
  repeat' (split at h)
  all_goals first
   | (cases h;done)
   | (injection h with h;simp only [Prod.mk.injEq] at h;obtain ⟨rfl,rfl⟩:=h;intro p hp;simp only [List.mem_singleton] at hp;subst hp;exact .inl ⟨rfl,rfl⟩)
 case move x=>simp only [aop] at h;injection h with h;simp only [Prod.mk.injEq] at h;obtain ⟨rfl,rfl⟩:=h;simp
 case assign x=>simp only [aop] at h;injection h with h;simp only [Prod.mk.injEq] at h;obtain ⟨rfl,rfl⟩:=h;simp
 case pick c a b =>
  simp only [aop] at h
  split at h
  ·injection h with h;simp only [Prod.mk.injEq] at h;obtain ⟨rfl,rfl⟩:=h;simp
  ·cases h
 case makeInterface t x =>
  simp only [aop] at h
  split at h
  ·cases h
  ·injection h with h;simp only [Prod.mk.injEq] at h;obtain ⟨rfl,rfl⟩:=h;simp
  ·cases h
 case makeFunc fn a b=>simp only [aop] at h;injection h with h;simp only [Prod.mk.injEq] at h;obtain ⟨rfl,rfl⟩:=h;simp
 case call c =>
  obtain ⟨callee,args,argTypes⟩:=c;cases callee with
  | value f=>simp only [aop] at h;cases h
  | invoke x m=>simp only [aop] at h;cases h
  | builtin b =>
   simp only [aop] at h
   split at h
   ·split at h
    ·exact hm h
    ·cases h
   ·split at h
    ·exact hm h
    ·cases h
   ·split at h
    ·exact hm h
    ·cases h
   ·split at h
    ·exact hm h
    ·cases h
   ·split at h
    ·simp only [Jj] at h
     repeat' (split at h)
     all_goals first
      | (cases h;done)
      | (injection h with h;simp only [Prod.mk.injEq] at h;obtain ⟨rfl,rfl⟩:=h;intro p hp;simp only [List.mem_singleton] at hp;subst hp;exact .inr ⟨_,by assumption⟩)
    ·cases h
   ·split at h
    ·simp only [E2,Iz,F9,De] at h
     repeat' (split at h)
     all_goals first
      | (cases h;done)
      | (injection h with h;simp only [Prod.mk.injEq] at h;obtain ⟨rfl,rfl⟩:=h;first|(simp;done)|(intro p hp;simp only [List.mem_singleton] at hp;subst hp;exact .inl ⟨rfl,rfl⟩)|(intro p hp;simp only [List.mem_singleton] at hp;subst hp;exact .inr ⟨_,by assumption⟩))
    ·cases h
   ·cases h
 all_goals first
  | (simp only [aop] at h;exact hm h)
  | (simp only [aop] at h;cases h)
end Go.Proofs.Fw
