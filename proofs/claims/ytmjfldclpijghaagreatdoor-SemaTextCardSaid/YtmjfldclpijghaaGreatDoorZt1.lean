/- An evaluator of the program over abstract values: values, heaps, its operations, each of them sound. -/
import Derived.WalkKit
set_option linter.unusedSimpArgs false
set_option linter.unusedVariables false
namespace Go.Proofs.Fw
open Go.RowKit
inductive Own where
 |unk|full|tok (t:Nat)
 deriving DecidableEq,Repr,Inhabited
inductive AV where
 |undef
 |bool (b:Bool)
 |int (k:IntKind) (n:Int)
 |str (s:List UInt8)
 |nilPtr|nilSlice|nilMap|nilFunc|nilIface
 |emp
 |adr (b o:Nat)
 |ptr (id off:Nat)
 |bsl (id off sz n cap:Nat)
 |vptr (cs:List AV) (off:Nat)
 |slice (ow:Own) (sz n:Nat) (cs:List AV)
 |lsl (t sz n:Nat) (cs:List AV)
 |lptr (t sz n:Nat)
 |stk (id ver sz n:Nat)
 |sptr (id ver sz off:Nat)
 |func (fn:Fn) (first captured:List AV)
 |iface (t:TypeId) (v:AV)
 |agg (cs:List AV)
 |tup (vs:List AV)
 deriving Inhabited
inductive CW where
 |box (b:Nat)
 |tok (b n sz cap:Nat)
 deriving DecidableEq
def CW.block:CW→Nat
 |.box b=>b
 |.tok b _ _ _=>b
structure Gh where
 G:Nat→Nat→Option Value
 M:Nat→Option CW
def Gh.has (g:Gh) (b o:Nat) (vs:List Value):Prop:=∀i v,vs[i]? = some v→g.G b (o+i)=some v
def D4 (g:Gh) (ow:Own) (sz n b o cap:Nat):Prop :=
 match ow with
 |.unk=>True
 |.full=>cap=n
 |.tok t=>∃b' n' cap',g.M t=some (.tok b' n' sz cap')∧n≤n'∧(n=n'→b'=b∧cap'=cap∧o=0)
mutual
def AA (g:Gh):AV→Value→Prop
 |.undef,_=>True
 |.bool b,v=>v = .bool b
 |.int k n,v=>v = .int k n
 |.str s,v=>v = .string ⟨s.toArray⟩
 |.nilPtr,v=>v = .pointer none
 |.nilSlice,v=>v = .slice none 0 0
 |.emp,v=>∃a cap,v = .slice a 0 cap
 |.nilMap,v=>v = .map none
 |.nilFunc,v=>v = .nilFunc
 |.adr b o,v=>v = .pointer (some ⟨b,o,none⟩)
 |.nilIface,v=>v = .nilIface
 |.ptr id off,v=>∃b,g.M id=some (.box b)∧v = .pointer (some ⟨b,off,none⟩)
 |.bsl id off _ n cap,v=>∃b,g.M id=some (.box b)∧v = .slice (some ⟨b,off,none⟩) n cap∧n≤cap
 |.vptr cs off,v=>∃b o vs,v = .pointer (some ⟨b,o+off,none⟩)∧AB g cs vs∧g.has b o vs
 |.slice ow sz n cs,v=>∃b o cap vs,v = .slice (some ⟨b,o,none⟩) n cap∧AB g cs vs∧g.has b o vs∧cs.length=n*sz∧n≤cap∧D4 g ow sz n b o cap
 |.lsl t sz n cs,v=>∃b cap vs,v = .slice (some ⟨b,0,none⟩) (n+1) cap∧AB g cs vs∧g.has b 0 vs∧cs.length=n*sz∧n+1≤cap∧D4 g (.tok t) sz (n+1) b 0 cap
 |.lptr t sz n,v=>∃b cap,v = .pointer (some ⟨b,n*sz,none⟩)∧D4 g (.tok t) sz (n+1) b 0 cap
 |.stk id ver sz n,v=>∃b cap,v = .slice (some ⟨b,0,none⟩) n cap∧n≤cap∧D4 g (.tok id) sz ver b 0 cap
 |.sptr id ver sz off,v=>∃b cap,v = .pointer (some ⟨b,off,none⟩)∧D4 g (.tok id) sz ver b 0 cap
 |.func fn fi ca,v=>∃fs cs,v = .func fn (List.toArray fs) (List.toArray cs)∧AB g fi fs∧AB g ca cs
 |.iface t x,v=>∃y,v = .iface t y∧AA g x y
 |.agg cs,v=>∃vs,v = .agg (List.toArray vs)∧AB g cs vs
 |.tup cs,v=>∃vs,v = .tuple (List.toArray vs)∧AB g cs vs
def AB (g:Gh):List AV→List Value→Prop
 |[],vs=>vs=[]
 |a::aS,vs=>∃v ws,vs=v::ws∧AA g a v∧AB g aS ws
end
def CW.le (e e':CW):Prop :=
 match e,e' with
 |.box b,.box b'=>b=b'
 |.tok b n sz cap,.tok b' n' sz' cap'=>sz=sz'∧(n<n'∨(b=b'∧n=n'∧cap=cap'))
 |_,_=>False
theorem CW.le_refl (e:CW):e.le e:=by cases e<;>simp [CW.le]
theorem CW.le_trans {a b c:CW} (h:a.le b) (k:b.le c):a.le c:=by
 cases a<;>cases b<;>cases c<;>simp only [CW.le] at h k ⊢
 ·exact h.trans k
 ·obtain ⟨rfl,h⟩:=h
  obtain ⟨rfl,k⟩:=k;refine ⟨rfl,?_⟩;rcases h with h|⟨rfl,rfl,rfl⟩
  ·rcases k with k|⟨rfl,rfl,rfl⟩
   ·exact .inl (by omega)
   ·exact .inl h
  ·exact k
structure Gh.le (g g':Gh):Prop where
 G:∀b i v,g.G b i=some v→g'.G b i=some v
 M:∀id e,g.M id=some e→∃e',g'.M id=some e'∧e.le e'
theorem Gh.le_refl (g:Gh):g.le g:=⟨fun _ _ _ h=>h,fun _ e h=>⟨e,h,e.le_refl⟩⟩
theorem Gh.le_trans {a b c:Gh} (h:a.le b) (k:b.le c):a.le c :=
 ⟨fun _ _ _ x=>k.G _ _ _ (h.G _ _ _ x),fun _ _ x=>by
  obtain ⟨e1,h1,l1⟩:=h.M _ _ x;obtain ⟨e2,h2,l2⟩:=k.M _ _ h1
  exact ⟨e2,h2,CW.le_trans l1 l2⟩⟩
theorem Gh.has_mono {g g':Gh} (h:g.le g') {b o:Nat} {vs:List Value} (k:g.has b o vs):g'.has b o vs:=fun i v x=>h.G _ _ _ (k i v x)
theorem D4.mono {g g':Gh} (h:g.le g') {ow:Own} {sz n b o cap:Nat} (k:D4 g ow sz n b o cap):D4 g' ow sz n b o cap:=by
 cases ow with
 |unk=>trivial
 |full=>exact k
 |tok t =>
  obtain ⟨b',n',cap',hM,hn,he⟩:=k;obtain ⟨e',hM',hl⟩:=h.M _ _ hM;cases e' with
  |box b=>simp [CW.le] at hl
  |tok b2 n2 sz2 cap2 =>
   simp only [CW.le] at hl;obtain ⟨rfl,hl⟩:=hl;refine ⟨b2,n2,cap2,hM',by omega,fun hh => ?_⟩;rcases hl with hl|⟨rfl,rfl,rfl⟩
   ·omega
   ·exact he hh
mutual
theorem AA.mono {g g':Gh} (h:g.le g'):∀(a:AV) (v:Value),AA g a v→AA g' a v
 |.undef,_,_=>by simp [AA]
 |.bool _,_,k=>by simpa [AA] using k
 |.int _ _,_,k=>by simpa [AA] using k
 |.str _,_,k=>by simpa [AA] using k
 |.nilPtr,_,k=>by simpa [AA] using k
 |.nilSlice,_,k=>by simpa [AA] using k
 |.emp,_,k=>by simpa [AA] using k
 |.nilMap,_,k=>by simpa [AA] using k
 |.nilFunc,_,k=>by simpa [AA] using k
 |.adr _ _,_,k=>by simpa [AA] using k
 |.nilIface,_,k=>by simpa [AA] using k
 |.ptr id off,v,k=>by simp only [AA] at k ⊢;obtain ⟨b,hM,hv⟩:=k;obtain ⟨e',hM',hl⟩:=h.M _ _ hM;cases e'<;>simp only [CW.le] at hl;subst hl;exact ⟨_,hM',hv⟩
 |.bsl id off sz n cap,v,k=>by simp only [AA] at k ⊢;obtain ⟨b,hM,hv⟩:=k;obtain ⟨e',hM',hl⟩:=h.M _ _ hM;cases e'<;>simp only [CW.le] at hl;subst hl;exact ⟨_,hM',hv⟩
 |.vptr cs off,v,k=>by simp only [AA] at k ⊢;obtain ⟨b,o,vs,hv,hl,hh⟩:=k;exact ⟨b,o,vs,hv,AB.mono h _ _ hl,Gh.has_mono h hh⟩
 |.slice ow sz n cs,v,k=>by simp only [AA] at k ⊢;obtain ⟨b,o,cap,vs,hv,hl,hh,h1,h2,h3⟩:=k;exact ⟨b,o,cap,vs,hv,AB.mono h _ _ hl,Gh.has_mono h hh,h1,h2,h3.mono h⟩
 |.lsl t sz n cs,v,k=>by simp only [AA] at k ⊢;obtain ⟨b,cap,vs,hv,hl,hh,h1,h2,h3⟩:=k;exact ⟨b,cap,vs,hv,AB.mono h _ _ hl,Gh.has_mono h hh,h1,h2,h3.mono h⟩
 |.lptr t sz n,v,k=>by simp only [AA] at k ⊢;obtain ⟨b,cap,hv,h3⟩:=k;exact ⟨b,cap,hv,h3.mono h⟩
 |.stk id ver sz n,v,k=>by simp only [AA] at k ⊢;obtain ⟨b,cap,hv,h1,h3⟩:=k;exact ⟨b,cap,hv,h1,h3.mono h⟩
 |.sptr id ver sz off,v,k=>by simp only [AA] at k ⊢;obtain ⟨b,cap,hv,h3⟩:=k;exact ⟨b,cap,hv,h3.mono h⟩
 |.func fn fi ca,v,k=>by simp only [AA] at k ⊢;obtain ⟨fs,cs,hv,h1,h2⟩:=k;exact ⟨fs,cs,hv,AB.mono h _ _ h1,AB.mono h _ _ h2⟩
 |.iface t x,v,k=>by simp only [AA] at k ⊢;obtain ⟨y,hv,h1⟩:=k;exact ⟨y,hv,AA.mono h _ _ h1⟩
 |.agg cs,v,k=>by simp only [AA] at k ⊢;obtain ⟨vs,hv,h1⟩:=k;exact ⟨vs,hv,AB.mono h _ _ h1⟩
 |.tup cs,v,k=>by simp only [AA] at k ⊢;obtain ⟨vs,hv,h1⟩:=k;exact ⟨vs,hv,AB.mono h _ _ h1⟩
theorem AB.mono {g g':Gh} (h:g.le g'):∀(aS:List AV) (vs:List Value),AB g aS vs→AB g' aS vs
 |[],_,k=>by simpa [AB] using k
 |a::aS,vs,k=>by simp only [AB] at k ⊢;obtain ⟨v,ws,hv,h1,h2⟩:=k;exact ⟨v,ws,hv,AA.mono h _ _ h1,AB.mono h _ _ h2⟩
end
theorem AB.length {g:Gh}:∀{aS:List AV} {vs:List Value},AB g aS vs→vs.length=aS.length
 |[],_,h=>by simp only [AB] at h;subst h;rfl
 |_::_,_,h=>by simp only [AB] at h;obtain ⟨v,ws,rfl,_,h2⟩:=h;simp [h2.length]
theorem AB.get {g:Gh}:∀{aS:List AV} {vs:List Value},AB g aS vs→∀{i:Nat} {a:AV},aS[i]? = some a→∃v,vs[i]? = some v∧AA g a v
 |[],_,_,i,a,h=>by simp at h
 |a0::aS,vs,h,i,a,hi=>by
  simp only [AB] at h;obtain ⟨v,ws,rfl,h1,h2⟩:=h;cases i with
  |zero=>simp at hi;subst hi;exact ⟨v,rfl,h1⟩
  |succ i=>simp at hi ⊢;exact h2.get hi
theorem AB.append {g:Gh}:∀{aS bs:List AV} {vs ws:List Value},AB g aS vs→AB g bs ws→AB g (aS++bs) (vs++ws)
 |[],_,_,_,h,k=>by simp only [AB] at h;subst h;simpa using k
 |a::aS,bs,vs,ws,h,k=>by simp only [AB,List.cons_append] at h ⊢;obtain ⟨v,us,rfl,h1,h2⟩:=h;exact ⟨v,us++ws,rfl,h1,h2.append k⟩
theorem AB.drop {g:Gh}:∀{aS:List AV} {vs:List Value},AB g aS vs→∀n,AB g (aS.drop n) (vs.drop n)
 |[],_,h,n=>by simp only [AB] at h;subst h;simp [AB]
 |a::aS,vs,h,n=>by
  cases n with
  |zero=>simpa using h
  |succ n =>simp only [AB] at h;obtain ⟨v,us,rfl,h1,h2⟩:=h;simpa using h2.drop n
theorem AB.take {g:Gh}:∀{aS:List AV} {vs:List Value},AB g aS vs→∀n,AB g (aS.take n) (vs.take n)
 |[],_,h,n=>by simp only [AB] at h;subst h;simp [AB]
 |a::aS,vs,h,n=>by
  cases n with
  |zero=>simp [AB]
  |succ n =>simp only [AB] at h;obtain ⟨v,us,rfl,h1,h2⟩:=h;simp only [List.take_succ_cons,AB];exact ⟨v,_,rfl,h1,h2.take n⟩
theorem AB.set {g:Gh}:∀{aS:List AV} {vs:List Value},AB g aS vs→∀(n:Nat) {a:AV} {v:Value},AA g a v→AB g (aS.set n a) (vs.set n v)
 |[],_,h,n,a,v,k=>by simp only [AB] at h;subst h;simp [AB]
 |a0::aS,vs,h,n,a,v,k=>by
  simp only [AB] at h;obtain ⟨v0,us,rfl,h1,h2⟩:=h;cases n with
  |zero=>simp only [List.set_cons_zero,AB];exact ⟨v,us,rfl,k,h2⟩
  |succ n=>simp only [List.set_cons_succ,AB];exact ⟨v0,_,rfl,h1,h2.set n k⟩
theorem AB.replicate {g:Gh} (n:Nat) {a:AV} {v:Value} (h:AA g a v):AB g (List.replicate n a) (List.replicate n v):=by
 induction n with
 |zero=>simp [AB]
 |succ n ih=>simp only [List.replicate_succ,AB];exact ⟨v,_,rfl,h,ih⟩
theorem AB.getD {g:Gh} {aS:List AV} {vs:List Value} (h:AB g aS vs) (i:Nat) (v0:Value):AA g (aS.getD i .undef) (vs.getD i v0):=by
 rw [List.getD_eq_getElem?_getD,List.getD_eq_getElem?_getD];cases hi:aS[i]? with
 |none=>simp [AA]
 |some a =>obtain ⟨v,hv,hr⟩:=h.get hi;rw [hv];exact hr
theorem Gh.has_drop {g:Gh} {b o:Nat} {vs:List Value} (h:g.has b o vs) (n:Nat):g.has b (o+n) (vs.drop n):=by
 intro i v hi;rw [List.getElem?_drop] at hi;have:=h _ _ hi
 rwa [←Nat.add_assoc] at this
theorem Gh.has_take {g:Gh} {b o:Nat} {vs:List Value} (h:g.has b o vs) (n:Nat):g.has b o (vs.take n):=by
 intro i v hi;rw [List.getElem?_take] at hi
 split at hi
 ·exact h _ _ hi
 ·simp at hi
theorem Gh.has_append {g:Gh} {b o:Nat} {vs ws:List Value} (h:g.has b o vs) (k:g.has b (o+vs.length) ws):g.has b o (vs++ws):=by
 intro i v hi;rw [List.getElem?_append] at hi
 split at hi
 ·exact h _ _ hi
 ·have:=k _ _ hi
  rwa [show o+vs.length+(i-vs.length)=o+i by omega] at this
inductive Ent where
 |box (cs:List AV)
 |tok (n:Nat)
 |loose (n:Nat) (cs:List AV)
 |stk (ver:Nat) (cs:List AV)
 |hid
 deriving Inhabited
abbrev AH:=List (Option Ent)
def AH.at (H:AH) (id:Nat):Option Ent:=(H[id]?).join
def B9 (g:Gh) (w:World):Ent→CW→Prop
 |.hid,_=>True
 |.box cs,.box b=>∃vs el,w.heap[b]? = some (.cells (List.toArray vs) el (0,0))∧AB g cs vs∧∀i,g.G b i=none
 |.loose n cs,.tok b n' sz cap=>n+1=n'∧n+1≤cap∧cs.length=sz∧(∃vs el,w.heap[b]? = some (.cells (List.toArray vs) el (0,0))∧cap*sz≤vs.length∧AB g cs ((vs.drop (n*sz)).take sz))∧∀i,n*sz≤i→g.G b i=none
 |.stk ver cs,.tok b n' sz cap=>ver=n'∧cs.length≤cap*sz∧(∃vs el,w.heap[b]? = some (.cells (List.toArray vs) el (0,0))∧cap*sz≤vs.length∧AB g cs (vs.take cs.length))∧∀i,g.G b i=none
 |.tok n,.tok b n' sz cap=>n=n'∧n≤cap∧(∃vs el,w.heap[b]? = some (.cells (List.toArray vs) el (0,0))∧cap*sz≤vs.length)∧∀i,n*sz≤i→g.G b i=none
 |_,_=>False
structure Rel (g:Gh) (H:AH) (w:World):Prop where
 imm:∀b i v,g.G b i=some v→w.cell? ⟨b,i,none⟩=some v
 free:∀id,H.at id=none→g.M id=none
 ent:∀id e,H.at id=some e→e ≠ .hid→∃ge,g.M id=some ge∧B9 g w e ge
 inj:∀id id' e e',g.M id=some e→g.M id'=some e'→e.block=e'.block→id=id'
 blk:∀id e,g.M id=some e→e.block<w.heap.size
structure AQ (g:Gh) (H:AH) (w:World) (g':Gh) (H':AH) (w':World):Prop where
 le:g.le g'
 hid:∀id,H.at id=some .hid→g'.M id=g.M id∧H'.at id=some .hid
 new:∀id e',g'.M id=some e'→(∃e,g.M id=some e∧e.block=e'.block)∨w.heap.size≤e'.block
 old:∀b,b<w.heap.size→(∀id e ge,H.at id=some e→e ≠ .hid→g.M id=some ge→ge.block≠b)→w'.heap[b]? = w.heap[b]? ∧ ∀i,g'.G b i=g.G b i
 size:w.heap.size≤w'.heap.size
 os:w'.os=w.os
 tape:w'.tape=w.tape
 output:w'.output=w.output
theorem AQ.refl (g:Gh) (H:AH) (w:World):AQ g H w g H w :=⟨g.le_refl,fun _ h=>⟨rfl,h⟩,fun _ e h => .inl ⟨e,h,rfl⟩,fun _ _ _=>⟨rfl,fun _=>rfl⟩,Nat.le_refl _,rfl,rfl,rfl⟩
theorem AQ.trans {g g1 g2:Gh} {H H1 H2:AH} {w w1 w2:World} (R:Rel g H w) (p:AQ g H w g1 H1 w1) (q:AQ g1 H1 w1 g2 H2 w2):AQ g H w g2 H2 w2 where
 le:=Gh.le_trans p.le q.le
 hid:=fun id h=>by obtain ⟨h1,h2⟩:=p.hid id h;obtain ⟨h3,h4⟩:=q.hid id h2;exact ⟨h3.trans h1,h4⟩
 new:=fun id e h=>by
  rcases q.new id e h with ⟨e1,h1,hb⟩|h1
  ·rcases p.new id e1 h1 with ⟨e0,h0,pr⟩|h0
   ·exact .inl ⟨e0,h0,pr.trans hb⟩
   ·exact .inr (hb ▸ h0)
  ·exact .inr (Nat.le_trans p.size h1)
 old:=fun b hb hn=>by
  obtain ⟨h1,h2⟩:=p.old b hb hn
  have:=q.old b (Nat.lt_of_lt_of_le hb p.size) (fun id e ge he oL hM qY=>by
   rcases p.new id ge hM with ⟨e0,h0,pr⟩|h0
   ·cases hH:H.at id with
    |none=>rw [R.free id hH] at h0;cases h0
    |some e' =>
     by_cases hh:e' = .hid
     ·subst hh
      have:=(p.hid id hH).2;rw [he] at this;injection this with this;exact oL this
     ·exact hn id e' e0 hH hh h0 (pr.trans qY)
   ·omega)
  exact ⟨this.1.trans h1,fun i=>(this.2 i).trans (h2 i)⟩
 size:=Nat.le_trans p.size q.size
 os:=q.os.trans p.os
 tape:=q.tape.trans p.tape
 output:=q.output.trans p.output
theorem B9.keep {g g':Gh} {w w':World} {e:Ent} {ge:CW} (oO:g.le g') (hb:w'.heap[ge.block]? = w.heap[ge.block]?) (hG:∀i,g'.G ge.block i=g.G ge.block i)
  (h:B9 g w e ge):B9 g' w' e ge:=by
 cases e with
 |hid=>trivial
 |box cs =>
  cases ge with
  |box b =>obtain ⟨vs,el,h1,h2,h3⟩:=h;simp only [CW.block] at hb hG;exact ⟨vs,el,hb.trans h1,AB.mono oO _ _ h2,fun i=>(hG i).trans (h3 i)⟩
  |tok=>exact h
 |tok n =>
  cases ge with
  |box=>exact h
  |tok b n' sz cap =>simp only [B9,CW.block] at h hb hG ⊢;obtain ⟨h1,h2,⟨vs,el,h3,h4⟩,h5⟩:=h;exact ⟨h1,h2,⟨vs,el,hb.trans h3,h4⟩,fun i hi=>(hG i).trans (h5 i hi)⟩
 |stk n cs =>
  cases ge with
  |box=>exact h
  |tok b n' sz cap =>simp only [B9,CW.block] at h hb hG ⊢;obtain ⟨h1,h2,⟨vs,el,h3,h4,h6⟩,h5⟩:=h;exact ⟨h1,h2,⟨vs,el,hb.trans h3,h4,AB.mono oO _ _ h6⟩,fun i=>(hG i).trans (h5 i)⟩
 |loose n cs =>
  cases ge with
  |box=>exact h
  |tok b n' sz cap =>simp only [B9,CW.block] at h hb hG ⊢;obtain ⟨h1,h2,h0,⟨vs,el,h3,h4,h6⟩,h5⟩:=h;exact ⟨h1,h2,h0,⟨vs,el,hb.trans h3,h4,AB.mono oO _ _ h6⟩,fun i hi=>(hG i).trans (h5 i hi)⟩
theorem Rel.lt {g:Gh} {H:AH} {w:World} (R:Rel g H w) {b i:Nat} {v:Value} (h:g.G b i=some v):b<w.heap.size :=World.block_lt_of_cell? w ⟨b,i,none⟩ (R.imm b i v h)
theorem Ek {w w':World} {b i:Nat} (h:w'.heap[b]? = w.heap[b]?):w'.cell? ⟨b,i,none⟩=w.cell? ⟨b,i,none⟩:=by simp only [World.cell?,h]
theorem Rel.same {g:Gh} {H:AH} {w w':World} (R:Rel g H w) (h:w'.heap=w.heap):Rel g H w' where
 imm:=fun b i v hh=>(Ek (by rw [h])).trans (R.imm b i v hh)
 free:=R.free
 ent:=fun id e he oL=>by obtain ⟨ge,hM,hr⟩:=R.ent id e he oL;exact ⟨ge,hM,hr.keep (Gh.le_refl g) (by rw [h]) (fun _=>rfl)⟩
 inj:=R.inj
 blk:=fun id e he=>by rw [h];exact R.blk id e he
theorem AQ.same {g:Gh} {H:AH} {w w':World} (h:w'.heap=w.heap) (ho:w'.os=w.os) (ht:w'.tape=w.tape) (hu:w'.output=w.output):AQ g H w g H w' :=⟨g.le_refl,fun _ h=>⟨rfl,h⟩,fun _ e h => .inl ⟨e,h,rfl⟩,fun _ _ _=>⟨by rw [h],fun _=>rfl⟩,by rw [h];exact Nat.le_refl _,ho,ht,hu⟩
def Gh.row (g:Gh) (b:Nat) (vs:List Value):Gh:={g with G:=fun b' i=>if b'=b then vs[i]? else g.G b' i}
theorem Rel.alloc_row {g:Gh} {H:AH} {w:World} (R:Rel g H w) (c:Array Value) (el:TypeId) (fr:Nat × Nat) (vs:List Value) (hv:∀(i:Nat) (v:Value),vs[i]? = some v→c[i]? = some v) :
  Rel (g.row w.heap.size vs) H (w.alloc (.cells c el fr))∧AQ g H w (g.row w.heap.size vs) H (w.alloc (.cells c el fr))∧(g.row w.heap.size vs).has w.heap.size 0 vs:=by
 have oY:∀b,b<w.heap.size→(w.alloc (.cells c el fr)).heap[b]? = w.heap[b]? := fun b hb=>Below.heap_alloc w _ b hb
 have oO:g.le (g.row w.heap.size vs):=⟨fun b i v h=>by
   have:=R.lt h;simp only [Gh.row];rw [if_neg (by omega)]
   exact h,fun id e h=>⟨e,h,e.le_refl⟩⟩
 refine ⟨⟨?_,R.free,?_,R.inj,?_⟩,⟨oO,fun _ h=>⟨rfl,h⟩,fun _ e h => .inl ⟨e,h,rfl⟩,?_,by simp,rfl,rfl,rfl⟩,?_⟩
 ·intro b i v h
  simp only [Gh.row] at h
  split at h
  ·subst b
   have:=hv i v h;have hh:(w.alloc (.cells c el fr)).heap[w.heap.size]? = some (.cells c el fr):=by show (w.heap.push _)[w.heap.size]? = _;simp
   simp only [World.cell?,hh];exact this
  ·exact (Ek (oY b (R.lt h))).trans (R.imm b i v h)
 ·intro id e he oL
  obtain ⟨ge,hM,hr⟩:=R.ent id e he oL;have hb:=R.blk id ge hM;exact ⟨ge,hM,hr.keep oO (oY _ hb) (fun i=>by simp only [Gh.row];rw [if_neg (by omega)])⟩
 ·intro id e he
  have:=R.blk id e he;simp;omega
 ·intro b hb _
  exact ⟨oY b hb,fun i=>by simp only [Gh.row];rw [if_neg (by omega)]⟩
 ·intro i v h
  simp [Gh.row,h]
theorem AH.at_set {H:AH} {id j:Nat} {e:Option Ent}:AH.at (H.set id e) j=if id=j∧j<H.length then e else H.at j:=by
 unfold AH.at;rw [List.getElem?_set]
 by_cases h:id=j
 ·subst h
  by_cases hl:id<H.length
  ·simp [hl]
  ·simp [hl]
 ·simp [h]
theorem Rel.alloc_box {g:Gh} {H:AH} {w:World} (R:Rel g H w) (vs:List Value) (cs:List AV) (el:TypeId) (id:Nat) (hid:id<H.length) (hf:H.at id=none) (hr:AB g cs vs) :
  ∃g',Rel g' (H.set id (some (.box cs))) (w.alloc (.cells (List.toArray vs) el))∧AQ g H w g' (H.set id (some (.box cs))) (w.alloc (.cells (List.toArray vs) el))∧g'.M id=some (.box w.heap.size):=by
 have oY:∀b,b<w.heap.size→(w.alloc (.cells (List.toArray vs) el)).heap[b]? = w.heap[b]? := fun b hb=>Below.heap_alloc w _ b hb
 have hMf:=R.free id hf
 let g':Gh:={g with M:=fun j=>if j=id then some (.box w.heap.size) else g.M j}
 have hM:∀j,j≠id→g'.M j=g.M j:=fun j hj=>by simp [g',hj]
 have o4:g'.M id=some (.box w.heap.size):=by simp [g']
 have oO:g.le g':=⟨fun _ _ _ h=>h,fun j e h=>⟨e,by
   rw [hM j (fun hh=>by subst hh;rw [hMf] at h;cases h)]
   exact h,e.le_refl⟩⟩
 refine ⟨g',⟨?_,?_,?_,?_,?_⟩,⟨oO,?_,?_,?_,by simp,rfl,rfl,rfl⟩,o4⟩
 ·exact fun b i v h=>(Ek (oY b (R.lt h))).trans (R.imm b i v h)
 ·intro j hj
  rw [AH.at_set] at hj
  by_cases oN:j=id
  ·subst oN;simp [hid] at hj
  ·rw [if_neg (fun h=>oN h.1.symm)] at hj
   rw [hM j oN];exact R.free j hj
 ·intro j e he oL
  rw [AH.at_set] at he
  by_cases oN:j=id
  ·subst oN
   simp [hid] at he;subst he;refine ⟨_,o4,vs,el,by show (w.heap.push _)[w.heap.size]? = _;simp,AB.mono oO _ _ hr,fun i => ?_⟩;cases hG:g'.G w.heap.size i with
   |none=>rfl
   |some v=>have:=R.lt (show g.G w.heap.size i=some v from hG);omega
  ·rw [if_neg (fun h=>oN h.1.symm)] at he
   obtain ⟨ge,py,hr⟩:=R.ent j e he oL;exact ⟨ge,by rw [hM j oN];exact py,hr.keep oO (oY _ (R.blk j ge py)) (fun _=>rfl)⟩
 ·intro j k e e' hj hk hb
  by_cases oN:j=id
  ·by_cases pG:k=id
   ·rw [oN,pG]
   ·rw [oN,o4] at hj
    rw [hM k pG] at hk;injection hj with hj;subst hj;have:=R.blk k e' hk;have hb':w.heap.size=e'.block:=hb;omega
  ·rw [hM j oN] at hj
   by_cases pG:k=id
   ·rw [pG,o4] at hk
    injection hk with hk;subst hk;have:=R.blk j e hj;have hb':e.block=w.heap.size:=hb;omega
   ·rw [hM k pG] at hk
    exact R.inj j k e e' hj hk hb
 ·intro j e hj
  simp only [World.size_alloc]
  by_cases oN:j=id
  ·rw [oN,o4] at hj
   injection hj with hj;subst hj;simp [CW.block]
  ·rw [hM j oN] at hj
   have:=R.blk j e hj;omega
 ·intro j hj
  have oN:j≠id:=fun h=>by subst h;rw [hf] at hj;cases hj
  refine ⟨hM j oN,?_⟩;rw [AH.at_set,if_neg (fun h=>oN h.1.symm)];exact hj
 ·intro j e hj
  by_cases oN:j=id
  ·rw [oN,o4] at hj
   injection hj with hj;subst hj;exact .inr (Nat.le_refl _)
  ·rw [hM j oN] at hj
   exact .inl ⟨e,hj,rfl⟩
 ·exact fun b hb _=>⟨oY b hb,fun _=>rfl⟩
theorem Rel.write_box {g:Gh} {H:AH} {w w':World} (R:Rel g H w) {id b:Nat} {cs0 cs:List AV} {vs:List Value} {el:TypeId} (hid:H.at id=some (.box cs0)) (hM:g.M id=some (.box b))
  (hb:w'.heap[b]? = some (.cells (List.toArray vs) el (0,0))) (hr:AB g cs vs) (oY:∀k,k≠b→w'.heap[k]? = w.heap[k]?) (hs:w'.heap.size=w.heap.size)
  (ho:w'.os=w.os) (ht:w'.tape=w.tape) (hu:w'.output=w.output) :
  Rel g (H.set id (some (.box cs))) w'∧AQ g H w g (H.set id (some (.box cs))) w':=by
 have hG:∀i,g.G b i=none:=by obtain ⟨ge,hM',h⟩:=R.ent id _ hid (by simp);rw [hM] at hM';injection hM' with hM';subst hM';obtain ⟨_,_,_,_,h3⟩:=h;exact h3
 have hl:id<H.length:=by
  unfold AH.at at hid;rcases Nat.lt_or_ge id H.length with h|h
  ·exact h
  ·simp [List.getElem?_eq_none h] at hid
 refine ⟨⟨?_,?_,?_,R.inj,?_⟩,⟨g.le_refl,?_,fun _ e h => .inl ⟨e,h,rfl⟩,?_,by rw [hs];exact Nat.le_refl _,ho,ht,hu⟩⟩
 ·intro k i v h
  have:k≠b:=fun hk=>by subst hk;rw [hG] at h;cases h
  exact (Ek (oY k this)).trans (R.imm k i v h)
 ·intro j hj
  rw [AH.at_set] at hj
  by_cases oN:id=j
  ·subst oN;simp [hl] at hj
  ·rw [if_neg (fun h=>oN h.1)] at hj
   exact R.free j hj
 ·intro j e he oL
  rw [AH.at_set] at he
  by_cases oN:id=j
  ·subst oN
   simp [hl] at he;subst he;exact ⟨_,hM,vs,el,hb,hr,hG⟩
  ·rw [if_neg (fun h=>oN h.1)] at he
   obtain ⟨ge,py,hr⟩:=R.ent j e he oL;refine ⟨ge,py,hr.keep g.le_refl (oY _ fun hk=>oN ?_) (fun _=>rfl)⟩;exact R.inj id j (.box b) ge hM py hk.symm
 ·intro j e he
  rw [hs];exact R.blk j e he
 ·intro j hj
  have oN:id≠j:=fun h=>by subst h;rw [hid] at hj;cases hj
  refine ⟨rfl,?_⟩;rw [AH.at_set,if_neg (fun h=>oN h.1)];exact hj
 ·intro k hk hn
  refine ⟨oY k fun u6 => ?_,fun _=>rfl⟩;exact hn id _ _ hid (by simp) hM (by simp [CW.block,u6])
theorem Rel.write_loose {g:Gh} {H:AH} {w w':World} (R:Rel g H w) {id b n sz cap:Nat} {ys cs:List AV} {us:List Value} {el:TypeId} (hid:H.at id=some (.loose n ys)) (hM:g.M id=some (.tok b (n+1) sz cap))
  (hb:w'.heap[b]? = some (.cells (List.toArray us) el (0,0))) (pY:∀i,i<n*sz→us[i]? = w.cell? ⟨b,i,none⟩) (qQ:n+1≤cap) (oq:cs.length=sz) (oT:cap*sz≤us.length) (hr:AB g cs ((us.drop (n*sz)).take sz))
  (oY:∀k,k≠b→w'.heap[k]? = w.heap[k]?) (hs:w'.heap.size=w.heap.size) (ho:w'.os=w.os) (ht:w'.tape=w.tape) (hu:w'.output=w.output) :
  Rel g (H.set id (some (.loose n cs))) w'∧AQ g H w g (H.set id (some (.loose n cs))) w':=by
 have hG:∀i,n*sz≤i→g.G b i=none:=by obtain ⟨ge,hM',h⟩:=R.ent id _ hid (by simp);rw [hM] at hM';injection hM' with hM';subst hM';exact h.2.2.2.2
 have hl:id<H.length:=by
  unfold AH.at at hid;rcases Nat.lt_or_ge id H.length with h|h
  ·exact h
  ·simp [List.getElem?_eq_none h] at hid
 refine ⟨⟨?_,?_,?_,R.inj,?_⟩,⟨g.le_refl,?_,fun _ e h => .inl ⟨e,h,rfl⟩,?_,by rw [hs];exact Nat.le_refl _,ho,ht,hu⟩⟩
 ·intro k i v h
  by_cases hk:k=b
  ·subst hk
   have hi:i<n*sz:=by
    rcases Nat.lt_or_ge i (n*sz) with hi|hi
    ·exact hi
    ·rw [hG i hi] at h;cases h
   have h2:=R.imm _ i v h;rw [←h2,←pY i hi];simp only [World.cell?,hb];simp
  ·exact (Ek (oY k hk)).trans (R.imm k i v h)
 ·intro j hj
  rw [AH.at_set] at hj
  by_cases oN:id=j
  ·subst oN;simp [hl] at hj
  ·rw [if_neg (fun h=>oN h.1)] at hj
   exact R.free j hj
 ·intro j e he oL
  rw [AH.at_set] at he
  by_cases oN:id=j
  ·subst oN
   simp [hl] at he;subst he;exact ⟨_,hM,rfl,qQ,oq,⟨us,el,hb,oT,hr⟩,hG⟩
  ·rw [if_neg (fun h=>oN h.1)] at he
   obtain ⟨ge,py,hr⟩:=R.ent j e he oL;refine ⟨ge,py,hr.keep g.le_refl (oY _ fun hk=>oN ?_) (fun _=>rfl)⟩;exact R.inj id j _ ge hM py hk.symm
 ·intro j e he
  rw [hs];exact R.blk j e he
 ·intro j hj
  have oN:id≠j:=fun h=>by subst h;rw [hid] at hj;cases hj
  refine ⟨rfl,?_⟩;rw [AH.at_set,if_neg (fun h=>oN h.1)];exact hj
 ·intro k hk hn
  refine ⟨oY k fun u6 => ?_,fun _=>rfl⟩;exact hn id _ _ hid (by simp) hM (by simp [CW.block,u6])
theorem Lk (w:World) (o:Obj):(w.alloc o).heap[w.heap.size]? = some o:=by
 show (w.heap.push o)[w.heap.size]? = _
 simp
theorem Rel.drew {g:Gh} {H:AH} {w:World} (R:Rel g H w):Rel g H w.drew:=R.same rfl
theorem AQ.drew (g:Gh) (H:AH) (w:World):AQ g H w g H w.drew:=AQ.same rfl rfl rfl rfl
theorem Rel.row_growE {g:Gh} {H:AH} {w:World} (R:Rel g H w) (c:Array Value) (el:TypeId) (vs:List Value) (hv:∀(i:Nat) (v:Value),vs[i]? = some v→c[i]? = some v)
  (id N sz cap:Nat) (hid:id<H.length) (e:Ent) (u9:e ≠ .hid) (hE:∀g':Gh,g.le g'→(∀i,g'.G w.heap.size i=vs[i]?)→B9 g' (w.alloc (.cells c el)) e (.tok w.heap.size N sz cap))
  (hf:H.at id=none∨∃e0 n0 b0 cap0,H.at id=some e0∧e0 ≠ .hid∧g.M id=some (.tok b0 n0 sz cap0)∧n0<N) :
  ∃g',Rel g' (H.set id (some e)) (w.alloc (.cells c el))∧AQ g H w g' (H.set id (some e)) (w.alloc (.cells c el)) ∧
   g'.M id=some (.tok w.heap.size N sz cap)∧g'.has w.heap.size 0 vs:=by
 have oY:∀b,b<w.heap.size→(w.alloc (.cells c el)).heap[b]? = w.heap[b]? := fun b hb=>Below.heap_alloc w _ b hb
 let g':Gh:={G:=(g.row w.heap.size vs).G,M:=fun j=>if j=id then some (.tok w.heap.size N sz cap) else g.M j}
 have hM:∀j,j≠id→g'.M j=g.M j:=fun j hj=>by simp [g',hj]
 have o4:g'.M id=some (.tok w.heap.size N sz cap):=by simp [g']
 have pz:∀b i,b<w.heap.size→g'.G b i=g.G b i:=fun b i hb=>by
  show (if b=w.heap.size then vs[i]? else g.G b i)=_
  rw [if_neg (by omega)]
 have qR:∀i,g'.G w.heap.size i=vs[i]? := fun i=>by
  show (if w.heap.size=w.heap.size then vs[i]? else _)=_
  rw [if_pos rfl]
 have oO:g.le g':=⟨fun b i v h=>by rw [pz b i (R.lt h)];exact h,fun j e h=>by
  by_cases oN:j=id
  ·subst oN
   rcases hf with hf|⟨e0,n0,b0,cap0,_,_,h1,h2⟩
   ·rw [R.free j hf] at h;cases h
   ·rw [h1] at h
    injection h with h;subst h;exact ⟨_,o4,rfl,.inl h2⟩
  ·exact ⟨e,by rw [hM j oN];exact h,e.le_refl⟩⟩
 refine ⟨g',⟨?_,?_,?_,?_,?_⟩,⟨oO,?_,?_,?_,by simp,rfl,rfl,rfl⟩,o4,?_⟩
 ·intro b i v h
  by_cases hb:b=w.heap.size
  ·subst hb
   rw [qR] at h;have:=hv i v h;simp only [World.cell?,Lk];exact this
  ·have h':g.G b i=some v:=by
    have:g'.G b i=g.G b i:=by show (if b=w.heap.size then vs[i]? else g.G b i)=_;rw [if_neg hb]
    rw [←this];exact h
   exact (Ek (oY b (R.lt h'))).trans (R.imm b i v h')
 ·intro j hj
  rw [AH.at_set] at hj
  by_cases oN:j=id
  ·subst oN;simp [hid] at hj
  ·rw [if_neg (fun h=>oN h.1.symm)] at hj
   rw [hM j oN];exact R.free j hj
 ·intro j e1 he tQ
  rw [AH.at_set] at he
  by_cases oN:j=id
  ·subst oN
   simp [hid] at he;subst he;exact ⟨_,o4,hE g' oO qR⟩
  ·rw [if_neg (fun h=>oN h.1.symm)] at he
   obtain ⟨ge,py,hr⟩:=R.ent j e1 he tQ;have hb:=R.blk j ge py;exact ⟨ge,by rw [hM j oN];exact py,hr.keep oO (oY _ hb) (fun i=>pz _ i hb)⟩
 ·intro j k e e' hj hk hb
  by_cases oN:j=id
  ·by_cases pG:k=id
   ·rw [oN,pG]
   ·rw [oN,o4] at hj
    rw [hM k pG] at hk;injection hj with hj;subst hj;have:=R.blk k e' hk;have hb':w.heap.size=e'.block:=hb;omega
  ·rw [hM j oN] at hj
   by_cases pG:k=id
   ·rw [pG,o4] at hk
    injection hk with hk;subst hk;have:=R.blk j e hj;have hb':e.block=w.heap.size:=hb;omega
   ·rw [hM k pG] at hk
    exact R.inj j k e e' hj hk hb
 ·intro j e hj
  simp only [World.size_alloc]
  by_cases oN:j=id
  ·rw [oN,o4] at hj
   injection hj with hj;subst hj;simp [CW.block]
  ·rw [hM j oN] at hj
   have:=R.blk j e hj;omega
 ·intro j hj
  have oN:j≠id:=fun h=>by
   subst h;rcases hf with hf|⟨e0,n0,b0,cap0,hf,rM,_,_⟩
   ·rw [hf] at hj;cases hj
   ·rw [hf] at hj;injection hj with hj;exact rM hj
  refine ⟨hM j oN,?_⟩;rw [AH.at_set,if_neg (fun h=>oN h.1.symm)];exact hj
 ·intro j e hj
  by_cases oN:j=id
  ·rw [oN,o4] at hj
   injection hj with hj;subst hj;exact .inr (Nat.le_refl _)
  ·rw [hM j oN] at hj
   exact .inl ⟨e,hj,rfl⟩
 ·exact fun b hb _=>⟨oY b hb,fun i=>pz b i hb⟩
 ·intro i v h
  rw [Nat.zero_add,qR];exact h
theorem Rel.row_grow {g:Gh} {H:AH} {w:World} (R:Rel g H w) (c:Array Value) (el:TypeId) (vs:List Value) (hv:∀(i:Nat) (v:Value),vs[i]? = some v→c[i]? = some v)
  (id N sz cap:Nat) (hid:id<H.length) (e:Ent) (u9:e ≠ .hid) (hE:∀g':Gh,g.le g'→(∀i,g'.G w.heap.size i=vs[i]?)→B9 g' (w.alloc (.cells c el)) e (.tok w.heap.size N sz cap))
  (hf:H.at id=none∨∃n0 b0 cap0,H.at id=some (.tok n0)∧g.M id=some (.tok b0 n0 sz cap0)∧n0<N) :
  ∃g',Rel g' (H.set id (some e)) (w.alloc (.cells c el))∧AQ g H w g' (H.set id (some e)) (w.alloc (.cells c el)) ∧
   g'.M id=some (.tok w.heap.size N sz cap)∧g'.has w.heap.size 0 vs :=
 R.row_growE c el vs hv id N sz cap hid e u9 hE (hf.imp (fun h=>h) fun ⟨n0,b0,cap0,h1,h2,h3⟩=>⟨_,n0,b0,cap0,h1,by simp,h2,h3⟩)
theorem Rel.stk_room {g:Gh} {H:AH} {w w':World} (R:Rel g H w) {id b ver sz cap:Nat} {cs0 cs:List AV} {us:List Value} {el:TypeId} (hid:H.at id=some (.stk ver cs0)) (hM:g.M id=some (.tok b ver sz cap))
  (hb:w'.heap[b]? = some (.cells (List.toArray us) el (0,0))) (oT:cap*sz≤us.length) (qj:cs.length≤cap*sz) (hr:AB g cs (us.take cs.length)) (oY:∀k,k≠b→w'.heap[k]? = w.heap[k]?) (hs:w'.heap.size=w.heap.size)
  (ho:w'.os=w.os) (ht:w'.tape=w.tape) (hu:w'.output=w.output) :
  ∃g',Rel g' (H.set id (some (.stk (ver+1) cs))) w'∧AQ g H w g' (H.set id (some (.stk (ver+1) cs))) w'∧g'.M id=some (.tok b (ver+1) sz cap):=by
 have hG:∀i,g.G b i=none:=by obtain ⟨ge,hM',h⟩:=R.ent id _ hid (by simp);rw [hM] at hM';injection hM' with hM';subst hM';exact h.2.2.2
 have hl:id<H.length:=by
  unfold AH.at at hid;rcases Nat.lt_or_ge id H.length with h|h
  ·exact h
  ·simp [List.getElem?_eq_none h] at hid
 have vA:b<w.heap.size:=R.blk id _ hM
 let g':Gh:={G:=g.G,M:=fun j=>if j=id then some (.tok b (ver+1) sz cap) else g.M j}
 have od:∀j,j≠id→g'.M j=g.M j:=fun j hj=>by simp [g',hj]
 have o4:g'.M id=some (.tok b (ver+1) sz cap):=by simp [g']
 have oO:g.le g':=⟨fun _ _ _ h=>h,fun j e h=>by
  by_cases oN:j=id
  ·subst oN
   rw [hM] at h;injection h with h;subst h;exact ⟨_,o4,rfl,.inl (Nat.lt_succ_self _)⟩
  ·exact ⟨e,by rw [od j oN];exact h,e.le_refl⟩⟩
 refine ⟨g',⟨?_,?_,?_,?_,?_⟩,⟨oO,?_,?_,?_,by rw [hs];exact Nat.le_refl _,ho,ht,hu⟩,o4⟩
 ·intro k i v h
  have hk:k≠b:=fun hk=>by subst hk;rw [show g'.G k i=g.G k i from rfl,hG] at h;cases h
  exact (Ek (oY k hk)).trans (R.imm k i v h)
 ·intro j hj
  rw [AH.at_set] at hj
  by_cases oN:j=id
  ·subst oN;simp [hl] at hj
  ·rw [if_neg (fun h=>oN h.1.symm)] at hj
   rw [od j oN];exact R.free j hj
 ·intro j e he oL
  rw [AH.at_set] at he
  by_cases oN:j=id
  ·subst oN
   simp [hl] at he;subst he;exact ⟨_,o4,rfl,qj,⟨us,el,hb,oT,AB.mono oO _ _ hr⟩,hG⟩
  ·rw [if_neg (fun h=>oN h.1.symm)] at he
   obtain ⟨ge,py,hr⟩:=R.ent j e he oL;have qY:ge.block≠b:=fun hh=>oN (R.inj j id ge _ py hM hh)
   exact ⟨ge,by rw [od j oN];exact py,hr.keep oO (oY _ qY) (fun _=>rfl)⟩
 ·intro j k e e' hj hk hb
  by_cases oN:j=id
  ·by_cases pG:k=id
   ·rw [oN,pG]
   ·rw [oN,o4] at hj
    rw [od k pG] at hk;injection hj with hj;subst hj;exact absurd (R.inj k id e' _ hk hM hb.symm) pG
  ·rw [od j oN] at hj
   by_cases pG:k=id
   ·rw [pG,o4] at hk
    injection hk with hk;subst hk;exact absurd (R.inj j id e _ hj hM hb) oN
   ·rw [od k pG] at hk
    exact R.inj j k e e' hj hk hb
 ·intro j e hj
  rw [hs]
  by_cases oN:j=id
  ·rw [oN,o4] at hj
   injection hj with hj;subst hj;exact vA
  ·rw [od j oN] at hj
   exact R.blk j e hj
 ·intro j hj
  have oN:j≠id:=fun h=>by subst h;rw [hid] at hj;cases hj
  refine ⟨od j oN,?_⟩;rw [AH.at_set,if_neg (fun h=>oN h.1.symm)];exact hj
 ·intro j e hj
  by_cases oN:j=id
  ·rw [oN,o4] at hj
   injection hj with hj;subst hj;exact .inl ⟨.tok b ver sz cap,by rw [oN];exact hM,rfl⟩
  ·rw [od j oN] at hj
   exact .inl ⟨e,hj,rfl⟩
 ·intro k hk hn
  have oL:k≠b:=fun hh=>hn id _ _ hid (by simp) hM (by simp [CW.block,hh])
  exact ⟨oY k oL,fun i=>rfl⟩
theorem Rel.row_room {g:Gh} {H:AH} {w:World} (R:Rel g H w) (id b n m sz cap:Nat) (news:List Value) (cur:Array Value) (el:TypeId) (hid:H.at id=some (.tok n)) (hM:g.M id=some (.tok b n sz cap))
  (hl:news.length=m*sz) (hm:0<m) (pH:n+m≤cap) (fz:List Value) (wT:∀(i:Nat) (v:Value),fz[i]? = some v→news[i]? = some v) (e:Ent) (u9:e ≠ .hid) (hE:∀g':Gh,g.le g'→∀w':World,w'.heap[b]? = some (.cells (cur.toList.take (n*sz)++news++cur.toList.drop (n*sz+news.length)).toArray el (0,0))→(∀i,n*sz≤i→g'.G b i=fz[i-n*sz]?)→B9 g' w' e (.tok b (n+m) sz cap)) (sI:w.heap[b]? = some (.cells cur el (0,0))) (pI:n*sz+news.length≤cur.size) :
  ∃g',Rel g' (H.set id (some e)) (w.setRow b (cur.toList.take (n*sz)++news++cur.toList.drop (n*sz+news.length)).toArray) ∧
   AQ g H w g' (H.set id (some e)) (w.setRow b (cur.toList.take (n*sz)++news++cur.toList.drop (n*sz+news.length)).toArray) ∧
   g'.M id=some (.tok b (n+m) sz cap)∧g'.has b (n*sz) fz:=by
 have vA:b<w.heap.size:=R.blk id _ hM;have xk:=R.ent id _ hid (by simp);obtain ⟨ge,hM',o7⟩:=xk;rw [hM] at hM';injection hM' with hM';subst hM';obtain ⟨_,p6,⟨vs0,el0,pk,qj⟩,xl⟩:=o7
 have rg:id<H.length:=by
  unfold AH.at at hid;rcases Nat.lt_or_ge id H.length with h|h
  ·exact h
  ·simp [List.getElem?_eq_none h] at hid
 let W:=w.setRow b (cur.toList.take (n*sz)++news++cur.toList.drop (n*sz+news.length)).toArray
 have oY:∀k,k≠b→W.heap[k]? = w.heap[k]? := fun k hk=>setRow_other w b k _ hk
 have rh:W.heap[b]? = some (.cells (cur.toList.take (n*sz)++news++cur.toList.drop (n*sz+news.length)).toArray el (0,0)):=setRow_heap w b cur _ el _ sI;have si:W.heap.size=w.heap.size:=by simp [W,World.setRow]
 let g':Gh:={G:=fun k i=>if k=b∧n*sz≤i then fz[i-n*sz]? else g.G k i,M:=fun j=>if j=id then some (.tok b (n+m) sz cap) else g.M j}
 have od:∀j,j≠id→g'.M j=g.M j:=fun j hj=>by simp [g',hj]
 have o4:g'.M id=some (.tok b (n+m) sz cap):=by simp [g']
 have pz:∀k i,(k≠b∨i<n*sz)→g'.G k i=g.G k i:=fun k i h=>by
  show (if k=b∧n*sz≤i then _ else _)=_
  rw [if_neg (by omega)]
 have qR:∀i,n*sz≤i→g'.G b i=fz[i-n*sz]? := fun i h=>by
  show (if b=b∧n*sz≤i then _ else _)=_
  rw [if_pos ⟨rfl,h⟩]
 have oO:g.le g':=⟨fun k i v h=>by
   by_cases hk:k=b
   ·subst hk
    rcases Nat.lt_or_ge i (n*sz) with hi|hi
    ·rw [pz _ _ (.inr hi)];exact h
    ·rw [xl i hi] at h;cases h
   ·rw [pz _ _ (.inl hk)];exact h,fun j e h=>by
   by_cases oN:j=id
   ·subst oN
    rw [hM] at h;injection h with h;subst h;exact ⟨_,o4,rfl,.inl (by omega)⟩
   ·exact ⟨e,by rw [od j oN];exact h,e.le_refl⟩⟩
 refine ⟨g',⟨?_,?_,?_,?_,?_⟩,⟨oO,?_,?_,?_,by rw [si];exact Nat.le_refl _,rfl,rfl,rfl⟩,o4,?_⟩
 ·intro k i v h
  by_cases hk:k=b
  ·subst hk
   show W.cell? _=_
   simp only [World.cell?,rh];rcases Nat.lt_or_ge i (n*sz) with hi|hi
   ·rw [pz _ _ (.inr hi)] at h
    have hc:=R.imm k i v h;simp only [World.cell?,sI] at hc;have oX:i<(cur.toList.take (n*sz)).length:=by simp;omega
    simp only [List.getElem?_toArray,List.append_assoc];rw [List.getElem?_append_left oX,List.getElem?_take,if_pos hi];simpa using hc
   ·rw [qR i hi] at h
    have h:=wT _ _ h;have oT:(cur.toList.take (n*sz)).length=n*sz:=by simp;omega
    have oX:i-n*sz<news.length:=(List.getElem?_eq_some_iff.1 h).1;simp only [List.getElem?_toArray,List.append_assoc];rw [List.getElem?_append_right (by omega),oT,List.getElem?_append_left oX];simpa using h
  ·rw [pz _ _ (.inl hk)] at h
   exact (Ek (oY k hk)).trans (R.imm k i v h)
 ·intro j hj
  rw [AH.at_set] at hj
  by_cases oN:j=id
  ·subst oN;simp [rg] at hj
  ·rw [if_neg (fun h=>oN h.1.symm)] at hj
   rw [od j oN];exact R.free j hj
 ·intro j e1 he tQ
  rw [AH.at_set] at he
  by_cases oN:j=id
  ·subst oN
   simp [rg] at he;subst he;exact ⟨_,o4,hE g' oO W rh qR⟩
  ·rw [if_neg (fun h=>oN h.1.symm)] at he
   obtain ⟨ge,py,hr⟩:=R.ent j e1 he tQ;have oL:ge.block≠b:=fun hh=>oN (R.inj j id ge _ py hM hh)
   exact ⟨ge,by rw [od j oN];exact py,hr.keep oO (oY _ oL) (fun i=>pz _ i (.inl oL))⟩
 ·intro j k e e' hj hk hb
  by_cases oN:j=id
  ·by_cases pG:k=id
   ·rw [oN,pG]
   ·rw [oN,o4] at hj
    rw [od k pG] at hk;injection hj with hj;subst hj;exact absurd (R.inj k id e' _ hk hM hb.symm) pG
  ·rw [od j oN] at hj
   by_cases pG:k=id
   ·rw [pG,o4] at hk
    injection hk with hk;subst hk;exact absurd (R.inj j id e _ hj hM hb) oN
   ·rw [od k pG] at hk
    exact R.inj j k e e' hj hk hb
 ·intro j e hj
  show _<W.heap.size
  rw [si]
  by_cases oN:j=id
  ·rw [oN,o4] at hj
   injection hj with hj;subst hj;exact vA
  ·rw [od j oN] at hj
   exact R.blk j e hj
 ·intro j hj
  have oN:j≠id:=fun h=>by subst h;rw [hid] at hj;cases hj
  refine ⟨od j oN,?_⟩;rw [AH.at_set,if_neg (fun h=>oN h.1.symm)];exact hj
 ·intro j e hj
  by_cases oN:j=id
  ·rw [oN,o4] at hj
   injection hj with hj;subst hj;exact .inl ⟨.tok b n sz cap,by rw [oN];exact hM,rfl⟩
  ·rw [od j oN] at hj
   exact .inl ⟨e,hj,rfl⟩
 ·intro k hk hn
  have oL:k≠b:=fun hh=>hn id _ _ hid (by simp) hM (by simp [CW.block,hh])
  exact ⟨oY k oL,fun i=>pz k i (.inl oL)⟩
 ·intro i v h
  rw [qR _ (by omega),Nat.add_sub_cancel_left];exact h
theorem Rel.tok_grow {g:Gh} {H:AH} {w:World} (R:Rel g H w) (c:Array Value) (el:TypeId) (vs:List Value) (hv:∀(i:Nat) (v:Value),vs[i]? = some v→c[i]? = some v)
  (id N sz cap:Nat) (hid:id<H.length) (hl:vs.length=N*sz) (hc:cap*sz≤c.size) (hN:N≤cap)
  (hf:H.at id=none∨∃n0 b0 cap0,H.at id=some (.tok n0)∧g.M id=some (.tok b0 n0 sz cap0)∧n0<N) :
  ∃g',Rel g' (H.set id (some (.tok N))) (w.alloc (.cells c el))∧AQ g H w g' (H.set id (some (.tok N))) (w.alloc (.cells c el)) ∧
   g'.M id=some (.tok w.heap.size N sz cap)∧g'.has w.heap.size 0 vs:=by
 refine R.row_grow c el vs hv id N sz cap hid (.tok N) (by simp) (fun g' oO hG=>⟨rfl,hN,⟨c.toList,el,by rw [Lk],by simpa using hc⟩,fun i hi => ?_⟩) hf;rw [hG,List.getElem?_eq_none (by omega)]
theorem Rel.tok_room {g:Gh} {H:AH} {w:World} (R:Rel g H w) (id b n m sz cap:Nat) (news:List Value) (hid:H.at id=some (.tok n)) (hM:g.M id=some (.tok b n sz cap))
  (hl:news.length=m*sz) (hm:0<m) (pH:n+m≤cap) (cur:Array Value) (el:TypeId) (sI:w.heap[b]? = some (.cells cur el (0,0))) (pI:n*sz+news.length≤cur.size) :
  ∃g',Rel g' (H.set id (some (.tok (n+m)))) (w.setRow b (cur.toList.take (n*sz)++news++cur.toList.drop (n*sz+news.length)).toArray) ∧
   AQ g H w g' (H.set id (some (.tok (n+m)))) (w.setRow b (cur.toList.take (n*sz)++news++cur.toList.drop (n*sz+news.length)).toArray) ∧
   g'.M id=some (.tok b (n+m) sz cap)∧g'.has b (n*sz) news:=by
 have qj:cap*sz≤cur.size:=by obtain ⟨ge,hM',o7⟩:=R.ent id _ hid (by simp);rw [hM] at hM';injection hM' with hM';subst hM';obtain ⟨_,_,⟨vs0,el0,pk,h4⟩,_⟩:=o7;rw [sI] at pk;injection pk with pk;injection pk with pk;rw [pk];simpa using h4
 refine R.row_room id b n m sz cap news cur el hid hM hl hm pH news (fun _ _ h=>h) (.tok (n+m)) (by simp) (fun g' oO w' hw' hG=>⟨rfl,pH,⟨_,el,hw',?_⟩,fun i hi => ?_⟩) sI pI
 ·simp only [List.length_append,List.length_take,List.length_drop,Array.length_toList]
  omega
 ·rw [Nat.add_mul] at hi
  rw [hG i (by omega),List.getElem?_eq_none (by omega)]
structure Env where
 glob:Nat→AV
 meth:TypeId→String→Option FuncId
 imm:TypeId→Bool
 soft:TypeId→Bool:=fun _=>false
 stk:TypeId→Bool:=fun _=>false
def AV.nothing:AV := .tup []
def BW:Value→Option AV
 |.bool b=>some (.bool b)
 |.int k n=>some (.int k n)
 |.string s=>some (.str s.data.toList)
 |.pointer none=>some .nilPtr
 |.slice none 0 0=>some .nilSlice
 |.map none=>some .nilMap
 |.nilFunc=>some .nilFunc
 |.nilIface=>some .nilIface
 |_=>none
def BU:List Value→Option (List AV)
 |[]=>some []
 |v::vs=>match BW v,BU vs with
  |some a,some aS=>some (a::aS)
  |_,_=>none
def BP:Value→Option AV
 |.agg cs=>(BU cs.toList).map .agg
 |v=>BW v
def AC (E:Env) (tmps:List AV):Operand→AV
 |.tmp t=>tmps.getD t .nothing
 |.const v=>(BP v).getD .undef
 |.global g=>E.glob g
 |.func f => .func (.func f) [] []
def An:AV→List AV
 |.agg cs=>cs
 |v=>[v]
def AV.one:AV→Bool
 |.undef | .agg _ | .tup _=>false
 |_=>true
def AV.known:AV→Bool
 |.undef=>false
 |_=>true
def AZ (P:Program) (t:TypeId):Option Nat:=(P.info? t).map (·.size)
def Aj (P:Program) (t:TypeId):Option Bool :=
 match P.underlying t with
 |some (.struct _)|some (.array _ _)=>some true
 |some _=>some false
 |none=>none
def Ae (P:Program) (t:TypeId):Option AV :=
 match P.info? t with
 |some i=>(match i.zero with
  |some z=>BP z
  |none=>none)
 |none=>none
def BI (P:Program) (t:TypeId) (cs:List AV) (off:Nat):Option AV :=
 match Aj P t with
 |some true=>(match AZ P t with
  |some n=>if off+n≤cs.length then some (.agg ((cs.drop off).take n)) else none
  |none=>none)
 |some false=>cs[off]?
 |none=>none
def A8 (P:Program) (H:AH) (t:TypeId) (x:AV):Option AV :=
 match x with
 |.ptr id off=>(match H.at id with
  |some (.box cs)=>BI P t cs off
  |_=>none)
 |.vptr cs off=>BI P t cs off
 |.sptr id ver _ off=>(match H.at id with
  |some (.stk ver' cs)=>if ver'=ver then BI P t cs off else none
  |_=>none)
 |_=>none
def D5 (cs:List AV) (off:Nat) (vs:List AV):List AV:=cs.take off++vs++cs.drop (off+vs.length)
abbrev Ups:=List (Nat × Ent)
def DC (P:Program) (H:AH) (t:TypeId) (x v:AV):Option (AV × Ups) :=
 match x with
 |.ptr id off=>(match H.at id,AZ P t with
  |some (.box cs),some n =>if v.known=true∧(An v).length=n∧(An v).all AV.one=true∧off+n≤cs.length then some (.nothing,[(id,.box (D5 cs off (An v)))]) else none
  |_,_=>none)
 |.lptr k sz n=>(match H.at k,AZ P t with
  |some (.loose n' _),some m =>if n'=n∧m=sz∧v.known=true∧(An v).length=m∧(An v).all AV.one=true then some (.nothing,[(k,.loose n (An v))]) else none
  |_,_=>none)
 |_=>none
def E5 (place:Nat→Option (Nat × Nat)) (cells:List AV):List (Nat × AV)→Option (List AV)
 |[]=>some cells
 |(i,v)::rest =>
  match place i with
  |none=>none
  |some (off,size) =>if v.known=true∧(An v).length=size∧off+(An v).length≤cells.length then E5 place (D5 cells off (An v)) rest else none
def Ki (P:Program):List Field→Option (List (Nat × Nat))
 |[]=>some []
 |f::fs=>match AZ P f.type,Ki P fs with
  |some n,some l=>some ((f.offset,n)::l)
  |_,_=>none
def Aq (P:Program) (t:TypeId) (parts:List (Nat × AV)):Option AV :=
 match Ae P t,P.underlying t with
 |some z,some (.struct fields)=>(match Ki P fields.toList with
  |some l=>(E5 (fun i=>l[i]?) (An z) parts).map .agg
  |none=>none)
 |some z,some (.array _ elem)=>(match AZ P elem with
  |some n=>(E5 (fun i=>some (i*n,n)) (An z) parts).map .agg
  |none=>none)
 |_,_=>none
def I0 (zs:List AV):Nat→List AV
 |0=>[]
 |n+1=>zs++I0 zs n
def CK (P:Program) (t:TypeId) (len:Nat) (parts:List (Nat × AV)):Option AV :=
 match P.underlying t with
 |some (.slice elem)=>(match AZ P elem,Ae P elem with
  |some n,some z =>
   if (An z).length=n∧0<n∧len*n≤16777216 then
    (E5 (fun i=>some (i*n,n)) (I0 (An z) len) parts).map (.slice .full n len)
   else none
  |_,_=>none)
 |_=>none
def Ll (op:BinOp) (k:IntKind) (a b:Int):Option AV :=
 match op with
 |.and=>some (.int k (k.wrap ((BitVec.ofInt k.bits a &&& BitVec.ofInt k.bits b).toNat:Int)))
 |.or=>some (.int k (k.wrap ((BitVec.ofInt k.bits a ||| BitVec.ofInt k.bits b).toNat:Int)))
 |.xor=>some (.int k (k.wrap ((BitVec.ofInt k.bits a ^^^ BitVec.ofInt k.bits b).toNat:Int)))
 |.andNot=>some (.int k (k.wrap ((BitVec.ofInt k.bits a &&& ~~~ (BitVec.ofInt k.bits b)).toNat:Int)))
 |_=>none
def Bc (op:BinOp) (k:IntKind) (a b:Int):Option AV :=
 match op with
 |.add=>some (.int k (k.wrap (a+b)))
 |.sub=>some (.int k (k.wrap (a-b)))
 |.mul=>some (.int k (k.wrap (a*b)))
 |.quo=>if b=0 then none else some (.int k (k.wrap (a.tdiv b)))
 |.rem=>if b=0 then none else some (.int k (a.tmod b))
 |.eql=>some (.bool (a==b))
 |.neq=>some (.bool (a != b))
 |.lss=>some (.bool (decide (a<b)))
 |.leq=>some (.bool (decide (a≤b)))
 |.gtr=>some (.bool (decide (a>b)))
 |.geq=>some (.bool (decide (a≥b)))
 |op=>Ll op k a b
def Be (op:BinOp) (a b:List UInt8):Option AV :=
 match op with
 |.add=>if a.length+b.length≤9223372036854775807 then some (.str (a++b)) else none
 |.eql=>some (.bool (a==b))
 |.neq=>some (.bool !(a==b))
 |.lss=>some (.bool (Op.bytesLess a b))
 |.leq=>some (.bool (Op.bytesLess a b || a==b))
 |.gtr=>some (.bool !(Op.bytesLess a b || a==b))
 |.geq=>some (.bool !(Op.bytesLess a b))
 |_=>none
def aeq (P:Program) (t:TypeId) (x y:AV):Option Bool :=
 match P.underlying t,x,y with
 |some .bool,.bool a,.bool b=>some (a==b)
 |some (.pointer _),.nilPtr,.nilPtr=>some true
 |some (.pointer _),.nilPtr,.ptr _ _=>some false
 |some (.pointer _),.nilPtr,.vptr _ _=>some false
 |some (.pointer _),.ptr _ _,.nilPtr=>some false
 |some (.pointer _),.vptr _ _,.nilPtr=>some false
 |some (.slice _),.nilSlice,.nilSlice=>some true
 |some (.slice _),.nilSlice,.slice _ _ _ _=>some false
 |some (.slice _),.slice _ _ _ _,.nilSlice=>some false
 |some (.slice _),.nilSlice,.bsl _ _ _ _ _=>some false
 |some (.slice _),.bsl _ _ _ _ _,.nilSlice=>some false
 |some (.func _ _ _),.nilFunc,.nilFunc=>some true
 |some (.func _ _ _),.nilFunc,.func _ _ _=>some false
 |some (.func _ _ _),.func _ _ _,.nilFunc=>some false
 |some (.interface _),.nilIface,.nilIface=>some true
 |some (.interface _),.nilIface,.iface _ _=>some false
 |some (.interface _),.iface _ _,.nilIface=>some false
 |some (.interface _),.iface tx vx,.iface ty vy =>
  if tx=ty then
   (match P.info? tx,P.underlying tx,vx,vy with
   |some i,some (.int _),.int k a,.int k' b=>if i.comparable=true∧k=k' then some (a==b) else none
   |_,_,_,_=>none)
  else some false
 |_,_,_=>none
def A6:Operand→Bool
 |.const _=>true
 |_=>false
def BF (P:Program) (op:BinOp) (t:TypeId) (cst:Bool) (x y:AV):Option AV :=
 match x,y with
 |.int k a,.int k' b =>
  (match op with
  |.shl=>if 0≤b then some (.int k (k.wrap (a*2 ^ (min b.toNat k.bits)))) else none
  |.shr=>if 0≤b then some (.int k (a.fdiv (2 ^ (min b.toNat k.bits)))) else none
  |op=>if k=k' then Bc op k a b else none)
 |.str a,.str b=>Be op a b
 |.nilIface,.nilIface =>
  if cst=true then
   (match op with
   |.eql=>(aeq P t .nilIface .nilIface).map .bool
   |.neq=>(aeq P t .nilIface .nilIface).map (.bool !·)
   |_=>none)
  else none
 |.agg _,.agg _=>none
 |x,y =>
  (match op with
  |.eql=>(aeq P t x y).map .bool
  |.neq=>(aeq P t x y).map (.bool !·)
  |_=>none)
def aun (op:UnOp) (x:AV):Option AV :=
 match op,x with
 |.neg,.int k n=>some (.int k (k.wrap (0-n)))
 |.not,.bool b=>some (.bool !b)
 |.xor,.int k n=>Ll .xor k (if k.signed then -1 else k.max) n
 |_,_=>none
def IC:List AV→Option (List UInt8)
 |[]=>some []
 |a::r=>(match a,IC r with
  |.int .u8 n,some s=>some (UInt8.ofNat n.toNat::s)
  |_,_=>none)
def EV (s:List UInt8):List AV:=s.map fun b => .int .u8 (b.toNat:Int)
def BV (P:Program) (H:AH) (src dst:TypeId) (x:AV):Option AV :=
 match P.underlying src,P.underlying dst,x with
 |some _,some (.int k),.int _ n=>some (.int k (k.wrap n))
 |some _,some .string,.str s=>some (.str s)
 |some .string,some (.slice e),.str s=>(match P.underlying e with
  |some (.int .u8)=>if s.length≤9223372036854775807 then some (.slice .unk 1 s.length (EV s)) else none
  |_=>none)
 |some (.slice e),some .string,.nilSlice=>(match P.underlying e with
  |some (.int .u8)=>some (.str [])
  |_=>none)
 |some (.slice e),some .string,.slice _ 1 _ cs=>(match P.underlying e with
  |some (.int .u8)=>(IC cs).map .str
  |_=>none)
 |some (.slice e),some .string,.bsl id off 1 n _=>(match P.underlying e,H.at id with
  |some (.int .u8),some (.box cs)=>if off+n≤cs.length then (IC ((cs.drop off).take n)).map .str else none
  |_,_=>none)
 |_,_,_=>none
def BY:Option AV→Option (Option Int)
 |none=>some none
 |some (.int _ n)=>some (some n)
 |_=>none
def BD (P:Program) (t:TypeId) (x:AV) (lo hi mx:Option AV):Option AV :=
 match BY lo,BY hi,BY mx with
 |some l,some h,some m =>
  (match P.underlying t,x with
  |some .string,.str s =>
   if m=none∧0≤l.getD 0∧l.getD 0≤h.getD s.length∧h.getD s.length≤s.length then
    some (.str ((s.take (h.getD s.length).toNat).drop (l.getD 0).toNat)) else none
  |some (.slice e),.nilSlice=>if m=none∧l.getD 0=0∧h.getD 0=0∧(AZ P e).isSome=true then some .nilSlice else if m=some 0∧h=some 0∧l.getD 0=0∧(AZ P e).isSome=true then some .nilSlice else none
  |some (.slice e),.slice ow sz n cs =>
   (match AZ P e with
   |some sz' =>
    if sz'=sz∧m=none∧0≤l.getD 0∧l.getD 0≤h.getD n∧h.getD n≤n then
     let a:=(l.getD 0).toNat
     let b:=(h.getD n).toNat
     some (.slice (if b=n then (if a=0 then ow else if ow = .full then .full else .unk) else .unk) sz (b-a) ((cs.drop (a*sz)).take ((b-a)*sz)))
    else if sz'=sz∧m=h∧h≠none∧0≤l.getD 0∧l.getD 0≤h.getD n∧h.getD n≤n then
     let a:=(l.getD 0).toNat
     let b:=(h.getD n).toNat
     some (.slice .full sz (b-a) ((cs.drop (a*sz)).take ((b-a)*sz)))
    else none
   |none=>none)
  |some (.slice e),.bsl id off sz n c =>
   (match AZ P e with
   |some sz' =>
    if sz'=sz∧m=none∧0≤l.getD 0∧l.getD 0≤h.getD n∧h.getD n≤n then
     let a:=(l.getD 0).toNat
     let b:=(h.getD n).toNat
     some (.bsl id (if c=a then off else off+a*sz) sz (b-a) (c-a))
    else none
   |none=>none)
  |some (.slice e),.stk id ver sz n =>
   (match AZ P e with
   |some sz'=>if sz'=sz∧m=none∧l.getD 0=0∧0≤h.getD n∧h.getD n≤n then some (.stk id ver sz (h.getD n).toNat) else none
   |none=>none)
  |some (.pointer q),.ptr id off =>
   (match P.underlying q with
   |some (.array n e)=>(match AZ P e with
    |some sz =>
     if m=none∧0≤l.getD 0∧l.getD 0≤h.getD n∧h.getD n≤n then
      let a:=(l.getD 0).toNat
      let b:=(h.getD n).toNat
      some (.bsl id (if n=a then off else off+a*sz) sz (b-a) (n-a))
     else none
    |none=>none)
   |_=>none)
  |some (.array n e),.ptr id off =>
   (match AZ P e with
   |some sz =>
    if m=none∧0≤l.getD 0∧l.getD 0≤h.getD n∧h.getD n≤n then
     let a:=(l.getD 0).toNat
     let b:=(h.getD n).toNat
     some (.bsl id (if n=a then off else off+a*sz) sz (b-a) (n-a))
    else none
   |none=>none)
  |_,_=>none)
 |_,_,_=>none
def BE (P:Program) (t:TypeId) (x:AV) (i:Nat):Option AV :=
 match P.underlying t with
 |some (.struct fields)=>(match fields[i]? with
  |some f=>(match AZ P f.type with
   |some n =>
    if n=0 then none else (match x with
     |.ptr id off=>some (.ptr id (off+f.offset))
     |.vptr cs off=>some (.vptr cs (off+f.offset))
     |_=>none)
   |none=>none)
  |none=>none)
 |_=>none
def BM (P:Program) (t:TypeId) (x:AV) (i:Nat):Option AV :=
 match P.underlying t,x with
 |some (.struct fields),.agg cs=>(match fields[i]? with
  |some f=>BI P f.type cs f.offset
  |none=>none)
 |_,_=>none
def Ao (P:Program) (t:TypeId) (x i:AV):Option AV :=
 match i with
 |.int _ i =>
  (match P.underlying t,x with
  |some (.slice e),.slice _ sz n cs =>
   (match AZ P e with
   |some sz'=>if sz'=sz∧0≤i∧i<(n:Int) then some (.vptr cs (i.toNat*sz)) else none
   |none=>none)
  |some (.slice e),.bsl id off sz n _ =>
   (match AZ P e with
   |some sz'=>if sz'=sz∧0≤i∧i<(n:Int) then some (.ptr id (off+i.toNat*sz)) else none
   |none=>none)
  |some (.slice e),.lsl k sz n _ =>
   (match AZ P e with
   |some sz'=>if sz'=sz∧i=(n:Int) then some (.lptr k sz n) else none
   |none=>none)
  |some (.slice e),.stk id ver sz n =>
   (match AZ P e with
   |some sz'=>if sz'=sz∧0≤i∧i<(n:Int) then some (.sptr id ver sz (i.toNat*sz)) else none
   |none=>none)
  |some (.array n e),.ptr id off =>
   (match AZ P e with
   |some sz=>if 0≤i∧i<(n:Int) then some (.ptr id (off+i.toNat*sz)) else none
   |none=>none)
  |some (.array n e),.vptr cs off =>
   (match AZ P e with
   |some sz=>if 0≤i∧i<(n:Int) then some (.vptr cs (off+i.toNat*sz)) else none
   |none=>none)
  |_,_=>none)
 |_=>none
def BQ (P:Program) (t:TypeId) (x i:AV):Option AV :=
 match i with
 |.int _ i =>
  (match P.underlying t,x with
  |some .string,.str s=>if 0≤i then (match s[i.toNat]? with
   |some b=>some (.int .u8 (b.toNat:Int))
   |none=>none) else none
  |some (.array n e),.agg cs=>(match AZ P e with
   |some sz=>if 0≤i∧i<(n:Int) then BI P e cs (i.toNat*sz) else none
   |none=>none)
  |_,_=>none)
 |_=>none
def BR (x:AV) (i:Nat):Option AV :=
 match x with
 |.tup vs=>vs[i]?
 |_=>none
def BS (x:AV):Option AV :=
 match x with
 |.ptr id off=>some (.ptr id off)
 |.vptr cs off=>some (.vptr cs off)
 |.func (.func f) a b=>some (.func (.func f) a b)
 |.iface t v=>some (.iface t v)
 |_=>none
def D6 (P:Program) (x:AV) (asserted:TypeId) (ok:Bool):Option AV :=
 let fails:Option AV:=if ok then (match Ae P asserted with
  |some z=>some (.tup [z,.bool false])
  |none=>none) else none
 let holds (v:AV):Option AV:=some (if ok then .tup [v,.bool true] else v)
 match P.underlying asserted,x with
 |some _,.nilIface=>fails
 |some (.interface want),.iface t v=>(match P.info? t with
  |some i=>(match Instr.missingMethod want i.methods with
   |none=>holds (.iface t v)
   |some _=>fails)
  |none=>none)
 |some _,.iface t v=>if t=asserted then holds v else fails
 |_,_=>none
def alen (P:Program) (t:TypeId) (x:AV):Option AV :=
 match P.underlying t,x with
 |some .string,.str s=>some (.int .i64 s.length)
 |some (.slice _),.nilSlice=>some (.int .i64 0)
 |some (.slice _),.emp=>some (.int .i64 0)
 |some (.slice _),.slice _ _ n _=>some (.int .i64 n)
 |some (.slice _),.bsl _ _ _ n _=>some (.int .i64 n)
 |some (.slice _),.stk _ _ _ n=>some (.int .i64 n)
 |some (.array n _),_=>some (.int .i64 n)
 |_,_=>none
def I1 (P:Program) (t:TypeId) (x:AV):Option AV :=
 match P.underlying t,x with
 |some (.slice _),.nilSlice=>some (.int .i64 0)
 |some (.slice _),.bsl _ _ _ _ c=>some (.int .i64 c)
 |_,_=>none
def Jf (P:Program) (fid:Nat) (t:TypeId) (x y:AV):Option (AV × Ups) :=
 match P.underlying t,x,y with
 |some (.slice e),.int _ l,.int _ c=>(match AZ P e,Ae P e,P.info? e with
  |some n,some z,some i =>
   if (An z).length=n∧0<n∧0≤l∧l≤c∧c*i.bytes≤140737488355328∧c≤9223372036854775807∧0<i.bytes then
    some (.bsl fid 0 n l.toNat c.toNat,[(fid,.box (I0 (An z) c.toNat))])
   else none
  |_,_,_=>none)
 |_,_,_=>none
def D7 (H:AH) (sz:Nat) (x:AV):Option (Nat × List AV) :=
 match x with
 |.nilSlice=>some (0,[])
 |.slice _ sz' n cs=>if sz'=sz then some (n,cs) else none
 |.bsl id off sz' n _=>(match H.at id with
  |some (.box cs)=>if sz'=sz∧off+n*sz≤cs.length then some (n,(cs.drop off).take (n*sz)) else none
  |_=>none)
 |.str s=>if sz=1 then some (s.length,EV s) else none
 |_=>none
def FX (P:Program) (t u e:TypeId):Bool:=t==u || (match P.underlying u,P.underlying e with
 |some .string,some (.int .u8)=>true
 |_,_=>false)
def DO (P:Program) (H:AH) (fid:Nat) (t u:TypeId) (s x:AV):Option (AV × Ups) :=
 match P.underlying t with
 |some (.slice e)=>(match P.info? e with
  |some i=>(match i.zero with
   |some z =>
    if z.cells.size=i.size∧0<i.size∧FX P t u e=true then
     (match D7 H i.size x with
     |some (m,ys) =>
      if ys.all AV.one=true then
       (match s with
       |.nilSlice=>if m=0 then some (.nilSlice,[]) else if m*i.bytes≤140737488355328∧m≤4611686018427387904 then some (.slice (.tok fid) i.size m ys,[(fid,.tok m)]) else none
       |.slice ow sz n xs =>
        if sz=i.size then
         (if m=0 then some (.slice ow sz n xs,[]) else
         if (n+m)*i.bytes≤140737488355328∧n+m≤4611686018427387904 then
          (match ow with
          |.full=>some (.slice (.tok fid) sz (n+m) (xs++ys),[(fid,.tok (n+m))])
          |.tok k=>(match H.at k with
           |some (.tok n')=>if n'=n then some (.slice (.tok k) sz (n+m) (xs++ys),[(k,.tok (n+m))]) else none
           |_=>none)
          |.unk=>none)
         else none)
        else none
       |.bsl id off sz n c=>(match H.at id with
        |some (.box cs) =>
         if sz=i.size∧off+n*sz≤cs.length then
          (if m=0 then some (.bsl id off sz n c,[]) else
          if c<n+m∧(n+m)*i.bytes≤140737488355328∧n+m≤4611686018427387904 then
           some (.slice (.tok fid) sz (n+m) ((cs.drop off).take (n*sz)++ys),[(fid,.tok (n+m))])
          else none)
         else none
        |_=>none)
       |_=>none)
      else none
     |none=>none)
    else none
   |none=>none)
  |none=>none)
 |_=>none
def F0 (P:Program) (H:AH) (fid:Nat) (t u:TypeId) (s x:AV):Option (AV × Ups) :=
 match P.underlying t with
 |some (.slice e)=>(match P.info? e with
  |some i=>(match i.zero with
   |some z =>
    if z.cells.size=i.size∧0<i.size∧FX P t u e=true then
     (match D7 H i.size x with
     |some (m,ys) =>
      if m=1∧ys.all AV.one=true then
       (match s with
       |.nilSlice=>if 1*i.bytes≤140737488355328 then some (.lsl fid i.size 0 [],[(fid,.loose 0 ys)]) else none
       |.slice (.tok k) sz n xs =>
        if sz=i.size∧(n+1)*i.bytes≤140737488355328∧n+1≤4611686018427387904 then
         (match H.at k with
         |some (.tok n')=>if n'=n then some (.lsl k sz n xs,[(k,.loose n ys)]) else none
         |_=>none)
        else none
       |_=>none)
      else none
     |none=>none)
    else none
   |none=>none)
  |none=>none)
 |_=>none
def E6 (P:Program) (H:AH) (fid:Nat) (t u:TypeId) (s x:AV):Option (AV × Ups) :=
 match P.underlying t with
 |some (.slice e)=>(match P.info? e with
  |some i=>(match i.zero with
   |some z =>
    if z.cells.size=i.size∧0<i.size∧FX P t u e=true then
     (match D7 H i.size x with
     |some (m,ys) =>
      if m=1∧ys.all AV.one=true then
       (match s with
       |.nilSlice=>if 1*i.bytes≤140737488355328 then some (.stk fid 1 i.size 1,[(fid,.stk 1 ys)]) else none
       |.stk k ver sz n =>
        if sz=i.size∧(n+1)*i.bytes≤140737488355328∧n+1≤4611686018427387904 then
         (match H.at k with
         |some (.stk ver' cs)=>if ver'=ver∧n*sz≤cs.length then some (.stk k (ver+1) sz (n+1),[(k,.stk (ver+1) (cs.take (n*sz)++ys))]) else none
         |_=>none)
        else none
       |_=>none)
      else none
     |none=>none)
    else none
   |none=>none)
  |none=>none)
 |_=>none
def D8 (P:Program) (E:Env) (H:AH) (fid:Nat) (t u:TypeId) (s x:AV):Option (AV × Ups):=if E.soft t=true then (if E.stk t=true then E6 P H fid t u s x else F0 P H fid t u s x) else DO P H fid t u s x
theorem Lm {P:Program} {E:Env} {H:AH} {fid:Nat} {t u:TypeId} {s x:AV} (h:E.soft t=false):D8 P E H fid t u s x=DO P H fid t u s x:=by simp [D8,h]
theorem G4 {P:Program} {E:Env} {H:AH} {fid:Nat} {t u:TypeId} {s x:AV} (h:E.soft t=true) (h2:E.stk t=false:=by rfl):D8 P E H fid t u s x=F0 P H fid t u s x:=by simp [D8,h,h2]
theorem Qe {P:Program} {E:Env} {H:AH} {fid:Nat} {t u:TypeId} {s x:AV} (h:E.soft t=true) (h2:E.stk t=true):D8 P E H fid t u s x=E6 P H fid t u s x:=by simp [D8,h,h2]
def ID (x y:AV):Option AV :=
 match x,y with
 |.int k a,.int _ b=>some (.int k (if b>a then b else a))
 |_,_=>none
def G5 (x y:AV):Option AV :=
 match x,y with
 |.int k a,.int _ b=>some (.int k (if b<a then b else a))
 |_,_=>none
def Jg (P:Program) (H:AH) (t:TypeId) (d x:AV):Option (AV × Ups) :=
 match P.underlying t,d with
 |some (.slice e),.bsl id off sz n _ =>
  (match AZ P e,D7 H sz x,H.at id with
  |some sz',some (m,ys),some (.box cs) =>
   let k:=min m n
   if sz'=sz∧ys.all AV.one=true∧off+k*sz≤cs.length then
    some (.int .i64 k,[(id,.box (D5 cs off (ys.take (k*sz))))])
   else none
  |_,_,_=>none)
 |_,_=>none
def aop (P:Program) (E:Env) (ρ:Operand→AV) (H:AH) (fid:Nat) (o:Oper):Option (AV × Ups) :=
 let v (x:Option AV):Option (AV × Ups):=x.map fun a=>(a,[])
 match o.op with
 |.move x | .assign x=>some (ρ x,[])
 |.pick c a b=>(match ρ c with
  |.bool t=>some (if t then ρ a else ρ b,[])
  |_=>none)
 |.alloc t=>(match Ae P t with
  |some z=>some (.ptr fid 0,[(fid,.box (An z))])
  |none=>none)
 |.box t x =>
  if E.imm t=true then (if (ρ x).known=true then some (.vptr (An (ρ x)) 0,[]) else none)
  else if (ρ x).known=true then some (.ptr fid 0,[(fid,.box (An (ρ x)))]) else none
 |.build t parts=>v (Aq P t (parts.toList.map fun p=>(p.1,ρ p.2)))
 |.buildSlice t len parts=>v (CK P t len (parts.toList.map fun p=>(p.1,ρ p.2)))
 |.load t a=>v (A8 P H t (ρ a))
 |.store t a x=>DC P H t (ρ a) (ρ x)
 |.nilCheck x=>v (BS (ρ x))
 |.binOp op t x y _=>v (BF P op t (A6 x || A6 y) (ρ x) (ρ y))
 |.unOp op _ x=>v (aun op (ρ x))
 |.convert src dst x=>v (BV P H src dst (ρ x))
 |.makeInterface t x=>(match P.underlying t with
  |some (.interface _)=>none
  |some _=>some (.iface t (ρ x),[])
  |none=>none)
 |.makeFunc fn first captured=>some (.func fn (first.toList.map ρ) (captured.toList.map ρ),[])
 |.slice t x lo hi mx=>v (BD P t (ρ x) (lo.map ρ) (hi.map ρ) (mx.map ρ))
 |.fieldAddr t x f=>v (BE P t (ρ x) f)
 |.field t x f=>v (BM P t (ρ x) f)
 |.indexAddr t x i=>v (Ao P t (ρ x) (ρ i))
 |.index t x i=>v (BQ P t (ρ x) (ρ i))
 |.typeAssert x _ t ok=>v (D6 P (ρ x) t ok)
 |.makeSlice t x y=>Jf P fid t (ρ x) (ρ y)
 |.extract x i=>v (BR (ρ x) i)
 |.call {callee := .builtin b,args,argTypes} =>
  (match b with
  |.len=>(match argTypes[0]?,args[0]? with
   |some t,some x=>v (alen P t (ρ x))
   |_,_=>none)
  |.cap=>(match argTypes[0]?,args[0]? with
   |some t,some x=>v (I1 P t (ρ x))
   |_,_=>none)
  |.max=>(match args.toList with
   |[x,y]=>v (ID (ρ x) (ρ y))
   |_=>none)
  |.min=>(match args.toList with
   |[x,y]=>v (G5 (ρ x) (ρ y))
   |_=>none)
  |.copy=>(match argTypes[0]?,args[0]?,args[1]? with
   |some t,some d,some x=>Jg P H t (ρ d) (ρ x)
   |_,_,_=>none)
  |.append=>(match argTypes[0]?,argTypes[1]?,args[0]?,args[1]? with
   |some t,some u,some s,some x=>D8 P E H fid t u (ρ s) (ρ x)
   |_,_,_,_=>none)
  |_=>none)
 |_=>none
def Ai (E:Env):Op→Bool
 |.alloc _=>true
 |.box t _ => !(E.imm t)
 |.call {callee := .builtin .append,..}=>true
 |.makeSlice _ _ _=>true
 |_=>false
variable {P:Program} {g:Gh} {H:AH} {w:World}
theorem Qf {v:Value} {a:AV} (h:BW v=some a):AA g a v:=by
 unfold BW at h
 split at h<;>first|(injection h with h;subst h;simp [AA])|(cases h)
theorem Qg:∀{vs:List Value} {aS:List AV},BU vs=some aS→AB g aS vs
 |[],_,h=>by simp only [BU] at h;injection h with h;subst h;simp [AB]
 |v::vs,aS,h=>by
  simp only [BU] at h
  split at h
  ·rename_i a as' h1 h2
   injection h with h;subst h;simp only [AB];exact ⟨v,vs,rfl,Qf h1,Qg h2⟩
  ·cases h
theorem Qh {v:Value} {a:AV} (h:BP v=some a):AA g a v:=by
 unfold BP at h
 split at h
 ·rename_i cs
  cases hc:BU cs.toList with
  |none=>rw [hc] at h;cases h
  |some aS =>rw [hc] at h;simp only [Option.map_some] at h;injection h with h;subst h;simp only [AA];exact ⟨cs.toList,by simp,Qg hc⟩
 ·exact Qf h
def Al (E:Env) (g:Gh):Prop:=∀i,AA g (E.glob i) (.pointer (some ⟨i,0,none⟩))
theorem Al.mono {E:Env} {g g':Gh} (h:Al E g) (hl:g.le g'):Al E g':=fun i=>AA.mono hl _ _ (h i)
theorem IE {E:Env} (hG:Al E g) {tmps:List AV} {a:Act} (h:AB g tmps a.tmps.toList) (x:Operand):AA g (AC E tmps x) (a.eval x):=by
 cases x with
 |tmp t =>
  simp only [AC,Act.eval];have:=h.getD t undef;rw [List.getD_eq_getElem?_getD,List.getD_eq_getElem?_getD] at *;rw [Array.getD_eq_getD_getElem?];rw [←Array.getElem?_toList];cases hi:tmps[t]? with
  |none =>
   have hl:=h.length
   have:a.tmps.toList[t]? = none:=by rw [List.getElem?_eq_none_iff] at hi ⊢;omega
   rw [this];simp [AV.nothing,AA,undef,AB]
  |some v =>obtain ⟨u,hu,hr⟩:=h.get hi;rw [hu];exact hr
 |const v =>
  simp only [AC,Act.eval];cases hc:BP v with
  |none=>simp [AA]
  |some u=>exact Qh hc
 |global i=>exact hG i
 |func f=>simp [AC,Act.eval,AA,AB]
theorem G6 {a:AV} {v:Value} (h:AA g a v) (hk:a.known=true):AB g (An a) v.cells.toList:=by
 cases a with
 |undef=>simp [AV.known] at hk
 |agg cs =>simp only [AA] at h;obtain ⟨vs,rfl,h⟩:=h;simpa [An,Value.cells] using h
 |bool b=>simp only [AA] at h;subst h;simp [An,Value.cells,AB,AA]
 |int k n=>simp only [AA] at h;subst h;simp [An,Value.cells,AB,AA]
 |str s=>simp only [AA] at h;subst h;simp [An,Value.cells,AB,AA]
 |nilPtr=>simp only [AA] at h;subst h;simp [An,Value.cells,AB,AA]
 |nilSlice=>simp only [AA] at h;subst h;simp [An,Value.cells,AB,AA]
 |emp =>have h':=h;simp only [AA] at h;obtain ⟨b,cap,rfl⟩:=h;simp only [An,Value.cells,AB];exact ⟨_,_,rfl,h',rfl⟩
 |nilMap=>simp only [AA] at h;subst h;simp [An,Value.cells,AB,AA]
 |nilFunc=>simp only [AA] at h;subst h;simp [An,Value.cells,AB,AA]
 |adr b o=>simp only [AA] at h;subst h;simp [An,Value.cells,AB,AA]
 |nilIface=>simp only [AA] at h;subst h;simp [An,Value.cells,AB,AA]
 |ptr id off =>have h':=h;simp only [AA] at h;obtain ⟨b,_,rfl⟩:=h;simp only [An,Value.cells,AB];exact ⟨_,_,rfl,h',rfl⟩
 |bsl id off sz n cap =>have h':=h;simp only [AA] at h;obtain ⟨b,_,rfl,_⟩:=h;simp only [An,Value.cells,AB];exact ⟨_,_,rfl,h',rfl⟩
 |vptr cs off =>have h':=h;simp only [AA] at h;obtain ⟨b,o,vs,rfl,_⟩:=h;simp only [An,Value.cells,AB];exact ⟨_,_,rfl,h',rfl⟩
 |slice ow sz n cs =>have h':=h;simp only [AA] at h;obtain ⟨b,o,cap,vs,rfl,_⟩:=h;simp only [An,Value.cells,AB];exact ⟨_,_,rfl,h',rfl⟩
 |lsl t sz n cs =>have h':=h;simp only [AA] at h;obtain ⟨b,cap,vs,rfl,_⟩:=h;simp only [An,Value.cells,AB];exact ⟨_,_,rfl,h',rfl⟩
 |lptr t sz n =>have h':=h;simp only [AA] at h;obtain ⟨b,cap,rfl,_⟩:=h;simp only [An,Value.cells,AB];exact ⟨_,_,rfl,h',rfl⟩
 |stk id ver sz n =>have h':=h;simp only [AA] at h;obtain ⟨b,cap,rfl,_⟩:=h;simp only [An,Value.cells,AB];exact ⟨_,_,rfl,h',rfl⟩
 |sptr id ver sz off =>have h':=h;simp only [AA] at h;obtain ⟨b,cap,rfl,_⟩:=h;simp only [An,Value.cells,AB];exact ⟨_,_,rfl,h',rfl⟩
 |func fn fi ca =>have h':=h;simp only [AA] at h;obtain ⟨fs,cs,rfl,_⟩:=h;simp only [An,Value.cells,AB];exact ⟨_,_,rfl,h',rfl⟩
 |iface t x =>have h':=h;simp only [AA] at h;obtain ⟨y,rfl,_⟩:=h;simp only [An,Value.cells,AB];exact ⟨_,_,rfl,h',rfl⟩
 |tup vs =>have h':=h;simp only [AA] at h;obtain ⟨y,rfl,_⟩:=h;simp only [An,Value.cells,AB];exact ⟨_,_,rfl,h',rfl⟩
theorem Vn {a:AV} {v:Value} (h:AA g a v) (hk:a.one=true):v.oneCell'=true:=by
 cases a with
 |undef=>simp [AV.one] at hk
 |agg cs=>simp [AV.one] at hk
 |tup cs=>simp [AV.one] at hk
 |ptr id off=>simp only [AA] at h;obtain ⟨b,_,rfl⟩:=h;rfl
 |bsl id off sz n cap=>simp only [AA] at h;obtain ⟨b,_,rfl,_⟩:=h;rfl
 |vptr cs off=>simp only [AA] at h;obtain ⟨b,o,vs,rfl,_⟩:=h;rfl
 |slice ow sz n cs=>simp only [AA] at h;obtain ⟨b,o,cap,vs,rfl,_⟩:=h;rfl
 |lsl t sz n cs=>simp only [AA] at h;obtain ⟨b,cap,vs,rfl,_⟩:=h;rfl
 |lptr t sz n=>simp only [AA] at h;obtain ⟨b,cap,rfl,_⟩:=h;rfl
 |stk id ver sz n=>simp only [AA] at h;obtain ⟨b,cap,rfl,_⟩:=h;rfl
 |sptr id ver sz off=>simp only [AA] at h;obtain ⟨b,cap,rfl,_⟩:=h;rfl
 |func fn fi ca=>simp only [AA] at h;obtain ⟨fs,cs,rfl,_⟩:=h;rfl
 |iface t x=>simp only [AA] at h;obtain ⟨y,rfl,_⟩:=h;rfl
 |bool b=>simp only [AA] at h;subst h;rfl
 |int k n=>simp only [AA] at h;subst h;rfl
 |str s=>simp only [AA] at h;subst h;rfl
 |nilPtr=>simp only [AA] at h;subst h;rfl
 |nilSlice=>simp only [AA] at h;subst h;rfl
 |emp=>simp only [AA] at h;obtain ⟨b,cap,rfl⟩:=h;rfl
 |nilMap=>simp only [AA] at h;subst h;rfl
 |nilFunc=>simp only [AA] at h;subst h;rfl
 |adr b o=>simp only [AA] at h;subst h;rfl
 |nilIface=>simp only [AA] at h;subst h;rfl
theorem I2:∀{aS:List AV} {vs:List Value},AB g aS vs→aS.all AV.one=true→∀v∈vs,v.oneCell'=true
 |[],vs,h,_=>by simp only [AB] at h;subst h;simp
 |a::aS,vs,h,ho=>by
  simp only [AB] at h;obtain ⟨v,ws,rfl,h1,h2⟩:=h;simp only [List.all_cons,Bool.and_eq_true] at ho;intro u hu;rcases List.mem_cons.1 hu with rfl|hu
  ·exact Vn h1 ho.1
  ·exact I2 h2 ho.2 u hu
theorem Jh {t:TypeId} {z:AV} (h:Ae P t=some z):∃i zv,P.info? t=some i∧i.zero=some zv∧∀g,AA g z zv:=by
 unfold Ae at h
 split at h
 ·rename_i i hi
  split at h
  ·rename_i zv hz
   exact ⟨i,zv,hi,hz,fun g=>Qh h⟩
  ·cases h
 ·cases h
theorem GS {t:TypeId} {i:TypeInfo} (h:P.info? t=some i):(typeInfo t).run P w = .ok i w:=by simp [typeInfo,h]
theorem Cq {t:TypeId} {n:Nat} (h:AZ P t=some n):(sizeOf t).run P w = .ok n w:=by
 unfold AZ at h;cases hi:P.info? t with
 |none=>rw [hi] at h;cases h
 |some i =>rw [hi] at h;simp only [Option.map_some] at h;injection h with h;simp [sizeOf,GS hi,h]
theorem Ln {t:TypeId} {b:Bool} (h:Aj P t=some b):(isAgg t).run P w = .ok b w:=by
 unfold Aj at h;unfold isAgg
 split at h
 ·rename_i f hu;injection h with h;subst h;simp [run_underlying hu]
 ·rename_i f hu;injection h with h;subst h;simp [run_underlying hu]
 ·rename_i d h1 h2 hu
  injection h with h;subst h;simp only [Sem.run_bind,run_underlying hu,Result.andThen_ok];rfl
 ·cases h
theorem Nm {t:TypeId} {cs:List AV} {off:Nat} {r:AV} (h:BI P t cs off=some r) {b o:Nat} {vs:List Value} (hr:AB g cs vs)
  (hc:∀i v,vs[i]? = some v→w.cell? ⟨b,o+i,none⟩=some v) :
  ∃rv,(loadVar t ⟨b,o+off,none⟩).run P w = .ok rv w∧AA g r rv:=by
 unfold BI at h
 split at h
 ·rename_i ha
  split at h
  ·rename_i n hn
   split at h
   ·rename_i hl
    injection h with h;subst h;have oT:((vs.drop off).take n).length=n:=by simp [hr.length];omega
    have sj:=run_loadCells_list (P:=P) w ⟨b,o+off,none⟩ ((vs.drop off).take n) (fun j v hj=>by
     rw [List.getElem?_take] at hj
     split at hj
     ·rw [List.getElem?_drop] at hj
      rw [Addr.add_lit,Nat.add_assoc];exact hc _ _ hj
     ·cases hj)
    rw [oT] at sj;refine ⟨.agg ((vs.drop off).take n).toArray,?_,?_⟩
    ·simp [loadVar,Ln ha,Cq hn,sj]
    ·simp only [AA]
     exact ⟨_,rfl,(hr.drop off).take n⟩
   ·cases h
  ·cases h
 ·rename_i ha
  obtain ⟨v,hv,o7⟩:=hr.get h;refine ⟨v,?_,o7⟩;simp [loadVar,Ln ha,hc _ _ hv]
 ·cases h
theorem Hd (R:Rel g H w) {id b:Nat} {cs:List AV} (h:H.at id=some (.box cs)) (hM:g.M id=some (.box b)) :
  ∃vs el,w.heap[b]? = some (.cells (List.toArray vs) el (0,0))∧AB g cs vs∧∀i v,vs[i]? = some v→w.cell? ⟨b,0+i,none⟩=some v:=by
 obtain ⟨ge,hM',o7⟩:=R.ent id _ h (by simp);rw [hM] at hM';injection hM' with hM';subst hM';obtain ⟨vs,el,h1,h2,_⟩:=o7;refine ⟨vs,el,h1,h2,fun i v hv => ?_⟩;simp [World.cell?,h1,hv]
theorem Qi (R:Rel g H w) {t:TypeId} {x r:AV} (h:A8 P H t x=some r) {xv:Value} (hx:AA g x xv) :
  ∃rv,(Instr.loadAt t xv).run P w = .ok rv w∧AA g r rv:=by
 unfold A8 at h
 split at h
 ·rename_i id off
  split at h
  ·rename_i cs hH
   simp only [AA] at hx;obtain ⟨b,hM,rfl⟩:=hx;obtain ⟨vs,el,_,h2,h3⟩:=Hd R hH hM;obtain ⟨rv,h4,h5⟩:=Nm (w:=w) h h2 h3;rw [Nat.zero_add] at h4;exact ⟨rv,by simp [Instr.loadAt,Instr.sureAddr,h4],h5⟩
  ·cases h
 ·rename_i cs off
  simp only [AA] at hx;obtain ⟨b,o,vs,rfl,h2,h3⟩:=hx;obtain ⟨rv,h4,h5⟩:=Nm (w:=w) h h2 (fun i v hv=>R.imm _ _ _ (h3 i v hv));exact ⟨rv,by simp [Instr.loadAt,Instr.sureAddr,h4],h5⟩
 ·rename_i id ver sz off
  split at h
  ·rename_i ver' cs hH
   split at h
   ·rename_i hv
    subst hv;simp only [AA] at hx;obtain ⟨b,cap,rfl,b',n',cap',hM,_,pu⟩:=hx;obtain ⟨ge,hM',o7⟩:=R.ent id _ hH (by simp);rw [hM] at hM';injection hM' with hM';subst hM';simp only [B9] at o7;obtain ⟨rfl,_,⟨vs,el,h1,_,h2⟩,_⟩:=o7;obtain ⟨rfl,rfl,_⟩:=pu rfl
    obtain ⟨rv,h4,h5⟩:=Nm (w:=w) (b:=b') (o:=0) h h2 (fun i v hv=>by
     rw [List.getElem?_take] at hv
     split at hv
     ·simp [World.cell?,h1,hv]
     ·cases hv)
    rw [Nat.zero_add] at h4;exact ⟨rv,by simp [Instr.loadAt,Instr.sureAddr,h4],h5⟩
   ·cases h
  ·cases h
 ·cases h
theorem Nn {cs vs:List AV} {us ws:List Value} (h:AB g cs us) (k:AB g vs ws) (off:Nat):AB g (D5 cs off vs) (us.take off++ws++us.drop (off+ws.length)):=by unfold D5;rw [k.length];exact ((h.take off).append k).append (h.drop _)
def AR (H:AH):Ups→AH
 |[]=>H
 |(i,e)::r=>AR (H.set i (some e)) r
theorem Vo (R:Rel g H w) {t:TypeId} {x v r:AV} {u:Ups} (h:DC P H t x v=some (r,u)) {xv vv:Value} (hx:AA g x xv) (hv:AA g v vv) :
  r = .nothing∧∃w',(Instr.storeAt t xv vv).run P w = .ok () w'∧Rel g (AR H u) w'∧AQ g H w g (AR H u) w':=by
 unfold DC at h
 split at h
 ·rename_i id off
  split at h
  ·rename_i cs n hH hn
   split at h
   ·rename_i hc
    obtain ⟨hk,oT,qk,pI⟩:=hc;injection h with h;simp only [Prod.mk.injEq] at h;obtain ⟨rfl,rfl⟩:=h;simp only [AA] at hx;obtain ⟨b,hM,rfl⟩:=hx;obtain ⟨vs,el,h1,h2,_⟩:=Hd R hH hM;have sJ:=G6 hv hk
    have oa:vv.cells.size=n:=by have:=sJ.length;rw [Array.length_toList] at this;omega
    have oS:=run_storeCells_at P b off el vv.cells.toList 0 (List.toArray vs) w h1 (by
     have:=h2.length
     simp [oa];omega) (I2 sJ qk)
    simp only [Nat.add_zero] at oS;refine ⟨rfl,w.setRow b (List.take off vs++vv.cells.toList++List.drop (off+vv.cells.toList.length) vs).toArray,?_,?_⟩
    ·simp only [Instr.storeAt,Instr.sureAddr,storeVar,Sem.run_bind,Sem.run_pure,Result.andThen_ok,Cq hn,oa,ne_eq,not_true_eq_false,if_false]
     exact oS
    ·exact R.write_box (cs:=D5 cs off (An v)) hH hM (setRow_heap w b _ _ el _ h1)
      (by simpa using Nn h2 sJ off) (fun k hk=>setRow_other w b k _ hk) (by simp [World.setRow]) rfl rfl rfl
   ·cases h
  ·cases h
 ·rename_i k sz n
  split at h
  ·rename_i n' ys m hH hn
   split at h
   ·rename_i hc
    obtain ⟨rfl,rfl,hk,oT,qk⟩:=hc;injection h with h;simp only [Prod.mk.injEq] at h;obtain ⟨rfl,rfl⟩:=h;simp only [AA,D4] at hx;obtain ⟨b,cap,rfl,b',n1,cap',hM,oO,pu⟩:=hx;obtain ⟨ge,hM',o7⟩:=R.ent k _ hH (by simp);rw [hM] at hM';injection hM' with hM';subst hM';simp only [B9] at o7;obtain ⟨rfl,qQ,rF,⟨vs,el,h1,qj,pZ⟩,qR⟩:=o7;obtain ⟨rfl,rfl,_⟩:=pu rfl;have sJ:=G6 hv hk
    have oa:vv.cells.size=m:=by have:=sJ.length;rw [Array.length_toList] at this;omega
    have pH:n'*m+m≤vs.length:=by have:(n'+1)*m≤cap'*m:=Nat.mul_le_mul_right _ qQ;rw [Nat.add_mul,Nat.one_mul] at this;omega
    have oS:=run_storeCells_at P b' (n'*m) el vv.cells.toList 0 (List.toArray vs) w h1 (by simp [oa];omega) (I2 sJ qk);simp only [Nat.add_zero] at oS;have po:vv.cells.toList.length=m:=by simpa using oa
    refine ⟨rfl,w.setRow b' (List.take (n'*m) vs++vv.cells.toList++List.drop (n'*m+vv.cells.toList.length) vs).toArray,?_,?_⟩
    ·simp only [Instr.storeAt,Instr.sureAddr,storeVar,Sem.run_bind,Sem.run_pure,Result.andThen_ok,Cq hn,oa,ne_eq,not_true_eq_false,if_false]
     exact oS
    ·refine R.write_loose (ys:=ys) hH hM (setRow_heap w b' _ _ el _ h1) ?_ qQ (by rw [oT]) ?_ ?_ (fun k hk=>setRow_other w b' k _ hk) (by simp [World.setRow]) rfl rfl rfl
     ·intro i hi
      have h3:(List.take (n'*m) vs).length=n'*m:=by simp;omega
      rw [List.append_assoc,List.getElem?_append_left (by omega),List.getElem?_take,if_pos hi];simp only [World.cell?,h1];simp
     ·simp only [List.length_append,List.length_take,List.length_drop,po]
      have:min (n'*m) vs.length=n'*m:=by omega
      omega
     ·have h3:(List.take (n'*m) vs).length=n'*m:=by simp;omega
      rw [List.append_assoc,List.drop_append_of_le_length (by omega),List.drop_eq_nil_of_le (by omega),List.nil_append,List.take_append_of_le_length (by omega),List.take_of_length_le (by omega)];exact sJ
   ·cases h
  ·cases h
 ·cases h
theorem Vp (R:Rel g H w) {t:TypeId} {z:AV} (hz:Ae P t=some z) (hk:z.known=true) {fid:Nat} (hl:fid<H.length) (hf:H.at fid=none) :
  ∃g' v w',(Instr.alloc t true (.tuple #[])).run P w = .ok v w'∧Rel g' (H.set fid (some (.box (An z)))) w'∧AQ g H w g' (H.set fid (some (.box (An z)))) w'∧AA g' (.ptr fid 0) v:=by
 obtain ⟨i,zv,hi,qS,hr⟩:=Jh hz;obtain ⟨g',h1,h2,h3⟩:=R.alloc_box zv.cells.toList (An z) t fid hl hf (G6 (hr g) hk);refine ⟨g',.pointer (some ⟨w.heap.size,0,none⟩),w.alloc (.cells (List.toArray zv.cells.toList) t),?_,h1,h2,?_⟩
 ·simp [Instr.alloc,zeroValue,GS hi,qS,newVar,newRow]
 ·simp only [AA]
  exact ⟨_,h3,rfl⟩
theorem Vq (R:Rel g H w) {t:TypeId} {x:AV} {xv:Value} (hx:AA g x xv) (hk:x.known=true) {fid:Nat} (hl:fid<H.length) (hf:H.at fid=none) :
  ∃g' v w',(Instr.box t xv).run P w = .ok v w'∧Rel g' (H.set fid (some (.box (An x)))) w'∧AQ g H w g' (H.set fid (some (.box (An x)))) w'∧AA g' (.ptr fid 0) v:=by
 obtain ⟨g',h1,h2,h3⟩:=R.alloc_box xv.cells.toList (An x) t fid hl hf (G6 hx hk);refine ⟨g',.pointer (some ⟨w.heap.size,0,none⟩),w.alloc (.cells (List.toArray xv.cells.toList) t),?_,h1,h2,?_⟩
 ·simp [Instr.box,newVar,newRow]
 ·simp only [AA]
  exact ⟨_,h3,rfl⟩
theorem Vr (R:Rel g H w) {t:TypeId} {x:AV} {xv:Value} (hx:AA g x xv) (hk:x.known=true) :
  ∃g' v w',(Instr.box t xv).run P w = .ok v w'∧Rel g' H w'∧AQ g H w g' H w'∧AA g' (.vptr (An x) 0) v:=by
 obtain ⟨h1,h2,h3⟩:=R.alloc_row xv.cells t (0,0) xv.cells.toList (fun i v h=>by simpa using h);refine ⟨_,.pointer (some ⟨w.heap.size,0,none⟩),_,?_,h1,h2,?_⟩
 ·simp [Instr.box,newVar,newRow]
 ·simp only [AA]
  exact ⟨w.heap.size,0,_,rfl,AB.mono h2.le _ _ (G6 hx hk),h3⟩
variable {P:Program} {g:Gh} {H:AH} {w:World}
theorem Qj (off:Nat):∀(ws:List Value) (k:Nat) (cs:Array Value),off+k+ws.length≤cs.size →
  (ws.zipIdx k).foldl (fun cs (x:Value × Nat)=>cs.setIfInBounds (off+x.2) x.1) cs=(cs.toList.take (off+k)++ws++cs.toList.drop (off+k+ws.length)).toArray
 |[],k,cs,h=>by simp
 |v::ws,k,cs,h=>by
  simp only [List.zipIdx_cons,List.foldl_cons];rw [Qj off ws (k+1) _ (by simp at h ⊢;omega)];apply Array.ext';simp only [Array.toList_setIfInBounds];apply List.ext_getElem?;intro i;simp only [List.length_cons] at h;have oa:cs.toList.length=cs.size:=by simp
  have oX:(List.take (off+k) cs.toList).length=off+k:=by rw [List.length_take,oa];omega
  have ud:(List.take (off+(k+1)) (cs.toList.set (off+k) v)).length=off+(k+1):=by rw [List.length_take,List.length_set,oa];omega
  rcases Nat.lt_or_ge i (off+k) with hi|hi
  ·rw [List.append_assoc,List.append_assoc,List.getElem?_append_left (by omega),List.getElem?_append_left (by omega),List.getElem?_take,List.getElem?_take,if_pos (by omega),if_pos hi,List.getElem?_set_ne (by omega)]
  ·rcases Nat.eq_or_lt_of_le hi with hi|hi
   ·subst hi
    rw [List.append_assoc,List.append_assoc,List.getElem?_append_left (by omega),List.getElem?_append_right (by omega),oX,List.getElem?_take,if_pos (by omega),List.getElem?_set_self (by omega)];simp
   ·rw [List.append_assoc,List.append_assoc,List.getElem?_append_right (l₁:=List.take (off+(k+1)) _) (by omega),List.getElem?_append_right (l₁:=List.take (off+k) _) (by omega),oX,ud]
    rw [show i-(off+k)=(i-(off+(k+1)))+1 by omega];rw [List.cons_append,List.getElem?_cons_succ];rw [List.getElem?_append,List.getElem?_append]
    split
    ·rfl
    ·rw [List.getElem?_drop,List.getElem?_drop,List.getElem?_set_ne (by omega)]
     simp only [List.length_cons]
     congr 1
     omega
theorem Lo (place:Nat→Option (Nat × Nat)):∀(parts:List (Nat × AV)) (pvs:List (Nat × Value)) (cells r:List AV) (cvs:List Value),
  E5 place cells parts=some r→AB g cells cvs→parts.map (·.1)=pvs.map (·.1)→AB g (parts.map (·.2)) (pvs.map (·.2)) →
  ∃rvs,Instr.fill place (List.toArray cvs) pvs=some (List.toArray rvs)∧AB g r rvs
 |[],pvs,cells,r,cvs,h,hc,h1,_=>by
  simp only [E5] at h;injection h with h;subst h;cases pvs with
  |nil=>exact ⟨cvs,rfl,hc⟩
  |cons p ps=>simp at h1
 |(i,v)::rest,pvs,cells,r,cvs,h,hc,h1,h2=>by
  cases pvs with
  |nil=>simp at h1
  |cons p ps =>
   obtain ⟨j,u⟩:=p;simp only [List.map_cons,List.cons.injEq] at h1;obtain ⟨rfl,h1⟩:=h1;simp only [List.map_cons,AB] at h2;obtain ⟨u',ps',he,h2,h3⟩:=h2;injection he with ri ot;subst ri;subst ot;simp only [E5] at h
   split at h
   ·cases h
   ·rename_i off size hp
    split at h
    ·rename_i tS
     obtain ⟨hk,hl,pI⟩:=tS;have ue:=G6 h2 hk;have wU:u.cells.toList.length=(An v).length:=ue.length;have oq:=hc.length;obtain ⟨rvs,oj,om⟩:=Lo place rest ps (D5 cells off (An v)) r _ h (Nn hc ue off) h1 h3;refine ⟨rvs,?_,om⟩;simp only [Instr.fill,hp];rw [if_neg]
     ·have hf:=Qj off u.cells.toList 0 (List.toArray cvs) (by simp at wU ⊢;omega)
      simp only [Nat.add_zero] at hf;rw [←oj,←Array.foldl_toList,Array.toList_zipIdx,hf]
     ·simp at wU ⊢
      omega
    ·cases h
theorem Qk:∀(fs:List Field) (l:List (Nat × Nat)),Ki P fs=some l →
  (fs.mapM fun f=>do pure (f.offset,←sizeOf f.type):Sem (List (Nat × Nat))).run P w = .ok l w
 |[],l,h=>by simp only [Ki] at h;injection h with h;subst h;simp
 |f::fs,l,h=>by
  simp only [Ki] at h
  split at h
  ·rename_i n l' h1 h2
   injection h with h;subst h;have:=Qk fs l' h2;simp only [List.mapM_cons,Sem.run_bind,Cq h1,Result.andThen_ok,Sem.run_pure,this]
  ·cases h
theorem Vs {t:TypeId} {parts:List (Nat × AV)} {pvs:List (Nat × Value)} {r:AV} (h:Aq P t parts=some r) (h1:parts.map (·.1)=pvs.map (·.1)) (h2:AB g (parts.map (·.2)) (pvs.map (·.2)))
  (ql:∀z,Ae P t=some z→z.known=true) :
  ∃rv,(Instr.build t (List.toArray pvs)).run P w = .ok rv w∧AA g r rv:=by
 unfold Aq at h
 split at h
 ·rename_i z fields hz hu
  obtain ⟨i,zv,hi,qS,hr⟩:=Jh hz
  split at h
  ·rename_i l hl
   cases hf:E5 (fun (i:Nat)=>l[i]?) (An z) parts with
   |none=>rw [hf] at h;cases h
   |some rc =>
    rw [hf] at h;simp only [Option.map_some] at h;injection h with h;subst h;obtain ⟨rvs,oj,om⟩:=Lo (g:=g) _ parts pvs _ rc _ hf (G6 (hr g) (ql z hz)) h1 h2;have hm:=Qk (w:=w) _ _ hl;refine ⟨.agg (List.toArray rvs),?_,by simp only [AA];exact ⟨rvs,rfl,om⟩⟩
    have hmA:(fields.mapM fun f=>do pure (f.offset,←sizeOf f.type):Sem (Array (Nat × Nat))).run P w = .ok (List.toArray l) w:=by rw [Array.mapM_eq_mapM_toList];simp only [Sem.run_map,hm,Result.andThen_ok]
    simp only [Instr.build,zeroValue,Sem.run_bind,GS hi,Result.andThen_ok,qS,Sem.run_pure,run_underlying hu,hmA];have:(fun (i:Nat)=>(List.toArray l)[i]?)=fun (i:Nat)=>l[i]? := by funext i;simp
    simp only [this];have sj:(List.toArray zv.cells.toList)=zv.cells:=by simp
    rw [sj] at oj;rw [oj];rfl
  ·cases h
 ·rename_i z n elem hz hu
  obtain ⟨i,zv,hi,qS,hr⟩:=Jh hz
  split at h
  ·rename_i sz oa
   cases hf:E5 (fun i=>some (i*sz,sz)) (An z) parts with
   |none=>rw [hf] at h;cases h
   |some rc =>
    rw [hf] at h;simp only [Option.map_some] at h;injection h with h;subst h;obtain ⟨rvs,oj,om⟩:=Lo (g:=g) _ parts pvs _ rc _ hf (G6 (hr g) (ql z hz)) h1 h2;refine ⟨.agg (List.toArray rvs),?_,by simp only [AA];exact ⟨rvs,rfl,om⟩⟩;simp only [Instr.build,zeroValue,Sem.run_bind,GS hi,Result.andThen_ok,qS,Sem.run_pure,run_underlying hu,Cq oa];have sj:(List.toArray zv.cells.toList)=zv.cells:=by simp
    rw [sj] at oj;rw [oj];rfl
  ·cases h
 ·cases h
theorem Ql {zs:List AV} {zvs:List Value} (h:AB g zs zvs) (n:Nat) :
  AB g (I0 zs n) ((List.range (n*zvs.length)).map fun i=>zvs[i % zvs.length]!):=by
 induction n with
 |zero=>simp [I0,AB]
 |succ n ih =>
  have he:(List.range ((n+1)*zvs.length)).map (fun i=>zvs[i % zvs.length]!)=zvs++(List.range (n*zvs.length)).map fun i=>zvs[i % zvs.length]! := by
   apply List.ext_getElem?;intro i;rw [List.getElem?_append];simp only [List.getElem?_map]
   split
   ·rename_i hi
    rw [List.getElem?_range (by rw [Nat.add_mul];omega)];simp [Nat.mod_eq_of_lt hi,hi]
   ·rename_i hi
    rcases Nat.lt_or_ge i ((n+1)*zvs.length) with oX|rj
    ·rw [List.getElem?_range oX,List.getElem?_range (by rw [Nat.add_mul] at oX;omega)]
     simp only [Option.map_some]
     have:i % zvs.length=(i-zvs.length) % zvs.length:=by rw [Nat.mod_eq_sub_mod (by omega)]
     rw [this]
    ·rw [List.getElem?_eq_none (by simpa using rj),List.getElem?_eq_none (by simp;rw [Nat.add_mul] at rj;omega)]
  rw [he];exact h.append ih
theorem Vt (R:Rel g H w) {t:TypeId} {len:Nat} {parts:List (Nat × AV)} {pvs:List (Nat × Value)} {r:AV} (h:CK P t len parts=some r) (h1:parts.map (·.1)=pvs.map (·.1))
  (h2:AB g (parts.map (·.2)) (pvs.map (·.2))) (ql:∀t z,Ae P t=some z→z.known=true) :
  ∃g' rv w',(Instr.buildSlice t len (List.toArray pvs)).run P w = .ok rv w'∧Rel g' H w'∧AQ g H w g' H w'∧AA g' r rv:=by
 unfold CK at h
 split at h
 ·rename_i elem hu
  split at h
  ·rename_i n z hn hz
   split at h
   ·rename_i tS
    obtain ⟨vB,hnp,xm⟩:=tS;obtain ⟨i,zv,hi,qS,hr⟩:=Jh hz;have tT:=G6 (hr g) (ql _ z hz);have sk:zv.cells.toList.length=n:=tT.length.trans vB;cases hf:E5 (fun i=>some (i*n,n)) (I0 (An z) len) parts with
    |none=>rw [hf] at h;cases h
    |some rc =>
     rw [hf] at h;simp only [Option.map_some] at h;injection h with h;subst h;have tU:=Ql tT len;obtain ⟨rvs,oj,om⟩:=Lo (g:=g) _ parts pvs _ rc _ hf tU h1 h2;rw [sk] at oj
     have pZ:rvs.length=len*n:=by
      have:∀(pl:Nat→Option (Nat × Nat)) (ps:List (Nat × AV)) (cs rs:List AV),E5 pl cs ps=some rs→rs.length=cs.length:=by
       intro pl ps
       induction ps with
       |nil=>intro cs rs h;simp only [E5] at h;injection h with h;rw [h]
       |cons p ps ih =>
        intro cs rs h;obtain ⟨i,v⟩:=p;simp only [E5] at h
        split at h
        ·cases h
        ·split at h
         ·rename_i hc
          rw [ih _ _ h];simp [D5];omega
         ·cases h
      have h3:=this _ _ _ _ hf;have h4:=tU.length;have h5:=om.length;simp [sk] at h4;omega
     obtain ⟨hR,hP,hH⟩:=R.alloc_row (List.toArray rvs) elem (0,0) rvs (fun i v h=>by simpa using h);refine ⟨_,.slice (some ⟨w.heap.size,0,none⟩) len len,_,?_,hR,hP,?_⟩
     ·have oa:zv.cells.size=n:=by simpa using sk
      have uf:(Array.range (len*n)).map (fun x=>zv.cells[x % zv.cells.size]!)=List.toArray ((List.range (len*n)).map fun x=>zv.cells.toList[x % n]!):=by apply Array.ext';simp [oa];intro a _;rw [getElem!_def];cases zv.cells[a % n]? <;> rfl
      simp only [Instr.buildSlice,Sem.run_bind,run_underlying hu,Result.andThen_ok,Cq hn];rw [if_neg (by omega)]
      by_cases o5:len*n=0
      ·rw [if_pos o5]
       simp only [Sem.run_bind,Sem.run_pure,Result.andThen_ok];rw [o5] at oj ⊢;simp only [List.range_zero,List.map_nil] at oj;have vC:∀f:Nat→Value,(Array.range 0).map f=List.toArray []:=fun f=>by apply Array.ext';simp
       rw [vC,oj];simp [newRow]
      ·rw [if_neg o5]
       simp only [Sem.run_bind,zeroValue,GS hi,Result.andThen_ok,qS,Sem.run_pure];rw [uf,oj];simp [newRow]
     ·simp only [AA]
      exact ⟨w.heap.size,0,len,rvs,rfl,AB.mono hP.le _ _ om,hH,by rw [←om.length];exact pZ,Nat.le_refl _,rfl⟩
   ·cases h
  ·cases h
 ·cases h
variable {P:Program} {g:Gh} {H:AH} {w:World}
theorem No (s:List UInt8):(ByteArray.mk (List.toArray s)).size=s.length:=rfl
theorem Vu (s:List UInt8):(ByteArray.mk (List.toArray s)).toList=s:=by rw [ByteArray.toList_eq]
theorem Vv (a b:List UInt8):(ByteArray.mk (List.toArray a))++(ByteArray.mk (List.toArray b))=ByteArray.mk (List.toArray (a++b)):=by apply ByteArray.ext;rw [ByteArray.data_append];simp
theorem Qm (s:List UInt8) (a b:Nat):(ByteArray.mk (List.toArray s)).extract a b=ByteArray.mk (List.toArray ((s.take b).drop a)):=by apply ByteArray.ext;rw [ByteArray.data_extract];simp [List.drop_take]
theorem Np (op:BinOp) (t:TypeId) (xo yo:Operand) (a b:Value) (h:¬(a = .nilIface∧b = .nilIface)) (h':∀xs ys,¬(a = .agg xs∧b = .agg ys)) :
  (eqGuard op t xo yo a b).run P w = .ok () w:=by
 unfold eqGuard
 split
 case h_3=>rfl
 all_goals
  simp only [Bool.not_true,Bool.false_eq_true,if_false]
  split
  ·exact absurd ⟨rfl,rfl⟩ h
  ·exact absurd ⟨rfl,rfl⟩ (h' _ _)
  ·rfl
theorem Vw (op:BinOp) (t:TypeId) (xo yo:Operand) (h:(A6 xo || A6 yo)=true) :
  (eqGuard op t xo yo .nilIface .nilIface).run P w = .ok () w:=by
 unfold eqGuard
 split
 case h_3=>rfl
 all_goals
  simp only [Bool.not_true,Bool.false_eq_true,if_false];cases xo<;>cases yo<;>first|rfl|(simp [A6] at h)
theorem Qn {op:BinOp} {k:IntKind} {a b:Int} {r:AV} (h:Ll op k a b=some r):∃rv,(Op.intBits op k a b).run P w = .ok rv w∧AA g r rv:=by
 unfold Ll at h
 split at h<;>first|(injection h with h;subst h;exact ⟨_,rfl,by simp [AA]⟩)|(cases h)
theorem Vx {op:BinOp} {k:IntKind} {a b:Int} {r:AV} (h:Bc op k a b=some r) (h1:op ≠ .shl) (h2:op ≠ .shr) (t:TypeId) :
  ∃rv,(binOp op t (.int k a) (.int k b)).run P w = .ok rv w∧AA g r rv:=by
 unfold Bc at h
 split at h
 ·injection h with h;subst h;exact ⟨_,by simp [binOp,Op.intArith];rfl,by simp [AA]⟩
 ·injection h with h;subst h;exact ⟨_,by simp [binOp,Op.intArith];rfl,by simp [AA]⟩
 ·injection h with h;subst h;exact ⟨_,by simp [binOp,Op.intArith];rfl,by simp [AA]⟩
 ·split at h
  ·cases h
  ·rename_i hb;injection h with h;subst h;exact ⟨_,by simp [binOp,Op.intDiv,hb];rfl,by simp [AA]⟩
 ·split at h
  ·cases h
  ·rename_i hb;injection h with h;subst h;exact ⟨_,by simp [binOp,Op.intDiv,hb];rfl,by simp [AA]⟩
 ·injection h with h;subst h;exact ⟨_,by simp [binOp,Op.intCmp];rfl,by simp [AA]⟩
 ·injection h with h;subst h;exact ⟨_,by simp [binOp,Op.intCmp];rfl,by simp [AA]⟩
 ·injection h with h;subst h;exact ⟨_,by simp [binOp,Op.intCmp];rfl,by simp [AA]⟩
 ·injection h with h;subst h;exact ⟨_,by simp [binOp,Op.intCmp];rfl,by simp [AA]⟩
 ·injection h with h;subst h;exact ⟨_,by simp [binOp,Op.intCmp];rfl,by simp [AA]⟩
 ·injection h with h;subst h;exact ⟨_,by simp [binOp,Op.intCmp];rfl,by simp [AA]⟩
 ·obtain ⟨rv,h3,h4⟩:=Qn (P:=P) (w:=w) (g:=g) h
  refine ⟨rv,?_,h4⟩;rw [←h3];cases op<;>simp_all [binOp]
theorem Vy {op:BinOp} {a b:List UInt8} {r:AV} (h:Be op a b=some r) (t:TypeId) :
  ∃rv,(binOp op t (.string ⟨List.toArray a⟩) (.string ⟨List.toArray b⟩)).run P w = .ok rv w∧AA g r rv:=by
 unfold Be at h
 split at h
 ·split at h
  ·rename_i hl
   injection h with h;subst h;refine ⟨.string ⟨List.toArray (a++b)⟩,?_,by simp [AA]⟩;simp only [binOp,Op.stringOp];rw [if_neg (by simp only [No];show ¬((a.length+b.length:Nat):Int)>IntKind.i64.max;simp only [IntKind.max,IntKind.bits,IntKind.signed];simp;omega)];rw [Vv];rfl
  ·cases h
 all_goals first
  |(injection h with h;subst h;exact ⟨_,by simp only [binOp,Op.stringOp,Vu];rfl,by simp [AA]⟩)
  |(cases h)
theorem Do (t:TypeId) (x y:Value):Op.equal t x y=Op.equalIn (9998+1+1) t x y:=rfl
theorem D9 {t:TypeId} {xv yv:Value} {b:Bool} (h:(Op.equal t xv yv).run P w = .ok b w) (h1:binOp .eql t xv yv=(do pure (.bool (←Op.equal t xv yv))))
  (h2:binOp .neq t xv yv=(do pure (.bool (!(←Op.equal t xv yv))))) (h3:¬(xv = .nilIface∧yv = .nilIface)) (h4:∀xs ys,¬(xv = .agg xs∧yv = .agg ys)) :
  ∀op,op = .eql∨op = .neq→∀xo yo,(do eqGuard op t xo yo xv yv;binOp op t xv yv:Sem Value).run P w = .ok (.bool (if op = .eql then b else !b)) w:=by
 intro op ho xo yo;rw [Sem.run_bind,Np op t xo yo xv yv h3 h4,Result.andThen_ok];rcases ho with rfl|rfl
 ·rw [h1,Sem.run_bind,h];rfl
 ·rw [h2,Sem.run_bind,h];rfl
theorem Qo {t:TypeId} {b:Bool} (h:(Op.equal t .nilIface .nilIface).run P w = .ok b w) {xo yo:Operand} (hc:(A6 xo || A6 yo)=true) :
  ∀op,op = .eql∨op = .neq→(do eqGuard op t xo yo .nilIface .nilIface;binOp op t .nilIface .nilIface:Sem Value).run P w = .ok (.bool (if op = .eql then b else !b)) w:=by
 intro op ho;rw [Sem.run_bind,Vw op t xo yo hc,Result.andThen_ok];rcases ho with rfl|rfl
 ·show (do pure (.bool (←Op.equal t .nilIface .nilIface)):Sem Value).run P w=_
  rw [Sem.run_bind,h];rfl
 ·show (do pure (.bool (!(←Op.equal t .nilIface .nilIface))):Sem Value).run P w=_
  rw [Sem.run_bind,h];rfl
theorem Qp {t:TypeId} {x y:AV} {b:Bool} (h:aeq P t x y=some b) {xv yv:Value} (hx:AA g x xv) (hy:AA g y yv) (hn:¬(x = .nilIface∧y = .nilIface)) :
  ∀op,op = .eql∨op = .neq→∀xo yo,(do eqGuard op t xo yo xv yv;binOp op t xv yv:Sem Value).run P w = .ok (.bool (if op = .eql then b else !b)) w:=by
 unfold aeq at h
 split at h
 all_goals rename_i hu
 case h_18 =>
  rename_i tx vx ty vy;simp only [AA] at hx hy;obtain ⟨ux,rfl,hx⟩:=hx;obtain ⟨uy,rfl,hy⟩:=hy;refine D9 ?_ rfl rfl (by simp) (by simp);rw [Do,Op.equalIn];simp only [Sem.run_bind,run_underlying hu,Result.andThen_ok]
  split at h
  ·rename_i he
   subst he
   split at h
   ·rename_i i k' k a k'' b' hi hui
    split at h
    ·rename_i hc
     obtain ⟨hc,rfl⟩:=hc;injection h with h;subst h;simp only [AA] at hx hy;subst hx hy;rw [if_neg (by simp)];simp only [Sem.run_bind,GS hi,Result.andThen_ok,hc,Bool.not_true,Bool.false_eq_true,if_false];rw [Op.equalIn];simp only [Sem.run_bind,run_underlying hui,Result.andThen_ok,if_true];rfl
    ·cases h
   ·cases h
  ·rename_i he
   injection h with h;subst h;rw [if_pos he];rfl
 case h_19=>cases h
 all_goals
  injection h with h;subst h;simp only [AA] at hx hy
 case h_1=>subst hx hy;exact D9 (by rw [Do,Op.equalIn];simp only [Sem.run_bind,run_underlying hu,Result.andThen_ok];rfl) rfl rfl (by simp) (by simp)
 case h_2=>subst hx hy;exact D9 (by rw [Do,Op.equalIn];simp only [Sem.run_bind,run_underlying hu,Result.andThen_ok];rfl) rfl rfl (by simp) (by simp)
 case h_3=>obtain ⟨b,_,rfl⟩:=hy;subst hx;exact D9 (by rw [Do,Op.equalIn];simp only [Sem.run_bind,run_underlying hu,Result.andThen_ok];rfl) rfl rfl (by simp) (by simp)
 case h_4=>obtain ⟨b,o,vs,rfl,_⟩:=hy;subst hx;exact D9 (by rw [Do,Op.equalIn];simp only [Sem.run_bind,run_underlying hu,Result.andThen_ok];rfl) rfl rfl (by simp) (by simp)
 case h_5=>obtain ⟨b,_,rfl⟩:=hx;subst hy;exact D9 (by rw [Do,Op.equalIn];simp only [Sem.run_bind,run_underlying hu,Result.andThen_ok];rfl) rfl rfl (by simp) (by simp)
 case h_6=>obtain ⟨b,o,vs,rfl,_⟩:=hx;subst hy;exact D9 (by rw [Do,Op.equalIn];simp only [Sem.run_bind,run_underlying hu,Result.andThen_ok];rfl) rfl rfl (by simp) (by simp)
 case h_7=>subst hx hy;exact D9 (by rw [Do,Op.equalIn];simp only [Sem.run_bind,run_underlying hu,Result.andThen_ok];rfl) rfl rfl (by simp) (by simp)
 case h_8=>obtain ⟨b,o,cap,vs,rfl,_⟩:=hy;subst hx;exact D9 (by rw [Do,Op.equalIn];simp only [Sem.run_bind,run_underlying hu,Result.andThen_ok];rfl) rfl rfl (by simp) (by simp)
 case h_9=>obtain ⟨b,o,cap,vs,rfl,_⟩:=hx;subst hy;exact D9 (by rw [Do,Op.equalIn];simp only [Sem.run_bind,run_underlying hu,Result.andThen_ok];rfl) rfl rfl (by simp) (by simp)
 case h_10=>obtain ⟨b,_,rfl,_⟩:=hy;subst hx;exact D9 (by rw [Do,Op.equalIn];simp only [Sem.run_bind,run_underlying hu,Result.andThen_ok];rfl) rfl rfl (by simp) (by simp)
 case h_11=>obtain ⟨b,_,rfl,_⟩:=hx;subst hy;exact D9 (by rw [Do,Op.equalIn];simp only [Sem.run_bind,run_underlying hu,Result.andThen_ok];rfl) rfl rfl (by simp) (by simp)
 case h_12=>subst hx hy;exact D9 (by rw [Do,Op.equalIn];simp only [Sem.run_bind,run_underlying hu,Result.andThen_ok];rfl) rfl rfl (by simp) (by simp)
 case h_13=>obtain ⟨fs,cs,rfl,_⟩:=hy;subst hx;exact D9 (by rw [Do,Op.equalIn];simp only [Sem.run_bind,run_underlying hu,Result.andThen_ok];rfl) rfl rfl (by simp) (by simp)
 case h_14=>obtain ⟨fs,cs,rfl,_⟩:=hx;subst hy;exact D9 (by rw [Do,Op.equalIn];simp only [Sem.run_bind,run_underlying hu,Result.andThen_ok];rfl) rfl rfl (by simp) (by simp)
 case h_15=>exact absurd ⟨rfl,rfl⟩ hn
 case h_16=>obtain ⟨u,rfl,_⟩:=hy;subst hx;exact D9 (by rw [Do,Op.equalIn];simp only [Sem.run_bind,run_underlying hu,Result.andThen_ok];rfl) rfl rfl (by simp) (by simp)
 case h_17=>obtain ⟨u,rfl,_⟩:=hx;subst hy;exact D9 (by rw [Do,Op.equalIn];simp only [Sem.run_bind,run_underlying hu,Result.andThen_ok];rfl) rfl rfl (by simp) (by simp)
variable {P:Program} {g:Gh} {H:AH} {w:World}
theorem Vz {op:BinOp} {t:TypeId} {xo yo:Operand} {x y r:AV} (h:BF P op t (A6 xo || A6 yo) x y=some r) {xv yv:Value} (hx:AA g x xv) (hy:AA g y yv) :
  ∃rv,(do eqGuard op t xo yo xv yv;binOp op t xv yv:Sem Value).run P w = .ok rv w∧AA g r rv:=by
 unfold BF at h
 split at h
 ·rename_i k a k' b
  simp only [AA] at hx hy;subst hx hy;rw [Sem.run_bind,Np op t xo yo _ _ (by simp) (by simp),Result.andThen_ok]
  split at h
  ·split at h
   ·rename_i hb
    injection h with h;subst h;refine ⟨.int k (k.wrap (a*2 ^ (min b.toNat k.bits))),?_,by simp only [AA]⟩;simp only [binOp,Op.shift];rw [if_neg (by omega)];rfl
   ·cases h
  ·split at h
   ·rename_i hb
    injection h with h;subst h;refine ⟨.int k (a.fdiv (2 ^ (min b.toNat k.bits))),?_,by simp only [AA]⟩;simp only [binOp,Op.shift];rw [if_neg (by omega)];rfl
   ·cases h
  ·rename_i h1 h2
   split at h
   ·rename_i hk
    subst hk;exact Vx h h1 h2 t
   ·cases h
 ·rename_i a b
  simp only [AA] at hx hy;subst hx hy;rw [Sem.run_bind,Np op t xo yo _ _ (by simp) (by simp),Result.andThen_ok];exact Vy h t
 ·simp only [AA] at hx hy
  subst hx hy
  split at h
  ·rename_i hc
   have key:∀b,aeq P t .nilIface .nilIface=some b→(Op.equal t .nilIface .nilIface).run P w = .ok b w:=by
    intro b hb;unfold aeq at hb;cases hu:P.underlying t with
    |none=>simp [hu] at hb
    |some d =>cases d<;>simp [hu] at hb;subst hb;rw [Do,Op.equalIn];simp only [Sem.run_bind,run_underlying hu,Result.andThen_ok];rfl
   split at h
   ·cases hb:aeq P t .nilIface .nilIface with
    |none=>rw [hb] at h;cases h
    |some b =>rw [hb] at h;injection h with h;subst h;exact ⟨_,Qo (key b hb) hc .eql (.inl rfl),by simp [AA]⟩
   ·cases hb:aeq P t .nilIface .nilIface with
    |none=>rw [hb] at h;cases h
    |some b =>rw [hb] at h;injection h with h;subst h;exact ⟨_,Qo (key b hb) hc .neq (.inr rfl),by simp [AA]⟩
   ·cases h
  ·cases h
 ·cases h
 ·rename_i pT pL pp qJ
  have hn:¬(x = .nilIface∧y = .nilIface):=fun hh=>pp hh.1 hh.2
  split at h
  ·cases hb:aeq P t x y with
   |none=>rw [hb] at h;cases h
   |some b =>rw [hb] at h;injection h with h;subst h;exact ⟨_,Qp hb hx hy hn .eql (.inl rfl) xo yo,by simp [AA]⟩
  ·cases hb:aeq P t x y with
   |none=>rw [hb] at h;cases h
   |some b =>rw [hb] at h;injection h with h;subst h;exact ⟨_,Qp hb hx hy hn .neq (.inr rfl) xo yo,by simp [AA]⟩
  ·cases h
theorem V0 {op:UnOp} {x r:AV} (h:aun op x=some r) {xv:Value} (hx:AA g x xv):∃rv,(Op.unary op xv).run P w = .ok rv w∧AA g r rv:=by
 unfold aun at h
 split at h
 ·simp only [AA] at hx;subst hx;injection h with h;subst h
  exact ⟨_,rfl,by simp [AA]⟩
 ·simp only [AA] at hx;subst hx;injection h with h;subst h
  exact ⟨_,rfl,by simp [AA]⟩
 ·simp only [AA] at hx;subst hx
  obtain ⟨rv,h1,h2⟩:=Qn (P:=P) (w:=w) (g:=g) h;exact ⟨rv,h1,h2⟩
 ·cases h
theorem Qq (s:List UInt8):AB g (EV s) (s.map fun b=>Value.int .u8 (b.toNat:Int)):=by
 unfold EV
 induction s with
 |nil=>simp [AB]
 |cons b s ih=>simp only [List.map_cons,AB];exact ⟨_,_,rfl,by simp [AA],ih⟩
theorem Nq:∀{cs:List AV} {s:List UInt8},IC cs=some s→∀{vs:List Value},AB g cs vs →
  ∃xs:List Int,vs=xs.map (Value.int .u8)∧s=xs.map fun n=>UInt8.ofNat n.toNat
 |[],s,h,vs,hv=>by simp only [IC] at h;injection h with h;subst h;simp only [AB] at hv;subst hv;exact ⟨[],rfl,rfl⟩
 |c::cs,s,h,vs,hv=>by
  simp only [AB] at hv;obtain ⟨v,ws,rfl,h1,h2⟩:=hv;simp only [IC] at h
  split at h
  ·rename_i n s' hb
   injection h with h;subst h;simp only [AA] at h1;subst h1;obtain ⟨xs,hx1,qZ⟩:=Nq hb h2;exact ⟨n::xs,by simp [hx1],by simp [qZ]⟩
  ·cases h
theorem V1 (R:Rel g H w) {src dst:TypeId} {x r:AV} (h:BV P H src dst x=some r) {xv:Value} (hx:AA g x xv) :
  ∃g' rv w',(convert src dst xv).run P w = .ok rv w'∧Rel g' H w'∧AQ g H w g' H w'∧AA g' r rv:=by
 unfold BV at h
 split at h
 ·rename_i hs hd
  simp only [AA] at hx;subst hx;injection h with h;subst h;refine ⟨g,_,w,?_,R,AQ.refl g H w,by simp only [AA];rfl⟩;simp [convert,run_underlying hs,run_underlying hd,Conv.intToInt]
 ·rename_i hs hd
  simp only [AA] at hx;subst hx;injection h with h;subst h;refine ⟨g,_,w,?_,R,AQ.refl g H w,by simp only [AA];rfl⟩;simp only [convert,Sem.run_bind,run_underlying hs,run_underlying hd,Result.andThen_ok];rfl
 ·rename_i s hs hd
  split at h
  ·rename_i he
   simp only [AA] at hx;subst hx
   split at h
   ·injection h with h;subst h
    have ou:=run_bytes_of_string (P:=P) w src dst _ ⟨List.toArray s⟩ hs hd he;have qQ:=grownCap_ge w (ByteArray.mk (List.toArray s)).size 0;rw [No] at qQ ou
    obtain ⟨h1,h2,h3⟩:=(R.drew).alloc_row (bytesRow ⟨List.toArray s⟩ (grownCap w s.length 0 _)) _ ((bytesRow ⟨List.toArray s⟩ (grownCap w s.length 0 _)).size,(bytesRow ⟨List.toArray s⟩ (grownCap w s.length 0 _)).size+1) (s.map fun b=>Value.int .u8 (b.toNat:Int)) (fun i v hi=>by
     unfold bytesRow;rw [Array.getElem?_append_left (by simp;have:=(List.getElem?_eq_some_iff.1 hi).1;simpa using this)]
     simpa using hi)
    exact ⟨_,_,_,ou,h1,AQ.trans R (AQ.drew g H w) h2,by
     simp only [AA]
     exact ⟨w.heap.size,0,_,_,rfl,AB.mono h2.le _ _ (Qq s),h3,by simp [EV],qQ _,trivial⟩⟩
   ·cases h
  ·cases h
 ·rename_i hs hd
  split at h
  ·rename_i he
   simp only [AA] at hx;subst hx;injection h with h;subst h;exact ⟨g,_,w,run_convert_bytes_nil (P:=P) w src _ hs he 0 0 dst hd,R,AQ.refl g H w,by simp only [AA];rfl⟩
  ·cases h
 ·rename_i n cs hs hd
  split at h
  ·rename_i he
   cases hb:IC cs with
   |none=>rw [hb] at h;cases h
   |some s =>
    rw [hb] at h;injection h with h;subst h;simp only [AA] at hx;obtain ⟨b,o,cap,vs,rfl,hr,hh,hl,hc,_⟩:=hx;obtain ⟨xs,rfl,rfl⟩:=Nq hb hr;have oT:xs.length=n:=by have:=hr.length;simp at this;omega
    have:=run_convert_bytes_arg (P:=P) w src _ hs he b o n cap xs oT (fun i hi=>by
     refine R.imm _ _ _ (hh i _ ?_)
     simp [List.getElem?_eq_getElem (show i<xs.length by omega),List.getD_eq_getElem?_getD]) dst hd
    exact ⟨g,_,w,this,R,AQ.refl g H w,by simp only [AA,strOfNums]⟩
  ·cases h
 ·rename_i id off n c hs hd
  split at h
  ·rename_i cs he hH
   split at h
   ·rename_i pI
    cases hb:IC ((cs.drop off).take n) with
    |none=>rw [hb] at h;cases h
    |some s =>
     rw [hb] at h;injection h with h;subst h;simp only [AA] at hx;obtain ⟨b,hM,rfl,hc⟩:=hx;obtain ⟨vs,el,h1,h2,h3⟩:=Hd R hH hM;have hr:=(h2.drop off).take n;obtain ⟨xs,o8,rfl⟩:=Nq hb hr;have po:=h2.length
     have oT:xs.length=n:=by have:=congrArg List.length o8;simp at this;omega
     have:=run_convert_bytes_arg (P:=P) w src _ hs he b off n c xs oT (fun i hi=>by
      have h4:=h3 (off+i) (.int .u8 (xs.getD i 0)) (by
       have h5:((vs.drop off).take n)[i]? = some (.int .u8 (xs.getD i 0)):=by rw [o8];simp [List.getElem?_eq_getElem (show i<xs.length by omega),List.getD_eq_getElem?_getD]
       rw [List.getElem?_take,if_pos hi,List.getElem?_drop] at h5
       exact h5)
      rw [Nat.zero_add] at h4
      exact h4) dst hd
     exact ⟨g,_,w,this,R,AQ.refl g H w,by simp only [AA,strOfNums]⟩
   ·cases h
  ·cases h
 ·cases h
variable {P:Program} {g:Gh} {H:AH} {w:World}
theorem Nr {o:Option AV} {l:Option Int} (h:BY o=some l) {ov:Option Value} (ho:∀x,o=some x→∃v,ov=some v∧AA g x v) (hn:o=none→ov=none) :
  (l=none∧ov=none)∨∃k n,l=some n∧ov=some (.int k n):=by
 unfold BY at h
 split at h
 ·injection h with h;subst h;exact .inl ⟨rfl,hn rfl⟩
 ·rename_i k n
  injection h with h;subst h;obtain ⟨v,hv,hr⟩:=ho _ rfl;simp only [AA] at hr;subst hr;exact .inr ⟨k,n,rfl,hv⟩
 ·cases h
theorem I3 {isS:Bool} {n c:Nat} {l h:Option Int} {lo hi:Option Value} (hl:(l=none∧lo=none)∨∃k m,l=some m∧lo=some (.int k m)) (hh:(h=none∧hi=none)∨∃k m,h=some m∧hi=some (.int k m))
  (h0:0≤l.getD 0) (h1:l.getD 0≤h.getD n) (h2:h.getD n≤n) (hc:n≤c) :
  (Instr.sliceBounds isS n c lo hi none).run P w = .ok ((l.getD 0).toNat,(h.getD n).toNat,c) w:=by
 have hb:∀(k:IntKind) (m:Int) (y:Nat) (code:BoundsCode),0≤m→m≤y→(Instr.sliceBound (.int k m) y code).run P w = .ok m.toNat w:=by intro k m y code ha hb;simp [Instr.sliceBound,asIntOf,ha,hb]
 rcases hh with ⟨rfl,rfl⟩|⟨k,m,rfl,rfl⟩
 ·rcases hl with ⟨rfl,rfl⟩|⟨k',m',rfl,rfl⟩
  ·simp [Instr.sliceBounds]
  ·simp only [Option.getD_some,Option.getD_none] at h0 h1 h2 ⊢
   simp only [Instr.sliceBounds,Sem.run_bind,Sem.run_pure,Result.andThen_ok];rw [hb _ _ _ _ h0 h1];simp
 ·simp only [Option.getD_some] at h1 h2
  rcases hl with ⟨rfl,rfl⟩|⟨k',m',rfl,rfl⟩
  ·simp only [Option.getD_none,Option.getD_some] at h0 h1 ⊢
   simp only [Instr.sliceBounds,Sem.run_bind,Sem.run_pure,Result.andThen_ok];rw [hb _ _ _ _ h1 (by omega)];simp
  ·simp only [Option.getD_some] at h0 h1 ⊢
   simp only [Instr.sliceBounds,Sem.run_bind,Sem.run_pure,Result.andThen_ok];rw [hb _ _ _ _ (by omega) (by omega)];simp only [Result.andThen_ok];rw [hb _ _ _ _ h0 (by omega)];simp
theorem Qr {isS:Bool} {n c:Nat} {l:Option Int} {m:Int} {lo hi mx:Option Value} {k k2:IntKind} (hl:(l=none∧lo=none)∨∃k m,l=some m∧lo=some (.int k m)) (hh:hi=some (.int k m)) (hm:mx=some (.int k2 m))
  (h0:0≤l.getD 0) (h1:l.getD 0≤m) (h2:m≤n) (hc:n≤c) :
  (Instr.sliceBounds isS n c lo hi mx).run P w = .ok ((l.getD 0).toNat,m.toNat,m.toNat) w:=by
 have hb:∀(k:IntKind) (m:Int) (y:Nat) (code:BoundsCode),0≤m→m≤y→(Instr.sliceBound (.int k m) y code).run P w = .ok m.toNat w:=by intro k m y code ha hb;simp [Instr.sliceBound,asIntOf,ha,hb]
 subst hh hm;rcases hl with ⟨rfl,rfl⟩|⟨k',m',rfl,rfl⟩
 ·simp only [Option.getD_none] at h0 h1 ⊢
  simp only [Instr.sliceBounds,Sem.run_bind,Sem.run_pure,Result.andThen_ok];rw [hb _ _ _ _ h1 (by omega)];simp only [Result.andThen_ok];rw [hb _ _ _ _ h1 (by omega)];simp
 ·simp only [Option.getD_some] at h0 h1 ⊢
  simp only [Instr.sliceBounds,Sem.run_bind,Sem.run_pure];rw [hb _ _ _ _ (by omega) (by omega)];simp only [Result.andThen_ok];rw [hb _ _ _ _ (by omega) (by omega)];simp only [Result.andThen_ok];rw [hb _ _ _ _ h0 (by omega)];simp
theorem Qs {ow':Own} {sz n a b:Nat} {cs:List AV} {bk o cap':Nat} {vs:List Value} (hr:AB g cs vs) (hh:g.has bk o vs) (hl:cs.length=n*sz) (vD:a≤b) (wV:b≤n)
  (ha:Nat) (hae:ha=o+a*sz∨b=a) (qQ:b-a≤cap') (p7:D4 g ow' sz (b-a) bk ha cap') :
  AA g (.slice ow' sz (b-a) ((cs.drop (a*sz)).take ((b-a)*sz))) (.slice (some ⟨bk,ha,none⟩) (b-a) cap'):=by
 simp only [AA];refine ⟨bk,ha,cap',(vs.drop (a*sz)).take ((b-a)*sz),rfl,(hr.drop _).take _,?_,?_,qQ,p7⟩
 ·rcases hae with rfl|rfl
  ·exact Gh.has_take (Gh.has_drop hh _) _
  ·intro i v hi
   simp at hi
 ·simp only [List.length_take,List.length_drop]
  have:a*sz+(b-a)*sz≤n*sz:=by rw [←Nat.add_mul];exact Nat.mul_le_mul_right _ (by omega)
  omega
theorem V2 {t:TypeId} {x r:AV} {lo hi mx:Option AV} (h:BD P t x lo hi mx=some r) {xv:Value} (hx:AA g x xv) {lov vE mxv:Option Value}
  (hlo:∀x,lo=some x→∃v,lov=some v∧AA g x v) (xn:lo=none→lov=none) (hhi:∀x,hi=some x→∃v,vE=some v∧AA g x v) (xp:hi=none→vE=none)
  (hmx:∀x,mx=some x→∃v,mxv=some v∧AA g x v) (xq:mx=none→mxv=none) :
  ∃rv,(Instr.sliceAt t xv lov vE mxv).run P w = .ok rv w∧AA g r rv:=by
 unfold BD at h
 split at h
 ·rename_i l hh m h1 h2 h3
  have hl:=Nr h1 hlo xn;have hu:=Nr h2 hhi xp;have hm:=Nr h3 hmx xq
  split at h
  ·rename_i s p9
   simp only [AA] at hx;subst hx
   split at h
   ·rename_i hc
    obtain ⟨rfl,c1,c2,c3⟩:=hc;injection h with h;subst h;have qK:mxv=none:=by rcases hm with ⟨_,h⟩|⟨_,_,h,_⟩<;>simp_all
    subst qK;have hb:=I3 (P:=P) (w:=w) (isS:=false) (c:=s.length) hl hu c1 c2 c3 (Nat.le_refl _);refine ⟨.string ⟨List.toArray ((s.take (hh.getD s.length).toNat).drop (l.getD 0).toNat)⟩,?_,by simp only [AA]⟩;simp only [Instr.sliceAt,Sem.run_bind,run_underlying p9,Result.andThen_ok,Instr.slice];simp only [Option.isSome_none,Bool.false_eq_true,if_false,Sem.run_bind,No,hb,Result.andThen_ok,Qm,Sem.run_pure]
   ·cases h
  ·rename_i e p9
   simp only [AA] at hx;subst hx
   split at h
   ·rename_i hc
    obtain ⟨rfl,c1,c2,c3⟩:=hc;injection h with h;subst h;have qK:mxv=none:=by rcases hm with ⟨_,h⟩|⟨_,_,h,_⟩<;>simp_all
    subst qK;have hb:=I3 (P:=P) (w:=w) (isS:=true) (n:=0) (c:=0) hl hu (by omega) (by show l.getD 0≤hh.getD 0;omega) (by show hh.getD 0≤0;omega) (Nat.le_refl _);obtain ⟨n,hn⟩:=Option.isSome_iff_exists.1 c3;refine ⟨.slice none 0 0,?_,by simp only [AA]⟩;have vF:hh.getD ((0:Nat):Int)=0:=c2;simp only [Instr.sliceAt,Sem.run_bind,run_underlying p9,Result.andThen_ok,Instr.slice,hb,Cq hn,Sem.run_pure,c1,vF];rfl
   ·split at h
    ·rename_i hc
     obtain ⟨rfl,rfl,c1,c3⟩:=hc;injection h with h;subst h;rcases hm with ⟨h,_⟩|⟨k,mm,h,hmv⟩
     ·cases h
     ·injection h with h;subst h
      rcases hu with ⟨h,_⟩|⟨k2,mm2,h,vG⟩
      ·cases h
      ·injection h with h;subst h
       have hb:=Qr (P:=P) (w:=w) (isS:=true) (n:=0) (c:=0) hl vG hmv (by omega) (by omega) (by omega) (Nat.le_refl _);obtain ⟨n,hn⟩:=Option.isSome_iff_exists.1 c3;refine ⟨.slice none 0 0,?_,by simp only [AA]⟩;simp only [Instr.sliceAt,Sem.run_bind,run_underlying p9,Result.andThen_ok,Instr.slice,hb,Cq hn,Sem.run_pure,c1];rfl
    ·cases h
  ·rename_i e ow sz n cs p9
   simp only [AA] at hx;obtain ⟨bk,o,cap,vs,rfl,hr,wW,oT,p6,p7⟩:=hx
   split at h
   ·rename_i sz' oa
    split at h
    ·rename_i hc
     obtain ⟨rfl,rfl,c1,c2,c3⟩:=hc;injection h with h;subst h;have qK:mxv=none:=by rcases hm with ⟨_,h⟩|⟨_,_,h,_⟩<;>simp_all
     subst qK;have hb:=I3 (P:=P) (w:=w) (isS:=true) (c:=cap) hl hu c1 c2 c3 p6;refine ⟨.slice (some ⟨bk,if cap=(l.getD 0).toNat then o else o+(l.getD 0).toNat*sz',none⟩) ((hh.getD n).toNat-(l.getD 0).toNat) (cap-(l.getD 0).toNat),?_,?_⟩
     ·simp only [Instr.sliceAt,Sem.run_bind,run_underlying p9,Result.andThen_ok,Instr.slice,hb,Cq oa,Sem.run_pure]
      split<;>simp [Addr.add_lit]
     ·refine Qs hr wW oT (by omega) (by omega) _ ?_ (by omega) ?_
      ·split
       ·exact .inr (by omega)
       ·exact .inl rfl
      ·split
       ·rename_i wV
        split
        ·rename_i ha0
         simp only [ha0,wV,Nat.sub_zero,Nat.zero_mul,Nat.add_zero,ite_self];exact p7
        ·split
         ·rename_i hf
          subst hf;simp only [D4] at p7 ⊢;omega
         ·trivial
       ·trivial
    ·split at h
     ·rename_i hc
      obtain ⟨rfl,rfl,c0,c1,c2,c3⟩:=hc;injection h with h;subst h;rcases hm with ⟨h,_⟩|⟨k,mm,rfl,hmv⟩
      ·exact absurd h c0
      ·rcases hu with ⟨h,_⟩|⟨k2,mm2,h,vG⟩
       ·cases h
       ·injection h with h;subst h
        simp only [Option.getD_some] at c2 c3 ⊢;have hb:=Qr (P:=P) (w:=w) (isS:=true) (c:=cap) hl vG hmv c1 c2 c3 p6;refine ⟨.slice (some ⟨bk,if mm.toNat=(l.getD 0).toNat then o else o+(l.getD 0).toNat*sz',none⟩) (mm.toNat-(l.getD 0).toNat) (mm.toNat-(l.getD 0).toNat),?_,?_⟩
        ·simp only [Instr.sliceAt,Sem.run_bind,run_underlying p9,Result.andThen_ok,Instr.slice,hb,Cq oa,Sem.run_pure]
         split<;>simp [Addr.add_lit]
        ·refine Qs hr wW oT (by omega) (by omega) _ ?_ (Nat.le_refl _) rfl
         split
         ·exact .inr (by omega)
         ·exact .inl rfl
     ·cases h
   ·cases h
  ·rename_i e id off sz n c p9
   simp only [AA] at hx;obtain ⟨bk,hM,rfl,p6⟩:=hx
   split at h
   ·rename_i sz' oa
    split at h
    ·rename_i hc
     obtain ⟨rfl,rfl,c1,c2,c3⟩:=hc;injection h with h;subst h;have qK:mxv=none:=by rcases hm with ⟨_,h⟩|⟨_,_,h,_⟩<;>simp_all
     subst qK;have hb:=I3 (P:=P) (w:=w) (isS:=true) (c:=c) hl hu c1 c2 c3 p6;refine ⟨.slice (some ⟨bk,if c=(l.getD 0).toNat then off else off+(l.getD 0).toNat*sz',none⟩) ((hh.getD n).toNat-(l.getD 0).toNat) (c-(l.getD 0).toNat),?_,?_⟩
     ·simp only [Instr.sliceAt,Sem.run_bind,run_underlying p9,Result.andThen_ok,Instr.slice,hb,Cq oa,Sem.run_pure]
      split<;>simp [Addr.add_lit]
     ·simp only [AA]
      exact ⟨bk,hM,rfl,by omega⟩
    ·cases h
   ·cases h
  ·rename_i e id ver sz n p9
   simp only [AA] at hx;obtain ⟨bk,cap,rfl,p6,p7⟩:=hx
   split at h
   ·rename_i sz' oa
    split at h
    ·rename_i hc
     obtain ⟨rfl,rfl,c1,c2,c3⟩:=hc;injection h with h;subst h;have qK:mxv=none:=by rcases hm with ⟨_,h⟩|⟨_,_,h,_⟩<;>simp_all
     subst qK;have hb:=I3 (P:=P) (w:=w) (isS:=true) (n:=n) (c:=cap) hl hu (by omega) (by omega) c3 p6;refine ⟨.slice (some ⟨bk,0,none⟩) (hh.getD n).toNat cap,?_,?_⟩
     ·simp only [Instr.sliceAt,Sem.run_bind,run_underlying p9,Result.andThen_ok,Instr.slice,hb,Cq oa,Sem.run_pure,c1]
      simp [Addr.add_lit]
     ·simp only [AA]
      exact ⟨bk,cap,rfl,by omega,p7⟩
    ·cases h
   ·cases h
  ·rename_i q id off p9
   simp only [AA] at hx;obtain ⟨bk,hM,rfl⟩:=hx
   split at h
   ·rename_i n e hq
    split at h
    ·rename_i sz oa
     split at h
     ·rename_i hc
      obtain ⟨rfl,c1,c2,c3⟩:=hc;injection h with h;subst h;have qK:mxv=none:=by rcases hm with ⟨_,h⟩|⟨_,_,h,_⟩<;>simp_all
      subst qK;have hb:=I3 (P:=P) (w:=w) (isS:=false) (c:=n) hl hu c1 c2 c3 (Nat.le_refl _);refine ⟨.slice (some ⟨bk,if n=(l.getD 0).toNat then off else off+(l.getD 0).toNat*sz,none⟩) ((hh.getD n).toNat-(l.getD 0).toNat) (n-(l.getD 0).toNat),?_,?_⟩
      ·simp only [Instr.sliceAt,Sem.run_bind,run_underlying p9,run_underlying hq,Result.andThen_ok,Instr.slice,hb,Cq oa,Sem.run_pure,Instr.sureAddr,asAddr]
       split<;>simp [Addr.add_lit]
      ·simp only [AA]
       exact ⟨bk,hM,rfl,by omega⟩
     ·cases h
    ·cases h
   ·cases h
  ·rename_i n e id off p9
   simp only [AA] at hx;obtain ⟨bk,hM,rfl⟩:=hx
   split at h
   ·rename_i sz oa
    split at h
    ·rename_i hc
     obtain ⟨rfl,c1,c2,c3⟩:=hc;injection h with h;subst h;have qK:mxv=none:=by rcases hm with ⟨_,h⟩|⟨_,_,h,_⟩<;>simp_all
     subst qK;have hb:=I3 (P:=P) (w:=w) (isS:=false) (c:=n) hl hu c1 c2 c3 (Nat.le_refl _);refine ⟨.slice (some ⟨bk,if n=(l.getD 0).toNat then off else off+(l.getD 0).toNat*sz,none⟩) ((hh.getD n).toNat-(l.getD 0).toNat) (n-(l.getD 0).toNat),?_,?_⟩
     ·simp only [Instr.sliceAt,Sem.run_bind,run_underlying p9,Result.andThen_ok,hb,Cq oa,Sem.run_pure,Instr.sureAddr]
      split<;>simp [Addr.add_lit]
     ·simp only [AA]
      exact ⟨bk,hM,rfl,by omega⟩
    ·cases h
   ·cases h
  ·cases h
 ·cases h
theorem V3 {t:TypeId} {x r:AV} {i:Nat} (h:BE P t x i=some r) {xv:Value} (hx:AA g x xv):∃rv,(Instr.fieldAt t xv i).run P w = .ok rv w∧AA g r rv:=by
 unfold BE at h
 split at h
 ·rename_i fields hu
  split at h
  ·rename_i f hf
   split at h
   ·rename_i n hn
    split at h
    ·cases h
    ·rename_i sK
     split at h
     ·rename_i id off
      injection h with h;subst h;simp only [AA] at hx;obtain ⟨b,hM,rfl⟩:=hx;refine ⟨.pointer (some ⟨b,off+f.offset,none⟩),?_,by simp only [AA];exact ⟨b,hM,rfl⟩⟩;simp only [Instr.fieldAt,Sem.run_bind,run_underlying hu,Result.andThen_ok,hf,Instr.sureAddr,Sem.run_pure,fieldPlace,Cq hn];rw [if_neg sK];simp [Addr.add_lit]
     ·rename_i cs off
      injection h with h;subst h;simp only [AA] at hx;obtain ⟨b,o,vs,rfl,h1,h2⟩:=hx;refine ⟨.pointer (some ⟨b,o+off+f.offset,none⟩),?_,by simp only [AA];exact ⟨b,o,vs,by rw [Nat.add_assoc],h1,h2⟩⟩;simp only [Instr.fieldAt,Sem.run_bind,run_underlying hu,Result.andThen_ok,hf,Instr.sureAddr,Sem.run_pure,fieldPlace,Cq hn];rw [if_neg sK];simp [Addr.add_lit]
     ·cases h
   ·cases h
  ·cases h
 ·cases h
theorem Qt {t:TypeId} {cs:List AV} {off:Nat} {r:AV} (h:BI P t cs off=some r) {vs:List Value} (hr:AB g cs vs) :
  ∃rv,(part t (List.toArray vs) off).run P w = .ok rv w∧AA g r rv:=by
 unfold BI at h
 split at h
 ·rename_i ha
  split at h
  ·rename_i n hn
   split at h
   ·injection h with h;subst h
    refine ⟨.agg (List.toArray ((vs.drop off).take n)),?_,by simp only [AA];exact ⟨_,rfl,(hr.drop off).take n⟩⟩;simp only [part,Sem.run_bind,Ln ha,Result.andThen_ok,if_true,Cq hn,Sem.run_pure];simp
   ·cases h
  ·cases h
 ·rename_i ha
  obtain ⟨v,hv,o7⟩:=hr.get h;refine ⟨v,?_,o7⟩;simp only [part,Sem.run_bind,Ln ha,Result.andThen_ok,Bool.false_eq_true,if_false];have:(List.toArray vs)[off]? = some v:=by simpa using hv
  simp only [this];rfl
 ·cases h
theorem V4 {t:TypeId} {x r:AV} {i:Nat} (h:BM P t x i=some r) {xv:Value} (hx:AA g x xv):∃rv,(Instr.field t xv i).run P w = .ok rv w∧AA g r rv:=by
 unfold BM at h
 split at h
 ·rename_i fields cs hu
  split at h
  ·rename_i f hf
   simp only [AA] at hx;obtain ⟨vs,rfl,hr⟩:=hx;obtain ⟨rv,h1,h2⟩:=Qt (w:=w) h hr;refine ⟨rv,?_,h2⟩;simp only [Instr.field,Sem.run_bind,run_underlying hu,Result.andThen_ok,hf,asAgg,Sem.run_pure,h1]
  ·cases h
 ·cases h
theorem V5 {t:TypeId} {x i r:AV} (h:Ao P t x i=some r) {xv iv:Value} (hx:AA g x xv) (hi:AA g i iv):∃rv,(Instr.indexAt t xv iv).run P w = .ok rv w∧AA g r rv:=by
 unfold Ao at h
 split at h
 ·rename_i k i
  simp only [AA] at hi;subst hi
  split at h
  ·rename_i e ow sz n cs hu
   split at h
   ·rename_i sz' oa
    split at h
    ·rename_i hc
     obtain ⟨rfl,c1,c2⟩:=hc;injection h with h;subst h;simp only [AA] at hx;obtain ⟨b,o,cap,vs,rfl,h1,h2,_⟩:=hx;refine ⟨.pointer (some ⟨b,o+i.toNat*sz',none⟩),?_,by simp only [AA];exact ⟨b,o,vs,rfl,h1,h2⟩⟩;simp only [Instr.indexAt,asIntOf,Sem.run_bind,Sem.run_pure,run_underlying hu,Result.andThen_ok];rw [if_pos ⟨c1,c2⟩];simp [Cq oa,Addr.add_lit]
    ·cases h
   ·cases h
  ·rename_i e id off sz n c hu
   split at h
   ·rename_i sz' oa
    split at h
    ·rename_i hc
     obtain ⟨rfl,c1,c2⟩:=hc;injection h with h;subst h;simp only [AA] at hx;obtain ⟨b,hM,rfl,_⟩:=hx;refine ⟨.pointer (some ⟨b,off+i.toNat*sz',none⟩),?_,by simp only [AA];exact ⟨b,hM,rfl⟩⟩;simp only [Instr.indexAt,asIntOf,Sem.run_bind,Sem.run_pure,run_underlying hu,Result.andThen_ok];rw [if_pos ⟨c1,c2⟩];simp [Cq oa,Addr.add_lit]
    ·cases h
   ·cases h
  ·rename_i e k sz n cs hu
   split at h
   ·rename_i sz' oa
    split at h
    ·rename_i hc
     obtain ⟨rfl,rfl⟩:=hc;injection h with h;subst h;simp only [AA] at hx;obtain ⟨b,cap,vs,rfl,_,_,_,_,ho⟩:=hx;refine ⟨.pointer (some ⟨b,n*sz',none⟩),?_,by simp only [AA];exact ⟨b,cap,rfl,ho⟩⟩;simp only [Instr.indexAt,asIntOf,Sem.run_bind,Sem.run_pure,run_underlying hu,Result.andThen_ok];rw [if_pos ⟨by omega,by omega⟩];simp [Cq oa,Addr.add_lit]
    ·cases h
   ·cases h
  ·rename_i e id ver sz n hu
   split at h
   ·rename_i sz' oa
    split at h
    ·rename_i hc
     obtain ⟨rfl,c1,c2⟩:=hc;injection h with h;subst h;simp only [AA] at hx;obtain ⟨b,cap,rfl,_,ho⟩:=hx;refine ⟨.pointer (some ⟨b,i.toNat*sz',none⟩),?_,by simp only [AA];exact ⟨b,cap,rfl,ho⟩⟩;simp only [Instr.indexAt,asIntOf,Sem.run_bind,Sem.run_pure,run_underlying hu,Result.andThen_ok];rw [if_pos ⟨c1,c2⟩];simp [Cq oa,Addr.add_lit]
    ·cases h
   ·cases h
  ·rename_i n e id off hu
   split at h
   ·rename_i sz oa
    split at h
    ·rename_i hc
     injection h with h;subst h;simp only [AA] at hx;obtain ⟨b,hM,rfl⟩:=hx;refine ⟨.pointer (some ⟨b,off+i.toNat*sz,none⟩),?_,by simp only [AA];exact ⟨b,hM,rfl⟩⟩;simp only [Instr.indexAt,asIntOf,Sem.run_bind,Sem.run_pure,run_underlying hu,Result.andThen_ok,Instr.sureAddr];rw [if_pos hc];simp [Cq oa,Addr.add_lit]
    ·cases h
   ·cases h
  ·rename_i n e cs off hu
   split at h
   ·rename_i sz oa
    split at h
    ·rename_i hc
     injection h with h;subst h;simp only [AA] at hx;obtain ⟨b,o,vs,rfl,h1,h2⟩:=hx;refine ⟨.pointer (some ⟨b,o+off+i.toNat*sz,none⟩),?_,by simp only [AA];exact ⟨b,o,vs,by rw [Nat.add_assoc],h1,h2⟩⟩;simp only [Instr.indexAt,asIntOf,Sem.run_bind,Sem.run_pure,run_underlying hu,Result.andThen_ok,Instr.sureAddr];rw [if_pos hc];simp [Cq oa,Addr.add_lit]
    ·cases h
   ·cases h
  ·cases h
 ·cases h
theorem V6 {t:TypeId} {x i r:AV} (h:BQ P t x i=some r) {xv iv:Value} (hx:AA g x xv) (hi:AA g i iv):∃rv,(Instr.index t xv iv).run P w = .ok rv w∧AA g r rv:=by
 unfold BQ at h
 split at h
 ·rename_i k i
  simp only [AA] at hi;subst hi
  split at h
  ·rename_i s hu
   split at h
   ·rename_i hc
    split at h
    ·rename_i b hb
     injection h with h;subst h;simp only [AA] at hx;subst hx;refine ⟨.int .u8 (b.toNat:Int),?_,by simp only [AA]⟩
     have hg:(ByteArray.mk (List.toArray s))[i.toNat]? = some b:=by
      have oX:=(List.getElem?_eq_some_iff.1 hb)
      obtain ⟨oX,hv⟩:=oX;rw [getElem?_pos (ByteArray.mk (List.toArray s)) i.toNat oX]
      congr 1
     simp only [Instr.index,asIntOf,Sem.run_bind,Sem.run_pure,run_underlying hu,Result.andThen_ok];rw [if_pos hc,hg];rfl
    ·cases h
   ·cases h
  ·rename_i n e cs hu
   split at h
   ·rename_i sz oa
    split at h
    ·rename_i hc
     simp only [AA] at hx;obtain ⟨vs,rfl,hr⟩:=hx;obtain ⟨rv,h1,h2⟩:=Qt (w:=w) h hr;refine ⟨rv,?_,h2⟩;simp only [Instr.index,asIntOf,Sem.run_bind,Sem.run_pure,run_underlying hu,Result.andThen_ok];rw [if_pos hc];simp only [Sem.run_bind,Cq oa,Result.andThen_ok,h1]
    ·cases h
   ·cases h
  ·cases h
 ·cases h
theorem V7 {x r:AV} {i:Nat} (h:BR x i=some r) {xv:Value} (hx:AA g x xv):∃rv,(Instr.extract xv i).run P w = .ok rv w∧AA g r rv:=by
 unfold BR at h
 split at h
 ·simp only [AA] at hx
  obtain ⟨vs,rfl,hr⟩:=hx;obtain ⟨v,hv,o7⟩:=hr.get h;refine ⟨v,?_,o7⟩;have:(List.toArray vs)[i]? = some v:=by simpa using hv
  simp only [Instr.extract,this];rfl
 ·cases h
theorem V8 {x r:AV} {xT t:TypeId} {ok:Bool} (h:D6 P x t ok=some r) {xv:Value} (hx:AA g x xv) :
  ∃rv,(Instr.typeAssert xv xT t ok).run P w = .ok rv w∧AA g r rv:=by
 have hf:∀{r:AV} {s d:Option TypeId} {m:String},(if ok=true then (match Ae P t with|some z=>some (AV.tup [z,.bool false])|none=>none) else none)=some r →
   ∃rv,(if ok=true then (do pure (.tuple #[←zeroValue t,.bool false])) else runtimePanic (.typeAssertion s d t m):Sem Value).run P w = .ok rv w∧AA g r rv:=by
  intro r s d m h
  split at h
  ·rename_i o6
   split at h
   ·rename_i z hz
    injection h with h;subst h;obtain ⟨i,zv,hi,qS,hr⟩:=Jh hz;refine ⟨.tuple #[zv,.bool false],?_,by simp only [AA];exact ⟨[zv,.bool false],rfl,by simp only [AB,AA];exact ⟨_,_,rfl,hr g,_,_,rfl,rfl,rfl⟩⟩⟩;simp [o6,zeroValue,GS hi,qS]
   ·cases h
  ·cases h
 have hh:∀{a r:AV} {v:Value},AA g a v→some (if ok then AV.tup [a,.bool true] else a)=some r→∃rv,(pure (if ok=true then Value.tuple #[v,.bool true] else v):Sem Value).run P w = .ok rv w∧AA g r rv:=by
  intro a r v ha h;injection h with h;subst h;refine ⟨_,rfl,?_⟩;cases ok
  ·simpa using ha
  ·simp only [if_true,AA]
   exact ⟨[v,.bool true],rfl,by simp only [AB,AA];exact ⟨_,_,rfl,ha,_,_,rfl,rfl,rfl⟩⟩
 unfold D6 at h;simp only at h
 split at h
 ·rename_i d hu
  simp only [AA] at hx;subst hx;cases d<;>(simp only [Instr.typeAssert,Sem.run_bind,run_underlying hu,Result.andThen_ok];exact hf h)
 ·rename_i want tx v hu
  have hx':=hx;simp only [AA] at hx;obtain ⟨y,rfl,hy⟩:=hx
  split at h
  ·rename_i i hi
   split at h
   ·rename_i hm
    simp only [Instr.typeAssert,Sem.run_bind,run_underlying hu,Result.andThen_ok,GS hi,hm];exact hh hx' h
   ·rename_i m hm
    simp only [Instr.typeAssert,Sem.run_bind,run_underlying hu,Result.andThen_ok,GS hi,hm];exact hf h
  ·cases h
 ·rename_i d tx v vH hu
  simp only [AA] at hx;obtain ⟨y,rfl,hy⟩:=hx;have hd:∀want,d ≠ .interface want:=fun want hh=>vH want (by rw [hh])
  split at h
  ·rename_i he
   cases d<;>first
    |(exact absurd rfl (hd _))
    |(simp only [Instr.typeAssert,Sem.run_bind,run_underlying hu,Result.andThen_ok];rw [if_pos he];exact hh hy h)
  ·rename_i he
   cases d<;>first
    |(exact absurd rfl (hd _))
    |(simp only [Instr.typeAssert,Sem.run_bind,run_underlying hu,Result.andThen_ok];rw [if_neg he];exact hf h)
 ·cases h
theorem V9 {t ty:TypeId} {x r:AV} (h:alen P t x=some r) {xv:Value} (hx:AA g x xv) {ts:Array TypeId} {xs:Array Value} (ht:ts[0]? = some t) (o8:xs[0]? = some xv) :
  ∃rv,(Builtin.len_ ts ty xs).run P w = .ok rv w∧AA g r rv:=by
 unfold alen at h
 split at h
 ·rename_i s hu
  simp only [AA] at hx;subst hx;injection h with h;subst h;refine ⟨_,?_,by simp only [AA];rfl⟩;simp only [Builtin.len_,ht,o8,Sem.run_bind,run_underlying hu,Result.andThen_ok];rfl
 ·rename_i e hu
  simp only [AA] at hx;subst hx;injection h with h;subst h;refine ⟨_,?_,by simp only [AA];rfl⟩;simp only [Builtin.len_,ht,o8,Sem.run_bind,run_underlying hu,Result.andThen_ok];rfl
 ·rename_i e hu
  simp only [AA] at hx;obtain ⟨ad,c,rfl⟩:=hx;injection h with h;subst h;refine ⟨_,?_,by simp only [AA];rfl⟩;simp only [Builtin.len_,ht,o8,Sem.run_bind,run_underlying hu,Result.andThen_ok];rfl
 ·rename_i e ow sz n cs hu
  simp only [AA] at hx;obtain ⟨b,o,cap,vs,rfl,_⟩:=hx;injection h with h;subst h;refine ⟨_,?_,by simp only [AA];rfl⟩;simp only [Builtin.len_,ht,o8,Sem.run_bind,run_underlying hu,Result.andThen_ok];rfl
 ·rename_i e id off sz n c hu
  simp only [AA] at hx;obtain ⟨b,_,rfl,_⟩:=hx;injection h with h;subst h;refine ⟨_,?_,by simp only [AA];rfl⟩;simp only [Builtin.len_,ht,o8,Sem.run_bind,run_underlying hu,Result.andThen_ok];rfl
 ·rename_i e id ver sz n hu
  simp only [AA] at hx;obtain ⟨b,cap,rfl,_⟩:=hx;injection h with h;subst h;refine ⟨_,?_,by simp only [AA];rfl⟩;simp only [Builtin.len_,ht,o8,Sem.run_bind,run_underlying hu,Result.andThen_ok];rfl
 ·rename_i n e hu
  injection h with h;subst h;refine ⟨.int .i64 n,?_,by simp only [AA]⟩;simp only [Builtin.len_,ht,o8,Sem.run_bind,run_underlying hu,Result.andThen_ok];rfl
 ·cases h
theorem WA {t ty:TypeId} {x r:AV} (h:I1 P t x=some r) {xv:Value} (hx:AA g x xv) {ts:Array TypeId} {xs:Array Value} (ht:ts[0]? = some t) (o8:xs[0]? = some xv) :
  ∃rv,(Builtin.cap_ ts ty xs).run P w = .ok rv w∧AA g r rv:=by
 unfold I1 at h
 split at h
 ·rename_i e hu
  simp only [AA] at hx;subst hx;injection h with h;subst h;refine ⟨_,?_,by simp only [AA];rfl⟩;simp only [Builtin.cap_,ht,o8,Sem.run_bind,run_underlying hu,Result.andThen_ok];rfl
 ·rename_i e id off sz n c hu
  simp only [AA] at hx;obtain ⟨b,_,rfl,_⟩:=hx;injection h with h;subst h;refine ⟨_,?_,by simp only [AA];rfl⟩;simp only [Builtin.cap_,ht,o8,Sem.run_bind,run_underlying hu,Result.andThen_ok];rfl
 ·cases h
theorem WC {x y r:AV} (h:ID x y=some r) {xv yv:Value} (hx:AA g x xv) (hy:AA g y yv) (ts:Array TypeId) (ty:TypeId) :
  ∃rv,(Builtin.max_ ts ty #[xv,yv]).run P w = .ok rv w∧AA g r rv:=by
 unfold ID at h
 split at h
 ·simp only [AA] at hx hy;subst hx;subst hy
  injection h with h;subst h;refine ⟨_,?_,by simp only [AA];rfl⟩;simp [Builtin.max_,Builtin.max2]
 ·cases h
theorem WD {x y r:AV} (h:G5 x y=some r) {xv yv:Value} (hx:AA g x xv) (hy:AA g y yv) (ts:Array TypeId) (ty:TypeId) :
  ∃rv,(Builtin.min_ ts ty #[xv,yv]).run P w = .ok rv w∧AA g r rv:=by
 unfold G5 at h
 split at h
 ·simp only [AA] at hx hy;subst hx;subst hy
  injection h with h;subst h;refine ⟨_,?_,by simp only [AA];rfl⟩;simp [Builtin.min_,Builtin.min2]
 ·cases h
variable {P:Program} {g:Gh} {H:AH} {w:World}
theorem Ns (t u ty e:TypeId) (i:TypeInfo) (z:Value) (d:TypeDesc) (ht:P.underlying t=some (.slice e)) (hu:P.underlying u=some d) (hd:∀k,d ≠ .int k) (hi:P.info? e=some i) (hz:i.zero=some z)
  (base:Option Addr) (sLen sCap m:Nat) (olds news:List Value) (xv:Value)
  (oT:∀w':World,(Builtin.lenOf xv).run P w' = .ok m w') (rh:∀w':World,w'.heap=w.heap→(Builtin.firstCells i.size m xv).run P w' = .ok (List.toArray news) w')
  (oY:∀w':World,w'.heap=w.heap→(Builtin.firstCells i.size sLen (.slice base sLen sCap)).run P w' = .ok (List.toArray olds) w')
  (hg:sCap<sLen+m) (h63:((sLen+m:Nat):Int)≤9223372036854775807) (pI:Builtin.nextslicecap (sLen+m) sCap*i.bytes≤281474976710656) :
  (Builtin.append_ #[t,u] ty #[.slice base sLen sCap,xv]).run P w =
   .ok (.slice (some ⟨w.heap.size,0,none⟩) (sLen+m) (grownCap w (sLen+m) sCap e))
    (w.drew.alloc (.cells (List.toArray (olds++news)++Builtin.zeroCells z.cells (grownCap w (sLen+m) sCap e-(sLen+m))) e)):=by
 have hn:¬(sLen+m≤sCap):=by omega
 have xr:¬(9223372036854775807<((sLen:Int)+(m:Int))):=by omega
 have xt:¬(281474976710656<Builtin.nextslicecap (sLen+m) sCap*i.bytes):=by omega
 have hf:=rh w.drew rfl;have vI:=oY w.drew rfl;simp [Builtin.append_,run_underlying ht,run_underlying hu,sizeOf,typeInfo,zeroValue,hi,hz,oT,hn,xr,xt,Question.forced,hf,vI,newRow,grownCap]
 congr 2
 apply Array.ext';simp [List.append_assoc]
theorem Nt (t u ty e:TypeId) (i:TypeInfo) (d:TypeDesc) (ht:P.underlying t=some (.slice e)) (hu:P.underlying u=some d) (hd:∀k,d ≠ .int k) (hi:P.info? e=some i)
  (b sLen sCap m:Nat) (news:List Value) (xv:Value) (cur:Array Value) (el:TypeId) (sI:w.heap[b]? = some (.cells cur el (0,0)))
  (oT:∀w':World,(Builtin.lenOf xv).run P w' = .ok m w') (rh:∀w':World,w'.heap=w.heap→(Builtin.firstCells i.size m xv).run P w' = .ok (List.toArray news) w')
  (h1:∀u∈news,u.oneCell'=true) (pH:sLen+m≤sCap) (pI:sLen*i.size+news.length≤cur.size) :
  (Builtin.append_ #[t,u] ty #[.slice (some ⟨b,0,none⟩) sLen sCap,xv]).run P w =
   .ok (.slice (some ⟨b,0,none⟩) (sLen+m) sCap) (w.setRow b (cur.toList.take (sLen*i.size)++news++cur.toList.drop (sLen*i.size+news.length)).toArray):=by
 have hf:=rh w rfl;have oS:=run_storeCells_at P b (sLen*i.size) el news 0 cur w sI (by simpa using pI) h1;simp only [Nat.add_zero] at oS;simp [Builtin.append_,run_underlying ht,run_underlying hu,sizeOf,typeInfo,hi,oT,pH,hf,Addr.add_lit,oS]
theorem Nu (t u ty e:TypeId) (i:TypeInfo) (d:TypeDesc) (ht:P.underlying t=some (.slice e)) (hu:P.underlying u=some d) (hd:∀k,d ≠ .int k) (hi:P.info? e=some i)
  (base:Option Addr) (sLen sCap:Nat) (xv:Value) (oT:∀w':World,(Builtin.lenOf xv).run P w' = .ok 0 w') (rh:∀w':World,w'.heap=w.heap→(Builtin.firstCells i.size 0 xv).run P w' = .ok #[] w') (hc:sLen≤sCap) :
  (Builtin.append_ #[t,u] ty #[.slice base sLen sCap,xv]).run P w = .ok (.slice base sLen sCap) w:=by
 have hf:=rh w rfl;cases base<;>simp [Builtin.append_,run_underlying ht,run_underlying hu,sizeOf,typeInfo,hi,oT,hc,hf,storeCells]
theorem Qu (R:Rel g H w) {sz:Nat} {x:AV} {m:Nat} {ys:List AV} (h:D7 H sz x=some (m,ys)) {xv:Value} (hx:AA g x xv) :
  ∃news:List Value,AB g ys news∧news.length=m*sz∧(∀w':World,(Builtin.lenOf xv).run P w' = .ok m w') ∧
   (∀k,k≤m→∀w':World,w'.heap=w.heap→(Builtin.firstCells sz k xv).run P w' = .ok (List.toArray (news.take (k*sz))) w'):=by
 unfold D7 at h
 split at h
 ·injection h with h
  simp only [Prod.mk.injEq] at h;obtain ⟨rfl,rfl⟩:=h;simp only [AA] at hx;subst hx;exact ⟨[],by simp [AB],by simp,fun _=>rfl,fun _ _ _ _=>by simp [Builtin.firstCells]⟩
 ·rename_i ow sz' n cs
  split at h
  ·rename_i oa
   subst oa;injection h with h;simp only [Prod.mk.injEq] at h;obtain ⟨rfl,rfl⟩:=h;simp only [AA] at hx;obtain ⟨b,o,cap,vs,rfl,hr,hh,hl,_⟩:=hx;have po:vs.length=n*sz':=by rw [hr.length,hl]
   refine ⟨vs,hr,po,fun _=>rfl,fun k hk w' hw => ?_⟩;have hkm:k*sz'≤n*sz':=Nat.mul_le_mul_right _ hk;refine run_firstCells_some w' sz' k ⟨b,o,none⟩ n cap _ (by simp;omega) (fun j v hj => ?_);rw [Addr.add_lit,Ek (w:=w) (by rw [hw])];rw [List.getElem?_take] at hj
   split at hj
   ·exact R.imm _ _ _ (hh j v hj)
   ·cases hj
  ·cases h
 ·rename_i id off sz' n c
  split at h
  ·rename_i cs hH
   split at h
   ·rename_i hc
    obtain ⟨rfl,pI⟩:=hc;injection h with h;simp only [Prod.mk.injEq] at h;obtain ⟨rfl,rfl⟩:=h;simp only [AA] at hx;obtain ⟨b,hM,rfl,_⟩:=hx;obtain ⟨vs,el,h1,h2,h3⟩:=Hd R hH hM;have po:=h2.length;have hl:((vs.drop off).take (n*sz')).length=n*sz':=by simp;omega
    refine ⟨(vs.drop off).take (n*sz'),(h2.drop off).take _,hl,fun _=>rfl,fun k hk w' hw => ?_⟩;have hkm:k*sz'≤n*sz':=Nat.mul_le_mul_right _ hk;refine run_firstCells_some w' sz' k ⟨b,off,none⟩ n c _ (by rw [List.length_take,hl];omega) (fun j v hj => ?_);rw [Addr.add_lit,Ek (w:=w) (by rw [hw])];rw [List.getElem?_take] at hj
    split at hj
    ·rw [List.getElem?_take] at hj
     split at hj
     ·rw [List.getElem?_drop] at hj
      have:=h3 _ _ hj
      rwa [Nat.zero_add] at this
     ·cases hj
    ·cases hj
   ·cases h
  ·cases h
 ·rename_i s
  split at h
  ·rename_i oa
   subst oa;injection h with h;simp only [Prod.mk.injEq] at h;obtain ⟨rfl,rfl⟩:=h;simp only [AA] at hx;subst hx;refine ⟨_,Qq s,by simp,fun _=>rfl,fun k hk w' hw => ?_⟩;simp only [Builtin.firstCells,Sem.run_pure];rw [Qm];simp
  ·cases h
 ·cases h
theorem Nv (R:Rel g H w) {sz:Nat} {x:AV} {m:Nat} {ys:List AV} (h:D7 H sz x=some (m,ys)) {xv:Value} (hx:AA g x xv) :
  ∃news:List Value,AB g ys news∧news.length=m*sz∧(∀w':World,(Builtin.lenOf xv).run P w' = .ok m w') ∧
   (∀w':World,w'.heap=w.heap→(Builtin.firstCells sz m xv).run P w' = .ok (List.toArray news) w'):=by
 obtain ⟨news,h1,h2,h3,h4⟩:=Qu (P:=P) R h hx;refine ⟨news,h1,h2,h3,fun w' hw => ?_⟩;rw [h4 m (Nat.le_refl _) w' hw,List.take_of_length_le (by omega)]
theorem WE (R:Rel g H w) {fid:Nat} {t u ty:TypeId} {s x r:AV} {up:Ups} (h:DO P H fid t u s x=some (r,up)) {sv xv:Value} (hs:AA g s sv) (hx:AA g x xv)
  (hid:fid<H.length∧H.at fid=none) :
  ∃g' rv w',(Builtin.append_ #[t,u] ty #[sv,xv]).run P w = .ok rv w'∧Rel g' (AR H up) w'∧AQ g H w g' (AR H up) w'∧AA g' r rv:=by
 obtain ⟨hl,hf⟩:=hid;unfold DO at h
 split at h
 ·rename_i e ht
  split at h
  ·rename_i i hi
   split at h
   ·rename_i z hz
    split at h
    ·rename_i hc
     obtain ⟨tV,oa,qL⟩:=hc
     have tW:∃d,P.underlying u=some d∧∀k,d ≠ .int k:=by
      unfold FX at qL
      by_cases rk:t=u
      ·subst rk;exact ⟨_,ht,by simp⟩
      ·have:(t==u)=false:=by simpa using rk
       rw [this,Bool.false_or] at qL
       split at qL
       ·rename_i h1 h2;exact ⟨_,h1,by simp⟩
       ·cases qL
     obtain ⟨d,hu,hd⟩:=tW
     split at h
     ·rename_i m ys ha
      obtain ⟨news,pT,pL,pp,qJ⟩:=Nv (P:=P) R ha hx
      split at h
      ·rename_i qk
       have tX:=I2 pT qk
       have grow:∀(base:Option Addr) (n cap:Nat) (xs:List AV) (olds:List Value) (id:Nat),AB g xs olds→olds.length=n*i.size→id<H.length →
         (H.at id=none∨∃n0 b0 cap0,H.at id=some (.tok n0)∧g.M id=some (.tok b0 n0 i.size cap0)∧n0<n+m) →
         (∀w':World,w'.heap=w.heap→(Builtin.firstCells i.size n (.slice base n cap)).run P w' = .ok (List.toArray olds) w')→cap<n+m→(n+m)*i.bytes≤140737488355328→n+m≤4611686018427387904 →
         ∃g' rv w',(Builtin.append_ #[t,u] ty #[.slice base n cap,xv]).run P w = .ok rv w'∧Rel g' (H.set id (some (.tok (n+m)))) w'∧AQ g H w g' (H.set id (some (.tok (n+m)))) w' ∧
          AA g' (.slice (.tok id) i.size (n+m) (xs++ys)) rv:=by
        intro base n cap xs olds id o8 qn rg tY oY rl tZ wX;have ou:=Ns (P:=P) (w:=w) t u ty e i z d ht hu hd hi hz base n cap m olds news xv pp qJ oY rl (by omega) (growslice_fits rl tZ);have rm:=grownCap_ge w (n+m) cap e
        obtain ⟨g',h1,h2,h3,h4⟩:=(R.drew).tok_grow (List.toArray (olds++news)++Builtin.zeroCells z.cells (grownCap w (n+m) cap e-(n+m))) e (olds++news)
         (fun j v hj=>by
          rw [Array.getElem?_append_left (by have:=(List.getElem?_eq_some_iff.1 hj).1;simpa using this)]
          simpa using hj)
         id (n+m) i.size (grownCap w (n+m) cap e) rg (by rw [List.length_append,qn,pL,Nat.add_mul])
         (by simp only [Array.size_append,List.size_toArray,List.length_append,size_zeroCells,tV,qn,pL,←Nat.add_mul];exact Nat.le_of_eq (by congr 1;omega)) rm tY
        refine ⟨g',_,_,ou,h1,AQ.trans R (AQ.drew g H w) h2,?_⟩;simp only [AA];refine ⟨w.heap.size,0,_,olds++news,rfl,AB.mono h2.le _ _ (o8.append pT),h4,?_,rm,?_⟩
        ·have e1:=o8.length
         have e2:=pT.length;rw [List.length_append,←e1,←e2,qn,pL,Nat.add_mul]
        ·exact ⟨w.heap.size,n+m,_,h3,Nat.le_refl _,fun _=>⟨rfl,rfl,rfl⟩⟩
       split at h
       ·-- onto nil
        simp only [AA] at hs;subst hs
        split at h
        ·rename_i hm
         subst hm;injection h with h;simp only [Prod.mk.injEq] at h;obtain ⟨rfl,rfl⟩:=h;have qo:news=[]:=List.eq_nil_of_length_eq_zero (by simpa using pL);subst qo;exact ⟨g,_,w,Nu (P:=P) t u ty e i d ht hu hd hi none 0 0 xv pp qJ (Nat.le_refl _),R,AQ.refl g H w,by simp only [AA]⟩
        ·rename_i hm
         split at h
         ·rename_i hb
          injection h with h;simp only [Prod.mk.injEq] at h;obtain ⟨rfl,rfl⟩:=h;have:=grow none 0 0 [] [] fid (by simp [AB]) (by simp) hl (.inl hf) (fun w' _=>by simp [Builtin.firstCells]) (by omega) (by simpa using hb.1) (by simpa using hb.2);simpa [AR] using this
         ·cases h
       ·rename_i ow sz n xs
        split at h
        ·rename_i tc
         subst tc;have sn:=hs;simp only [AA] at hs;obtain ⟨b,o,cap,vs,rfl,hr,hh,ox,p6,p7⟩:=hs;have po:vs.length=n*i.size:=by rw [hr.length,ox]
         have oY:∀w':World,w'.heap=w.heap→(Builtin.firstCells i.size n (.slice (some ⟨b,o,none⟩) n cap)).run P w' = .ok (List.toArray vs) w':=fun w' hw=>by refine run_firstCells_some w' i.size n ⟨b,o,none⟩ n cap vs po (fun j v hj => ?_);rw [Addr.add_lit,Ek (w:=w) (by rw [hw])];exact R.imm _ _ _ (hh j v hj)
         split at h
         ·rename_i hm
          subst hm;injection h with h;simp only [Prod.mk.injEq] at h;obtain ⟨rfl,rfl⟩:=h;have qo:news=[]:=List.eq_nil_of_length_eq_zero (by simpa using pL);subst qo;exact ⟨g,_,w,Nu (P:=P) t u ty e i d ht hu hd hi _ n cap xv pp qJ p6,R,AQ.refl g H w,sn⟩
         ·rename_i hm
          split at h
          ·rename_i hb
           split at h
           ·injection h with h
            simp only [Prod.mk.injEq] at h;obtain ⟨rfl,rfl⟩:=h;simp only [D4] at p7;exact grow _ n cap xs vs fid hr po hl (.inl hf) oY (by omega) hb.1 hb.2
           ·rename_i k
            split at h
            ·rename_i n' hk
             split at h
             ·rename_i qo
              subst qo;injection h with h;simp only [Prod.mk.injEq] at h;obtain ⟨rfl,rfl⟩:=h;obtain ⟨b',n2,cap',hM,oO,pu⟩:=p7;obtain ⟨ge,hM',o7⟩:=R.ent k _ hk (by simp);rw [hM] at hM';injection hM' with hM';subst hM';simp only [B9] at o7;obtain ⟨rfl,xu,⟨cs0,el0,pk,wY⟩,qR⟩:=o7;obtain ⟨rfl,rfl,rfl⟩:=pu rfl
              have td:k<H.length:=by
               unfold AH.at at hk;rcases Nat.lt_or_ge k H.length with h|h
               ·exact h
               ·simp [List.getElem?_eq_none h] at hk
              by_cases pH:n'+m≤cap'
              ·have pI:n'*i.size+news.length≤(List.toArray cs0).size:=by
                have:(n'+m)*i.size≤cap'*i.size:=Nat.mul_le_mul_right _ pH;rw [Nat.add_mul] at this;simp only [List.size_toArray];omega
               have ou:=Nt (P:=P) (w:=w) t u ty e i d ht hu hd hi b' n' cap' m news xv (List.toArray cs0) el0 pk pp qJ tX pH pI;obtain ⟨g',q1,q2,q3,q4⟩:=R.tok_room k b' n' m i.size cap' news hk hM pL (by omega) pH (List.toArray cs0) el0 pk pI;refine ⟨g',_,_,ou,q1,q2,?_⟩;simp only [AA];refine ⟨b',0,cap',vs++news,rfl,AB.mono q2.le _ _ (hr.append pT),?_,?_,pH,?_⟩
               ·refine Gh.has_append (Gh.has_mono q2.le hh) ?_
                rw [Nat.zero_add,po];exact q4
               ·have e1:=hr.length
                have e2:=pT.length;rw [List.length_append,←e1,←e2,po,pL,Nat.add_mul]
               ·exact ⟨b',n'+m,cap',q3,Nat.le_refl _,fun _=>⟨rfl,rfl,rfl⟩⟩
              ·exact grow _ n' cap' xs vs k hr po td (.inr ⟨n',b',cap',hk,hM,by omega⟩) oY (by omega) hb.1 hb.2
             ·cases h
            ·cases h
           ·cases h
          ·cases h
        ·cases h
       ·rename_i id off sz n c
        split at h
        ·rename_i cs hH
         split at h
         ·rename_i hc
          obtain ⟨rfl,pI⟩:=hc;have sn:=hs;simp only [AA] at hs;obtain ⟨b,hM,rfl,p6⟩:=hs;obtain ⟨vs,el,k1,k2,k3⟩:=Hd R hH hM;have po:=k2.length;have ug:((vs.drop off).take (n*i.size)).length=n*i.size:=by simp;omega
          have oY:∀w':World,w'.heap=w.heap→(Builtin.firstCells i.size n (.slice (some ⟨b,off,none⟩) n c)).run P w' = .ok (List.toArray ((vs.drop off).take (n*i.size))) w':=fun w' hw=>by
           refine run_firstCells_some w' i.size n ⟨b,off,none⟩ n c _ ug (fun j v hj => ?_);rw [Addr.add_lit,Ek (w:=w) (by rw [hw])];rw [List.getElem?_take] at hj
           split at hj
           ·rw [List.getElem?_drop] at hj
            have:=k3 _ _ hj
            rwa [Nat.zero_add] at this
           ·cases hj
          split at h
          ·rename_i hm
           subst hm;injection h with h;simp only [Prod.mk.injEq] at h;obtain ⟨rfl,rfl⟩:=h;have qo:news=[]:=List.eq_nil_of_length_eq_zero (by simpa using pL);subst qo;exact ⟨g,_,w,Nu (P:=P) t u ty e i d ht hu hd hi _ n c xv pp qJ p6,R,AQ.refl g H w,sn⟩
          ·rename_i hm
           split at h
           ·rename_i hb
            injection h with h;simp only [Prod.mk.injEq] at h;obtain ⟨rfl,rfl⟩:=h;exact grow _ n c _ _ fid ((k2.drop off).take _) ug hl (.inl hf) oY hb.1 hb.2.1 hb.2.2
           ·cases h
         ·cases h
        ·cases h
       ·cases h
      ·cases h
     ·cases h
    ·cases h
   ·cases h
  ·cases h
 ·cases h
theorem Ab {n:Int} (h0:0≤n) (h:n≤9223372036854775807):IntKind.i64.wrap n=n:=by simp [IntKind.wrap,IntKind.bits,IntKind.signed];omega
theorem WF (R:Rel g H w) {fid:Nat} {t:TypeId} {x y r:AV} {up:Ups} (h:Jf P fid t x y=some (r,up)) {xv yv:Value} (hx:AA g x xv) (hy:AA g y yv)
  (hid:fid<H.length∧H.at fid=none) (ql:∀t z,Ae P t=some z→z.known=true) :
  ∃g' rv w',(Instr.makeSlice t xv yv).run P w = .ok rv w'∧Rel g' (AR H up) w'∧AQ g H w g' (AR H up) w'∧AA g' r rv:=by
 obtain ⟨hl,hf⟩:=hid;unfold Jf at h
 split at h
 ·rename_i e k l k' c hu
  simp only [AA] at hx hy;subst hx hy
  split at h
  ·rename_i n z i hn hz hi
   split at h
   ·rename_i hc
    obtain ⟨vB,hnp,o5,hlc,hcb,xw,hib⟩:=hc;injection h with h;simp only [Prod.mk.injEq] at h;obtain ⟨rfl,rfl⟩:=h;obtain ⟨i',zv,hi',qS,hr⟩:=Jh hz;rw [hi] at hi';injection hi' with hi';subst hi';have tT:=G6 (hr g) (ql _ z hz);have sk:zv.cells.toList.length=n:=tT.length.trans vB;have tU:=Ql tT c.toNat;rw [sk] at tU;obtain ⟨g',h1,h2,h3⟩:=R.alloc_box _ _ e fid hl hf tU;refine ⟨g',.slice (some ⟨w.heap.size,0,none⟩) l.toNat c.toNat,_,?_,h1,h2,?_⟩
    ·have oa:zv.cells.size=n:=by simpa using sk
     have uf:(Array.range (c.toNat*n)).map (fun x=>zv.cells[x % zv.cells.size]!)=List.toArray ((List.range (c.toNat*n)).map fun x=>zv.cells.toList[x % n]!):=by apply Array.ext';simp [oa];intro a _;rw [getElem!_def];cases zv.cells[a % n]? <;> rfl
     have w1:=Ab o5 (by omega);have w2:=Ab (show 0≤c by omega) xw
     have t1:¬(281474976710656<(i.bytes:Int)*c):=by have:(i.bytes:Int)*c=c*i.bytes:=Int.mul_comm _ _;omega
     have t2:¬(140737488355328<c.toNat*i.bytes):=by
      have:((c.toNat*i.bytes:Nat):Int)=c*i.bytes:=by rw [Int.natCast_mul,Int.toNat_of_nonneg (by omega)]
      omega
     have t3:¬c<0:=by omega
     have t4:¬l<0:=by omega
     have t5:¬c<l:=by omega
     simp only [Instr.makeSlice,Sem.run_bind,run_underlying hu,Result.andThen_ok,asInt,asIntOf,Sem.run_pure,GS hi,w1,w2];rw [if_neg (by simp;omega)]
     have pH:(askRoom (c.toNat*i.bytes)).run P w = .ok () w:=by
      unfold askRoom
      split
      ·rename_i hgt
       exact absurd hgt (by show ¬(140737488355328<c.toNat*i.bytes);exact t2)
      ·rfl
     simp only [Sem.run_bind,pH,Result.andThen_ok,Cq hn]
     by_cases pM:c.toNat*n=0
     ·rw [if_pos pM]
      simp only [Sem.run_pure,Result.andThen_ok,Sem.run_bind];rw [pM] at uf ⊢;have vC:∀f:Nat→Value,(Array.range 0).map f=List.toArray []:=fun f=>by apply Array.ext';simp
      rw [vC];simp [newRow]
     ·rw [if_neg pM]
      simp only [Sem.run_pure,Result.andThen_ok,Sem.run_bind,zeroValue,GS hi,qS,uf];simp [newRow]
    ·simp only [AA]
     exact ⟨_,h3,rfl,by omega⟩
   ·cases h
  ·cases h
 ·cases h
theorem WH (R:Rel g H w) {t ty:TypeId} {d x r:AV} {up:Ups} (h:Jg P H t d x=some (r,up)) {dv xv:Value} (hd:AA g d dv) (hx:AA g x xv)
  {ts:Array TypeId} {xs:Array Value} (ht:ts[0]? = some t) (h0:xs[0]? = some dv) (h1:xs[1]? = some xv) :
  ∃g' rv w',(Builtin.copy_ ts ty xs).run P w = .ok rv w'∧Rel g' (AR H up) w'∧AQ g H w g' (AR H up) w'∧AA g' r rv:=by
 unfold Jg at h
 split at h
 ·rename_i e id off sz n c hu
  split at h
  ·rename_i sz' m ys cs oa hc hH
   simp only at h
   split at h
   ·rename_i tS
    obtain ⟨rfl,qk,pI⟩:=tS;injection h with h;simp only [Prod.mk.injEq] at h;obtain ⟨rfl,rfl⟩:=h;obtain ⟨news,pT,pL,pp,qJ⟩:=Qu (P:=P) R hc hx;simp only [AA] at hd;obtain ⟨b,hM,rfl,p6⟩:=hd;obtain ⟨vs,el,k1,k2,k3⟩:=Hd R hH hM;have po:=k2.length;have xx:=qJ (min m n) (Nat.min_le_left _ _) w rfl
    have oS:=run_storeCells_at P b off el (news.take (min m n*sz')) 0 (List.toArray vs) w k1 (by
     simp [pL];have:min (min m n*sz') (m*sz')≤min m n*sz':=Nat.min_le_left _ _;have:=k2.length
     omega) (fun u hu=>I2 pT qk u (List.mem_of_mem_take hu))
    simp only [Nat.add_zero] at oS
    have hw:=R.write_box (w':=w.setRow b (List.take off vs++news.take (min m n*sz')++List.drop (off+(news.take (min m n*sz')).length) vs).toArray)
     (cs:=D5 cs off (ys.take (min m n*sz'))) hH hM (setRow_heap w b _ _ el _ k1)
      (by simpa using Nn k2 (pT.take (min m n*sz')) off) (fun k hk=>setRow_other w b k _ hk) (by simp [World.setRow]) rfl rfl rfl
    refine ⟨g,.int .i64 (min m n:Nat),_,?_,hw.1,hw.2,by simp only [AA]⟩;simp only [Builtin.copy_,ht,h0,h1,Sem.run_bind,run_underlying hu,Result.andThen_ok,pp w,Cq oa];have qT:Nat.min m n=min m n:=rfl;simp only [qT,xx,Result.andThen_ok,oS];rfl
   ·cases h
  ·cases h
 ·cases h
theorem WI (R:Rel g H w) {fid:Nat} {t u ty:TypeId} {s x r:AV} {up:Ups} (h:F0 P H fid t u s x=some (r,up)) {sv xv:Value} (hs:AA g s sv) (hx:AA g x xv)
  (hid:fid<H.length∧H.at fid=none) :
  ∃g' rv w',(Builtin.append_ #[t,u] ty #[sv,xv]).run P w = .ok rv w'∧Rel g' (AR H up) w'∧AQ g H w g' (AR H up) w'∧AA g' r rv:=by
 obtain ⟨hl,hf⟩:=hid;unfold F0 at h
 split at h
 ·rename_i e ht
  split at h
  ·rename_i i hi
   split at h
   ·rename_i z hz
    split at h
    ·rename_i hc
     obtain ⟨tV,oa,qL⟩:=hc
     have tW:∃d,P.underlying u=some d∧∀k,d ≠ .int k:=by
      unfold FX at qL
      by_cases rk:t=u
      ·subst rk;exact ⟨_,ht,by simp⟩
      ·have:(t==u)=false:=by simpa using rk
       rw [this,Bool.false_or] at qL
       split at qL
       ·rename_i h1 h2;exact ⟨_,h1,by simp⟩
       ·cases qL
     obtain ⟨d,hu,hd⟩:=tW
     split at h
     ·rename_i m ys ha
      obtain ⟨news,pT,pL,pp,qJ⟩:=Nv (P:=P) R ha hx
      split at h
      ·rename_i qA
       obtain ⟨rfl,qk⟩:=qA;have tX:=I2 pT qk;have rF:ys.length=i.size:=by rw [←pT.length,pL,Nat.one_mul]
       have grow:∀(base:Option Addr) (n cap:Nat) (xs:List AV) (olds:List Value) (id:Nat),AB g xs olds→olds.length=n*i.size→id<H.length →
         (H.at id=none∨∃n0 b0 cap0,H.at id=some (.tok n0)∧g.M id=some (.tok b0 n0 i.size cap0)∧n0<n+1) →
         (∀w':World,w'.heap=w.heap→(Builtin.firstCells i.size n (.slice base n cap)).run P w' = .ok (List.toArray olds) w')→cap<n+1→(n+1)*i.bytes≤140737488355328→n+1≤4611686018427387904 →
         ∃g' rv w',(Builtin.append_ #[t,u] ty #[.slice base n cap,xv]).run P w = .ok rv w'∧Rel g' (H.set id (some (.loose n ys))) w'∧AQ g H w g' (H.set id (some (.loose n ys))) w' ∧
          AA g' (.lsl id i.size n xs) rv:=by
        intro base n cap xs olds id o8 qn rg tY oY rl tZ wX;have ou:=Ns (P:=P) (w:=w) t u ty e i z d ht hu hd hi hz base n cap 1 olds news xv pp qJ oY rl (by omega) (growslice_fits rl tZ);have rm:=grownCap_ge w (n+1) cap e;have zAM:news.length=i.size:=by rw [pL,Nat.one_mul]
        have si:(List.toArray (olds++news)++Builtin.zeroCells z.cells (grownCap w (n+1) cap e-(n+1))).size=grownCap w (n+1) cap e*i.size:=by simp only [Array.size_append,List.size_toArray,List.length_append,size_zeroCells,tV,qn,pL,←Nat.add_mul];congr 1;omega
        obtain ⟨g',h1,h2,h3,h4⟩:=(R.drew).row_grow (List.toArray (olds++news)++Builtin.zeroCells z.cells (grownCap w (n+1) cap e-(n+1))) e olds
         (fun j v hj=>by
          have hj2:=(List.getElem?_eq_some_iff.1 hj).1;rw [Array.getElem?_append_left (by simp;omega)];simp only [List.getElem?_toArray];rw [List.getElem?_append_left hj2]
          exact hj)
         id (n+1) i.size (grownCap w (n+1) cap e) rg (.loose n ys) (by simp) (fun g' oO hG=>by
          refine ⟨rfl,rm,rF,⟨(List.toArray (olds++news)++Builtin.zeroCells z.cells (grownCap w (n+1) cap e-(n+1))).toList,e,by rw [Lk],?_,?_⟩,fun j hj => ?_⟩
          ·rw [Array.length_toList,si];exact Nat.le_refl _
          ·rw [Array.toList_append]
           simp only;rw [List.append_assoc,←qn,List.drop_left,List.take_left' zAM];exact AB.mono oO _ _ pT
          ·rw [hG,List.getElem?_eq_none (by omega)]) tY
        refine ⟨g',_,_,ou,h1,AQ.trans R (AQ.drew g H w) h2,?_⟩;simp only [AA];exact ⟨w.heap.size,_,olds,rfl,AB.mono h2.le _ _ o8,h4,by rw [←o8.length,qn],rm,w.heap.size,n+1,_,h3,Nat.le_refl _,fun _=>⟨rfl,rfl,rfl⟩⟩
       split at h
       ·simp only [AA] at hs;subst hs
        split at h
        ·rename_i hb
         injection h with h;simp only [Prod.mk.injEq] at h;obtain ⟨rfl,rfl⟩:=h;have:=grow none 0 0 [] [] fid (by simp [AB]) (by simp) hl (.inl hf) (fun w' _=>by simp [Builtin.firstCells]) (by omega) (by simpa using hb) (by decide);simpa [AR] using this
        ·cases h
       ·rename_i k sz n xs
        split at h
        ·rename_i tc
         obtain ⟨rfl,oZ,oW⟩:=tc;simp only [AA] at hs;obtain ⟨b,o,cap,vs,rfl,hr,hh,ox,p6,p7⟩:=hs;have po:vs.length=n*i.size:=by rw [hr.length,ox]
         have oY:∀w':World,w'.heap=w.heap→(Builtin.firstCells i.size n (.slice (some ⟨b,o,none⟩) n cap)).run P w' = .ok (List.toArray vs) w':=fun w' hw=>by refine run_firstCells_some w' i.size n ⟨b,o,none⟩ n cap vs po (fun j v hj => ?_);rw [Addr.add_lit,Ek (w:=w) (by rw [hw])];exact R.imm _ _ _ (hh j v hj)
         split at h
         ·rename_i n' hk
          split at h
          ·rename_i qo
           subst qo;injection h with h;simp only [Prod.mk.injEq] at h;obtain ⟨rfl,rfl⟩:=h;obtain ⟨b',n2,cap',hM,oO,pu⟩:=p7;obtain ⟨ge,hM',o7⟩:=R.ent k _ hk (by simp);rw [hM] at hM';injection hM' with hM';subst hM';simp only [B9] at o7;obtain ⟨rfl,xu,⟨cs0,el0,pk,wY⟩,qR⟩:=o7;obtain ⟨rfl,rfl,rfl⟩:=pu rfl
           have td:k<H.length:=by
            unfold AH.at at hk;rcases Nat.lt_or_ge k H.length with h|h
            ·exact h
            ·simp [List.getElem?_eq_none h] at hk
           have zAM:news.length=i.size:=by rw [pL,Nat.one_mul]
           by_cases pH:n'+1≤cap'
           ·have pI:n'*i.size+news.length≤(List.toArray cs0).size:=by
             have:(n'+1)*i.size≤cap'*i.size:=Nat.mul_le_mul_right _ pH;rw [Nat.add_mul] at this;simp only [List.size_toArray];omega
            have ou:=Nt (P:=P) (w:=w) t u ty e i d ht hu hd hi b' n' cap' 1 news xv (List.toArray cs0) el0 pk pp qJ tX pH pI
            obtain ⟨g',q1,q2,q3,q4⟩:=R.row_room k b' n' 1 i.size cap' news (List.toArray cs0) el0 hk hM pL (by omega) pH [] (by simp) (.loose n' ys) (by simp) (fun g' oO w' hw' hG=>by
             refine ⟨rfl,pH,rF,⟨_,el0,hw',?_,?_⟩,fun j hj=>by rw [hG j hj];simp⟩
             ·simp only [List.size_toArray] at pI
              simp only [List.length_append,List.length_take,List.length_drop];have:min (n'*i.size) cs0.length=n'*i.size:=by omega
              omega
             ·simp only [List.size_toArray] at pI
              have h3:(List.take (n'*i.size) cs0).length=n'*i.size:=by simp;omega
              rw [show (List.toArray cs0).toList=cs0 from rfl,List.append_assoc,List.drop_append_of_le_length (by omega),List.drop_eq_nil_of_le (by omega),List.nil_append,List.take_append_of_le_length (by omega),List.take_of_length_le (by omega)]
              exact AB.mono oO _ _ pT) pk pI
            refine ⟨g',_,_,ou,q1,q2,?_⟩;simp only [AA];exact ⟨b',cap',vs,rfl,AB.mono q2.le _ _ hr,Gh.has_mono q2.le hh,ox,pH,b',n'+1,cap',q3,Nat.le_refl _,fun _=>⟨rfl,rfl,rfl⟩⟩
           ·exact grow _ n' cap' xs vs k hr po td (.inr ⟨n',b',cap',hk,hM,by omega⟩) oY (by omega) oZ oW
          ·cases h
         ·cases h
        ·cases h
       ·cases h
      ·cases h
     ·cases h
    ·cases h
   ·cases h
  ·cases h
 ·cases h
theorem WJ (R:Rel g H w) {fid:Nat} {t u ty:TypeId} {s x r:AV} {up:Ups} (h:E6 P H fid t u s x=some (r,up)) {sv xv:Value} (hs:AA g s sv) (hx:AA g x xv)
  (hid:fid<H.length∧H.at fid=none) :
  ∃g' rv w',(Builtin.append_ #[t,u] ty #[sv,xv]).run P w = .ok rv w'∧Rel g' (AR H up) w'∧AQ g H w g' (AR H up) w'∧AA g' r rv:=by
 obtain ⟨hl,hf⟩:=hid;unfold E6 at h
 split at h
 ·rename_i e ht
  split at h
  ·rename_i i hi
   split at h
   ·rename_i z hz
    split at h
    ·rename_i hc
     obtain ⟨tV,oa,qL⟩:=hc
     have tW:∃d,P.underlying u=some d∧∀k,d ≠ .int k:=by
      unfold FX at qL
      by_cases rk:t=u
      ·subst rk;exact ⟨_,ht,by simp⟩
      ·have:(t==u)=false:=by simpa using rk
       rw [this,Bool.false_or] at qL
       split at qL
       ·rename_i h1 h2;exact ⟨_,h1,by simp⟩
       ·cases qL
     obtain ⟨d,hu,hd⟩:=tW
     split at h
     ·rename_i m ys ha
      obtain ⟨news,pT,pL,pp,qJ⟩:=Nv (P:=P) R ha hx
      split at h
      ·rename_i qA
       obtain ⟨rfl,qk⟩:=qA;have tX:=I2 pT qk;have rF:ys.length=i.size:=by rw [←pT.length,pL,Nat.one_mul]
       have zAM:news.length=i.size:=by rw [pL,Nat.one_mul]
       have grow:∀(base:Option Addr) (n cap ver:Nat) (xs:List AV) (olds:List Value) (id:Nat),AB g xs olds→olds.length=n*i.size→id<H.length →
         (H.at id=none∨∃e0 n0 b0 cap0,H.at id=some e0∧e0 ≠ .hid∧g.M id=some (.tok b0 n0 i.size cap0)∧n0<ver) →
         (∀w':World,w'.heap=w.heap→(Builtin.firstCells i.size n (.slice base n cap)).run P w' = .ok (List.toArray olds) w')→cap<n+1→(n+1)*i.bytes≤140737488355328→n+1≤4611686018427387904 →
         ∃g' rv w',(Builtin.append_ #[t,u] ty #[.slice base n cap,xv]).run P w = .ok rv w'∧Rel g' (H.set id (some (.stk ver (xs++ys)))) w'∧AQ g H w g' (H.set id (some (.stk ver (xs++ys)))) w' ∧
          AA g' (.stk id ver i.size (n+1)) rv:=by
        intro base n cap ver xs olds id o8 qn rg tY oY rl tZ wX;have ou:=Ns (P:=P) (w:=w) t u ty e i z d ht hu hd hi hz base n cap 1 olds news xv pp qJ oY rl (by omega) (growslice_fits rl tZ);have rm:=grownCap_ge w (n+1) cap e;have so:xs.length=n*i.size:=by rw [←o8.length,qn]
        have si:(List.toArray (olds++news)++Builtin.zeroCells z.cells (grownCap w (n+1) cap e-(n+1))).size=grownCap w (n+1) cap e*i.size:=by simp only [Array.size_append,List.size_toArray,List.length_append,size_zeroCells,tV,qn,pL,←Nat.add_mul];congr 1;omega
        have rN:(xs++ys).length=(n+1)*i.size:=by rw [List.length_append,so,rF,Nat.add_mul,Nat.one_mul]
        obtain ⟨g',h1,h2,h3,h4⟩:=(R.drew).row_growE (List.toArray (olds++news)++Builtin.zeroCells z.cells (grownCap w (n+1) cap e-(n+1))) e []
         (fun j v hj=>by cases hj)
         id ver i.size (grownCap w (n+1) cap e) rg (.stk ver (xs++ys)) (by simp) (fun g' oO hG=>by
          refine ⟨rfl,?_,⟨(List.toArray (olds++news)++Builtin.zeroCells z.cells (grownCap w (n+1) cap e-(n+1))).toList,e,by rw [Lk],?_,?_⟩,fun j => ?_⟩
          ·rw [rN];exact Nat.mul_le_mul_right _ rm
          ·rw [Array.length_toList,si];exact Nat.le_refl _
          ·rw [Array.toList_append]
           simp only;rw [List.take_left' (by rw [rN,List.length_append,qn,zAM,Nat.add_mul,Nat.one_mul])];exact AB.mono oO _ _ (o8.append pT)
          ·rw [hG];rfl) tY
        refine ⟨g',_,_,ou,h1,AQ.trans R (AQ.drew g H w) h2,?_⟩;simp only [AA];exact ⟨w.heap.size,_,rfl,rm,w.heap.size,ver,_,h3,Nat.le_refl _,fun _=>⟨rfl,rfl,rfl⟩⟩
       split at h
       ·simp only [AA] at hs;subst hs
        split at h
        ·rename_i hb
         injection h with h;simp only [Prod.mk.injEq] at h;obtain ⟨rfl,rfl⟩:=h;have:=grow none 0 0 1 [] [] fid (by simp [AB]) (by simp) hl (.inl hf) (fun w' _=>by simp [Builtin.firstCells]) (by omega) (by simpa using hb) (by decide);simpa [AR] using this
        ·cases h
       ·rename_i k ver sz n
        split at h
        ·rename_i tc
         obtain ⟨rfl,oZ,oW⟩:=tc;simp only [AA] at hs;obtain ⟨b,cap,rfl,p6,p7⟩:=hs
         split at h
         ·rename_i ver' cs hk
          split at h
          ·rename_i qo
           obtain ⟨rfl,xy⟩:=qo;injection h with h;simp only [Prod.mk.injEq] at h;obtain ⟨rfl,rfl⟩:=h;obtain ⟨b',n2,cap',hM,oO,pu⟩:=p7;obtain ⟨ge,hM',o7⟩:=R.ent k _ hk (by simp);rw [hM] at hM';injection hM' with hM';subst hM';simp only [B9] at o7;obtain ⟨rfl,oq,⟨vs0,el0,pk,wY,pZ⟩,qR⟩:=o7;obtain ⟨rfl,rfl,_⟩:=pu rfl
           have td:k<H.length:=by
            unfold AH.at at hk;rcases Nat.lt_or_ge k H.length with h|h
            ·exact h
            ·simp [List.getElem?_eq_none h] at hk
           have pY:AB g (cs.take (n*i.size)) (vs0.take (n*i.size)):=by
            have:=pZ.take (n*i.size)
            rwa [List.take_take,Nat.min_eq_left xy] at this
           have po:(vs0.take (n*i.size)).length=n*i.size:=by rw [pY.length,List.length_take];omega
           have oY:∀w':World,w'.heap=w.heap→(Builtin.firstCells i.size n (.slice (some ⟨b',0,none⟩) n cap')).run P w' = .ok (List.toArray (vs0.take (n*i.size))) w':=fun w' hw=>by
            refine run_firstCells_some w' i.size n ⟨b',0,none⟩ n cap' _ po (fun j v hj => ?_);rw [Addr.add_lit,Ek (w:=w) (by rw [hw])];rw [List.getElem?_take] at hj
            split at hj
            ·simp [World.cell?,pk,hj]
            ·cases hj
           by_cases pH:n+1≤cap'
           ·have pI:n*i.size+news.length≤(List.toArray vs0).size:=by
             have:(n+1)*i.size≤cap'*i.size:=Nat.mul_le_mul_right _ pH;rw [Nat.add_mul] at this;simp only [List.size_toArray];omega
            have ou:=Nt (P:=P) (w:=w) t u ty e i d ht hu hd hi b' n cap' 1 news xv (List.toArray vs0) el0 pk pp qJ tX pH pI;simp only [List.size_toArray] at pI
            obtain ⟨g',q1,q2,q3⟩:=R.stk_room (cs:=cs.take (n*i.size)++ys) (us:=(List.toArray vs0).toList.take (n*i.size)++news++(List.toArray vs0).toList.drop (n*i.size+news.length)) hk hM (setRow_heap w b' _ _ el0 _ pk) (by
              simp only [List.length_append,List.length_take,List.length_drop];have:min (n*i.size) vs0.length=n*i.size:=by omega
              omega) (by
              have:(n+1)*i.size≤cap'*i.size:=Nat.mul_le_mul_right _ pH;rw [Nat.add_mul,Nat.one_mul] at this;simp only [List.length_append,List.length_take,rF]
              omega) (by
              have qa:(cs.take (n*i.size)++ys).length=(vs0.take (n*i.size)++news).length:=by simp only [List.length_append,List.length_take,rF,zAM];omega
              rw [show (List.toArray vs0).toList=vs0 from rfl,List.take_left' qa.symm]
              exact pY.append pT) (fun k hk=>setRow_other w b' k _ hk) (by simp [World.setRow]) rfl rfl rfl
            refine ⟨g',_,_,ou,q1,q2,?_⟩;simp only [AA];exact ⟨b',cap',rfl,pH,b',ver'+1,cap',q3,Nat.le_refl _,fun _=>⟨rfl,rfl,rfl⟩⟩
           ·exact grow _ n cap' (ver'+1) _ _ k pY po td (.inr ⟨_,ver',b',cap',hk,by simp,hM,by omega⟩) oY (by omega) oZ oW
          ·cases h
         ·cases h
        ·cases h
       ·cases h
      ·cases h
     ·cases h
    ·cases h
   ·cases h
  ·cases h
 ·cases h
theorem WK {E:Env} (R:Rel g H w) {fid:Nat} {t u ty:TypeId} {s x r:AV} {up:Ups} (h:D8 P E H fid t u s x=some (r,up)) {sv xv:Value} (hs:AA g s sv) (hx:AA g x xv)
  (hid:fid<H.length∧H.at fid=none) :
  ∃g' rv w',(Builtin.append_ #[t,u] ty #[sv,xv]).run P w = .ok rv w'∧Rel g' (AR H up) w'∧AQ g H w g' (AR H up) w'∧AA g' r rv:=by
 unfold D8 at h
 split at h
 ·split at h
  ·exact WJ R h hs hx hid
  ·exact WI R h hs hx hid
 ·exact WE R h hs hx hid
variable {P:Program} {g:Gh} {H:AH} {w:World}
theorem WL {v:Value} {a:AV} (h:BW v=some a):a.known=true:=by
 unfold BW at h
 split at h<;>first|(injection h with h;subst h;rfl)|(cases h)
theorem WM {v:Value} {a:AV} (h:BP v=some a):a.known=true:=by
 unfold BP at h
 split at h
 ·rename_i cs
  cases hc:BU cs.toList with
  |none=>rw [hc] at h;cases h
  |some aS=>rw [hc] at h;injection h with h;subst h;rfl
 ·exact WL h
theorem Lq (t:TypeId) (z:AV) (h:Ae P t=some z):z.known=true:=by
 unfold Ae at h
 split at h
 ·split at h
  ·exact WM h
  ·cases h
 ·cases h
theorem Ji {ρ:Operand→AV} {σ:Operand→Value} (hρ:∀x,AA g (ρ x) (σ x)):∀l:List Operand,AB g (l.map ρ) (l.map σ)
 |[]=>by simp [AB]
 |x::l=>by simp only [List.map_cons,AB];exact ⟨_,_,rfl,hρ x,Ji hρ l⟩
theorem Qv {ρ:Operand→AV} {σ:Operand→Value} (hρ:∀x,AA g (ρ x) (σ x)) (l:List (Nat × Operand)) :
  AB g ((l.map fun p=>(p.1,ρ p.2)).map (·.2)) ((l.map fun p=>(p.1,σ p.2)).map (·.2)):=by
 have:=Ji hρ (l.map (·.2));simpa [List.map_map,Function.comp_def] using this
theorem Nw {ρ:Operand→AV} {σ:Operand→Value} (hρ:∀x,AA g (ρ x) (σ x)) (o:Option Operand):(∀x,o.map ρ=some x→∃v,o.map σ=some v∧AA g x v)∧(o.map ρ=none→o.map σ=none):=by
 cases o with
 |none=>simp
 |some y=>simp;exact hρ y
def Nx (P:Program) (g:Gh) (H H':AH) (w:World) (r:AV) (s:Sem Next):Prop :=∃g' nx v w',s.run P w = .ok nx w'∧(nx = .value v∨(nx = .skip∧v=undef))∧Rel g' H' w'∧AQ g H w g' H' w'∧AA g' r v
theorem EA (R:Rel g H w) {r:AV} {s:Sem Value} (h:∃rv,s.run P w = .ok rv w∧AA g r rv):Nx P g H H w r (do pure (.value (←s))):=by obtain ⟨rv,h1,h2⟩:=h;exact ⟨g,.value rv,rv,w,by rw [Sem.run_bind,h1];rfl,.inl rfl,R,AQ.refl g H w,h2⟩
theorem IF {H':AH} {r:AV} {s:Sem Value} (h:∃g' rv w',s.run P w = .ok rv w'∧Rel g' H' w'∧AQ g H w g' H' w'∧AA g' r rv):Nx P g H H' w r (do pure (.value (←s))):=by obtain ⟨g',rv,w',h1,h2,h3,h4⟩:=h;exact ⟨g',.value rv,rv,w',by rw [Sem.run_bind,h1];rfl,.inl rfl,h2,h3,h4⟩
theorem map_nil {x:Option AV} {r:AV} {u:Ups} (h:x.map (fun a=>(a,([]:Ups)))=some (r,u)):x=some r∧u=[]:=by
 cases x with
 |none=>cases h
 |some a=>simp only [Option.map_some] at h;injection h with h;simp only [Prod.mk.injEq] at h;exact ⟨by rw [h.1],h.2.symm⟩
theorem WN {ts:Array TypeId} {xs:Array Value} {t u ty:TypeId} {s x:Value} (h1:ts[0]? = some t) (h2:ts[1]? = some u) (h3:xs[0]? = some s) (h4:xs[1]? = some x) :
  Builtin.append_ ts ty xs=Builtin.append_ #[t,u] ty #[s,x]:=by
 unfold Builtin.append_;simp only [h1,h2,h3,h4];rfl
theorem Ny (R:Rel g H w) {E:Env} {ρ:Operand→AV} {σ:Operand→Value} (hρ:∀x,AA g (ρ x) (σ x)) {fid:Nat} {o:Oper} (hid:Ai E o.op=true→fid<H.length∧H.at fid=none)
  {r:AV} {u:Ups} (h:aop P E ρ H fid o=some (r,u)):Nx P g H (AR H u) w r (execOp σ o):=by
 obtain ⟨dst,op,ty,pos,after,guard⟩:=o;cases op
 case move x =>simp only [aop] at h;injection h with h;simp only [Prod.mk.injEq] at h;obtain ⟨rfl,rfl⟩:=h;exact ⟨g,_,_,w,rfl,.inl rfl,R,AQ.refl g H w,hρ x⟩
 case assign x =>simp only [aop] at h;injection h with h;simp only [Prod.mk.injEq] at h;obtain ⟨rfl,rfl⟩:=h;exact ⟨g,_,_,w,rfl,.inl rfl,R,AQ.refl g H w,hρ x⟩
 case pick c a b =>
  simp only [aop] at h
  split at h
  ·rename_i t hc
   injection h with h;simp only [Prod.mk.injEq] at h;obtain ⟨rfl,rfl⟩:=h;have:=hρ c;rw [hc] at this;simp only [AA] at this;refine ⟨g,.value (if t then σ a else σ b),if t then σ a else σ b,w,?_,.inl rfl,R,AQ.refl g H w,?_⟩
   ·simp only [execOp,this,asBool,Sem.run_bind,Sem.run_pure,Result.andThen_ok]
   ·cases t
    ·exact hρ b
    ·exact hρ a
  ·cases h
 case alloc t =>
  simp only [aop] at h
  split at h
  ·rename_i z hz
   injection h with h;simp only [Prod.mk.injEq] at h;obtain ⟨rfl,rfl⟩:=h;exact IF (Vp R hz (Lq t z hz) (hid rfl).1 (hid rfl).2)
  ·cases h
 case box t x =>
  simp only [aop] at h
  split at h
  ·split at h
   ·rename_i hk
    injection h with h;simp only [Prod.mk.injEq] at h;obtain ⟨rfl,rfl⟩:=h;exact IF (Vr R (hρ x) hk)
   ·cases h
  ·rename_i vJ
   have hid:=hid (by simp [Ai,vJ])
   split at h
   ·rename_i hk
    injection h with h;simp only [Prod.mk.injEq] at h;obtain ⟨rfl,rfl⟩:=h;exact IF (Vq R (hρ x) hk hid.1 hid.2)
   ·cases h
 case build t parts =>
  simp only [aop] at h;obtain ⟨h',rfl⟩:=map_nil h;have:=Vs (P:=P) (w:=w) h' (pvs:=parts.toList.map fun p=>(p.1,σ p.2)) (by simp [List.map_map,Function.comp_def]) (Qv hρ _) (fun z hz=>Lq t z hz);have e:(parts.map fun (p:Nat × Operand)=>(p.1,σ p.2))=List.toArray (parts.toList.map fun p=>(p.1,σ p.2)):=by apply Array.ext';simp
  simp only [execOp];rw [e];exact EA R this
 case buildSlice t len parts =>
  simp only [aop] at h;obtain ⟨h',rfl⟩:=map_nil h;have:=Vt (P:=P) R h' (pvs:=parts.toList.map fun p=>(p.1,σ p.2)) (by simp [List.map_map,Function.comp_def]) (Qv hρ _) (fun t z hz=>Lq t z hz);have e:(parts.map fun (p:Nat × Operand)=>(p.1,σ p.2))=List.toArray (parts.toList.map fun p=>(p.1,σ p.2)):=by apply Array.ext';simp
  simp only [execOp];rw [e];exact IF this
 case load t a =>simp only [aop] at h;obtain ⟨h',rfl⟩:=map_nil h;exact EA R (Qi R h' (hρ a))
 case store t a x =>simp only [aop] at h;obtain ⟨rfl,w',h1,h2,h3⟩:=Vo R h (hρ a) (hρ x);refine ⟨g,.skip,undef,w',?_,.inr ⟨rfl,rfl⟩,h2,h3,by simp [AV.nothing,AA,AB,undef]⟩;simp only [execOp,Sem.run_bind,h1,Result.andThen_ok];rfl
 case nilCheck x =>
  simp only [aop] at h;obtain ⟨h',rfl⟩:=map_nil h;have hx:=hρ x;refine ⟨g,.value (σ x),σ x,w,?_,.inl rfl,R,AQ.refl g H w,?_⟩
  ·simp only [execOp]
   unfold BS at h'
   split at h'
   ·rename_i he;rw [he] at hx;simp only [AA] at hx;obtain ⟨b,_,hx⟩:=hx;rw [hx];rfl
   ·rename_i he;rw [he] at hx;simp only [AA] at hx;obtain ⟨b,o,vs,hx,_⟩:=hx;rw [hx];rfl
   ·rename_i he;rw [he] at hx;simp only [AA] at hx;obtain ⟨fs,cs,hx,_⟩:=hx;rw [hx];rfl
   ·rename_i he;rw [he] at hx;simp only [AA] at hx;obtain ⟨y,hx,_⟩:=hx;rw [hx];rfl
   ·cases h'
  ·unfold BS at h'
   split at h'<;>first|(rename_i he;injection h' with h';subst h';rw [he] at hx;exact hx)|(cases h')
 case binOp op t x y yt =>simp only [aop] at h;obtain ⟨h',rfl⟩:=map_nil h;exact EA R (Vz h' (hρ x) (hρ y))
 case unOp op t x =>simp only [aop] at h;obtain ⟨h',rfl⟩:=map_nil h;exact EA R (V0 h' (hρ x))
 case convert src d x =>simp only [aop] at h;obtain ⟨h',rfl⟩:=map_nil h;exact IF (V1 R h' (hρ x))
 case makeInterface t x =>
  simp only [aop] at h
  split at h
  ·cases h
  ·rename_i d vH hu
   injection h with h;simp only [Prod.mk.injEq] at h;obtain ⟨rfl,rfl⟩:=h;refine EA R ⟨.iface t (σ x),?_,by simp only [AA];exact ⟨_,rfl,hρ x⟩⟩;simp only [Instr.makeInterface,Sem.run_bind,run_underlying hu,Result.andThen_ok];cases d<;>first|rfl|(exact absurd rfl (vH _))
  ·cases h
 case makeFunc fn first captured =>simp only [aop] at h;injection h with h;simp only [Prod.mk.injEq] at h;obtain ⟨rfl,rfl⟩:=h;refine EA R ⟨.func fn (first.map σ) (captured.map σ),rfl,?_⟩;simp only [AA];exact ⟨first.toList.map σ,captured.toList.map σ,by congr 1<;>(apply Array.ext';simp),Ji hρ _,Ji hρ _⟩
 case slice t x lo hi mx =>simp only [aop] at h;obtain ⟨h',rfl⟩:=map_nil h;obtain ⟨a1,a2⟩:=Nw hρ lo;obtain ⟨b1,b2⟩:=Nw hρ hi;obtain ⟨c1,c2⟩:=Nw hρ mx;exact EA R (V2 h' (hρ x) a1 a2 b1 b2 c1 c2)
 case fieldAddr t x f =>simp only [aop] at h;obtain ⟨h',rfl⟩:=map_nil h;exact EA R (V3 h' (hρ x))
 case field t x f =>simp only [aop] at h;obtain ⟨h',rfl⟩:=map_nil h;exact EA R (V4 h' (hρ x))
 case indexAddr t x i =>simp only [aop] at h;obtain ⟨h',rfl⟩:=map_nil h;exact EA R (V5 h' (hρ x) (hρ i))
 case index t x i =>simp only [aop] at h;obtain ⟨h',rfl⟩:=map_nil h;exact EA R (V6 h' (hρ x) (hρ i))
 case typeAssert x t0 t ok =>simp only [aop] at h;obtain ⟨h',rfl⟩:=map_nil h;exact EA R (V8 h' (hρ x))
 case extract x i =>simp only [aop] at h;obtain ⟨h',rfl⟩:=map_nil h;exact EA R (V7 h' (hρ x))
 case makeSlice t x y =>simp only [aop] at h;exact IF (WF R h (hρ x) (hρ y) (hid rfl) (fun t z hz=>Lq t z hz))
 case call c =>
  obtain ⟨callee,args,argTypes⟩:=c;cases callee with
  |value f=>simp only [aop] at h;cases h
  |invoke x m=>simp only [aop] at h;cases h
  |builtin b =>
   simp only [aop] at h
   split at h
   ·split at h
    ·rename_i t x ht hx
     obtain ⟨h',rfl⟩:=map_nil h;have:=V9 (P:=P) (w:=w) (ty:=ty) h' (hρ x) ht (xs:=args.map σ) (by simp [hx]);exact EA R this
    ·cases h
   ·split at h
    ·rename_i t x ht hx
     obtain ⟨h',rfl⟩:=map_nil h;have:=WA (P:=P) (w:=w) (ty:=ty) h' (hρ x) ht (xs:=args.map σ) (by simp [hx]);exact EA R this
    ·cases h
   ·split at h
    ·rename_i x y he
     obtain ⟨h',rfl⟩:=map_nil h;have:=WC (P:=P) (w:=w) h' (hρ x) (hρ y) argTypes ty;have e:args.map σ = #[σ x,σ y]:=by apply Array.ext';simp [he]
     refine EA R ?_
     show ∃rv,(Builtin.max_ argTypes ty (args.map σ)).run P w = .ok rv w∧_
     rw [e];exact this
    ·cases h
   ·split at h
    ·rename_i x y he
     obtain ⟨h',rfl⟩:=map_nil h;have:=WD (P:=P) (w:=w) h' (hρ x) (hρ y) argTypes ty;have e:args.map σ = #[σ x,σ y]:=by apply Array.ext';simp [he]
     refine EA R ?_
     show ∃rv,(Builtin.min_ argTypes ty (args.map σ)).run P w = .ok rv w∧_
     rw [e];exact this
    ·cases h
   ·split at h
    ·rename_i t d x ht hd hx
     have:=WH (P:=P) R (ty:=ty) h (hρ d) (hρ x) ht (xs:=args.map σ) (by simp [hd]) (by simp [hx]);exact IF this
    ·cases h
   ·split at h
    ·rename_i t u' s x ht hu hs hx
     have:=WK (P:=P) R (ty:=ty) h (hρ s) (hρ x) (hid rfl);rw [←WN (ts:=argTypes) (xs:=args.map σ) ht hu (by simp [hs]) (by simp [hx])] at this;exact IF this
    ·cases h
   ·cases h
 all_goals (simp only [aop] at h;cases h)
theorem Qw {E:Env} {ρ:Operand→AV} {fid:Nat} {o:Oper} {r:AV} {u:Ups} (h:aop P E ρ H fid o=some (r,u)) :
  ∀p∈u,(p.1=fid∧Ai E o.op=true)∨∃e,H.at p.1=some e:=by
 obtain ⟨dst,op,ty,pos,after,guard⟩:=o
 have hm:∀{x:Option AV},x.map (fun a=>(a,([]:Ups)))=some (r,u)→∀p∈u,(p.1=fid∧Ai E op=true)∨∃e,H.at p.1=some e:=by intro x h;obtain ⟨_,rfl⟩:=map_nil h;simp
 cases op
 case alloc t =>
  simp only [aop] at h
  split at h
  ·injection h with h;simp only [Prod.mk.injEq] at h;obtain ⟨rfl,rfl⟩:=h;intro p hp;simp only [List.mem_singleton] at hp;subst hp;exact .inl ⟨rfl,rfl⟩
  ·cases h
 case box t x =>
  simp only [aop] at h
  split at h
  ·split at h
   ·injection h with h;simp only [Prod.mk.injEq] at h;obtain ⟨rfl,rfl⟩:=h;simp
   ·cases h
  ·rename_i vJ
   split at h
   ·injection h with h;simp only [Prod.mk.injEq] at h;obtain ⟨rfl,rfl⟩:=h;intro p hp;simp only [List.mem_singleton] at hp;subst hp;exact .inl ⟨rfl,by simp [Ai,vJ]⟩
   ·cases h
 case store t a x =>
  simp only [aop,DC] at h
  split at h
  ·rename_i id off _
   split at h
   ·rename_i cs n hH hn
    split at h
    ·injection h with h;simp only [Prod.mk.injEq] at h;obtain ⟨rfl,rfl⟩:=h;intro p hp;simp only [List.mem_singleton] at hp;subst hp;exact .inr ⟨_,hH⟩
    ·cases h
   ·cases h
  ·split at h
   ·rename_i hH hn
    split at h
    ·injection h with h;simp only [Prod.mk.injEq] at h;obtain ⟨rfl,rfl⟩:=h;intro p hp;simp only [List.mem_singleton] at hp;subst hp;exact .inr ⟨_,hH⟩
    ·cases h
   ·cases h
  ·cases h
 case makeSlice t x y =>
  simp only [aop,Jf] at h
  repeat' (split at h)
  all_goals first
   |(cases h;done)
   |(injection h with h;simp only [Prod.mk.injEq] at h;obtain ⟨rfl,rfl⟩:=h;intro p hp;simp only [List.mem_singleton] at hp;subst hp;exact .inl ⟨rfl,rfl⟩)
 case move x=>simp only [aop] at h;injection h with h;simp only [Prod.mk.injEq] at h;obtain ⟨rfl,rfl⟩:=h;simp
 case assign x=>simp only [aop] at h;injection h with h;simp only [Prod.mk.injEq] at h;obtain ⟨rfl,rfl⟩:=h;simp
 case pick c a b =>
  simp only [aop] at h
  split at h
  ·injection h with h;simp only [Prod.mk.injEq] at h;obtain ⟨rfl,rfl⟩:=h;simp
  ·cases h
 case makeInterface t x =>
  simp only [aop] at h
  split at h
  ·cases h
  ·injection h with h;simp only [Prod.mk.injEq] at h;obtain ⟨rfl,rfl⟩:=h;simp
  ·cases h
 case makeFunc fn a b=>simp only [aop] at h;injection h with h;simp only [Prod.mk.injEq] at h;obtain ⟨rfl,rfl⟩:=h;simp
 case call c =>
  obtain ⟨callee,args,argTypes⟩:=c;cases callee with
  |value f=>simp only [aop] at h;cases h
  |invoke x m=>simp only [aop] at h;cases h
  |builtin b =>
   simp only [aop] at h
   split at h
   ·split at h
    ·exact hm h
    ·cases h
   ·split at h
    ·exact hm h
    ·cases h
   ·split at h
    ·exact hm h
    ·cases h
   ·split at h
    ·exact hm h
    ·cases h
   ·split at h
    ·simp only [Jg] at h
     repeat' (split at h)
     all_goals first
      |(cases h;done)
      |(injection h with h;simp only [Prod.mk.injEq] at h;obtain ⟨rfl,rfl⟩:=h;intro p hp;simp only [List.mem_singleton] at hp;subst hp;exact .inr ⟨_,by assumption⟩)
    ·cases h
   ·split at h
    ·simp only [D8,E6,F0,DO] at h
     repeat' (split at h)
     all_goals first
      |(cases h;done)
      |(injection h with h;simp only [Prod.mk.injEq] at h;obtain ⟨rfl,rfl⟩:=h;first|(simp;done)|(intro p hp;simp only [List.mem_singleton] at hp;subst hp;exact .inl ⟨rfl,rfl⟩)|(intro p hp;simp only [List.mem_singleton] at hp;subst hp;exact .inr ⟨_,by assumption⟩))
    ·cases h
   ·cases h
 all_goals first
  |(simp only [aop] at h;exact hm h)
  |(simp only [aop] at h;cases h)
end Go.Proofs.Fw
