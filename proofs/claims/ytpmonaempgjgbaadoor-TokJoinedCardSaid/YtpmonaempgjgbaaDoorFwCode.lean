/- Regions in the text's order, code, calls. -/
import Derived.Test.YtpmonaempgjgbaaDoorFwOps7
namespace Go.Proofs.Fw
open Go.RowKit

/-- What callees answer: a function's number, its arguments, the heap. -/
abbrev Orc := FuncId → List AV → AH → Option (AV × AH)

def goFn (P : Program) (f : FuncId) : Bool :=
  match P.funcs[f]? with
  | some fn => fn.body.isSome && !(fn.name == "runtime.NumGoroutine")
  | none => false

def callee (E : Env) (ρ : Operand → AV) (c : Call) : Option (FuncId × List AV) :=
  match c.callee with
  | .value f => (match ρ f with
    | .func (.func i) first cap => some (i, first ++ c.args.toList.map ρ ++ cap)
    | _ => none)
  | .invoke recv name => (match ρ recv with
    | .iface t v => (match E.meth t name with
      | some i => some (i, v :: c.args.toList.map ρ)
      | none => none)
    | _ => none)
  | .builtin _ => none

def stepO (O : Orc) (P : Program) (E : Env) (ρ : Operand → AV) (H : AH) (fid : Nat) (o : Oper) : Option (AV × AH) :=
  match o.op with
  | .call c => (match callee E ρ c with
    | some (i, args) => if goFn P i = true then O i args H else none
    | none => (match aop P E ρ H fid o with
      | some (r, u) => some (r, applyUps H u)
      | none => none))
  | _ => (match aop P E ρ H fid o with
    | some (r, u) => some (r, applyUps H u)
    | none => none)

def putT (tmps : List AV) (dst : Option Tmp) (v : AV) : List AV :=
  match dst with
  | some d => tmps.set d v
  | none => tmps

def wantedA (ops : Array Oper) (tmps : List AV) (o : Oper) : Option Bool :=
  match o.guard with
  | none => some true
  | some (j, want) => (match (ops[j]?).bind (·.dst) with
    | none => some false
    | some d => (match tmps[d]? with
      | none => some false
      | some (.bool b) => some (b == want)
      | some (.tup _) => some false
      | some _ => none))

inductive All2 {α β : Type} (R : α → β → Prop) : List α → List β → Prop
  | nil : All2 R [] []
  | cons {a : α} {b : β} {as : List α} {bs : List β} (h : R a b) (t : All2 R as bs) : All2 R (a :: as) (b :: bs)

/-- The operations of a region, each with a number of its own. -/
def evOps (O : Orc) (P : Program) (E : Env) (ops : Array Oper) : List (Oper × Nat) → List AV → AH → Option (List AV × AH)
  | [], tmps, H => some (tmps, H)
  | (o, fid) :: rest, tmps, H =>
    (match wantedA ops tmps o with
    | none => none
    | some false => evOps O P E ops rest (putT tmps o.dst .nothing) H
    | some true => (match stepO O P E (aeval E tmps) H fid o with
      | some (v, H') => evOps O P E ops rest (putT tmps o.dst v) H'
      | none => none))

/-- Numbers for those that want one. -/
def withIds (E : Env) : List Oper → Nat → List (Oper × Nat)
  | [], _ => []
  | o :: os, n => (o, n) :: withIds E os (if needsId E o.op = true then n + 1 else n)

def idCount (E : Env) : List Oper → Nat
  | [] => 0
  | o :: os => (if needsId E o.op = true then 1 else 0) + idCount E os

def grow (H : AH) (n : Nat) : AH := H ++ List.replicate n none

def evRegion (O : Orc) (P : Program) (E : Env) (ops : Array Oper) (tmps : List AV) (H : AH) : Option (List AV × AH) :=
  evOps O P E ops (withIds E ops.toList H.length) tmps (grow H (idCount E ops.toList))

/-- What a call comes to. -/
def CS (P : Program) (E : Env) (f : FuncId) (args : List AV) (H : AH) (v : AV) (H' : AH) : Prop :=
  ∀ g w cargs, Rel g H w → GlobOk E g → RepL g args cargs → Calls P f (List.toArray cargs) w fun e w' =>
    ∃ g' cv, e = .returned cv ∧ Rel g' H' w' ∧ Post g H w g' H' w' ∧ RepV g' v cv

def Sound (P : Program) (E : Env) (O : Orc) : Prop :=
  ∀ f args H v H', O f args H = some (v, H') → CS P E f args H v H' ∧ H.length ≤ H'.length ∧ ∀ id, id < H.length → H.at id = none → H'.at id = none

/-- The environment's word on methods. -/
def MethOk (P : Program) (E : Env) : Prop :=
  ∀ t name f, E.meth t name = some f → ∀ v w, (method (P.types.size + Made.depth) t v name).run P w = .ok (f, v) w

section
variable {P : Program} {E : Env} {O : Orc} {g : Gh} {H : AH} {w : World}

theorem putT_ok {tmps : List AV} {a : Act} (h : RepL g tmps a.tmps.toList) {dst : Option Tmp} {v : AV} {u : Value} (hv : RepV g v u) : RepL g (putT tmps dst v) (a.put dst u).tmps.toList := by
  cases dst with
  | none => exact h
  | some d => simp only [putT, Act.put, Array.toList_setIfInBounds]; exact h.set d hv

theorem put_defers (a : Act) (dst : Option Tmp) (u : Value) : (a.put dst u).defers = a.defers := by cases dst <;> rfl

theorem wantedA_ok {ops : Array Oper} {tmps : List AV} {a : Act} (h : RepL g tmps a.tmps.toList) {o : Oper} {b : Bool} (hw : wantedA ops tmps o = some b) :
    Region.wanted o (yielded ops a.tmps) = b := by
  unfold wantedA at hw
  unfold Region.wanted
  split at hw
  · rename_i hg; rw [hg]; injection hw
  · rename_i j want hg
    rw [hg]
    simp only
    split at hw
    · rename_i hd
      injection hw with hw; subst hw
      have : yielded ops a.tmps j = none := by simp [yielded, hd]
      rw [this]; rfl
    · rename_i d hd
      split at hw
      · rename_i ht
        injection hw with hw; subst hw
        have hl := h.length
        have : a.tmps[d]? = none := by
          rw [List.getElem?_eq_none_iff] at ht
          rw [Array.getElem?_eq_none_iff]
          simp at hl
          omega
        have : yielded ops a.tmps j = none := by simp [yielded, hd, this]
        rw [this]; rfl
      · rename_i b' ht
        injection hw with hw; subst hw
        obtain ⟨v, hv, hr⟩ := h.get ht
        simp only [RepV] at hr; subst hr
        have hv' : a.tmps[d]? = some (.bool b') := by rw [← Array.getElem?_toList]; exact hv
        have : yielded ops a.tmps j = some b' := by simp [yielded, hd, hv']
        rw [this]
        cases b' <;> cases want <;> rfl
      · rename_i vs ht
        injection hw with hw; subst hw
        obtain ⟨v, hv, hr⟩ := h.get ht
        simp only [RepV] at hr
        obtain ⟨us, rfl, _⟩ := hr
        have hv' : a.tmps[d]? = some (.tuple (List.toArray us)) := by rw [← Array.getElem?_toList]; exact hv
        have : yielded ops a.tmps j = none := by simp [yielded, hd, hv']
        rw [this]; rfl
      · cases hw

theorem callee_run (hM : MethOk P E) {ρ : Operand → AV} {σ : Operand → Value} (hρ : ∀ x, RepV g (ρ x) (σ x)) {c : Call} {i : FuncId} {args : List AV} (h : callee E ρ c = some (i, args)) (hg : goFn P i = true) (ty : TypeId) :
    ∃ cargs, RepL g args cargs ∧ (do let d ← resolve σ c ty; invoke d.target d.args : Sem Next).run P w = .ok (.enter i (List.toArray cargs)) w := by
  have hcall : ∀ xs, (callFunc i xs).run P w = .ok (.enter i xs) w := by
    intro xs
    unfold goFn at hg
    unfold callFunc
    simp only [Sem.run_bind, run_program, Result.andThen_ok]
    split at hg
    · rename_i fn hfn
      simp only [Bool.and_eq_true, Bool.not_eq_true'] at hg
      simp only [hfn]
      rw [if_neg (by rw [hg.2]; simp)]
      have : fn.body.isNone = false := by cases hb : fn.body <;> simp_all
      rw [this]
      rfl
    · cases hg
  unfold callee at h
  split at h
  · rename_i f hc
    split at h
    · rename_i i' first cap hf
      injection h with h; simp only [Prod.mk.injEq] at h; obtain ⟨rfl, rfl⟩ := h
      have := hρ f
      rw [hf] at this
      simp only [RepV] at this
      obtain ⟨fs, cs, hv, h1, h2⟩ := this
      refine ⟨fs ++ c.args.toList.map σ ++ cs, (h1.append (repl_map hρ _)).append h2, ?_⟩
      simp only [resolve, hc, hv, Deferred.ofValue, Sem.run_bind, Sem.run_pure, Result.andThen_ok, invoke]
      rw [hcall]
      congr 3
      apply Array.ext'
      simp
    · cases h
  · rename_i recv name hc
    split at h
    · rename_i t v hf
      split at h
      · rename_i i' hm
        injection h with h; simp only [Prod.mk.injEq] at h; obtain ⟨rfl, rfl⟩ := h
        have := hρ recv
        rw [hf] at this
        simp only [RepV] at this
        obtain ⟨y, hv, h1⟩ := this
        refine ⟨y :: c.args.toList.map σ, by simp only [RepL]; exact ⟨_, _, rfl, h1, repl_map hρ _⟩, ?_⟩
        have hmm := hM t name i' hm y w
        have e1 : (#[Value.iface t y] ++ c.args.map σ)[0]? = some (.iface t y) := by
          rw [Array.getElem?_append_left (by simp)]; rfl
        have e2 : (#[Value.iface t y] ++ c.args.map σ).extract 1 (#[Value.iface t y] ++ c.args.map σ).size = c.args.map σ := by
          apply Array.ext'
          simp
          rw [List.take_of_length_le (by simp)]
        simp only [resolve, hc, hv, Sem.run_bind, Sem.run_pure, Result.andThen_ok, invoke, e1, e2, callMethod, run_program, hmm, hcall]
        congr 3
        apply Array.ext'
        simp
      · cases h
    · cases h
  · cases h

/-- One operation. -/
theorem stepO_ok (hS : Sound P E O) (hM : MethOk P E) (R : Rel g H w) (hG : GlobOk E g) {tmps : List AV} {a : Act} (hT : RepL g tmps a.tmps.toList) {fid : Nat} {o : Oper}
    (hid : needsId E o.op = true → fid < H.length ∧ H.at fid = none) {v : AV} {H' : AH} (h : stepO O P E (aeval E tmps) H fid o = some (v, H'))
    {K : Act → World → Prop} {Q : Exit → Act → World → Prop} (hK : ∀ g' u w', Rel g' H' w' → Post g H w g' H' w' → RepV g' v u → K (a.put o.dst u) w') : o.wp P a w K Q := by
  have hρ := fun x => aeval_ok hG hT x
  have fin : ∀ {r u}, aop P E (aeval E tmps) H fid o = some (r, u) → some (r, applyUps H u) = some (v, H') → o.wp P a w K Q := by
    intro r u ha h
    injection h with h; simp only [Prod.mk.injEq] at h; obtain ⟨rfl, rfl⟩ := h
    obtain ⟨g', nx, cv, w', hrun, hnx, h1, h2, h3⟩ := aop_ok (P := P) R hρ hid ha
    unfold Oper.wp
    rw [hrun]
    rcases hnx with rfl | ⟨rfl, rfl⟩
    · exact hK g' cv w' h1 h2 h3
    · exact hK g' undef w' h1 h2 h3
  unfold stepO at h
  split at h
  · rename_i c hc
    split at h
    · rename_i i args hcal
      split at h
      · rename_i hg
        obtain ⟨cargs, hr, hrun⟩ := callee_run (w := w) hM hρ hcal hg o.type
        unfold Oper.wp
        have : (execOp a.eval o).run P w = .ok (.enter i (List.toArray cargs)) w := by
          unfold execOp
          simp only [hc]
          exact hrun
        rw [this]
        simp only [Oper.upon]
        refine Calls.mono ((hS _ _ _ _ _ h).1 g w cargs R hG hr) ?_
        rintro e w' ⟨g', cv, rfl, h1, h2, h3⟩
        exact hK g' cv w' h1 h2 h3
      · cases h
    · split at h
      · rename_i r u ha; exact fin ha h
      · cases h
  · split at h
    · rename_i r u ha; exact fin ha h
    · cases h

theorem length_applyUps : ∀ (u : Ups) (H : AH), (applyUps H u).length = H.length
  | [], _ => rfl
  | (_, _) :: r, H => by simp [applyUps, length_applyUps r]

theorem at_applyUps_free : ∀ (u : Ups) (H : AH) (id : Nat), (∀ p ∈ u, p.1 ≠ id) → (applyUps H u).at id = H.at id
  | [], _, _, _ => rfl
  | (i, e) :: r, H, id, h => by
    simp only [applyUps]
    rw [at_applyUps_free r _ id (fun p hp => h p (List.mem_cons_of_mem _ hp)), AH.at_set, if_neg]
    intro hh
    exact h (i, e) List.mem_cons_self hh.1

/-- What is free stays free, but for the operation's own number. -/
theorem stepO_free (hS : Sound P E O) {ρ : Operand → AV} {fid : Nat} {o : Oper} {v : AV} {H' : AH} (h : stepO O P E ρ H fid o = some (v, H')) :
    H.length ≤ H'.length ∧ ∀ id, id < H.length → H.at id = none → (id ≠ fid ∨ needsId E o.op = false) → H'.at id = none := by
  have fin : ∀ {r u}, aop P E ρ H fid o = some (r, u) → some (r, applyUps H u) = some (v, H') →
      H.length ≤ H'.length ∧ ∀ id, id < H.length → H.at id = none → (id ≠ fid ∨ needsId E o.op = false) → H'.at id = none := by
    intro r u ha h
    injection h with h; simp only [Prod.mk.injEq] at h; obtain ⟨rfl, rfl⟩ := h
    refine ⟨by rw [length_applyUps]; exact Nat.le_refl _, fun id _ hf hne => ?_⟩
    rw [at_applyUps_free u H id, hf]
    intro p hp he
    rcases aop_ups ha p hp with ⟨h1, h2⟩ | ⟨e, h1⟩
    · rcases hne with hne | hne
      · exact hne (he.symm.trans h1)
      · rw [h2] at hne; cases hne
    · rw [he, hf] at h1; cases h1
  unfold stepO at h
  split at h
  · split at h
    · split at h
      · obtain ⟨_, h1, h2⟩ := hS _ _ _ _ _ h
        exact ⟨h1, fun id hl hf _ => h2 id hl hf⟩
      · cases h
    · split at h
      · rename_i r u ha; exact fin ha h
      · cases h
  · split at h
    · rename_i r u ha; exact fin ha h
    · cases h

/-- All that want a number have one that is free, each its own. -/
inductive Ready (E : Env) (H : AH) : List (Oper × Nat) → Prop
  | nil : Ready E H []
  | cons (p : Oper × Nat) (ps : List (Oper × Nat)) (h1 : needsId E p.1.op = true → p.2 < H.length ∧ H.at p.2 = none)
      (h2 : needsId E p.1.op = true → ∀ q ∈ ps, needsId E q.1.op = true → q.2 ≠ p.2) (h3 : Ready E H ps) : Ready E H (p :: ps)

theorem Ready.step {H' : AH} {p : Oper × Nat} : ∀ {ps : List (Oper × Nat)}, Ready E H ps → H.length ≤ H'.length →
    (∀ q ∈ ps, needsId E q.1.op = true → q.2 < H.length → H.at q.2 = none → H'.at q.2 = none) → Ready E H' ps
  | [], _, _, _ => .nil
  | q :: ps, .cons _ _ h1 h2 h3, hl, hk => .cons q ps (fun hn => ⟨Nat.lt_of_lt_of_le (h1 hn).1 hl, hk q List.mem_cons_self hn (h1 hn).1 (h1 hn).2⟩) h2
      (Ready.step (p := p) h3 hl fun r hr => hk r (List.mem_cons_of_mem _ hr))

theorem evOps_ok (hS : Sound P E O) (hM : MethOk P E) {ops : Array Oper} {Q : Exit → Act → World → Prop} : ∀ (ps : List (Oper × Nat)) (is : List Nat) {g : Gh} {H : AH} {w : World} {tmps : List AV} {a : Act}
    {tmps' : List AV} {H' : AH}, evOps O P E ops ps tmps H = some (tmps', H') → All2 (fun i p => ops[i]? = some p.1) is ps → Ready E H ps → Rel g H w → GlobOk E g → RepL g tmps a.tmps.toList → a.defers = [] →
    (∀ g' a' w', Rel g' H' w' → Post g H w g' H' w' → RepL g' tmps' a'.tmps.toList → a'.defers = [] → Q .normal a' w') → wpOps P ops Q is a w
  | [], is, g, H, w, tmps, a, tmps', H', h, hf, _, R, _, hT, hd, hQ => by
    cases hf
    simp only [evOps] at h
    injection h with h; simp only [Prod.mk.injEq] at h; obtain ⟨rfl, rfl⟩ := h
    exact hQ g a w R (Post.refl g H w) hT hd
  | (o, fid) :: ps, is, g, H, w, tmps, a, tmps', H', h, hf, hr, R, hG, hT, hd, hQ => by
    cases hf with
    | cons hi hf =>
      rename_i i is
      cases hr with
      | cons _ _ r1 r2 r3 =>
        simp only [evOps] at h
        simp only [wpOps, hi]
        split at h
        · cases h
        · rename_i hw
          rw [wantedA_ok hT hw]
          simp only [Bool.false_eq_true, if_false]
          exact evOps_ok hS hM ps is h hf r3 R hG (putT_ok hT (by simp [AV.nothing, RepV, RepL, undef])) (by rw [put_defers]; exact hd) hQ
        · rename_i hw
          rw [wantedA_ok hT hw]
          simp only [if_true]
          split at h
          · rename_i v H1 hst
            refine .inl (stepO_ok hS hM R hG hT r1 hst fun g' u w' R' p' hv => ?_)
            obtain ⟨f1, f2⟩ := stepO_free hS hst
            refine evOps_ok hS hM ps is h hf (Ready.step (p := (o, fid)) r3 f1 fun q hq hn hl hfr => ?_) R' (hG.mono p'.le) (putT_ok (RepL.mono p'.le _ _ hT) hv) (by rw [put_defers]; exact hd)
              (fun g2 a2 w2 R2 p2 => hQ g2 a2 w2 R2 (Post.trans R p' p2))
            refine f2 q.2 hl hfr ?_
            by_cases hno : needsId E o.op = true
            · exact .inl (r2 hno q hq hn)
            · exact .inr (by simpa using hno)
          · cases h

theorem at_grow (H : AH) (n id : Nat) : (grow H n).at id = H.at id := by
  unfold grow AH.at
  rw [List.getElem?_append]
  split
  · rfl
  · rename_i h
    rw [List.getElem?_replicate, List.getElem?_eq_none (by omega)]
    split <;> rfl

theorem Rel.grow (R : Rel g H w) (n : Nat) : Rel g (Fw.grow H n) w :=
  ⟨R.imm, fun id h => R.free id (by rwa [at_grow] at h), fun id e h hne => R.ent id e (by rwa [at_grow] at h) hne, R.inj, R.blk⟩

theorem Post.ungrow {n : Nat} {g' : Gh} {H' : AH} {w' : World} (p : Post g (Fw.grow H n) w g' H' w') : Post g H w g' H' w' :=
  ⟨p.le, fun id h => p.hid id (by rw [at_grow]; exact h), p.new, fun b hb hn => p.old b hb fun id e ge he => hn id e ge (by rwa [at_grow] at he), p.size, p.os, p.tape, p.output⟩

theorem withIds_ge : ∀ (os : List Oper) (n : Nat), ∀ q ∈ withIds E os n, n ≤ q.2
  | [], _, q, h => by simp [withIds] at h
  | o :: os, n, q, h => by
    simp only [withIds, List.mem_cons] at h
    rcases h with rfl | h
    · exact Nat.le_refl _
    · have := withIds_ge os _ q h
      split at this <;> omega

theorem ready_withIds (H : AH) (N : Nat) (hN : ∀ id, H.length ≤ id → id < N → True) : ∀ (os : List Oper) (n : Nat) (G : AH), (∀ id, n ≤ id → G.at id = none) → n + idCount E os ≤ G.length → Ready E G (withIds E os n)
  | [], _, _, _, _ => .nil
  | o :: os, n, G, hf, hl => by
    simp only [withIds]
    simp only [idCount] at hl
    refine .cons _ _ (fun hn => ⟨?_, hf n (Nat.le_refl _)⟩) (fun hn q hq _ => ?_) ?_
    · simp only [hn, if_true] at hl
      show n < G.length
      omega
    · have := withIds_ge os _ q hq
      simp only [hn, if_true] at this
      show q.2 ≠ n
      omega
    · refine ready_withIds H N hN os _ G (fun id h => hf id ?_) ?_
      · split at h <;> omega
      · split <;> simp_all <;> omega

theorem forall_withIds (ops : Array Oper) : ∀ (os : List Oper) (n k : Nat), (∀ j, os[j]? = ops[k + j]?) → All2 (fun i (p : Oper × Nat) => ops[i]? = some p.1) (List.range' k os.length) (withIds E os n)
  | [], _, _, _ => .nil
  | o :: os, n, k, h => by
    simp only [withIds, List.length_cons, List.range'_succ]
    refine .cons ?_ (forall_withIds ops os _ (k + 1) fun j => ?_)
    · have := h 0; simpa using this.symm
    · have := h (j + 1)
      simp only [List.getElem?_cons_succ] at this
      rw [this]
      congr 1
      omega

/-- A region in the text's order. -/
theorem evRegion_ok (hS : Sound P E O) (hM : MethOk P E) {ops : Array Oper} {Q : Exit → Act → World → Prop} {id : Nat} {tmps tmps' : List AV} {a : Act} {H' : AH} (h : evRegion O P E ops tmps H = some (tmps', H'))
    (R : Rel g H w) (hG : GlobOk E g) (hT : RepL g tmps a.tmps.toList) (hd : a.defers = [])
    (hQ : ∀ g' a' w', Rel g' H' w' → Post g H w g' H' w' → RepL g' tmps' a'.tmps.toList → a'.defers = [] → Q .normal a' w') : (Code.region id ops false).wp P Q a w := by
  refine wp_region ?_
  have hf := forall_withIds (E := E) ops ops.toList H.length 0 (fun j => by simp)
  rw [Array.length_toList, ← List.range_eq_range'] at hf
  refine evOps_ok hS hM _ _ h hf (ready_withIds H 0 (fun _ _ _ => trivial) ops.toList H.length _ (fun id hid => ?_) (by simp [grow])) (R.grow _) hG hT hd
    (fun g' a' w' R' p' => hQ g' a' w' R' p'.ungrow)
  rw [at_grow]
  unfold AH.at
  rw [List.getElem?_eq_none hid]
  rfl
end
end Go.Proofs.Fw
