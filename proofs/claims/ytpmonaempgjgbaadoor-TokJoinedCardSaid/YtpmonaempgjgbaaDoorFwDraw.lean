/- Regions that draw their order. -/
import Derived.Test.YtpmonaempgjgbaaDoorFwMask
namespace Go.Proofs.Fw
open Go.RowKit

/-- An operation of a region, what stands ahead of it, what it did. -/
structure Item where
  i : Nat
  m : Nat
  p : Oper × Nat
  v : AV
  u : Ups
  S : List Nat

def evD (O : Orc) (P : Program) (E : Env) (ops : Array Oper) : Nat → List Nat → List (Oper × Nat) → List AV → AH → Option (List AV × AH × List Item)
  | _, _, [], tmps, H => some (tmps, H, [])
  | i, ms, p :: ps, tmps, H =>
    (match dstep O P E ops tmps H p with
    | some (v, u, S) => (match evD O P E ops (i + 1) ms ps (putT tmps p.1.dst v) (applyUps H u) with
      | some (t, K, l) => some (t, K, ⟨i, ms.getD i 0, p, v, u, S⟩ :: l)
      | none => none)
    | none => none)

def maskOf (acc : List Nat) : List Edge → Nat
  | [] => 0
  | e :: es => if Region.binds .any e = true then (maskOf acc es ||| (2 ^ e.on ||| acc.getD e.on 0)) else maskOf acc es

def masksFrom : List Nat → List Oper → List Nat
  | acc, [] => acc
  | acc, o :: os => masksFrom (acc ++ [maskOf acc o.after.toList]) os

def backOnly : Nat → List Oper → Bool
  | _, [] => true
  | i, o :: os => (o.after.toList.all fun e => !(Region.binds .any e) || decide (e.on < i)) && backOnly (i + 1) os

def footApart (a b : Item) : Bool := (a.u.all fun q => !(b.S.contains q.1)) && (b.u.all fun q => !(a.S.contains q.1))

def okPair (ops : Array Oper) (r s : Item) : Bool := s.m.testBit r.i || (r.p.1.apart ops s.p.1 && footApart r s)

def chk (ops : Array Oper) : List Item → Bool
  | [] => true
  | r :: rs => rs.all (okPair ops r) && chk ops rs

def evDraw (O : Orc) (P : Program) (E : Env) (ops : Array Oper) (tmps : List AV) (H : AH) : Option (List AV × AH) :=
  match evD O P E ops 0 (masksFrom [] ops.toList) (withIds E ops.toList H.length) tmps (grow H (idCount E ops.toList)) with
  | some (t, K, l) => if chk ops l = true ∧ backOnly 0 ops.toList = true then some (t, K) else none
  | none => none

section
variable {P : Program} {E : Env} {O : Orc} {ops : Array Oper}

theorem parts_congr {ρ σ : Operand → AV} (l : List (Nat × Operand)) (h : ∀ x ∈ l.map (·.2), ρ x = σ x) : (l.map fun p => (p.1, ρ p.2)) = l.map fun p => (p.1, σ p.2) := by
  apply List.map_congr_left
  intro p hp
  rw [h p.2 (List.mem_map_of_mem hp)]

theorem map_congr' {ρ σ : Operand → AV} (l : List Operand) (h : ∀ x ∈ l, ρ x = σ x) : l.map ρ = l.map σ := List.map_congr_left h

theorem aop_congr {ρ σ : Operand → AV} {H : AH} {fid : Nat} (o : Oper) (h : ∀ x ∈ o.op.operands, ρ x = σ x) : aop P E ρ H fid o = aop P E σ H fid o := by
  obtain ⟨dst, op, ty, pos, after, guard⟩ := o
  cases op <;> simp only [Op.operands] at h <;> simp only [aop]
  case build t ps => rw [parts_congr ps.toList fun x hx => h x (by simpa using hx)]
  case buildSlice t n ps => rw [parts_congr ps.toList fun x hx => h x (by simpa using hx)]
  case makeFunc fn first captured =>
    rw [map_congr' first.toList fun x hx => h x (by simp_all), map_congr' captured.toList fun x hx => h x (by simp_all)]
  case slice t x lo hi mx => cases lo <;> cases hi <;> cases mx <;> simp_all
  case call c =>
    obtain ⟨callee, args, argTypes⟩ := c
    cases callee with
    | value f => rfl
    | invoke r m => rfl
    | builtin b =>
      simp only [Call.operands] at h
      have ha : ∀ (i : Nat) x, args[i]? = some x → ρ x = σ x := fun i x hx => h x (by simp [Array.mem_of_getElem? hx])
      cases b <;> simp only
      case len =>
        cases ht : argTypes[0]? <;> cases hx : args[0]? <;> simp only
        rw [ha 0 _ hx]
      case cap =>
        cases ht : argTypes[0]? <;> cases hx : args[0]? <;> simp only
        rw [ha 0 _ hx]
      case copy =>
        cases ht : argTypes[0]? <;> cases hx : args[0]? <;> cases hy : args[1]? <;> simp only
        rw [ha 0 _ hx, ha 1 _ hy]
      case max =>
        have hl : ∀ x ∈ args.toList, ρ x = σ x := fun x hx => h x (by simp at hx ⊢; exact hx)
        revert hl
        split
        · intro hl; rw [hl _ (by simp [*]), hl _ (by simp [*])]
        · intro _; rfl
      case min =>
        have hl : ∀ x ∈ args.toList, ρ x = σ x := fun x hx => h x (by simp at hx ⊢; exact hx)
        revert hl
        split
        · intro hl; rw [hl _ (by simp [*]), hl _ (by simp [*])]
        · intro _; rfl
      case append =>
        cases ht : argTypes[0]? <;> cases hu : argTypes[1]? <;> cases hx : args[0]? <;> cases hy : args[1]? <;> simp only
        rw [ha 0 _ hx, ha 1 _ hy]
  all_goals (first | rfl | (simp_all; done))

theorem callee_congr {ρ σ : Operand → AV} (c : Call) (h : ∀ x ∈ c.operands, ρ x = σ x) : callee E ρ c = callee E σ c := by
  obtain ⟨cl, args, argTypes⟩ := c
  have ha : args.toList.map ρ = args.toList.map σ := map_congr' _ fun x hx => h x (by simp [Call.operands] at hx ⊢; exact .inr hx)
  unfold callee
  cases cl with
  | value f => simp only [ha, h f (by simp [Call.operands])]
  | invoke r m => simp only [ha, h r (by simp [Call.operands])]
  | builtin b => rfl

theorem stepU_congr {ρ σ : Operand → AV} {H : AH} {fid : Nat} {S : List Nat} (o : Oper) (h : ∀ x ∈ o.op.operands, ρ x = σ x) : stepU O P E ρ H fid S o = stepU O P E σ H fid S o := by
  unfold stepU
  rw [aop_congr o h]
  split
  · rename_i c hc
    rw [callee_congr c (by rw [hc] at h; exact h)]
  · rfl

theorem opIds_congr {ρ σ : Operand → AV} (o : Oper) (h : ∀ x ∈ o.op.operands, ρ x = σ x) : opIds ρ o = opIds σ o := by
  unfold opIds
  rw [map_congr' o.op.operands.toList fun x hx => h x (by simpa using hx)]

theorem dstep_congr {t1 t2 : List AV} {H1 H2 : AH} {p : Oper × Nat} (h1 : ∀ x ∈ p.1.op.operands, aeval E t1 x = aeval E t2 x) (h2 : wantedA ops t1 p.1 = wantedA ops t2 p.1) (hl : H1.length = H2.length)
    (h3 : wantedA ops t1 p.1 = some true → ∀ i ∈ visIds E H1 (aeval E t1) p, H1.at i = H2.at i) : dstep O P E ops t1 H1 p = dstep O P E ops t2 H2 p := by
  unfold dstep
  rw [← h2]
  split
  · rfl
  · rfl
  · rename_i hw
    have h3 := h3 hw
    have hid := opIds_congr p.1 h1
    have hv : visIds E H1 (aeval E t1) p = visIds E H2 (aeval E t2) p := by
      unfold visIds at h3 ⊢
      rw [← hid]
      split
      · rename_i hn
        rw [if_pos hn] at h3
        rw [clos_congr 4 _ fun i hi => h3 i (List.mem_cons_of_mem _ hi)]
      · rename_i hn
        rw [if_neg hn] at h3
        rw [clos_congr 4 _ h3]
    rw [← hv, mask_congr hl h3, stepU_congr p.1 h1]

abbrev St := List AV × AH

def app (r : Item) (s : St) : St := (putT s.1 r.p.1.dst r.v, applyUps s.2 r.u)

def RunsD (O : Orc) (P : Program) (E : Env) (ops : Array Oper) : List Item → St → St → Prop
  | [], s, s' => s = s'
  | r :: L, s, s' => dstep O P E ops s.1 s.2 r.p = some (r.v, r.u, r.S) ∧ RunsD O P E ops L (app r s) s'

theorem getD_putT {tmps : List AV} {dst : Option Tmp} {v : AV} {t : Nat} (h : dst ≠ some t) (d0 : AV) : (putT tmps dst v).getD t d0 = tmps.getD t d0 := by
  cases dst with
  | none => rfl
  | some d =>
    have : d ≠ t := fun e => h (by rw [e])
    simp only [putT, List.getD_eq_getElem?_getD, List.getElem?_set_ne this]

theorem get?_putT {tmps : List AV} {dst : Option Tmp} {v : AV} {t : Nat} (h : dst ≠ some t) : (putT tmps dst v)[t]? = tmps[t]? := by
  cases dst with
  | none => rfl
  | some d =>
    have : d ≠ t := fun e => h (by rw [e])
    simp only [putT, List.getElem?_set_ne this]

/-- What is apart sees the same. -/
theorem aeval_putT {tmps : List AV} {dst : Option Tmp} {v : AV} {o : Oper} (h : ∀ d, dst = some d → d ∉ o.looksAt ops) : ∀ x ∈ o.op.operands, aeval E (putT tmps dst v) x = aeval E tmps x := by
  intro x hx
  cases x with
  | tmp t =>
    simp only [aeval]
    exact getD_putT (fun e => h t e (List.mem_append_left _ (List.mem_filterMap.2 ⟨.tmp t, by simpa using hx, rfl⟩))) _
  | _ => rfl

theorem wantedA_putT {tmps : List AV} {dst : Option Tmp} {v : AV} {o : Oper} (h : ∀ d, dst = some d → d ∉ o.looksAt ops) : wantedA ops (putT tmps dst v) o = wantedA ops tmps o := by
  unfold wantedA
  cases hg : o.guard with
  | none => rfl
  | some gw =>
    obtain ⟨j, want⟩ := gw
    simp only
    cases hd : (ops[j]?).bind (·.dst) with
    | none => rfl
    | some d =>
      simp only
      rw [get?_putT]
      intro e
      exact h d e (List.mem_append_right _ (by simp [hg, hd]))

theorem contains_false {l : List Nat} {i : Nat} (h : (!(l.contains i)) = true) : i ∉ l := by simpa using h

theorem dstep_S {tmps : List AV} {H : AH} {p : Oper × Nat} {v : AV} {u : Ups} {S : List Nat} (h : dstep O P E ops tmps H p = some (v, u, S)) :
    (∀ q ∈ u, q.1 ∈ S) ∧ (wantedA ops tmps p.1 = some true → S = visIds E H (aeval E tmps) p) := by
  unfold dstep at h
  split at h
  · cases h
  · rename_i hw
    injection h with h; simp only [Prod.mk.injEq] at h; obtain ⟨rfl, rfl, rfl⟩ := h
    exact ⟨by simp, fun hw' => by rw [hw] at hw'; cases hw'⟩
  · split at h
    · split at h
      · rename_i hall
        injection h with h; simp only [Prod.mk.injEq] at h; obtain ⟨rfl, rfl, rfl⟩ := h
        refine ⟨fun q hq => ?_, fun _ => rfl⟩
        have := List.all_eq_true.1 hall q hq
        simpa using this
      · cases h
    · cases h

structure Ind (ops : Array Oper) (r s : Item) : Prop where
  d1 : ∀ d, r.p.1.dst = some d → d ∉ s.p.1.looksAt ops
  d2 : ∀ d, r.p.1.dst = some d → s.p.1.dst ≠ some d
  d3 : ∀ d, s.p.1.dst = some d → d ∉ r.p.1.looksAt ops
  f1 : ∀ q ∈ r.u, q.1 ∉ s.S
  f2 : ∀ q ∈ s.u, q.1 ∉ r.S

theorem putT_comm (tmps : List AV) {x y : Option Tmp} (v u : AV) (h : ∀ d, x = some d → y ≠ some d) : putT (putT tmps x v) y u = putT (putT tmps y u) x v := by
  cases x with
  | none => rfl
  | some d =>
    cases y with
    | none => rfl
    | some e =>
      have hne : d ≠ e := fun he => h d rfl (he ▸ rfl)
      simp only [putT]
      exact List.set_comm _ _ hne

theorem applyUps_comm {u1 u2 : Ups} (H : AH) (h : ∀ q ∈ u1, ∀ r ∈ u2, q.1 ≠ r.1) : applyUps (applyUps H u1) u2 = applyUps (applyUps H u2) u1 := by
  apply AH.ext_at
  · simp only [length_applyUps]
  · intro id
    by_cases h1 : ∃ q ∈ u1, q.1 = id
    · have h2 : ∀ r ∈ u2, r.1 ≠ id := fun r hr he => by
        obtain ⟨q, hq, hqe⟩ := h1
        exact h q hq r hr (hqe.trans he.symm)
      rw [at_applyUps_free u2 _ id h2]
      exact applyUps_same u1 (by rw [length_applyUps]) id h1
    · have h1' : ∀ q ∈ u1, q.1 ≠ id := fun q hq he => h1 ⟨q, hq, he⟩
      rw [at_applyUps_free u1 (applyUps H u2) id h1']
      by_cases h2 : ∃ r ∈ u2, r.1 = id
      · exact applyUps_same u2 (by rw [length_applyUps]) id h2
      · have h2' : ∀ q ∈ u2, q.1 ≠ id := fun q hq he => h2 ⟨q, hq, he⟩
        rw [at_applyUps_free u2 _ id h2', at_applyUps_free u2 _ id h2', at_applyUps_free u1 _ id h1']

/-- Two that are apart may change places. -/
theorem swap {r s : Item} {t : St} (hi : Ind ops r s) (h1 : dstep O P E ops t.1 t.2 r.p = some (r.v, r.u, r.S)) (h2 : dstep O P E ops (app r t).1 (app r t).2 s.p = some (s.v, s.u, s.S)) :
    dstep O P E ops t.1 t.2 s.p = some (s.v, s.u, s.S) ∧ dstep O P E ops (app s t).1 (app s t).2 r.p = some (r.v, r.u, r.S) ∧ app r (app s t) = app s (app r t) := by
  obtain ⟨s1, s2⟩ := dstep_S h1
  obtain ⟨s3, s4⟩ := dstep_S h2
  refine ⟨?_, ?_, ?_⟩
  · rw [← h2]
    refine (dstep_congr (fun x hx => aeval_putT hi.d1 x hx) (wantedA_putT hi.d1) (length_applyUps _ _) fun hw i him => ?_).symm
    have him' : i ∈ s.S := by rw [s4 hw]; exact him
    exact at_applyUps_free _ _ i fun q hq he => hi.f1 q hq (he ▸ him')
  · rw [← h1]
    refine dstep_congr (fun x hx => aeval_putT hi.d3 x hx) (wantedA_putT hi.d3) (length_applyUps _ _) fun hw i him => ?_
    have hw' : wantedA ops t.1 r.p.1 = some true := by
      rw [← hw]; exact (wantedA_putT hi.d3).symm
    have hS := s2 hw'
    -- what is seen behind 's' is what was seen ahead of it
    have hsame : visIds E (app s t).2 (aeval E (app s t).1) r.p = r.S := by
      have e1 : opIds (aeval E (app s t).1) r.p.1 = opIds (aeval E t.1) r.p.1 := opIds_congr r.p.1 fun x hx => aeval_putT hi.d3 x hx
      rw [hS]
      unfold visIds at hS ⊢
      rw [e1]
      have hc : clos t.2 4 (opIds (aeval E t.1) r.p.1) = clos (app s t).2 4 (opIds (aeval E t.1) r.p.1) := by
        refine clos_congr 4 _ fun i hi' => ?_
        refine (at_applyUps_free _ _ i fun q hq he => hi.f2 q hq ?_).symm
        rw [hS, he]
        split
        · exact List.mem_cons_of_mem _ hi'
        · exact hi'
      rw [hc]
    rw [hsame] at him
    exact at_applyUps_free _ _ i fun q hq he => hi.f2 q hq (he ▸ him)
  · unfold app
    simp only
    rw [putT_comm t.1 r.v s.v hi.d2, applyUps_comm t.2 (u1 := r.u) (u2 := s.u)]
    intro q hq x hx he
    exact hi.f1 q hq (he ▸ s3 x hx)

theorem front {r : Item} : ∀ {L1 L2 : List Item} {s s' : St}, RunsD O P E ops (L1 ++ r :: L2) s s' → (∀ q ∈ L1, Ind ops q r) → RunsD O P E ops (r :: (L1 ++ L2)) s s'
  | [], _, _, _, h, _ => h
  | q :: L1, L2, s, s', h, hi => by
    simp only [List.cons_append, RunsD] at h
    obtain ⟨h1, h2⟩ := h
    have h3 := front h2 fun x hx => hi x (List.mem_cons_of_mem _ hx)
    simp only [RunsD] at h3
    obtain ⟨h3, h4⟩ := h3
    obtain ⟨a1, a2, a3⟩ := swap (hi q List.mem_cons_self) h1 h3
    simp only [RunsD, List.cons_append]
    exact ⟨a1, a2, by rw [a3]; exact h4⟩

theorem okPair_ind {r s : Item} (h : okPair ops r s = true) (hm : s.m.testBit r.i = false) : Ind ops r s := by
  unfold okPair at h
  rw [hm, Bool.false_or, Bool.and_eq_true] at h
  obtain ⟨h1, h2, h3⟩ := (⟨Oper.apart_spec h.1, h.2⟩ : _ ∧ _) |>.1
  have hf := h.2
  unfold footApart at hf
  rw [Bool.and_eq_true] at hf
  exact ⟨h1, h2, h3, fun q hq => contains_false (List.all_eq_true.1 hf.1 q hq), fun q hq => contains_false (List.all_eq_true.1 hf.2 q hq)⟩
end
end Go.Proofs.Fw
