/- One operation that sees only what it is handed. -/
import Derived.Test.YtpmonaempgjgbaaDoorFwCode
import Derived.Orders
namespace Go.Proofs.Fw
open Go.RowKit

mutual
/-- The numbers that a value bears. -/
def idsOf : AV → List Nat
  | .ptr id _ => [id]
  | .bsl id _ _ _ _ => [id]
  | .slice (.tok t) _ _ _ => [t]
  | .func _ a b => idsOfL a ++ idsOfL b
  | .iface _ v => idsOf v
  | .agg cs => idsOfL cs
  | .tup vs => idsOfL vs
  | _ => []
def idsOfL : List AV → List Nat
  | [] => []
  | a :: as => idsOf a ++ idsOfL as
end

def boxIds (H : AH) (id : Nat) : List Nat :=
  match H.at id with
  | some (.box cs) => idsOfL cs
  | _ => []

def boxIdsL (H : AH) : List Nat → List Nat
  | [] => []
  | id :: r => boxIds H id ++ boxIdsL H r

/-- The numbers that are led to. -/
def clos (H : AH) : Nat → List Nat → List Nat
  | 0, l => l
  | n + 1, l => if (boxIdsL H l).all (fun i => l.contains i) = true then l else clos H n (l ++ boxIdsL H l)

def maskFrom (S : List Nat) : Nat → AH → AH
  | _, [] => []
  | k, e :: r => (if S.contains k = true then e else some .hid) :: maskFrom S (k + 1) r

def mask (H : AH) (S : List Nat) : AH := maskFrom S 0 H

theorem maskFrom_length (S : List Nat) : ∀ (H : AH) (k : Nat), (maskFrom S k H).length = H.length
  | [], _ => rfl
  | _ :: r, k => by simp [maskFrom, maskFrom_length S r]

theorem maskFrom_at (S : List Nat) : ∀ (H : AH) (k i : Nat), (maskFrom S k H).at i = if i < H.length then (if S.contains (k + i) = true then H.at i else some .hid) else none
  | [], k, i => by simp [maskFrom, AH.at]
  | e :: r, k, i => by
    cases i with
    | zero => simp only [maskFrom, AH.at, List.getElem?_cons_zero, Option.join_some, Nat.add_zero, List.length_cons, Nat.zero_lt_succ, if_true]
    | succ i =>
      have := maskFrom_at S r (k + 1) i
      simp only [AH.at, maskFrom, List.getElem?_cons_succ, List.length_cons, Nat.add_lt_add_iff_right] at this ⊢
      rw [this, show k + 1 + i = k + (i + 1) by omega]

theorem mask_length (H : AH) (S : List Nat) : (mask H S).length = H.length := maskFrom_length S H 0
theorem mask_at (H : AH) (S : List Nat) (i : Nat) : (mask H S).at i = if i < H.length then (if S.contains i = true then H.at i else some .hid) else none := by
  have := maskFrom_at S H 0 i
  rwa [Nat.zero_add] at this

theorem AH.ext_at {H K : AH} (hl : H.length = K.length) (h : ∀ i, H.at i = K.at i) : H = K := by
  apply List.ext_getElem?
  intro i
  rcases Nat.lt_or_ge i H.length with hi | hi
  · have := h i
    unfold AH.at at this
    rw [List.getElem?_eq_getElem hi, List.getElem?_eq_getElem (hl ▸ hi)] at this ⊢
    simp only [Option.join_some] at this
    rw [this]
  · rw [List.getElem?_eq_none hi, List.getElem?_eq_none (hl ▸ hi)]

/-- Two heaps that agree on some numbers look alike through them. -/
theorem mask_congr {H K : AH} {S : List Nat} (hl : H.length = K.length) (h : ∀ i ∈ S, H.at i = K.at i) : mask H S = mask K S := by
  apply AH.ext_at
  · rw [mask_length, mask_length, hl]
  · intro i
    rw [mask_at, mask_at, hl]
    split
    · split
      · rename_i hc
        exact h i (by simpa using hc)
      · rfl
    · rfl

theorem boxIdsL_congr {H K : AH} : ∀ {l : List Nat}, (∀ i ∈ l, H.at i = K.at i) → boxIdsL H l = boxIdsL K l
  | [], _ => rfl
  | id :: r, h => by
    simp only [boxIdsL, boxIds]
    rw [h id List.mem_cons_self, boxIdsL_congr fun i hi => h i (List.mem_cons_of_mem _ hi)]

theorem clos_sub (H : AH) : ∀ (n : Nat) (l : List Nat), ∀ i ∈ l, i ∈ clos H n l
  | 0, l, i, hi => hi
  | n + 1, l, i, hi => by
    simp only [clos]
    split
    · exact hi
    · exact clos_sub H n _ i (List.mem_append_left _ hi)

theorem clos_congr {H K : AH} : ∀ (n : Nat) (l : List Nat), (∀ i ∈ clos H n l, H.at i = K.at i) → clos H n l = clos K n l
  | 0, l, _ => rfl
  | n + 1, l, h => by
    have hl : ∀ i ∈ l, H.at i = K.at i := fun i hi => h i (clos_sub H (n + 1) l i hi)
    simp only [clos] at h ⊢
    rw [← boxIdsL_congr hl]
    split
    · rfl
    · rename_i hc
      rw [if_neg hc] at h
      exact clos_congr n _ h

/-- What an operation does to the heap that it sees. -/
def stepU (O : Orc) (P : Program) (E : Env) (ρ : Operand → AV) (H : AH) (fid : Nat) (S : List Nat) (o : Oper) : Option (AV × Ups) :=
  match o.op with
  | .call c => (match callee E ρ c with
    | some (i, args) => if goFn P i = true then (match O i args H with
        | some (v, H1) => if H1.length = H.length then some (v, S.filterMap fun i => (H1.at i).map fun e => (i, e)) else none
        | none => none) else none
    | none => aop P E ρ H fid o)
  | _ => aop P E ρ H fid o

def opIds (ρ : Operand → AV) (o : Oper) : List Nat := idsOfL (o.op.operands.toList.map ρ)

/-- What an operation is handed: what its operands lead to, and its own number. -/
def visIds (E : Env) (H : AH) (ρ : Operand → AV) (p : Oper × Nat) : List Nat :=
  if needsId E p.1.op = true then p.2 :: clos H 4 (opIds ρ p.1) else clos H 4 (opIds ρ p.1)

/-- One operation of a region that draws its order: its value, what it turns, what it sees. -/
def dstep (O : Orc) (P : Program) (E : Env) (ops : Array Oper) (tmps : List AV) (H : AH) (p : Oper × Nat) : Option (AV × Ups × List Nat) :=
  match wantedA ops tmps p.1 with
  | none => none
  | some false => some (.nothing, [], [])
  | some true =>
    (match stepU O P E (aeval E tmps) (mask H (visIds E H (aeval E tmps) p)) p.2 (visIds E H (aeval E tmps) p) p.1 with
    | some (v, u) => if u.all (fun q => (visIds E H (aeval E tmps) p).contains q.1) = true then some (v, u, visIds E H (aeval E tmps) p) else none
    | none => none)

section
variable {P : Program} {E : Env} {O : Orc} {g : Gh} {H : AH} {w : World}

theorem mask_at_in {S : List Nat} {i : Nat} (h : i ∈ S) (hl : i < H.length) : (mask H S).at i = H.at i := by
  rw [mask_at, if_pos hl, if_pos (by simpa using h)]
theorem mask_at_out {S : List Nat} {i : Nat} (h : i ∉ S) (hl : i < H.length) : (mask H S).at i = some .hid := by
  rw [mask_at, if_pos hl, if_neg (by simpa using h)]

theorem at_lt {H : AH} {i : Nat} {e : Ent} (h : H.at i = some e) : i < H.length := by
  unfold AH.at at h
  rcases Nat.lt_or_ge i H.length with h' | h'
  · exact h'
  · simp [List.getElem?_eq_none h'] at h
theorem at_ge {H : AH} {i : Nat} (h : H.length ≤ i) : H.at i = none := by
  unfold AH.at
  rw [List.getElem?_eq_none h]
  rfl

theorem Rel.mask (R : Rel g H w) (S : List Nat) : Rel g (Fw.mask H S) w where
  imm := R.imm
  free := fun id h => R.free id (by
    rw [mask_at] at h
    split at h
    · split at h
      · exact h
      · cases h
    · rename_i hl; exact at_ge (by omega))
  ent := fun id e h hne => R.ent id e (by
    rw [mask_at] at h
    split at h
    · split at h
      · exact h
      · injection h with h; exact absurd h.symm hne
    · cases h) hne
  inj := R.inj
  blk := R.blk

theorem unmask (R : Rel g H w) {S : List Nat} {g' : Gh} {H1 : AH} {w' : World} (R' : Rel g' H1 w') (p : Post g (mask H S) w g' H1 w') (hlen : H1.length = H.length) {u : Ups}
    (h1 : ∀ id, (∃ q ∈ u, q.1 = id) → (applyUps H u).at id = H1.at id) (h2 : ∀ id, (∀ q ∈ u, q.1 ≠ id) → id ∈ S → H1.at id = none ∨ H1.at id = H.at id) :
    Rel g' (applyUps H u) w' ∧ Post g H w g' (applyUps H u) w' := by
  have hout : ∀ id, id ∉ S → id < H.length → g'.M id = g.M id ∧ H1.at id = some .hid := fun id hs hl => p.hid id (mask_at_out hs hl)
  have hkeep : ∀ id, (∀ q ∈ u, q.1 ≠ id) → (applyUps H u).at id = H.at id := fun id h => at_applyUps_free u H id h
  have dec : ∀ id, (∃ q ∈ u, q.1 = id) ∨ (∀ q ∈ u, q.1 ≠ id) := fun id => by
    by_cases h : ∃ q ∈ u, q.1 = id
    · exact .inl h
    · exact .inr fun q hq he => h ⟨q, hq, he⟩
  refine ⟨⟨R'.imm, ?_, ?_, R'.inj, R'.blk⟩, ⟨p.le, ?_, p.new, ?_, p.size, p.os, p.tape, p.output⟩⟩
  · intro id h
    rcases dec id with hu | hu
    · rw [h1 id hu] at h
      exact R'.free id h
    · rw [hkeep id hu] at h
      rcases Nat.lt_or_ge id H.length with hl | hl
      · by_cases hs : id ∈ S
        · rcases h2 id hu hs with h3 | h3
          · exact R'.free id h3
          · exact R'.free id (h3.trans h)
        · rw [(hout id hs hl).1]
          exact R.free id h
      · exact R'.free id (at_ge (by omega))
  · intro id e h hne
    rcases dec id with hu | hu
    · rw [h1 id hu] at h
      exact R'.ent id e h hne
    · rw [hkeep id hu] at h
      have hl := at_lt h
      obtain ⟨ge, hM, hr⟩ := R.ent id e h hne
      by_cases hs : id ∈ S
      · rcases h2 id hu hs with h3 | h3
        · obtain ⟨e', hM', _⟩ := p.le.M id ge hM
          rw [R'.free id h3] at hM'
          cases hM'
        · exact R'.ent id e (h3.trans h) hne
      · obtain ⟨h4, h5⟩ := hout id hs hl
        obtain ⟨h6, h7⟩ := p.old ge.block (R.blk id ge hM) (fun id2 e2 ge2 he2 hne2 hM2 hb => by
          have := R.inj id2 id ge2 ge hM2 hM hb
          subst this
          rw [mask_at_out hs hl] at he2
          injection he2 with he2
          exact hne2 he2.symm)
        exact ⟨ge, h4.trans hM, hr.keep p.le h6 h7⟩
  · intro id h
    have hl := at_lt h
    have hm : (mask H S).at id = some .hid := by
      by_cases hs : id ∈ S
      · rw [mask_at_in hs hl, h]
      · exact mask_at_out hs hl
    obtain ⟨h3, h4⟩ := p.hid id hm
    refine ⟨h3, ?_⟩
    rcases dec id with hu | hu
    · rw [h1 id hu, h4]
    · rw [hkeep id hu, h]
  · intro b hb hn
    refine p.old b hb fun id e ge he hne hM => ?_
    have : H.at id = some e := by
      rw [mask_at] at he
      split at he
      · split at he
        · exact he
        · injection he with he; exact absurd he.symm hne
      · cases he
    exact hn id e ge this hne hM

theorem applyUps_same : ∀ (u : Ups) {H K : AH}, H.length = K.length → ∀ id, (∃ q ∈ u, q.1 = id) → (applyUps H u).at id = (applyUps K u).at id
  | [], _, _, _, _, h => by obtain ⟨q, hq, _⟩ := h; cases hq
  | (i, e) :: r, H, K, hl, id, h => by
    simp only [applyUps]
    by_cases hr : ∃ q ∈ r, q.1 = id
    · exact applyUps_same r (by simp [hl]) id hr
    · have hr' : ∀ q ∈ r, q.1 ≠ id := fun q hq he => hr ⟨q, hq, he⟩
      rw [at_applyUps_free r _ id hr', at_applyUps_free r _ id hr', AH.at_set, AH.at_set, hl]
      obtain ⟨q, hq, rfl⟩ := h
      rcases List.mem_cons.1 hq with rfl | hq
      · simp only [true_and]
        split
        · rfl
        · rename_i hge
          rw [at_ge (by omega), at_ge (by omega)]
      · exact absurd ⟨q, hq, rfl⟩ hr

theorem applyUps_to : ∀ (u : Ups) {H H1 : AH}, H1.length = H.length → (∀ q ∈ u, H1.at q.1 = some q.2) → ∀ id, (∃ q ∈ u, q.1 = id) → (applyUps H u).at id = H1.at id
  | [], _, _, _, _, _, h => by obtain ⟨q, hq, _⟩ := h; cases hq
  | (i, e) :: r, H, H1, hl, hu, id, h => by
    simp only [applyUps]
    by_cases hr : ∃ q ∈ r, q.1 = id
    · exact applyUps_to r (by simp [hl]) (fun q hq => hu q (List.mem_cons_of_mem _ hq)) id hr
    · have hr' : ∀ q ∈ r, q.1 ≠ id := fun q hq he => hr ⟨q, hq, he⟩
      rw [at_applyUps_free r _ id hr', AH.at_set]
      obtain ⟨q, hq, rfl⟩ := h
      rcases List.mem_cons.1 hq with rfl | hq
      · have := hu (i, e) List.mem_cons_self
        rw [if_pos ⟨rfl, by rw [← hl]; exact at_lt this⟩, this]
      · exact absurd ⟨q, hq, rfl⟩ hr

/-- One operation, seen through what it is handed. -/
theorem stepU_ok (hS : Sound P E O) (hM : MethOk P E) (R : Rel g H w) (hG : GlobOk E g) {tmps : List AV} {a : Act} (hT : RepL g tmps a.tmps.toList) {fid : Nat} {S : List Nat} {o : Oper}
    (hid : needsId E o.op = true → fid < H.length ∧ H.at fid = none ∧ fid ∈ S) {v : AV} {u : Ups} (h : stepU O P E (aeval E tmps) (mask H S) fid S o = some (v, u))
    {K : Act → World → Prop} {Q : Exit → Act → World → Prop} (hK : ∀ g' cv w', Rel g' (applyUps H u) w' → Post g H w g' (applyUps H u) w' → RepV g' v cv → K (a.put o.dst cv) w') : o.wp P a w K Q := by
  have hρ := fun x => aeval_ok hG hT x
  have Rm := R.mask S
  have fin : aop P E (aeval E tmps) (mask H S) fid o = some (v, u) → o.wp P a w K Q := by
    intro ha
    obtain ⟨g', nx, cv, w', hrun, hnx, q1, q2, q3⟩ := aop_ok (P := P) Rm hρ (fun hn => by
      obtain ⟨h1, h2, h3⟩ := hid hn
      exact ⟨by rw [mask_length]; exact h1, by rw [mask_at_in h3 h1]; exact h2⟩) ha
    obtain ⟨q4, q5⟩ := unmask R q1 q2 (by rw [length_applyUps, mask_length]) (fun id hi => (applyUps_same u (mask_length H S).symm id hi))
      (fun id hi hs => .inr (by
        rw [at_applyUps_free u _ id hi]
        rcases Nat.lt_or_ge id H.length with hl | hl
        · exact mask_at_in hs hl
        · rw [at_ge (by rw [mask_length]; exact hl), at_ge hl]))
    unfold Oper.wp
    rw [hrun]
    rcases hnx with rfl | ⟨rfl, rfl⟩
    · exact hK g' cv w' q4 q5 q3
    · exact hK g' undef w' q4 q5 q3
  unfold stepU at h
  split at h
  · rename_i c hc
    split at h
    · rename_i i args hcal
      split at h
      · rename_i hg
        split at h
        · rename_i v1 H1 hO
          split at h
          · rename_i hlen
            injection h with h; simp only [Prod.mk.injEq] at h; obtain ⟨rfl, rfl⟩ := h
            obtain ⟨cargs, hr, hrun⟩ := callee_run (w := w) hM hρ hcal hg o.type
            unfold Oper.wp
            have : (execOp a.eval o).run P w = .ok (.enter i (List.toArray cargs)) w := by
              unfold execOp
              simp only [hc]
              exact hrun
            rw [this]
            simp only [Oper.upon]
            refine Calls.mono ((hS _ _ _ _ _ hO).1 g w cargs Rm hG hr) ?_
            rintro e w' ⟨g', cv, rfl, q1, q2, q3⟩
            have hl : H1.length = H.length := by rw [hlen, mask_length]
            obtain ⟨q4, q5⟩ := unmask R q1 q2 hl (u := S.filterMap fun i => (H1.at i).map fun e => (i, e))
              (applyUps_to _ hl (fun q hq => by
                obtain ⟨j, _, hj⟩ := List.mem_filterMap.1 hq
                cases hat : H1.at j with
                | none => rw [hat] at hj; cases hj
                | some e => rw [hat] at hj; simp only [Option.map_some] at hj; injection hj with hj; subst hj; exact hat))
              (fun id hi hs => .inl (by
                cases hat : H1.at id with
                | none => rfl
                | some e => exact absurd rfl (hi (id, e) (List.mem_filterMap.2 ⟨id, hs, by rw [hat]; rfl⟩))))
            exact hK g' cv w' q4 q5 q3
          · cases h
        · cases h
      · cases h
    · exact fin h
  · exact fin h
end
end Go.Proofs.Fw
