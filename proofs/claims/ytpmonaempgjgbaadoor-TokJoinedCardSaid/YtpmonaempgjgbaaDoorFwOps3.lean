/- What an operation is told to do, it does: numbers, texts, comparisons. -/
import Derived.Test.YtpmonaempgjgbaaDoorFwOps2
namespace Go.Proofs.Fw
open Go.RowKit
variable {P : Program} {g : Gh} {H : AH} {w : World}

theorem size_mk (s : List UInt8) : (ByteArray.mk (List.toArray s)).size = s.length := rfl
theorem toList_mk (s : List UInt8) : (ByteArray.mk (List.toArray s)).toList = s := by rw [ByteArray.toList_eq]
theorem append_mk (a b : List UInt8) : (ByteArray.mk (List.toArray a)) ++ (ByteArray.mk (List.toArray b)) = ByteArray.mk (List.toArray (a ++ b)) := by
  apply ByteArray.ext
  rw [ByteArray.data_append]
  simp
theorem extract_mk (s : List UInt8) (a b : Nat) : (ByteArray.mk (List.toArray s)).extract a b = ByteArray.mk (List.toArray ((s.take b).drop a)) := by
  apply ByteArray.ext
  rw [ByteArray.data_extract]
  simp [List.drop_take]

theorem eqGuard_ok (op : BinOp) (t : TypeId) (xo yo : Operand) (a b : Value) (h : ¬ (a = .nilIface ∧ b = .nilIface)) (h' : ∀ xs ys, ¬ (a = .agg xs ∧ b = .agg ys)) :
    (eqGuard op t xo yo a b).run P w = .ok () w := by
  unfold eqGuard
  split
  case h_3 => rfl
  all_goals
    simp only [Bool.not_true, Bool.false_eq_true, if_false]
    split
    · exact absurd ⟨rfl, rfl⟩ h
    · exact absurd ⟨rfl, rfl⟩ (h' _ _)
    · rfl

theorem eqGuard_const (op : BinOp) (t : TypeId) (xo yo : Operand) (h : (isConstO xo || isConstO yo) = true) :
    (eqGuard op t xo yo .nilIface .nilIface).run P w = .ok () w := by
  unfold eqGuard
  split
  case h_3 => rfl
  all_goals
    simp only [Bool.not_true, Bool.false_eq_true, if_false]
    cases xo <;> cases yo <;> first | rfl | (simp [isConstO] at h)

theorem abits_ok {op : BinOp} {k : IntKind} {a b : Int} {r : AV} (h : abits op k a b = some r) : ∃ rv, (Op.intBits op k a b).run P w = .ok rv w ∧ RepV g r rv := by
  unfold abits at h
  split at h <;> first | (injection h with h; subst h; exact ⟨_, rfl, by simp [RepV]⟩) | (cases h)

theorem abinInt_ok {op : BinOp} {k : IntKind} {a b : Int} {r : AV} (h : abinInt op k a b = some r) (h1 : op ≠ .shl) (h2 : op ≠ .shr) (t : TypeId) :
    ∃ rv, (binOp op t (.int k a) (.int k b)).run P w = .ok rv w ∧ RepV g r rv := by
  unfold abinInt at h
  split at h
  · injection h with h; subst h; exact ⟨_, by simp [binOp, Op.intArith]; rfl, by simp [RepV]⟩
  · injection h with h; subst h; exact ⟨_, by simp [binOp, Op.intArith]; rfl, by simp [RepV]⟩
  · injection h with h; subst h; exact ⟨_, by simp [binOp, Op.intArith]; rfl, by simp [RepV]⟩
  · split at h
    · cases h
    · rename_i hb; injection h with h; subst h; exact ⟨_, by simp [binOp, Op.intDiv, hb]; rfl, by simp [RepV]⟩
  · split at h
    · cases h
    · rename_i hb; injection h with h; subst h; exact ⟨_, by simp [binOp, Op.intDiv, hb]; rfl, by simp [RepV]⟩
  · injection h with h; subst h; exact ⟨_, by simp [binOp, Op.intCmp]; rfl, by simp [RepV]⟩
  · injection h with h; subst h; exact ⟨_, by simp [binOp, Op.intCmp]; rfl, by simp [RepV]⟩
  · injection h with h; subst h; exact ⟨_, by simp [binOp, Op.intCmp]; rfl, by simp [RepV]⟩
  · injection h with h; subst h; exact ⟨_, by simp [binOp, Op.intCmp]; rfl, by simp [RepV]⟩
  · injection h with h; subst h; exact ⟨_, by simp [binOp, Op.intCmp]; rfl, by simp [RepV]⟩
  · injection h with h; subst h; exact ⟨_, by simp [binOp, Op.intCmp]; rfl, by simp [RepV]⟩
  · obtain ⟨rv, h3, h4⟩ := abits_ok (P := P) (w := w) (g := g) h
    refine ⟨rv, ?_, h4⟩
    rw [← h3]
    cases op <;> simp_all [binOp]

theorem abinStr_ok {op : BinOp} {a b : List UInt8} {r : AV} (h : abinStr op a b = some r) (t : TypeId) :
    ∃ rv, (binOp op t (.string ⟨List.toArray a⟩) (.string ⟨List.toArray b⟩)).run P w = .ok rv w ∧ RepV g r rv := by
  unfold abinStr at h
  split at h
  · split at h
    · rename_i hl
      injection h with h; subst h
      refine ⟨.string ⟨List.toArray (a ++ b)⟩, ?_, by simp [RepV]⟩
      simp only [binOp, Op.stringOp]
      rw [if_neg (by simp only [size_mk]; show ¬ ((a.length + b.length : Nat) : Int) > IntKind.i64.max; simp only [IntKind.max, IntKind.bits, IntKind.signed]; simp; omega)]
      rw [append_mk]
      rfl
    · cases h
  all_goals first
    | (injection h with h; subst h; exact ⟨_, by simp only [binOp, Op.stringOp, toList_mk]; rfl, by simp [RepV]⟩)
    | (cases h)

theorem ne_agg {a : Value} (h : ∀ xs, a ≠ .agg xs) (b : Value) : ∀ xs ys, ¬ (a = .agg xs ∧ b = .agg ys) := fun xs _ hh => h xs hh.1

theorem equal_succ (t : TypeId) (x y : Value) : Op.equal t x y = Op.equalIn (9998 + 1 + 1) t x y := rfl

theorem eqFin {t : TypeId} {xv yv : Value} {b : Bool} (h : (Op.equal t xv yv).run P w = .ok b w) (h1 : binOp .eql t xv yv = (do pure (.bool (← Op.equal t xv yv))))
    (h2 : binOp .neq t xv yv = (do pure (.bool (!(← Op.equal t xv yv))))) (h3 : ¬ (xv = .nilIface ∧ yv = .nilIface)) (h4 : ∀ xs ys, ¬ (xv = .agg xs ∧ yv = .agg ys)) :
    ∀ op, op = .eql ∨ op = .neq → ∀ xo yo, (do eqGuard op t xo yo xv yv; binOp op t xv yv : Sem Value).run P w = .ok (.bool (if op = .eql then b else !b)) w := by
  intro op ho xo yo
  rw [Sem.run_bind, eqGuard_ok op t xo yo xv yv h3 h4, Result.andThen_ok]
  rcases ho with rfl | rfl
  · rw [h1, Sem.run_bind, h]; rfl
  · rw [h2, Sem.run_bind, h]; rfl

theorem eqFinNil {t : TypeId} {b : Bool} (h : (Op.equal t .nilIface .nilIface).run P w = .ok b w) {xo yo : Operand} (hc : (isConstO xo || isConstO yo) = true) :
    ∀ op, op = .eql ∨ op = .neq → (do eqGuard op t xo yo .nilIface .nilIface; binOp op t .nilIface .nilIface : Sem Value).run P w = .ok (.bool (if op = .eql then b else !b)) w := by
  intro op ho
  rw [Sem.run_bind, eqGuard_const op t xo yo hc, Result.andThen_ok]
  rcases ho with rfl | rfl
  · show (do pure (.bool (← Op.equal t .nilIface .nilIface)) : Sem Value).run P w = _
    rw [Sem.run_bind, h]; rfl
  · show (do pure (.bool (!(← Op.equal t .nilIface .nilIface))) : Sem Value).run P w = _
    rw [Sem.run_bind, h]; rfl

/-- '==' told is '=='. -/
theorem aeq_ok {t : TypeId} {x y : AV} {b : Bool} (h : aeq P t x y = some b) {xv yv : Value} (hx : RepV g x xv) (hy : RepV g y yv) (hn : ¬ (x = .nilIface ∧ y = .nilIface)) :
    ∀ op, op = .eql ∨ op = .neq → ∀ xo yo, (do eqGuard op t xo yo xv yv; binOp op t xv yv : Sem Value).run P w = .ok (.bool (if op = .eql then b else !b)) w := by
  unfold aeq at h
  split at h
  all_goals rename_i hu
  case h_18 =>
    rename_i tx vx ty vy
    simp only [RepV] at hx hy
    obtain ⟨ux, rfl, hx⟩ := hx
    obtain ⟨uy, rfl, hy⟩ := hy
    refine eqFin ?_ rfl rfl (by simp) (by simp)
    rw [equal_succ, Op.equalIn]
    simp only [Sem.run_bind, run_underlying hu, Result.andThen_ok]
    split at h
    · rename_i he
      subst he
      split at h
      · rename_i i k' k a k'' b' hi hui
        split at h
        · rename_i hc
          obtain ⟨hc, rfl⟩ := hc
          injection h with h
          subst h
          simp only [RepV] at hx hy
          subst hx hy
          rw [if_neg (by simp)]
          simp only [Sem.run_bind, run_info hi, Result.andThen_ok, hc, Bool.not_true, Bool.false_eq_true, if_false]
          rw [Op.equalIn]
          simp only [Sem.run_bind, run_underlying hui, Result.andThen_ok, if_true]
          rfl
        · cases h
      · cases h
    · rename_i he
      injection h with h
      subst h
      rw [if_pos he]
      rfl
  case h_19 => cases h
  all_goals
    injection h with h
    subst h
    simp only [RepV] at hx hy
  case h_1 => subst hx hy; exact eqFin (by rw [equal_succ, Op.equalIn]; simp only [Sem.run_bind, run_underlying hu, Result.andThen_ok]; rfl) rfl rfl (by simp) (by simp)
  case h_2 => subst hx hy; exact eqFin (by rw [equal_succ, Op.equalIn]; simp only [Sem.run_bind, run_underlying hu, Result.andThen_ok]; rfl) rfl rfl (by simp) (by simp)
  case h_3 => obtain ⟨b, _, rfl⟩ := hy; subst hx; exact eqFin (by rw [equal_succ, Op.equalIn]; simp only [Sem.run_bind, run_underlying hu, Result.andThen_ok]; rfl) rfl rfl (by simp) (by simp)
  case h_4 => obtain ⟨b, o, vs, rfl, _⟩ := hy; subst hx; exact eqFin (by rw [equal_succ, Op.equalIn]; simp only [Sem.run_bind, run_underlying hu, Result.andThen_ok]; rfl) rfl rfl (by simp) (by simp)
  case h_5 => obtain ⟨b, _, rfl⟩ := hx; subst hy; exact eqFin (by rw [equal_succ, Op.equalIn]; simp only [Sem.run_bind, run_underlying hu, Result.andThen_ok]; rfl) rfl rfl (by simp) (by simp)
  case h_6 => obtain ⟨b, o, vs, rfl, _⟩ := hx; subst hy; exact eqFin (by rw [equal_succ, Op.equalIn]; simp only [Sem.run_bind, run_underlying hu, Result.andThen_ok]; rfl) rfl rfl (by simp) (by simp)
  case h_7 => subst hx hy; exact eqFin (by rw [equal_succ, Op.equalIn]; simp only [Sem.run_bind, run_underlying hu, Result.andThen_ok]; rfl) rfl rfl (by simp) (by simp)
  case h_8 => obtain ⟨b, o, cap, vs, rfl, _⟩ := hy; subst hx; exact eqFin (by rw [equal_succ, Op.equalIn]; simp only [Sem.run_bind, run_underlying hu, Result.andThen_ok]; rfl) rfl rfl (by simp) (by simp)
  case h_9 => obtain ⟨b, o, cap, vs, rfl, _⟩ := hx; subst hy; exact eqFin (by rw [equal_succ, Op.equalIn]; simp only [Sem.run_bind, run_underlying hu, Result.andThen_ok]; rfl) rfl rfl (by simp) (by simp)
  case h_10 => obtain ⟨b, _, rfl, _⟩ := hy; subst hx; exact eqFin (by rw [equal_succ, Op.equalIn]; simp only [Sem.run_bind, run_underlying hu, Result.andThen_ok]; rfl) rfl rfl (by simp) (by simp)
  case h_11 => obtain ⟨b, _, rfl, _⟩ := hx; subst hy; exact eqFin (by rw [equal_succ, Op.equalIn]; simp only [Sem.run_bind, run_underlying hu, Result.andThen_ok]; rfl) rfl rfl (by simp) (by simp)
  case h_12 => subst hx hy; exact eqFin (by rw [equal_succ, Op.equalIn]; simp only [Sem.run_bind, run_underlying hu, Result.andThen_ok]; rfl) rfl rfl (by simp) (by simp)
  case h_13 => obtain ⟨fs, cs, rfl, _⟩ := hy; subst hx; exact eqFin (by rw [equal_succ, Op.equalIn]; simp only [Sem.run_bind, run_underlying hu, Result.andThen_ok]; rfl) rfl rfl (by simp) (by simp)
  case h_14 => obtain ⟨fs, cs, rfl, _⟩ := hx; subst hy; exact eqFin (by rw [equal_succ, Op.equalIn]; simp only [Sem.run_bind, run_underlying hu, Result.andThen_ok]; rfl) rfl rfl (by simp) (by simp)
  case h_15 => exact absurd ⟨rfl, rfl⟩ hn
  case h_16 => obtain ⟨u, rfl, _⟩ := hy; subst hx; exact eqFin (by rw [equal_succ, Op.equalIn]; simp only [Sem.run_bind, run_underlying hu, Result.andThen_ok]; rfl) rfl rfl (by simp) (by simp)
  case h_17 => obtain ⟨u, rfl, _⟩ := hx; subst hy; exact eqFin (by rw [equal_succ, Op.equalIn]; simp only [Sem.run_bind, run_underlying hu, Result.andThen_ok]; rfl) rfl rfl (by simp) (by simp)

end Go.Proofs.Fw
