/- What an operation is told to do, it does: the rest of what only computes. -/
import Derived.Test.YtpmonaempgjgbaaDoorFwOps3
namespace Go.Proofs.Fw
open Go.RowKit
variable {P : Program} {g : Gh} {H : AH} {w : World}

theorem abin_ok {op : BinOp} {t : TypeId} {xo yo : Operand} {x y r : AV} (h : abin P op t (isConstO xo || isConstO yo) x y = some r) {xv yv : Value} (hx : RepV g x xv) (hy : RepV g y yv) :
    ∃ rv, (do eqGuard op t xo yo xv yv; binOp op t xv yv : Sem Value).run P w = .ok rv w ∧ RepV g r rv := by
  unfold abin at h
  split at h
  · rename_i k a k' b
    simp only [RepV] at hx hy
    subst hx hy
    rw [Sem.run_bind, eqGuard_ok op t xo yo _ _ (by simp) (by simp), Result.andThen_ok]
    split at h
    · split at h
      · rename_i hb
        injection h with h; subst h
        refine ⟨.int k (k.wrap (a * 2 ^ (min b.toNat k.bits))), ?_, by simp only [RepV]⟩
        simp only [binOp, Op.shift]
        rw [if_neg (by omega)]
        rfl
      · cases h
    · split at h
      · rename_i hb
        injection h with h; subst h
        refine ⟨.int k (a.fdiv (2 ^ (min b.toNat k.bits))), ?_, by simp only [RepV]⟩
        simp only [binOp, Op.shift]
        rw [if_neg (by omega)]
        rfl
      · cases h
    · rename_i h1 h2
      split at h
      · rename_i hk
        subst hk
        exact abinInt_ok h h1 h2 t
      · cases h
  · rename_i a b
    simp only [RepV] at hx hy
    subst hx hy
    rw [Sem.run_bind, eqGuard_ok op t xo yo _ _ (by simp) (by simp), Result.andThen_ok]
    exact abinStr_ok h t
  · simp only [RepV] at hx hy
    subst hx hy
    split at h
    · rename_i hc
      have key : ∀ b, aeq P t .nilIface .nilIface = some b → (Op.equal t .nilIface .nilIface).run P w = .ok b w := by
        intro b hb
        unfold aeq at hb
        cases hu : P.underlying t with
        | none => simp [hu] at hb
        | some d =>
          cases d <;> simp [hu] at hb
          subst hb
          rw [equal_succ, Op.equalIn]
          simp only [Sem.run_bind, run_underlying hu, Result.andThen_ok]
          rfl
      split at h
      · cases hb : aeq P t .nilIface .nilIface with
        | none => rw [hb] at h; cases h
        | some b =>
          rw [hb] at h
          injection h with h; subst h
          exact ⟨_, eqFinNil (key b hb) hc .eql (.inl rfl), by simp [RepV]⟩
      · cases hb : aeq P t .nilIface .nilIface with
        | none => rw [hb] at h; cases h
        | some b =>
          rw [hb] at h
          injection h with h; subst h
          exact ⟨_, eqFinNil (key b hb) hc .neq (.inr rfl), by simp [RepV]⟩
      · cases h
    · cases h
  · cases h
  · rename_i hn1 hn2 hn3 hn4
    have hn : ¬ (x = .nilIface ∧ y = .nilIface) := fun hh => hn3 hh.1 hh.2
    split at h
    · cases hb : aeq P t x y with
      | none => rw [hb] at h; cases h
      | some b =>
        rw [hb] at h
        injection h with h; subst h
        exact ⟨_, aeq_ok hb hx hy hn .eql (.inl rfl) xo yo, by simp [RepV]⟩
    · cases hb : aeq P t x y with
      | none => rw [hb] at h; cases h
      | some b =>
        rw [hb] at h
        injection h with h; subst h
        exact ⟨_, aeq_ok hb hx hy hn .neq (.inr rfl) xo yo, by simp [RepV]⟩
    · cases h

theorem aun_ok {op : UnOp} {x r : AV} (h : aun op x = some r) {xv : Value} (hx : RepV g x xv) : ∃ rv, (Op.unary op xv).run P w = .ok rv w ∧ RepV g r rv := by
  unfold aun at h
  split at h
  · simp only [RepV] at hx; subst hx; injection h with h; subst h
    exact ⟨_, rfl, by simp [RepV]⟩
  · simp only [RepV] at hx; subst hx; injection h with h; subst h
    exact ⟨_, rfl, by simp [RepV]⟩
  · simp only [RepV] at hx; subst hx
    obtain ⟨rv, h1, h2⟩ := abits_ok (P := P) (w := w) (g := g) h
    exact ⟨rv, h1, h2⟩
  · cases h

theorem strCells_ok (s : List UInt8) : RepL g (strCells s) (s.map fun b => Value.int .u8 (b.toNat : Int)) := by
  unfold strCells
  induction s with
  | nil => simp [RepL]
  | cons b s ih => simp only [List.map_cons, RepL]; exact ⟨_, _, rfl, by simp [RepV], ih⟩

theorem bytesAV_ok : ∀ {cs : List AV} {s : List UInt8}, bytesAV cs = some s → ∀ {vs : List Value}, RepL g cs vs →
    ∃ xs : List Int, vs = xs.map (Value.int .u8) ∧ s = xs.map fun n => UInt8.ofNat n.toNat
  | [], s, h, vs, hv => by
    simp only [bytesAV] at h
    injection h with h; subst h
    simp only [RepL] at hv
    subst hv
    exact ⟨[], rfl, rfl⟩
  | c :: cs, s, h, vs, hv => by
    simp only [RepL] at hv
    obtain ⟨v, ws, rfl, h1, h2⟩ := hv
    simp only [bytesAV] at h
    split at h
    · rename_i n s' hb
      injection h with h; subst h
      simp only [RepV] at h1
      subst h1
      obtain ⟨xs, hx1, hx2⟩ := bytesAV_ok hb h2
      exact ⟨n :: xs, by simp [hx1], by simp [hx2]⟩
    · cases h

theorem aconvert_ok (R : Rel g H w) {src dst : TypeId} {x r : AV} (h : aconvert P H src dst x = some r) {xv : Value} (hx : RepV g x xv) :
    ∃ g' rv w', (convert src dst xv).run P w = .ok rv w' ∧ Rel g' H w' ∧ Post g H w g' H w' ∧ RepV g' r rv := by
  unfold aconvert at h
  split at h
  · rename_i hs hd
    simp only [RepV] at hx; subst hx
    injection h with h; subst h
    refine ⟨g, _, w, ?_, R, Post.refl g H w, by simp only [RepV]; rfl⟩
    simp [convert, run_underlying hs, run_underlying hd, Conv.intToInt]
  · rename_i hs hd
    simp only [RepV] at hx; subst hx
    injection h with h; subst h
    refine ⟨g, _, w, ?_, R, Post.refl g H w, by simp only [RepV]; rfl⟩
    simp only [convert, Sem.run_bind, run_underlying hs, run_underlying hd, Result.andThen_ok]
    rfl
  · rename_i s hs hd
    split at h
    · rename_i he
      simp only [RepV] at hx; subst hx
      split at h
      · injection h with h; subst h
        have hrun := run_bytes_of_string (P := P) w src dst _ ⟨List.toArray s⟩ hs hd he
        have hcap := grownCap_ge w (ByteArray.mk (List.toArray s)).size 0
        rw [size_mk] at hcap hrun
        obtain ⟨h1, h2, h3⟩ := (R.drew).alloc_row (bytesRow ⟨List.toArray s⟩ (grownCap w s.length 0 _)) _ ((bytesRow ⟨List.toArray s⟩ (grownCap w s.length 0 _)).size, (bytesRow ⟨List.toArray s⟩ (grownCap w s.length 0 _)).size + 1) (s.map fun b => Value.int .u8 (b.toNat : Int)) (fun i v hi => by
          unfold bytesRow
          rw [Array.getElem?_append_left (by simp; have := (List.getElem?_eq_some_iff.1 hi).1; simpa using this)]
          simpa using hi)
        exact ⟨_, _, _, hrun, h1, Post.trans R (Post.drew g H w) h2, by
          simp only [RepV]
          exact ⟨w.heap.size, 0, _, _, rfl, RepL.mono h2.le _ _ (strCells_ok s), h3, by simp [strCells], hcap _, trivial⟩⟩
      · cases h
    · cases h
  · rename_i hs hd
    split at h
    · rename_i he
      simp only [RepV] at hx; subst hx
      injection h with h; subst h
      exact ⟨g, _, w, run_convert_bytes_nil (P := P) w src _ hs he 0 0 dst hd, R, Post.refl g H w, by simp only [RepV]; rfl⟩
    · cases h
  · rename_i n cs hs hd
    split at h
    · rename_i he
      cases hb : bytesAV cs with
      | none => rw [hb] at h; cases h
      | some s =>
        rw [hb] at h
        injection h with h; subst h
        simp only [RepV] at hx
        obtain ⟨b, o, cap, vs, rfl, hr, hh, hl, hc, _⟩ := hx
        obtain ⟨xs, rfl, rfl⟩ := bytesAV_ok hb hr
        have hlen : xs.length = n := by have := hr.length; simp at this; omega
        have := run_convert_bytes_arg (P := P) w src _ hs he b o n cap xs hlen (fun i hi => by
          refine R.imm _ _ _ (hh i _ ?_)
          simp [List.getElem?_eq_getElem (show i < xs.length by omega), List.getD_eq_getElem?_getD]) dst hd
        exact ⟨g, _, w, this, R, Post.refl g H w, by simp only [RepV, strOfNums]⟩
    · cases h
  · rename_i id off n c hs hd
    split at h
    · rename_i cs he hH
      split at h
      · rename_i hfit
        cases hb : bytesAV ((cs.drop off).take n) with
        | none => rw [hb] at h; cases h
        | some s =>
          rw [hb] at h
          injection h with h; subst h
          simp only [RepV] at hx
          obtain ⟨b, hM, rfl, hc⟩ := hx
          obtain ⟨vs, el, h1, h2, h3⟩ := box_cells R hH hM
          have hr := (h2.drop off).take n
          obtain ⟨xs, hxs, rfl⟩ := bytesAV_ok hb hr
          have hvl := h2.length
          have hlen : xs.length = n := by
            have := congrArg List.length hxs
            simp at this
            omega
          have := run_convert_bytes_arg (P := P) w src _ hs he b off n c xs hlen (fun i hi => by
            have h4 := h3 (off + i) (.int .u8 (xs.getD i 0)) (by
              have h5 : ((vs.drop off).take n)[i]? = some (.int .u8 (xs.getD i 0)) := by
                rw [hxs]
                simp [List.getElem?_eq_getElem (show i < xs.length by omega), List.getD_eq_getElem?_getD]
              rw [List.getElem?_take, if_pos hi, List.getElem?_drop] at h5
              exact h5)
            rw [Nat.zero_add] at h4
            exact h4) dst hd
          exact ⟨g, _, w, this, R, Post.refl g H w, by simp only [RepV, strOfNums]⟩
      · cases h
    · cases h
  · cases h
end Go.Proofs.Fw
