/- What an operation is told to do, it does: all operations that call nothing. -/
import Derived.Test.YtpmonaempgjgbaaDoorFwOps6
namespace Go.Proofs.Fw
open Go.RowKit
variable {P : Program} {g : Gh} {H : AH} {w : World}

theorem ofVal_known {v : Value} {a : AV} (h : ofVal v = some a) : a.known = true := by
  unfold ofVal at h
  split at h <;> first | (injection h with h; subst h; rfl) | (cases h)

theorem ofValC_known {v : Value} {a : AV} (h : ofValC v = some a) : a.known = true := by
  unfold ofValC at h
  split at h
  · rename_i cs
    cases hc : ofVals cs.toList with
    | none => rw [hc] at h; cases h
    | some as => rw [hc] at h; injection h with h; subst h; rfl
  · exact ofVal_known h

theorem zero_known (t : TypeId) (z : AV) (h : zeroAV P t = some z) : z.known = true := by
  unfold zeroAV at h
  split at h
  · split at h
    · exact ofValC_known h
    · cases h
  · cases h

theorem repl_map {ρ : Operand → AV} {σ : Operand → Value} (hρ : ∀ x, RepV g (ρ x) (σ x)) : ∀ l : List Operand, RepL g (l.map ρ) (l.map σ)
  | [] => by simp [RepL]
  | x :: l => by simp only [List.map_cons, RepL]; exact ⟨_, _, rfl, hρ x, repl_map hρ l⟩

theorem repl_parts {ρ : Operand → AV} {σ : Operand → Value} (hρ : ∀ x, RepV g (ρ x) (σ x)) (l : List (Nat × Operand)) :
    RepL g ((l.map fun p => (p.1, ρ p.2)).map (·.2)) ((l.map fun p => (p.1, σ p.2)).map (·.2)) := by
  have := repl_map hρ (l.map (·.2))
  simpa [List.map_map, Function.comp_def] using this

theorem opt_rep {ρ : Operand → AV} {σ : Operand → Value} (hρ : ∀ x, RepV g (ρ x) (σ x)) (o : Option Operand) : (∀ x, o.map ρ = some x → ∃ v, o.map σ = some v ∧ RepV g x v) ∧ (o.map ρ = none → o.map σ = none) := by
  cases o with
  | none => simp
  | some y => simp; exact hρ y

/-- What an operation comes to. -/
def OpDone (P : Program) (g : Gh) (H H' : AH) (w : World) (r : AV) (s : Sem Next) : Prop :=
  ∃ g' nx v w', s.run P w = .ok nx w' ∧ (nx = .value v ∨ (nx = .skip ∧ v = undef)) ∧ Rel g' H' w' ∧ Post g H w g' H' w' ∧ RepV g' r v

theorem done_quiet (R : Rel g H w) {r : AV} {s : Sem Value} (h : ∃ rv, s.run P w = .ok rv w ∧ RepV g r rv) : OpDone P g H H w r (do pure (.value (← s))) := by
  obtain ⟨rv, h1, h2⟩ := h
  exact ⟨g, .value rv, rv, w, by rw [Sem.run_bind, h1]; rfl, .inl rfl, R, Post.refl g H w, h2⟩

theorem done_of {H' : AH} {r : AV} {s : Sem Value} (h : ∃ g' rv w', s.run P w = .ok rv w' ∧ Rel g' H' w' ∧ Post g H w g' H' w' ∧ RepV g' r rv) : OpDone P g H H' w r (do pure (.value (← s))) := by
  obtain ⟨g', rv, w', h1, h2, h3, h4⟩ := h
  exact ⟨g', .value rv, rv, w', by rw [Sem.run_bind, h1]; rfl, .inl rfl, h2, h3, h4⟩

theorem map_nil {x : Option AV} {r : AV} {u : Ups} (h : x.map (fun a => (a, ([] : Ups))) = some (r, u)) : x = some r ∧ u = [] := by
  cases x with
  | none => cases h
  | some a => simp only [Option.map_some] at h; injection h with h; simp only [Prod.mk.injEq] at h; exact ⟨by rw [h.1], h.2.symm⟩

theorem append_args {ts : Array TypeId} {xs : Array Value} {t u ty : TypeId} {s x : Value} (h1 : ts[0]? = some t) (h2 : ts[1]? = some u) (h3 : xs[0]? = some s) (h4 : xs[1]? = some x) :
    Builtin.append_ ts ty xs = Builtin.append_ #[t, u] ty #[s, x] := by
  unfold Builtin.append_
  simp only [h1, h2, h3, h4]
  rfl

theorem aop_ok (R : Rel g H w) {E : Env} {ρ : Operand → AV} {σ : Operand → Value} (hρ : ∀ x, RepV g (ρ x) (σ x)) {fid : Nat} {o : Oper} (hid : needsId E o.op = true → fid < H.length ∧ H.at fid = none)
    {r : AV} {u : Ups} (h : aop P E ρ H fid o = some (r, u)) : OpDone P g H (applyUps H u) w r (execOp σ o) := by
  obtain ⟨dst, op, ty, pos, after, guard⟩ := o
  cases op
  case move x =>
    simp only [aop] at h; injection h with h; simp only [Prod.mk.injEq] at h; obtain ⟨rfl, rfl⟩ := h
    exact ⟨g, _, _, w, rfl, .inl rfl, R, Post.refl g H w, hρ x⟩
  case assign x =>
    simp only [aop] at h; injection h with h; simp only [Prod.mk.injEq] at h; obtain ⟨rfl, rfl⟩ := h
    exact ⟨g, _, _, w, rfl, .inl rfl, R, Post.refl g H w, hρ x⟩
  case pick c a b =>
    simp only [aop] at h
    split at h
    · rename_i t hc
      injection h with h; simp only [Prod.mk.injEq] at h; obtain ⟨rfl, rfl⟩ := h
      have := hρ c
      rw [hc] at this
      simp only [RepV] at this
      refine ⟨g, .value (if t then σ a else σ b), if t then σ a else σ b, w, ?_, .inl rfl, R, Post.refl g H w, ?_⟩
      · simp only [execOp, this, asBool, Sem.run_bind, Sem.run_pure, Result.andThen_ok]
      · cases t
        · exact hρ b
        · exact hρ a
    · cases h
  case alloc t =>
    simp only [aop] at h
    split at h
    · rename_i z hz
      injection h with h; simp only [Prod.mk.injEq] at h; obtain ⟨rfl, rfl⟩ := h
      exact done_of (aalloc_ok R hz (zero_known t z hz) (hid rfl).1 (hid rfl).2)
    · cases h
  case box t x =>
    simp only [aop] at h
    split at h
    · split at h
      · rename_i hk
        injection h with h; simp only [Prod.mk.injEq] at h; obtain ⟨rfl, rfl⟩ := h
        exact done_of (aboxImm_ok R (hρ x) hk)
      · cases h
    · rename_i himm
      have hid := hid (by simp [needsId, himm])
      split at h
      · rename_i hk
        injection h with h; simp only [Prod.mk.injEq] at h; obtain ⟨rfl, rfl⟩ := h
        exact done_of (abox_ok R (hρ x) hk hid.1 hid.2)
      · cases h
  case build t parts =>
    simp only [aop] at h
    obtain ⟨h', rfl⟩ := map_nil h
    have := abuild_ok (P := P) (w := w) h' (pvs := parts.toList.map fun p => (p.1, σ p.2)) (by simp [List.map_map, Function.comp_def]) (repl_parts hρ _) (fun z hz => zero_known t z hz)
    have e : (parts.map fun (p : Nat × Operand) => (p.1, σ p.2)) = List.toArray (parts.toList.map fun p => (p.1, σ p.2)) := by apply Array.ext'; simp
    simp only [execOp]
    rw [e]
    exact done_quiet R this
  case buildSlice t len parts =>
    simp only [aop] at h
    obtain ⟨h', rfl⟩ := map_nil h
    have := abuildSlice_ok (P := P) R h' (pvs := parts.toList.map fun p => (p.1, σ p.2)) (by simp [List.map_map, Function.comp_def]) (repl_parts hρ _) (fun t z hz => zero_known t z hz)
    have e : (parts.map fun (p : Nat × Operand) => (p.1, σ p.2)) = List.toArray (parts.toList.map fun p => (p.1, σ p.2)) := by apply Array.ext'; simp
    simp only [execOp]
    rw [e]
    exact done_of this
  case load t a =>
    simp only [aop] at h
    obtain ⟨h', rfl⟩ := map_nil h
    exact done_quiet R (aload_ok R h' (hρ a))
  case store t a x =>
    simp only [aop] at h
    obtain ⟨rfl, w', h1, h2, h3⟩ := astore_ok R h (hρ a) (hρ x)
    refine ⟨g, .skip, undef, w', ?_, .inr ⟨rfl, rfl⟩, h2, h3, by simp [AV.nothing, RepV, RepL, undef]⟩
    simp only [execOp, Sem.run_bind, h1, Result.andThen_ok]
    rfl
  case nilCheck x =>
    simp only [aop] at h
    obtain ⟨h', rfl⟩ := map_nil h
    have hx := hρ x
    refine ⟨g, .value (σ x), σ x, w, ?_, .inl rfl, R, Post.refl g H w, ?_⟩
    · simp only [execOp]
      unfold anilCheck at h'
      split at h'
      · rename_i he; rw [he] at hx; simp only [RepV] at hx; obtain ⟨b, _, hx⟩ := hx; rw [hx]; rfl
      · rename_i he; rw [he] at hx; simp only [RepV] at hx; obtain ⟨b, o, vs, hx, _⟩ := hx; rw [hx]; rfl
      · rename_i he; rw [he] at hx; simp only [RepV] at hx; obtain ⟨fs, cs, hx, _⟩ := hx; rw [hx]; rfl
      · rename_i he; rw [he] at hx; simp only [RepV] at hx; obtain ⟨y, hx, _⟩ := hx; rw [hx]; rfl
      · cases h'
    · unfold anilCheck at h'
      split at h' <;> first | (rename_i he; injection h' with h'; subst h'; rw [he] at hx; exact hx) | (cases h')
  case binOp op t x y yt =>
    simp only [aop] at h
    obtain ⟨h', rfl⟩ := map_nil h
    exact done_quiet R (abin_ok h' (hρ x) (hρ y))
  case unOp op t x =>
    simp only [aop] at h
    obtain ⟨h', rfl⟩ := map_nil h
    exact done_quiet R (aun_ok h' (hρ x))
  case convert src d x =>
    simp only [aop] at h
    obtain ⟨h', rfl⟩ := map_nil h
    exact done_of (aconvert_ok R h' (hρ x))
  case makeInterface t x =>
    simp only [aop] at h
    split at h
    · cases h
    · rename_i d hni hu
      injection h with h; simp only [Prod.mk.injEq] at h; obtain ⟨rfl, rfl⟩ := h
      refine done_quiet R ⟨.iface t (σ x), ?_, by simp only [RepV]; exact ⟨_, rfl, hρ x⟩⟩
      simp only [Instr.makeInterface, Sem.run_bind, run_underlying hu, Result.andThen_ok]
      cases d <;> first | rfl | (exact absurd rfl (hni _))
    · cases h
  case makeFunc fn first captured =>
    simp only [aop] at h
    injection h with h; simp only [Prod.mk.injEq] at h; obtain ⟨rfl, rfl⟩ := h
    refine done_quiet R ⟨.func fn (first.map σ) (captured.map σ), rfl, ?_⟩
    simp only [RepV]
    exact ⟨first.toList.map σ, captured.toList.map σ, by congr 1 <;> (apply Array.ext'; simp), repl_map hρ _, repl_map hρ _⟩
  case slice t x lo hi mx =>
    simp only [aop] at h
    obtain ⟨h', rfl⟩ := map_nil h
    obtain ⟨a1, a2⟩ := opt_rep hρ lo
    obtain ⟨b1, b2⟩ := opt_rep hρ hi
    obtain ⟨c1, c2⟩ := opt_rep hρ mx
    exact done_quiet R (aslice_ok h' (hρ x) a1 a2 b1 b2 c1 c2)
  case fieldAddr t x f =>
    simp only [aop] at h
    obtain ⟨h', rfl⟩ := map_nil h
    exact done_quiet R (afieldAddr_ok h' (hρ x))
  case field t x f =>
    simp only [aop] at h
    obtain ⟨h', rfl⟩ := map_nil h
    exact done_quiet R (afield_ok h' (hρ x))
  case indexAddr t x i =>
    simp only [aop] at h
    obtain ⟨h', rfl⟩ := map_nil h
    exact done_quiet R (aindexAddr_ok h' (hρ x) (hρ i))
  case index t x i =>
    simp only [aop] at h
    obtain ⟨h', rfl⟩ := map_nil h
    exact done_quiet R (aindex_ok h' (hρ x) (hρ i))
  case typeAssert x t0 t ok =>
    simp only [aop] at h
    obtain ⟨h', rfl⟩ := map_nil h
    exact done_quiet R (atypeAssert_ok h' (hρ x))
  case extract x i =>
    simp only [aop] at h
    obtain ⟨h', rfl⟩ := map_nil h
    exact done_quiet R (aextract_ok h' (hρ x))
  case makeSlice t x y =>
    simp only [aop] at h
    exact done_of (amakeSlice_ok R h (hρ x) (hρ y) (hid rfl) (fun t z hz => zero_known t z hz))
  case call c =>
    obtain ⟨callee, args, argTypes⟩ := c
    cases callee with
    | value f => simp only [aop] at h; cases h
    | invoke x m => simp only [aop] at h; cases h
    | builtin b =>
      simp only [aop] at h
      split at h
      · split at h
        · rename_i t x ht hx
          obtain ⟨h', rfl⟩ := map_nil h
          have := alen_ok (P := P) (w := w) (ty := ty) h' (hρ x) ht (xs := args.map σ) (by simp [hx])
          exact done_quiet R this
        · cases h
      · split at h
        · rename_i t x ht hx
          obtain ⟨h', rfl⟩ := map_nil h
          have := acap_ok (P := P) (w := w) (ty := ty) h' (hρ x) ht (xs := args.map σ) (by simp [hx])
          exact done_quiet R this
        · cases h
      · split at h
        · rename_i x y he
          obtain ⟨h', rfl⟩ := map_nil h
          have := amax2_ok (P := P) (w := w) h' (hρ x) (hρ y) argTypes ty
          have e : args.map σ = #[σ x, σ y] := by apply Array.ext'; simp [he]
          refine done_quiet R ?_
          show ∃ rv, (Builtin.max_ argTypes ty (args.map σ)).run P w = .ok rv w ∧ _
          rw [e]
          exact this
        · cases h
      · split at h
        · rename_i x y he
          obtain ⟨h', rfl⟩ := map_nil h
          have := amin2_ok (P := P) (w := w) h' (hρ x) (hρ y) argTypes ty
          have e : args.map σ = #[σ x, σ y] := by apply Array.ext'; simp [he]
          refine done_quiet R ?_
          show ∃ rv, (Builtin.min_ argTypes ty (args.map σ)).run P w = .ok rv w ∧ _
          rw [e]
          exact this
        · cases h
      · split at h
        · rename_i t d x ht hd hx
          have := acopy_ok (P := P) R (ty := ty) h (hρ d) (hρ x) ht (xs := args.map σ) (by simp [hd]) (by simp [hx])
          exact done_of this
        · cases h
      · split at h
        · rename_i t u' s x ht hu hs hx
          have := aappend_ok (P := P) R (ty := ty) h (hρ s) (hρ x) (hid rfl)
          rw [← append_args (ts := argTypes) (xs := args.map σ) ht hu (by simp [hs]) (by simp [hx])] at this
          exact done_of this
        · cases h
      · cases h
  all_goals (simp only [aop] at h; cases h)
/-- What an operation turns: what is there, or its own number. -/
theorem aop_ups {E : Env} {ρ : Operand → AV} {fid : Nat} {o : Oper} {r : AV} {u : Ups} (h : aop P E ρ H fid o = some (r, u)) :
    ∀ p ∈ u, (p.1 = fid ∧ needsId E o.op = true) ∨ ∃ e, H.at p.1 = some e := by
  obtain ⟨dst, op, ty, pos, after, guard⟩ := o
  have hm : ∀ {x : Option AV}, x.map (fun a => (a, ([] : Ups))) = some (r, u) → ∀ p ∈ u, (p.1 = fid ∧ needsId E op = true) ∨ ∃ e, H.at p.1 = some e := by
    intro x h
    obtain ⟨_, rfl⟩ := map_nil h
    simp
  cases op
  case alloc t =>
    simp only [aop] at h
    split at h
    · injection h with h; simp only [Prod.mk.injEq] at h; obtain ⟨rfl, rfl⟩ := h
      intro p hp; simp only [List.mem_singleton] at hp; subst hp; exact .inl ⟨rfl, rfl⟩
    · cases h
  case box t x =>
    simp only [aop] at h
    split at h
    · split at h
      · injection h with h; simp only [Prod.mk.injEq] at h; obtain ⟨rfl, rfl⟩ := h; simp
      · cases h
    · rename_i himm
      split at h
      · injection h with h; simp only [Prod.mk.injEq] at h; obtain ⟨rfl, rfl⟩ := h
        intro p hp; simp only [List.mem_singleton] at hp; subst hp; exact .inl ⟨rfl, by simp [needsId, himm]⟩
      · cases h
  case store t a x =>
    simp only [aop, astore] at h
    split at h
    · rename_i id off _
      split at h
      · rename_i cs n hH hn
        split at h
        · injection h with h; simp only [Prod.mk.injEq] at h; obtain ⟨rfl, rfl⟩ := h
          intro p hp; simp only [List.mem_singleton] at hp; subst hp; exact .inr ⟨_, hH⟩
        · cases h
      · cases h
    · cases h
  case makeSlice t x y =>
    simp only [aop, amakeSlice] at h
    repeat' (split at h)
    all_goals first
      | (cases h; done)
      | (injection h with h; simp only [Prod.mk.injEq] at h; obtain ⟨rfl, rfl⟩ := h
         intro p hp; simp only [List.mem_singleton] at hp; subst hp; exact .inl ⟨rfl, rfl⟩)
  case move x => simp only [aop] at h; injection h with h; simp only [Prod.mk.injEq] at h; obtain ⟨rfl, rfl⟩ := h; simp
  case assign x => simp only [aop] at h; injection h with h; simp only [Prod.mk.injEq] at h; obtain ⟨rfl, rfl⟩ := h; simp
  case pick c a b =>
    simp only [aop] at h
    split at h
    · injection h with h; simp only [Prod.mk.injEq] at h; obtain ⟨rfl, rfl⟩ := h; simp
    · cases h
  case makeInterface t x =>
    simp only [aop] at h
    split at h
    · cases h
    · injection h with h; simp only [Prod.mk.injEq] at h; obtain ⟨rfl, rfl⟩ := h; simp
    · cases h
  case makeFunc fn a b => simp only [aop] at h; injection h with h; simp only [Prod.mk.injEq] at h; obtain ⟨rfl, rfl⟩ := h; simp
  case call c =>
    obtain ⟨callee, args, argTypes⟩ := c
    cases callee with
    | value f => simp only [aop] at h; cases h
    | invoke x m => simp only [aop] at h; cases h
    | builtin b =>
      simp only [aop] at h
      split at h
      · split at h
        · exact hm h
        · cases h
      · split at h
        · exact hm h
        · cases h
      · split at h
        · exact hm h
        · cases h
      · split at h
        · exact hm h
        · cases h
      · split at h
        · simp only [acopy] at h
          repeat' (split at h)
          all_goals first
            | (cases h; done)
            | (injection h with h; simp only [Prod.mk.injEq] at h; obtain ⟨rfl, rfl⟩ := h
               intro p hp; simp only [List.mem_singleton] at hp; subst hp; exact .inr ⟨_, by assumption⟩)
        · cases h
      · split at h
        · simp only [aappend] at h
          repeat' (split at h)
          all_goals first
            | (cases h; done)
            | (injection h with h; simp only [Prod.mk.injEq] at h; obtain ⟨rfl, rfl⟩ := h
               first
                 | (simp; done)
                 | (intro p hp; simp only [List.mem_singleton] at hp; subst hp; exact .inl ⟨rfl, rfl⟩)
                 | (intro p hp; simp only [List.mem_singleton] at hp; subst hp; exact .inr ⟨_, by assumption⟩))
        · cases h
      · cases h
  all_goals first
    | (simp only [aop] at h; exact hm h)
    | (simp only [aop] at h; cases h)
end Go.Proofs.Fw
