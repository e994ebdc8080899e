/- Code, functions, calls. -/
import Derived.Test.YtpmonaempgjgbaaDoorFwDraw2
namespace Go.Proofs.Fw
open Go.RowKit

inductive AEx where
  | normal
  | exit (id : Nat)
  | ret

def AEx.ex : AEx → Exit
  | .normal => .normal
  | .exit id => .exit id
  | .ret => .ret

def iter (f : List AV → AH → Option (AEx × List AV × AH)) : Nat → List AV → AH → Option (AEx × List AV × AH)
  | 0, _, _ => none
  | n + 1, t, H => (match f t H with
    | some (.normal, t', H') => iter f n t' H'
    | r => r)

def evCode (O : Orc) (P : Program) (E : Env) (n : Nat) : Code → List AV → AH → Option (AEx × List AV × AH)
  | .skip, t, H => some (.normal, t, H)
  | .region _ ops draw, t, H => (match (if draw = true then evDraw O P E ops t H else evRegion O P E ops t H) with
    | some (t', H') => some (.normal, t', H')
    | none => none)
  | .seq a b, t, H => (match evCode O P E n a t H with
    | some (.normal, t', H') => evCode O P E n b t' H'
    | r => r)
  | .cond c a b, t, H => (match aeval E t c with
    | .bool true => evCode O P E n a t H
    | .bool false => evCode O P E n b t H
    | _ => none)
  | .block id c, t, H => (match evCode O P E n c t H with
    | some (.exit id', t', H') => if id' = id then some (.normal, t', H') else some (.exit id', t', H')
    | r => r)
  | .loop c, t, H => iter (evCode O P E n c) n t H
  | .exit id, t, H => some (.exit id, t, H)
  | .ret, t, H => some (.ret, t, H)
  | _, _, _ => none

def evResults (P : Program) (H : AH) (t : List AV) : List ResultVar → Option (List AV)
  | [] => some []
  | .tmp d :: r => (match evResults P H t r with
    | some vs => some (t.getD d .nothing :: vs)
    | none => none)
  | .cell d ty :: r => (match aload P H ty (t.getD d .nothing), evResults P H t r with
    | some v, some vs => some (v :: vs)
    | _, _ => none)

def oneOrTup : List AV → AV
  | [v] => v
  | vs => .tup vs

/-- What a function's text does. -/
def evFunc (O : Orc) (P : Program) (E : Env) (n : Nat) (f : FuncId) (args : List AV) (H : AH) : Option (AV × AH) :=
  match P.funcs[f]? with
  | some fn => (match fn.body with
    | some c => (match evCode O P E n c (args ++ List.replicate (fn.ntmps - args.length) .nothing) H with
      | some (.exit _, _, _) => none
      | some (_, t, H') => (match evResults P H' t fn.results.toList with
        | some vs => some (oneOrTup vs, H')
        | none => none)
      | none => none)
    | none => none)
  | none => none

section
variable {P : Program} {E : Env} {O : Orc}

theorem evCode_ok (hS : Sound P E O) (hM : MethOk P E) (hmix : P.follows .mixedOrders = true) (n : Nat) : ∀ (c : Code) {Q : Exit → Act → World → Prop} {g : Gh} {H : AH} {w : World} {t t' : List AV} {a : Act} {H' : AH} {ex : AEx},
    evCode O P E n c t H = some (ex, t', H') → Rel g H w → GlobOk E g → RepL g t a.tmps.toList → a.defers = [] →
    (∀ g' a' w', Rel g' H' w' → Post g H w g' H' w' → RepL g' t' a'.tmps.toList → a'.defers = [] → Q ex.ex a' w') → c.wp P Q a w
  | .skip, Q, g, H, w, t, t', a, H', ex, h, R, hG, hT, hd, hQ => by
    simp only [evCode] at h; injection h with h; simp only [Prod.mk.injEq] at h; obtain ⟨rfl, rfl, rfl⟩ := h
    exact wp_skip (hQ g a w R (Post.refl g H w) hT hd)
  | .region id ops draw, Q, g, H, w, t, t', a, H', ex, h, R, hG, hT, hd, hQ => by
    simp only [evCode] at h
    split at h
    · rename_i t1 H1 he
      injection h with h; simp only [Prod.mk.injEq] at h; obtain ⟨rfl, rfl, rfl⟩ := h
      cases draw with
      | true => exact evDraw_ok hS hM hmix (by simpa using he) R hG hT hd hQ
      | false => exact evRegion_ok hS hM (by simpa using he) R hG hT hd hQ
    · cases h
  | .seq x y, Q, g, H, w, t, t', a, H', ex, h, R, hG, hT, hd, hQ => by
    simp only [evCode] at h
    refine wp_seq ?_
    split at h
    · rename_i t1 H1 he
      refine evCode_ok hS hM hmix n x he R hG hT hd fun g1 a1 w1 R1 p1 hT1 hd1 => ?_
      exact evCode_ok hS hM hmix n y h R1 (hG.mono p1.le) hT1 hd1 fun g2 a2 w2 R2 p2 => hQ g2 a2 w2 R2 (Post.trans R p1 p2)
    · rename_i r hne
      refine evCode_ok hS hM hmix n x h R hG hT hd fun g1 a1 w1 R1 p1 hT1 hd1 => ?_
      have := hQ g1 a1 w1 R1 p1 hT1 hd1
      cases ex with
      | normal => exact absurd h (hne _ _)
      | exit id => exact this
      | ret => exact this
  | .cond c x y, Q, g, H, w, t, t', a, H', ex, h, R, hG, hT, hd, hQ => by
    simp only [evCode] at h
    have hc := aeval_ok hG hT c
    split at h
    · rename_i he
      rw [he] at hc; simp only [RepV] at hc
      exact wp_cond_true hc (evCode_ok hS hM hmix n x h R hG hT hd hQ)
    · rename_i he
      rw [he] at hc; simp only [RepV] at hc
      exact wp_cond_false hc (evCode_ok hS hM hmix n y h R hG hT hd hQ)
    · cases h
  | .block id c, Q, g, H, w, t, t', a, H', ex, h, R, hG, hT, hd, hQ => by
    simp only [evCode] at h
    refine wp_block ?_
    split at h
    · rename_i id' t1 H1 he
      refine evCode_ok hS hM hmix n c he R hG hT hd fun g1 a1 w1 R1 p1 hT1 hd1 => ?_
      split at h
      · rename_i hid
        injection h with h; simp only [Prod.mk.injEq] at h; obtain ⟨rfl, rfl, rfl⟩ := h
        simp only [AEx.ex, Exit.inBlock]
        rw [if_pos hid]
        exact hQ g1 a1 w1 R1 p1 hT1 hd1
      · rename_i hid
        injection h with h; simp only [Prod.mk.injEq] at h; obtain ⟨rfl, rfl, rfl⟩ := h
        simp only [AEx.ex, Exit.inBlock]
        rw [if_neg hid]
        exact hQ g1 a1 w1 R1 p1 hT1 hd1
    · rename_i r hne
      refine evCode_ok hS hM hmix n c h R hG hT hd fun g1 a1 w1 R1 p1 hT1 hd1 => ?_
      have := hQ g1 a1 w1 R1 p1 hT1 hd1
      cases ex with
      | normal => exact this
      | exit id' => exact absurd h (hne _ _ _)
      | ret => exact this
  | .loop c, Q, g, H, w, t, t', a, H', ex, h, R, hG, hT, hd, hQ => by
    simp only [evCode] at h
    refine wp_loop_rounds n ?_
    have key : ∀ (k : Nat) {g : Gh} {H : AH} {w : World} {t : List AV} {a : Act}, iter (evCode O P E n c) k t H = some (ex, t', H') → Rel g H w → GlobOk E g → RepL g t a.tmps.toList → a.defers = [] →
        (∀ g' a' w', Rel g' H' w' → Post g H w g' H' w' → RepL g' t' a'.tmps.toList → a'.defers = [] → Q ex.ex a' w') → Code.rounds P c Q k a w := by
      intro k
      induction k with
      | zero => intro g H w t a h; simp only [iter] at h; cases h
      | succ k ih =>
        intro g H w t a h R hG hT hd hQ
        simp only [iter] at h
        rw [rounds_succ]
        split at h
        · rename_i t1 H1 he
          refine evCode_ok hS hM hmix n c he R hG hT hd fun g1 a1 w1 R1 p1 hT1 hd1 => ?_
          exact ih h R1 (hG.mono p1.le) hT1 hd1 fun g2 a2 w2 R2 p2 => hQ g2 a2 w2 R2 (Post.trans R p1 p2)
        · rename_i r hne
          refine evCode_ok hS hM hmix n c h R hG hT hd fun g1 a1 w1 R1 p1 hT1 hd1 => ?_
          have := hQ g1 a1 w1 R1 p1 hT1 hd1
          cases ex with
          | normal => exact absurd h (hne _ _)
          | exit id => exact this
          | ret => exact this
    exact key n h R hG hT hd hQ
  | .exit id, Q, g, H, w, t, t', a, H', ex, h, R, hG, hT, hd, hQ => by
    simp only [evCode] at h; injection h with h; simp only [Prod.mk.injEq] at h; obtain ⟨rfl, rfl, rfl⟩ := h
    exact wp_exit (hQ g a w R (Post.refl g H w) hT hd)
  | .ret, Q, g, H, w, t, t', a, H', ex, h, R, hG, hT, hd, hQ => by
    simp only [evCode] at h; injection h with h; simp only [Prod.mk.injEq] at h; obtain ⟨rfl, rfl, rfl⟩ := h
    exact wp_ret (hQ g a w R (Post.refl g H w) hT hd)
  | .rangeFunc _ _ _ _, _, _, _, _, _, _, _, _, _, h, _, _, _, _, _ => by simp only [evCode] at h; cases h
  | .scope _, _, _, _, _, _, _, _, _, _, h, _, _, _, _, _ => by simp only [evCode] at h; cases h
  | .label _, _, _, _, _, _, _, _, _, _, h, _, _, _, _, _ => by simp only [evCode] at h; cases h
  | .goto _, _, _, _, _, _, _, _, _, _, h, _, _, _, _, _ => by simp only [evCode] at h; cases h
  | .refuse _, _, _, _, _, _, _, _, _, _, h, _, _, _, _, _ => by simp only [evCode] at h; cases h

def resSem (tv : Array Value) (r : ResultVar) : Sem Value :=
  match r with
  | .tmp t => pure (tv.getD t undef)
  | .cell a t => do loadVar t (← asAddr (tv.getD a undef))

theorem evResults_ok {g : Gh} {H : AH} {w : World} (R : Rel g H w) {t : List AV} {tv : Array Value} (hT : RepL g t tv.toList) : ∀ (rs : List ResultVar) (vs : List AV), evResults P H t rs = some vs →
    ∃ us, RepL g vs us ∧ (rs.mapM (resSem tv)).run P w = .ok us w
  | [], vs, h => by simp only [evResults] at h; injection h with h; subst h; exact ⟨[], by simp [RepL], by simp⟩
  | .tmp d :: rs, vs, h => by
    simp only [evResults] at h
    split at h
    · rename_i ws hr
      injection h with h; subst h
      obtain ⟨us, h1, h2⟩ := evResults_ok R hT rs ws hr
      refine ⟨tv.getD d undef :: us, ?_, by simp only [List.mapM_cons, resSem, Sem.run_bind, Sem.run_pure, Result.andThen_ok, h2]⟩
      simp only [RepL]
      refine ⟨_, _, rfl, ?_, h1⟩
      have := aeval_ok (E := ⟨fun _ => .undef, fun _ _ => none, fun _ => false⟩) (g := g) (a := ⟨tv, []⟩) (fun _ => by simp [RepV]) hT (.tmp d)
      exact this
    · cases h
  | .cell d ty :: rs, vs, h => by
    simp only [evResults] at h
    split at h
    · rename_i v ws hl hr
      injection h with h; subst h
      obtain ⟨us, h1, h2⟩ := evResults_ok R hT rs ws hr
      have hd := aeval_ok (E := ⟨fun _ => .undef, fun _ _ => none, fun _ => false⟩) (g := g) (a := ⟨tv, []⟩) (fun _ => by simp [RepV]) hT (.tmp d)
      simp only [aeval, Act.eval] at hd
      obtain ⟨rv, h3, h4⟩ := aload_ok (P := P) R hl hd
      refine ⟨rv :: us, by simp only [RepL]; exact ⟨_, _, rfl, h4, h1⟩, ?_⟩
      have h5 : (resSem tv (.cell d ty)).run P w = .ok rv w := by
        show (do loadVar ty (← asAddr (tv.getD d undef)) : Sem Value).run P w = .ok rv w
        unfold Instr.loadAt at h3
        unfold aload at hl
        split at hl
        · rename_i he; rw [he] at hd; simp only [RepV] at hd; obtain ⟨b, _, hd⟩ := hd
          rw [hd] at h3 ⊢
          simpa [Instr.sureAddr, asAddr] using h3
        · rename_i he; rw [he] at hd; simp only [RepV] at hd; obtain ⟨b, o, ws, hd, _⟩ := hd
          rw [hd] at h3 ⊢
          simpa [Instr.sureAddr, asAddr] using h3
        · cases hl
      simp only [List.mapM_cons, Sem.run_bind, Sem.run_pure, h5, Result.andThen_ok, h2]
    · cases h

theorem oneOrTup_ok {g : Gh} {vs : List AV} {us : List Value} (h : RepL g vs us) : RepV g (oneOrTup vs) (if hs : (List.toArray us).size = 1 then (List.toArray us)[0] else .tuple (List.toArray us)) := by
  have hl := h.length
  cases vs with
  | nil => simp only [RepL] at h; subst h; simp [oneOrTup, RepV, RepL]
  | cons v vs =>
    simp only [RepL] at h
    obtain ⟨u, ws, rfl, h1, h2⟩ := h
    cases vs with
    | nil => simp only [RepL] at h2; subst h2; simpa [oneOrTup] using h1
    | cons v2 vs =>
      simp only [RepL] at h2
      obtain ⟨u2, xs, rfl, h3, h4⟩ := h2
      simp only [oneOrTup, RepV]
      refine ⟨u :: u2 :: xs, by simp, ?_⟩
      simp only [RepL]
      exact ⟨_, _, rfl, h1, _, _, rfl, h3, h4⟩

/-- What a function's text does, its call does. -/
theorem evFunc_ok (hS : Sound P E O) (hM : MethOk P E) (hmix : P.follows .mixedOrders = true) {n : Nat} {f : FuncId} {args : List AV} {H H' : AH} {v : AV} (h : evFunc O P E n f args H = some (v, H')) : CS P E f args H v H' := by
  intro g w cargs R hG hA
  unfold evFunc at h
  split at h
  · rename_i fn hf
    split at h
    · rename_i c hb
      refine calls_of_wp hf hb ?_
      have hT : RepL g (args ++ List.replicate (fn.ntmps - args.length) .nothing) (List.toArray cargs ++ Array.replicate (fn.ntmps - (List.toArray cargs).size) undef).toList := by
        simp only [Array.toList_append, Array.toList_replicate, List.size_toArray, hA.length]
        exact hA.append (RepL.replicate _ (by simp [AV.nothing, RepV, RepL, undef]))
      split at h
      · cases h
      · rename_i ex t H1 hne he
        split at h
        · rename_i vs hr
          injection h with h; simp only [Prod.mk.injEq] at h; obtain ⟨rfl, rfl⟩ := h
          refine evCode_ok hS hM hmix n c he R hG hT rfl fun g' a' w' R' p' hT' hd' => ?_
          obtain ⟨us, h1, h2⟩ := evResults_ok (P := P) R' hT' _ _ hr
          have hres : (results fn a'.tmps).run P w' = .ok (if hs : (List.toArray us).size = 1 then (List.toArray us)[0] else .tuple (List.toArray us)) w' := by
            have e1 : results fn a'.tmps = (do let vs ← fn.results.mapM (resSem a'.tmps); pure (if hs : vs.size = 1 then vs[0] else .tuple vs)) := rfl
            rw [e1, Array.mapM_eq_mapM_toList]
            simp only [Sem.run_bind, Sem.run_map, h2, Result.andThen_ok]
            rfl
          cases ex with
          | normal => exact ⟨hd', _, hres, g', _, rfl, R', p', oneOrTup_ok h1⟩
          | exit id => exact (hne _ rfl).elim
          | ret => exact ⟨hd', _, hres, g', _, rfl, R', p', oneOrTup_ok h1⟩
        · cases h
      · cases h
    · cases h
  · cases h
end
end Go.Proofs.Fw
