/- From what a row reads (arguments, listed variables) to abstract values; from a call's contract to the row's words. -/
import Derived.Test.YtpmonaempgjgbaaDoorFwRun
import Derived.Below
import GoSem.ClaimJoined
namespace Go.Proofs.Fw
open Go.RowKit

/-- Some cells among others. -/
def putIf (as : List AV) (off k : Nat) (bs : List AV) : List AV :=
  if bs.length = k ∧ off + k ≤ as.length then as.take off ++ bs ++ as.drop (off + k) else as

def putAll : List AV → List (Nat × Nat × List AV) → List AV
  | as, [] => as
  | as, (off, k, bs) :: r => putAll (putIf as off k bs) r

def undefs (P : Program) (t : TypeId) : List AV :=
  match P.underlying t with
  | some (.struct _) => List.replicate (P.cellsOf t) .undef
  | some (.array _ _) => List.replicate (P.cellsOf t) .undef
  | _ => [.undef]

/-- A reading as abstract cells. -/
def avRow {H : Type} (P : Program) : Nat → TypeId → DataW H → List AV
  | 0, t, _ => undefs P t
  | fuel + 1, t, d =>
    match P.underlying t, d with
    | some .bool, .lit (.bool b) => [.bool b]
    | some (.int k), .lit (.int _ n) => [.int k n]
    | some .string, .lit (.string s) => [.str s]
    | some (.pointer _), .nil => [.nilPtr]
    | some (.pointer e), .ptr d => if P.cellsOf e = 0 then [.undef] else [.vptr (avRow P fuel e d) 0]
    | some (.slice _), .nil => [.nilSlice]
    | some (.slice e), .slice ds _ => if P.cellsOf e = 0 ∨ ds.length = 0 then [.undef] else [.slice .unk (P.cellsOf e) ds.length (ds.flatMap (avRow P fuel e))]
    | some (.struct fs), .agg ds => putAll (List.replicate (P.cellsOf t) .undef) ((fs.toList.zip ds).map fun x => (x.1.offset, P.cellsOf x.1.type, avRow P fuel x.1.type x.2))
    | some (.array n e), .agg ds => putAll (List.replicate (P.cellsOf t) .undef) (((List.range n).zip ds).map fun x => (x.1 * P.cellsOf e, P.cellsOf e, avRow P fuel e x.2))
    | some (.struct _), _ => List.replicate (P.cellsOf t) .undef
    | some (.array _ _), _ => List.replicate (P.cellsOf t) .undef
    | _, _ => [.undef]

/-- All that stands in a world. -/
def ghAll (w : World) : Gh := { G := fun b i => w.cell? ⟨b, i, none⟩, M := fun _ => none }

theorem RepL.undefs {g : Gh} : ∀ (vs : List Value), RepL g (List.replicate vs.length .undef) vs
  | [] => by simp [RepL]
  | v :: vs => by simp only [List.length_cons, List.replicate_succ, RepL]; exact ⟨v, vs, rfl, by simp [RepV], RepL.undefs vs⟩

theorem RepL.undef1 {g : Gh} (v : Value) : RepL g [.undef] [v] := by simp [RepL, RepV]

theorem putIf_ok {g : Gh} {as bs : List AV} {cs : List Value} {off k : Nat} (h : RepL g as cs) (hb : RepL g bs ((cs.drop off).take k)) : RepL g (putIf as off k bs) cs := by
  unfold putIf
  split
  · rename_i hk
    have hl := hb.length
    have e : cs = cs.take off ++ (cs.drop off).take k ++ cs.drop (off + k) := by
      rw [List.append_assoc, ← List.drop_drop, List.take_append_drop, List.take_append_drop]
    rw [e]
    exact ((h.take off).append hb).append (h.drop (off + k))
  · exact h

theorem putAll_ok {g : Gh} {cs : List Value} : ∀ (l : List (Nat × Nat × List AV)) {as : List AV}, RepL g as cs → (∀ x ∈ l, RepL g x.2.2 ((cs.drop x.1).take x.2.1)) → RepL g (putAll as l) cs
  | [], _, h, _ => h
  | (off, k, bs) :: r, _, h, hx => putAll_ok r (putIf_ok h (hx (off, k, bs) List.mem_cons_self)) fun x hm => hx x (List.mem_cons_of_mem _ hm)

theorem mapM_zip {α β γ : Type} {f : α → Option (β × γ)} : ∀ (l : List α) {xs : List (β × γ)}, l.mapM f = some xs → ∀ p ∈ l.zip (xs.map (·.1)), ∃ y, f p.1 = some (p.2, y)
  | [], xs, h, p, hp => by simp at hp
  | a :: l, xs, h, p, hp => by
    simp only [List.mapM_cons, Option.bind_eq_bind, Option.bind_eq_some_iff, Option.pure_def, Option.some.injEq] at h
    obtain ⟨x, hx, ys, hy, rfl⟩ := h
    simp only [List.map_cons, List.zip_cons_cons, List.mem_cons] at hp
    rcases hp with rfl | hp
    · exact ⟨x.2, hx⟩
    · exact mapM_zip l hy p hp

theorem cell_spot {w : World} {a : Addr} {v : Value} (h : w.cell? a = some v) : a.spot = none := by
  unfold World.cell? at h
  split at h
  · split at h
    · cases h
    · simpa using ‹¬ a.spot.isSome = true›
  · cases h

theorem add_none {a : Addr} (ha : a.spot = none) (i : Nat) : a.add i = ⟨a.block, a.off + i, none⟩ := by
  unfold Addr.add
  split
  · subst_vars; cases a; simp at ha; subst ha; rfl
  · rfl

theorem cells_spot {w : World} {base : Nat} {a : Addr} {n : Nat} {vs : List Value} (h : w.cells? base a (n + 1) = some vs) : a.spot = none := by
  unfold World.cells? at h
  split at h
  · rw [List.range_eq_range', List.range'_succ] at h
    simp only [List.mapM_cons, Option.bind_eq_bind, Option.bind_eq_some_iff] at h
    obtain ⟨x, hx, _⟩ := h
    have : a.add 0 = a := rfl
    rw [this] at hx
    exact cell_spot hx
  · cases h

theorem cells_has {w : World} {base : Nat} {a : Addr} {n : Nat} {vs : List Value} (ha : a.spot = none) (h : w.cells? base a n = some vs) : vs.length = n ∧ (ghAll w).has a.block a.off vs := by
  unfold World.cells? at h
  split at h
  · have key : ∀ (m s : Nat) (us : List Value), (List.range' s m).mapM (fun i => w.cell? (a.add i)) = some us → us.length = m ∧ (ghAll w).has a.block (a.off + s) us := by
      intro m
      induction m with
      | zero => intro s us h; simp at h; subst h; exact ⟨rfl, fun i v h => by simp at h⟩
      | succ m ih =>
        intro s us h
        simp only [List.range'_succ, List.mapM_cons, Option.bind_eq_bind, Option.bind_eq_some_iff, Option.pure_def, Option.some.injEq] at h
        obtain ⟨x, hx, ys, hy, rfl⟩ := h
        obtain ⟨h1, h2⟩ := ih _ _ hy
        refine ⟨by simp [h1], fun i v hi => ?_⟩
        cases i with
        | zero =>
          simp only [List.getElem?_cons_zero, Option.some.injEq] at hi
          subst hi
          show w.cell? _ = _
          rw [← hx, add_none ha]
          rfl
        | succ i =>
          simp only [List.getElem?_cons_succ] at hi
          have := h2 i v hi
          rw [show a.off + s + (i + 1) = a.off + (s + 1) + i by omega]
          exact this
    rw [List.range_eq_range'] at h
    simpa using key n 0 vs h
  · cases h

theorem mapM_len {α β : Type} {f : α → Option β} : ∀ (l : List α) {xs : List β}, l.mapM f = some xs → xs.length = l.length
  | [], xs, h => by simp at h; subst h; rfl
  | a :: l, xs, h => by
    simp only [List.mapM_cons, Option.bind_eq_bind, Option.bind_eq_some_iff, Option.pure_def, Option.some.injEq] at h
    obtain ⟨x, _, ys, hy, rfl⟩ := h
    simp [mapM_len l hy]

theorem flat_has {g : Gh} {b o c : Nat} (f : Nat → List AV) : ∀ (m s : Nat), (∀ i, i < m → ∃ vs, RepL g (f i) vs ∧ vs.length = c ∧ g.has b (o + (s + i) * c) vs) →
    ∃ vs, RepL g ((List.range m).flatMap f) vs ∧ vs.length = m * c ∧ g.has b (o + s * c) vs
  | 0, s, _ => ⟨[], by simp [RepL], by simp, fun i v h => by simp at h⟩
  | m + 1, s, h => by
    obtain ⟨vs, h1, h2, h3⟩ := flat_has f m s fun i hi => h i (by omega)
    obtain ⟨us, k1, k2, k3⟩ := h m (by omega)
    refine ⟨vs ++ us, ?_, by simp [h2, k2, Nat.add_mul], ?_⟩
    · rw [List.range_succ, List.flatMap_append]
      simpa using h1.append k1
    · refine Gh.has_append h3 ?_
      rw [h2, show o + s * c + m * c = o + (s + m) * c by rw [Nat.add_mul]; omega]
      exact k3

theorem flatMap_range {α : Type} (f : α → List AV) (l : List α) (d : α) : l.flatMap f = (List.range l.length).flatMap fun i => f (l.getD i d) := by
  have e : l = (List.range l.length).map fun i => l.getD i d := by
    apply List.ext_getElem
    · simp
    · intro i h1 h2
      simp [List.getD_eq_getElem?_getD, h1]
  conv => lhs; rw [e]
  rw [List.flatMap_map]

theorem mapM_getD {α β γ : Type} {f : α → Option (β × γ)} : ∀ (l : List α) {xs : List (β × γ)}, l.mapM f = some xs → ∀ (i : Nat) (a : α), l[i]? = some a → ∃ x, xs[i]? = some x ∧ f a = some x
  | [], xs, h, i, a, hi => by simp at hi
  | b :: l, xs, h, i, a, hi => by
    simp only [List.mapM_cons, Option.bind_eq_bind, Option.bind_eq_some_iff, Option.pure_def, Option.some.injEq] at h
    obtain ⟨x, hx, ys, hy, rfl⟩ := h
    cases i with
    | zero => simp at hi; subst hi; exact ⟨x, rfl, hx⟩
    | succ i => simp only [List.getElem?_cons_succ] at hi ⊢; exact mapM_getD l hy i a hi

theorem trod_undefs {H : Type} {enc : TypeId × Value → H} {P : Program} {w : World} {base : Nat} {spare : Nat → Bool} {held : Bool} {g : Gh} {fuel : Nat} {t : TypeId} {cs : List Value} {x : DataW H × List MemPlace}
    (h : DataW.trod enc P w base spare held fuel t cs = some x) : RepL g (undefs P t) cs := by
  cases fuel with
  | zero => simp [DataW.trod] at h
  | succ fuel =>
    unfold DataW.trod at h
    unfold undefs
    split at h
    case h_9 fs hu =>
      split at h
      · rename_i hc
        simp only [hu]
        rw [← hc]; exact RepL.undefs _
      · cases h
    case h_10 n e hu =>
      split at h
      · rename_i hc
        simp only [hu]
        rw [← hc]; exact RepL.undefs _
      · cases h
    all_goals try (simp only [reduceCtorEq] at h; done)
    all_goals (rename_i hu; simp only [hu]; exact RepL.undef1 _)

/-- What is read is so told. -/
theorem trod_rep {H : Type} {enc : TypeId × Value → H} {P : Program} {w : World} {base : Nat} {spare : Nat → Bool} {held : Bool} : ∀ (F fuel : Nat) {t : TypeId} {cs : List Value} {x : DataW H × List MemPlace},
    DataW.trod enc P w base spare held fuel t cs = some x → RepL (ghAll w) (avRow P F t x.1) cs := by
  intro F
  induction F with
  | zero => intro fuel t cs x h; exact trod_undefs h
  | succ F ih =>
    intro fuel t cs x h
    cases fuel with
    | zero => simp [DataW.trod] at h
    | succ fuel =>
    unfold DataW.trod at h
    unfold avRow
    split at h
    case h_2 hu =>
      split at h
      · rename_i hk
        obtain ⟨rfl, _⟩ := hk
        simp only [Option.some.injEq] at h; subst h
        simp [hu, RepL, RepV]
      · cases h
    case h_3 hu =>
      split at h
      · simp only [Option.some.injEq] at h; subst h
        simp [hu, RepL, RepV]
      · cases h
    case h_4 hu =>
      split at h
      · simp only [Option.some.injEq] at h; subst h
        simp [hu, RepL, RepV]
      · cases h
    case h_6 e a hu =>
      simp only [Option.map_eq_some_iff, Option.bind_eq_some_iff] at h
      obtain ⟨y, ⟨vs, hvs, hy⟩, rfl⟩ := h
      simp only [hu]
      split
      · exact RepL.undef1 _
      · rename_i hc
        obtain ⟨m, hm⟩ := Nat.exists_eq_succ_of_ne_zero hc
        have hs := cells_spot (n := m) (by rw [← Nat.succ_eq_add_one, ← hm]; exact hvs)
        obtain ⟨h1, h2⟩ := cells_has hs hvs
        refine ⟨_, [], rfl, ⟨a.block, a.off, vs, ?_, ih _ hy, h2⟩, rfl⟩
        cases a; simp at hs; subst hs; rfl
    case h_8 e a len cap hu =>
      simp only at h
      split at h
      · rename_i hc
        simp only [Option.bind_eq_some_iff, Option.map_eq_some_iff] at h
        obtain ⟨elems, he, rest, hr, rfl⟩ := h
        simp only [hu]
        split
        · exact RepL.undef1 _
        · rename_i hz
          have hlen : elems.length = len := by rw [mapM_len _ he, List.length_range]
          simp only [List.length_map] at hz ⊢
          have hc0 : P.cellsOf e ≠ 0 := fun h => hz (.inl h)
          have hl0 : elems.length ≠ 0 := fun h => hz (.inr h)
          obtain ⟨m, hm⟩ := Nat.exists_eq_succ_of_ne_zero hc0
          have hsp : a.spot = none := by
            obtain ⟨x0, _, hx0⟩ := mapM_getD _ he 0 0 (by rw [List.getElem?_range (by omega)])
            simp only [Option.bind_eq_some_iff, Nat.zero_mul] at hx0
            obtain ⟨vs, hvs, _⟩ := hx0
            exact cells_spot (n := m) (by rw [← Nat.succ_eq_add_one, ← hm]; exact hvs)
          have hf : ∀ i, i < elems.length → ∃ vs, RepL (ghAll w) (avRow P F e ((elems.map (·.1)).getD i .nil)) vs ∧ vs.length = P.cellsOf e ∧ (ghAll w).has a.block (a.off + (0 + i) * P.cellsOf e) vs := by
            intro i hi
            obtain ⟨x, hx, hxi⟩ := mapM_getD _ he i i (by rw [List.getElem?_range (by omega)])
            simp only [Option.bind_eq_some_iff] at hxi
            obtain ⟨vs, hvs, hxi⟩ := hxi
            rw [add_none hsp] at hvs
            obtain ⟨h1, h2⟩ := cells_has rfl hvs
            refine ⟨vs, ?_, h1, by simpa using h2⟩
            have : (elems.map (·.1)).getD i .nil = x.1 := by
              rw [List.getD_eq_getElem?_getD, List.getElem?_map, hx]; rfl
            rw [this]
            exact ih _ hxi
          obtain ⟨vs, k1, k2, k3⟩ := flat_has _ elems.length 0 hf
          refine ⟨_, [], rfl, ⟨a.block, a.off, cap, vs, ?_, ?_, ?_, ?_, ?_, trivial⟩, rfl⟩
          · rw [hlen]; cases a; simp at hsp; subst hsp; rfl
          · rw [flatMap_range _ _ .nil, List.length_map]; exact k1
          · simpa using k3
          · rw [flatMap_range _ _ .nil, List.length_map, ← k1.length, k2]
          · omega
      · cases h
    case h_9 fs hu =>
      split at h
      · rename_i hc
        simp only [Option.map_eq_some_iff] at h
        obtain ⟨xs, hx, rfl⟩ := h
        simp only [hu]
        refine putAll_ok _ (by rw [← hc]; exact RepL.undefs _) fun y hy => ?_
        simp only [List.mem_map] at hy
        obtain ⟨p, hp, rfl⟩ := hy
        obtain ⟨q, hq⟩ := mapM_zip _ hx p hp
        exact ih _ hq
      · cases h
    case h_10 n e hu =>
      split at h
      · rename_i hc
        simp only [Option.map_eq_some_iff] at h
        obtain ⟨xs, hx, rfl⟩ := h
        simp only [hu]
        refine putAll_ok _ (by rw [← hc]; exact RepL.undefs _) fun y hy => ?_
        simp only [List.mem_map] at hy
        obtain ⟨p, hp, rfl⟩ := hy
        obtain ⟨q, hq⟩ := mapM_zip _ hx p hp
        exact ih _ hq
      · cases h
    all_goals try (simp only [Option.some.injEq, reduceCtorEq] at h; done)
    all_goals try (simp only [Option.some.injEq] at h; subst h; rename_i hu; simp only [hu]; simp [RepL, RepV]; done)
    all_goals (rename_i hu; simp only [hu]; first | exact RepL.undef1 _ | (split <;> first | exact RepL.undef1 _ | simp_all))

/-- The package-level variables that are told. -/
def globOf (tab : List (Nat × AV)) (i : Nat) : AV :=
  match tab.find? (fun x => x.1 == i) with
  | some x => x.2
  | none => .undef

theorem globOk_of {E : Env} {g : Gh} {tab : List (Nat × AV)} (hE : E.glob = globOf tab) (h : ∀ x ∈ tab, RepV g x.2 (.pointer (some ⟨x.1, 0, none⟩))) : GlobOk E g := by
  intro i
  rw [hE]
  unfold globOf
  split
  · rename_i x hx
    have h1 := List.mem_of_find?_eq_some hx
    have h2 := List.find?_some hx
    simp only [beq_iff_eq] at h2
    rw [← h2]
    exact h x h1
  · simp [RepV]

/-- What a listed variable's reading tells of its place. -/
theorem laid_rep {P : Program} {w : World} : ∀ {l : List (String × DataW Unit)} {ps : List MemPlace}, DataW.LaidVars P w l ps → ∀ {n : String} {d : DataW Unit}, (n, d) ∈ l → ∀ {g : Nat} {t : TypeId} (F : Nat),
    P.globalNamed n = some g → (P.globals[g]?).map (·.type) = some t → RepV (ghAll w) (.vptr (avRow P F t d) 0) (.pointer (some ⟨g, 0, none⟩))
  | [], _, _, _, _, hm, _, _, _, _, _ => by cases hm
  | (n', d') :: r, ps, h, n, d, hm, g, t, F, hg, ht => by
    obtain ⟨g', t', cs, fuel, p, q, h1, h2, h3, h4, h5, _⟩ := h
    rcases List.mem_cons.1 hm with e | hm
    · injection e with e1 e2
      subst e1 e2
      obtain rfl := Option.some.inj (h1.symm.trans hg)
      obtain rfl := Option.some.inj (h2.symm.trans ht)
      have := trod_rep F fuel h4
      simp only [RepV]
      refine ⟨g', 0, cs.toList, rfl, this, fun i v hi => ?_⟩
      show w.cell? _ = _
      rw [World.var?_cell hg h3 (0 + i), Nat.zero_add]
      simpa using hi
    · exact laid_rep h5 hm F hg ht

theorem Rel.all (w : World) : Rel (ghAll w) [] w :=
  ⟨fun _ _ _ h => h, fun _ _ => rfl, fun id e h => by simp [AH.at] at h, fun _ _ _ _ h => (by cases h), fun _ _ h => (by cases h)⟩

theorem Post.below {g g' : Gh} {H' : AH} {w w' : World} (h : Post g [] w g' H' w') : Below w.heap.size w w' :=
  ⟨h.os, h.tape, h.output, h.size, fun b hb => (h.old b hb fun id e ge he => by simp [AH.at] at he).1⟩

/-- A contract at a call from outside. -/
theorem CS.lift {P : Program} {E : Env} {f : FuncId} {args : List AV} {v : AV} {H' : AH} (h : CS P E f args [] v H') {W : World} (hG : GlobOk E (ghAll W)) {cargs : List Value} (hA : RepL (ghAll W) args cargs) :
    Calls P f (List.toArray cargs) W fun e W' => ∃ g' cv, e = .returned cv ∧ RepV g' v cv ∧ Below W.heap.size W W' :=
  (h (ghAll W) W cargs (Rel.all W) hG hA).mono fun e W' => by
    rintro ⟨g', cv, he, _, p, hr⟩
    exact ⟨g', cv, he, hr, p.below⟩

theorem CS.lift_bool {P : Program} {E : Env} {f : FuncId} {args : List AV} {b : Bool} {H' : AH} (h : CS P E f args [] (.bool b) H') {W : World} (hG : GlobOk E (ghAll W)) {cargs : List Value} (hA : RepL (ghAll W) args cargs) :
    Calls P f (List.toArray cargs) W fun e W' => e = .returned (.bool b) ∧ Below W.heap.size W W' :=
  (h.lift hG hA).mono fun e W' => by
    rintro ⟨g', cv, he, hr, p⟩
    simp only [RepV] at hr
    subst hr
    exact ⟨he, p⟩

/-- What stood in the world at the start stands in every later ghost; a slice that came in. -/
theorem slice_rep {H : Type} {enc : TypeId × Value → H} {P : Program} {W : World} {base : Nat} {spare : Nat → Bool} {held : Bool} {t e : TypeId} {a : Option Addr} {len cap : Nat} {d : DataW H} {ps : List MemPlace}
    (hu : P.underlying t = some (.slice e)) (h : DataW.Trod enc P W base spare held t (.slice a len cap) d ps) (hs : ∀ x, a = some x → x.spot = none) :
    (a = none ∧ len = 0 ∧ cap = 0 ∧ d = .nil) ∨ ∃ ds sp, d = .slice ds sp ∧ ds.length = len ∧ (P.cellsOf e = 0 ∨ RepV (ghAll W) (.slice .unk (P.cellsOf e) len (ds.flatMap (avRow P 8 e))) (.slice a len cap)) := by
  obtain ⟨fuel, h⟩ := h
  have hr := trod_rep 9 fuel h
  cases fuel with
  | zero => simp [DataW.trod] at h
  | succ fuel =>
    cases a with
    | none =>
      left
      simp only [DataW.trod, hu, Value.cells] at h
      split at h <;> simp_all
    | some x =>
      right
      simp only [DataW.trod, hu, Value.cells] at h
      split at h
      · rename_i hc
        simp only [Option.bind_eq_some_iff, Option.map_eq_some_iff] at h
        obtain ⟨elems, he, rest, _, hd⟩ := h
        simp only [Prod.mk.injEq] at hd
        obtain ⟨rfl, _⟩ := hd
        have hlen : elems.length = len := by rw [mapM_len _ he, List.length_range]
        refine ⟨_, _, rfl, by simpa using hlen, ?_⟩
        by_cases hc0 : P.cellsOf e = 0
        · exact .inl hc0
        · right
          by_cases hl0 : len = 0
          · subst hl0
            obtain rfl : elems = [] := List.length_eq_zero_iff.1 hlen
            simp only [RepV]
            refine ⟨x.block, x.off, cap, [], ?_, by simp [RepL], fun i v h => by simp at h, by simp, by omega, trivial⟩
            have := hs x rfl
            cases x; simp at this; subst this; rfl
          · unfold avRow at hr
            simp only [hu] at hr
            rw [if_neg (by simp [hc0, hlen, hl0])] at hr
            simp only [RepL, Value.cells] at hr
            obtain ⟨v, ws, hv, h1, _⟩ := hr
            simp only [List.cons.injEq] at hv
            obtain ⟨rfl, _⟩ := hv
            rw [List.length_map, hlen] at h1
            exact h1
      · cases h
end Go.Proofs.Fw
