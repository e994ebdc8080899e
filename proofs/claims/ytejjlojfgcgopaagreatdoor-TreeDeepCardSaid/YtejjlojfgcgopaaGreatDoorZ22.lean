/- The program's trees: Parse. .. The laws on trees: what they call. TreeOpen. -/
import Derived.Test.YtejjlojfgcgopaaGreatDoorZ21
import Derived.Test.YtejjlojfgcgopaaGreatDoorZ18
import Derived.Test.YtejjlojfgcgopaaGreatDoorZ13
import Derived.Test.YtejjlojfgcgopaaGreatDoorZ6
import Derived.Test.YtejjlojfgcgopaaGreatDoorZ14
import Derived.Shelf.Strconv.Itoa2
import Derived.Shelf.Strconv.Itoa1
import Derived.Lib.ItoaMem
set_option linter.unusedSimpArgs false
set_option linter.unusedVariables false
namespace Go.Proofs.YtejjlojfgcgopaaGreatDoor
open Go.RowKit Go.Proofs.Fw
set_option maxRecDepth 100000
set_option maxHeartbeats 4000000
def prsW (s : List UInt8) : List Nd × List (List UInt8) × Er := match splitW s with
  | (_, some y) => ([], [], some y)
  | (ls, none) => match ofW ls with
    | (_, some y) => ([], [], some y)
    | (l, none) => (l, ls, none)
def prsI (x : List Nd × List (List UInt8) × Er) : AV := .tup [ndE.av x.1, strE.av x.2.1, erI x.2.2]
noncomputable def fSplitP : Fact Tryz.prog envS := Fact.pure 79 (fun s : List UInt8 => s.length < 1000000) (fun s => [.str s]) (fun s => .tup [strE.av (splitW s).1, erI (splitW s).2]) (fun s h H => lsplit_cs s h H) (fun x y _ _ h => by
  simp only [List.cons.injEq, AV.str.injEq, and_true] at h
  rw [h])
noncomputable def fOfP : Fact Tryz.prog envS := Fact.pure 48 (fun ls : List (List UInt8) => ls.length < 1000000 ∧ ∀ s ∈ ls, s.length < 1000000) (fun ls => [strE.av ls]) (fun ls => treeI (ofW ls)) (fun ls h H => treeof_cs ls h.1 h.2 H) (fun x y _ _ h => by
  simp only [List.cons.injEq, and_true] at h
  rw [strE.av_inj h])
theorem tparse_cs (s : List UInt8) (hs : s.length < 900000) (H : AH) : CS Tryz.prog envS 37 [.str s] H (prsI (prsW s)) H := by
  have hL : ([fSplitP, fOfP, factS fAs].map (·.f)).Nodup := show ([79, 48, 71] : List Nat).Nodup by decide
  have X := oOf_cx [fSplitP, fOfP, factS fAs] methSOk mixed
  have h0 : s.length < 1000000 := by omega
  have f1 := fun H => oOf_mem hL fSplitP (by simp) (x := s) (H := H) h0
  have f2 := fun (ls : List (List UInt8)) H (h1 : ls.length < 1000000 ∧ ∀ s ∈ ls, s.length < 1000000) => oOf_mem hL fOfP (by simp) (x := ls) (H := H) h1
  have f3 := fun (o : Option (List AV)) (H : AH) => oOf_mem hL (factS fAs) (by simp) (x := (o, 0)) (H := some (.box [.nilPtr]) :: H) ⟨.nilPtr, rfl, rfl⟩
  generalize oOf [fSplitP, fOfP, factS fAs] = O at X f1 f2 f3
  have f1 : ∀ H, O 79 [.str s] H = some (.tup [strE.av (splitW s).1, erI (splitW s).2], H) := f1
  have f2 : ∀ ls H, (ls.length < 1000000 ∧ ∀ s ∈ ls, s.length < 1000000) → O 48 [strE.av ls] H = some (treeI (ofW ls), H) := f2
  have g3 : O 71 [.nilIface, .iface 154 (.ptr 0 0)] [some (.box [.nilPtr])] = some (.bool false, [some (.box [.nilPtr])]) := f3 none []
  have g4 : ∀ cs, O 71 [.iface 152 (.vptr cs 0), .iface 154 (.ptr 0 0)] [some (.box [.nilPtr])] = some (.bool true, [some (.box [.vptr cs 0])]) := fun cs => f3 (some cs) []
  have hok := splitW_ok s hs
  refine CS.tr0 lowS Tryz.func37 (by kernel_rfl) 0 (by simp [Tryz.f37]) (fun B hB hG => ?_) (by simp [prsI]) (by simp) H
  refine Tr.goD X hG (by kernel_rfl) ?_
  unfold prsW
  generalize splitW s = q at *
  obtain ⟨ls, e⟩ := q
  simp only at f1 hok ⊢
  cases e with
  | some y =>
    obtain ⟨l, c⟩ := y
    cases l with
    | nil => exact absurd rfl (hok.1 [] c rfl).1
    | cons p l =>
      have hz : erI (some (p :: l, c)) = .iface 152 (.vptr [.str p.1, .int .i64 (p.2 : Int), errAV (castP l) c] 0) := rfl
      rw [hz] at f1
      simp [Tryz.f37, f1, g4, prsI]
      refine LpD.turns X hG [] [] (by kernel_rfl) ?_
      simp [hz]
  | none =>
    obtain ⟨hn, hl⟩ := hok.2 rfl
    have f2 := fun H => f2 ls H ⟨hn, hl⟩
    simp only
    generalize ofW ls = r at *
    obtain ⟨l, e⟩ := r
    simp only [treeI] at f2
    cases e with
    | some y => 
      obtain ⟨l1, c⟩ := y
      cases l1 with
      | nil => 
        have hz : erI (some ([], c)) = .iface 134 (.int .i64 c) := rfl
        rw [hz] at f2
        simp [Tryz.f37, f1, f2, g3, prsI, hz]
      | cons p l1 =>
        have hz : erI (some (p :: l1, c)) = .iface 152 (.vptr [.str p.1, .int .i64 (p.2 : Int), errAV (castP l1) c] 0) := rfl
        rw [hz] at f2
        simp [Tryz.f37, f1, f2, g3, prsI, hz]
    | none => simp [Tryz.f37, f1, f2, g3, prsI]
end Go.Proofs.YtejjlojfgcgopaaGreatDoor

namespace Go.Proofs.YtejjlojfgcgopaaGreatDoor
open Go.RowKit Go.Proofs.Fw
set_option maxRecDepth 100000
set_option maxHeartbeats 4000000
end Go.Proofs.YtejjlojfgcgopaaGreatDoor
namespace Go.Proofs.YtejjlojfgcgopaaGreatDoor
open Go.RowKit Go.Proofs.Fw
set_option maxRecDepth 100000
set_option maxHeartbeats 4000000
noncomputable def fAt : Fact Tryz.prog envF := Fact.pure 24 (fun _ : List UInt8 × Int × Int => True) (fun x => [.str x.1, .int .i64 x.2.1, .int .i64 x.2.2]) (fun x => .agg [.slice .full 2 1 [.str x.1, .int .i64 x.2.1], .int .i64 x.2.2])
  (fun x _ H => (Sound.toF (Sound.toX (Sound.toN oRat_sound)) _ _ _ _ _ (oRat_at x.1 x.2.1 x.2.2 H)).1) (fun x y _ _ h => by
    obtain ⟨a, b, c⟩ := x
    obtain ⟨a', b', c'⟩ := y
    simp only [List.cons.injEq, AV.str.injEq, AV.int.injEq, true_and, and_true] at h
    obtain ⟨rfl, rfl, rfl⟩ := h
    rfl)
noncomputable def fTells : Fact Tryz.prog envF := Fact.pure 23 (fun x : List (List UInt8 × Int) × Int × Own => x.2.1 ≠ 0 ∧ x.1.length < 1000 ∧ (x.2.2 = .unk ∨ x.2.2 = .full)) (fun x => [errAV x.1 x.2.1, .agg [.slice x.2.2 2 x.1.length (partCells x.1), .int .i64 x.2.1]]) (fun _ => .bool true)
  (fun x h H => CS.toF (CS.toX (tells_cs x.1 x.2.1 h.1 h.2.1 x.2.2 h.2.2 H))) (fun x y _ _ h => rfl)
end Go.Proofs.YtejjlojfgcgopaaGreatDoor

namespace Go.Proofs.YtejjlojfgcgopaaGreatDoor
open Go.RowKit Go.Proofs.Fw
set_option maxRecDepth 100000
set_option maxHeartbeats 4000000
def k7S : List UInt8 := [105, 110, 116, 101, 103, 101, 114, 32, 120, 10, 100, 111, 32, 120, 32, 61, 32, 49, 44, 32, 50, 10, 10, 105, 102, 32, 40, 120, 32, 60, 32, 50, 41, 32, 116, 104, 101, 110, 10, 112, 114, 105, 110, 116, 32, 120, 10, 101, 108, 115, 101, 10, 101, 110, 100, 32, 105, 102, 10, 101, 110, 100, 32, 100, 111, 10]
def k7D : List UInt8 := [100, 111, 32, 120, 32, 61, 32, 49, 44, 32, 50, 10]
def k7E : List UInt8 := [101, 108, 115, 101, 10]
def kn7 : List Nd := (prsW k7S).1
def kn7L : List (List UInt8) := (prsW k7S).2.1
theorem kn7_e : (prsW k7S).2.2 = none := by kernel_rfl
theorem kn7_p : prsW k7S = (kn7, kn7L, none) := by
  have := kn7_e
  unfold kn7 kn7L
  revert this
  generalize prsW k7S = q
  obtain ⟨a, b, c⟩ := q
  rintro rfl
  rfl
theorem kn7_l : kn7L.length = 8 := by kernel_rfl
theorem kn7_n : kn7.length = 2 := by kernel_rfl
theorem kn7_sz : szL kn7 = 4 := by kernel_rfl
def kn7C : List AV := ndE.row kn7
theorem kn7_av : ndE.av kn7 = .slice .unk 34 2 kn7C := by
  have h := kn7_n
  unfold kn7C
  rw [ndE.av_ne (fun hh => by rw [hh] at h; cases h), h]
  rfl
def kn7N : Nd := (kn7[1]?).getD nd0
theorem kn7_get : kn7[1]? = some kn7N := by kernel_rfl
theorem kn7_c (f : Nat) (hf : f < 34) : kn7C[34 + f]? = (ndC kn7N)[f]? := ndE.row_cell kn7_get f hf
theorem kn7_end : kn7N.end_ = 7 := by kernel_rfl
theorem kn7_mid : kn7N.mid = -1 := by kernel_rfl
theorem kn7_bl : kn7N.body.length = 1 := by kernel_rfl
def kn7M : Nd := (kn7N.body[0]?).getD nd0
theorem kn7_getM : kn7N.body[0]? = some kn7M := by kernel_rfl
theorem kn7_midM : kn7M.mid = 5 := by kernel_rfl
theorem kn7_endM : kn7M.end_ = 6 := by kernel_rfl
def kn7F : Nd := (findW kn7 4).2
theorem kn7_found : (findW kn7 4).1 = false := by kernel_rfl
theorem kn7_kind : kn7F.st.kind = 9 := by kernel_rfl
theorem kn7_o1 : (ofW [k7D, k7E]).2 = some ([(lineTxt', 1)], 12) := by kernel_rfl
theorem kn7_o2 : (ofW [k7D]).2 = some ([(lineTxt', 0)], 11) := by kernel_rfl
end Go.Proofs.YtejjlojfgcgopaaGreatDoor

namespace Go.Proofs.YtejjlojfgcgopaaGreatDoor
open Go.RowKit Go.Proofs.Fw
set_option maxRecDepth 100000
set_option maxHeartbeats 4000000
theorem amax2_int (x y : Int) : amax2 (.int .i64 x) (.int .i64 y) = some (.int .i64 (max x y)) := by
  simp [amax2]
  try omega
theorem goKn71 : goFn Tryz.prog 78 = true := by kernel_rfl
def knF (s : Nat × Int) (d : Int) : Bool × Nat × Int := (true, s.1 + 1, max s.2 d)
theorem kn71_cs (n : Nd) (d : Int) (c : Nat) (hc : c < 4611686018427387904) (m : Int) {H : AH} {a b : Nat} (hab : a ≠ b) (ha : H.at a = some (.box [.int .i64 (c : Int)])) (hb : H.at b = some (.box [.int .i64 m])) :
    CS Tryz.prog envS 78 [.agg (ndC n), .int .i64 d, .ptr a 0, .ptr b 0] H (.bool true) ((H.set a (some (.box [.int .i64 ((c + 1 : Nat) : Int)]))).set b (some (.box [.int .i64 (max m d)]))) := by
  have hl := ndC_low n
  have l2 := fun (l : List AV) (h : lowL 0 l = true) => lowL_mono (Nat.zero_le 2) l h
  have w1 : IntKind.i64.wrap ((c : Int) + 1) = ((c + 1 : Nat) : Int) := by rw [wrap_i64 (by omega) (by omega)]; rfl
  have key := CS.of_Tr (P := Tryz.prog) (E := envS) (f := 78) (c := bodyOf Tryz.f78) (args := [.agg (ndC n), .int .i64 d, .ptr 0 0, .ptr 1 0]) (H0 := [some (.box [.int .i64 (c : Int)]), some (.box [.int .i64 m])]) (H1 := [some (.box [.int .i64 ((c + 1 : Nat) : Int)]), some (.box [.int .i64 (max m d)])])
    (v := .bool true) Tryz.func78 (by kernel_rfl) 0 (by simp [Tryz.f78]) (fun B hB hG => by
      refine Tr.goW oNilW hG (by kernel_rfl) ?_
      simp [Tryz.f78, w1, -Int.natCast_add, amax2_int]) rfl (by simp [lowH, lowE])
  have := CS.embed (fun i => if i = 0 then a else b) (k := 2) (H := H) (H' := (H.set a (some (.box [.int .i64 ((c + 1 : Nat) : Int)]))).set b (some (.box [.int .i64 (max m d)]))) key rfl rfl (by
    intro i j hi hj he
    rcases (by omega : i = 0 ∨ i = 1) with rfl | rfl <;> rcases (by omega : j = 0 ∨ j = 1) with rfl | rfl <;> simp at he ⊢
    · exact hab he
    · exact hab he.symm) lowS (by simp [l2 _ hl]) rfl (by simp [lowH, lowE]) (by simp [lowH, lowE]) (by
    intro i hi
    rcases (by omega : i = 0 ∨ i = 1) with rfl | rfl
    · rw [if_pos rfl, ha]; rfl
    · rw [if_neg (by decide), hb]; rfl) (by
    intro i hi
    rcases (by omega : i = 0 ∨ i = 1) with rfl | rfl
    · rw [if_pos rfl, at_set_ne (fun h => hab h.symm), at_set_self ha]; rfl
    · rw [if_neg (by decide), at_set_self (by rw [at_set_ne hab]; exact hb)]; rfl) (by
    intro j hj
    have h0 := hj 0 (by decide)
    have h1 := hj 1 (by decide)
    simp at h0 h1
    rw [at_set_ne h1, at_set_ne h0])
  simpa [renL, ren, renL_low _ _ hl] using this
def cloKn (a b : Nat) (hab : a ≠ b) : Clo 78 (Nat × Int) where
  caps := [.ptr a 0, .ptr b 0]
  ids := fun s => [(a, [.int .i64 (s.1 : Int)]), (b, [.int .i64 s.2])]
  keys := [a, b]
  key := fun _ => rfl
  nodup := by simp [hab]
  inj := fun s s' h => by
    simp at h
    obtain ⟨c, m⟩ := s
    obtain ⟨c', m'⟩ := s'
    simp only at h
    rw [h.2, show c = c' by omega]
  lowC := fun s x hx => by simp at hx; rcases hx with rfl | rfl <;> rfl
  Kp := fun H => a < H.length ∧ b < H.length
  kpA := fun H K h => by rw [List.length_append]; omega
  kpW := fun s H h => by rw [wrB_len]; exact h
  kpL := fun H h => ⟨fun i hi => by
    simp at hi
    rcases hi with rfl | rfl
    · exact h.1
    · exact h.2, by simp [lowL, low, h.1, h.2]⟩
  ok := fun j s => s.1 + j < 4611686018427387904
  f := fun s _ d => knF s d
  okN := fun j s n d h => by have h : s.1 + (j + 1) < 4611686018427387904 := h; show s.1 + 1 + j < 4611686018427387904; omega
  okM := fun j s h => by have h : s.1 + (j + 1) < 4611686018427387904 := h; show s.1 + j < 4611686018427387904; omega
  cs := fun j s n d H h hK hst hd0 hd => kn71_cs n d s.1 (by have h : s.1 + (j + 1) < 4611686018427387904 := h; omega) s.2 hab (hst (a, [.int .i64 (s.1 : Int)]) (by simp)) (hst (b, [.int .i64 s.2]) (by simp))
end Go.Proofs.YtejjlojfgcgopaaGreatDoor

namespace Go.Proofs.YtejjlojfgcgopaaGreatDoor
open Go.RowKit Go.Proofs.Fw
set_option maxRecDepth 100000
set_option maxHeartbeats 4000000
def anyL (ow : Own) (ls : List (List UInt8)) : AV := if ls = [] then .nilSlice else .slice ow 1 ls.length (strE.row ls)
theorem anyL_inj {ow ow' : Own} {l m : List (List UInt8)} (h : anyL ow l = anyL ow' m) : l = m := by
  apply strE.av_inj
  unfold anyL at h
  unfold Enc.av
  by_cases h1 : l = []
  · by_cases h2 : m = []
    · rw [if_pos h1, if_pos h2]
    · rw [if_pos h1, if_neg h2] at h; cases h
  · by_cases h2 : m = []
    · rw [if_neg h1, if_pos h2] at h; cases h
    · rw [if_neg h1, if_neg h2] at h
      injection h with _ _ h3 h4
      rw [if_neg h1, if_neg h2, h3, h4]
theorem rep_anyL {g : Gh} {ow : Own} {ls : List (List UInt8)} {v : Value} (h : RepV g (anyL ow ls) v) : RepV g (strE.av ls) v := by
  unfold anyL at h
  unfold Enc.av
  by_cases h1 : ls = []
  · rw [if_pos h1] at h ⊢; exact h
  · rw [if_neg h1] at h ⊢; exact rep_unk g v h
noncomputable def fOfA : Fact Tryz.prog envS := Fact.pure 48 (fun x : Own × List (List UInt8) => x.2.length < 1000000 ∧ ∀ s ∈ x.2, s.length < 1000000) (fun x => [anyL x.1 x.2]) (fun x => treeI (ofW x.2)) (fun x h H => CS.weakA (treeof_cs x.2 h.1 h.2 H) (fun g cargs hr => by
  simp only [RepL] at hr ⊢
  obtain ⟨v, vs, rfl, h1, h2⟩ := hr
  exact ⟨v, vs, rfl, rep_anyL h1, h2⟩)) (fun x y _ _ h => by
  simp only [List.cons.injEq, and_true] at h
  rw [anyL_inj h])
noncomputable def fTparse : Fact Tryz.prog envS := Fact.pure 37 (fun s : List UInt8 => s.length < 900000) (fun s => [.str s]) (fun s => prsI (prsW s)) (fun s h H => tparse_cs s h H) (fun x y _ _ h => by
  simp only [List.cons.injEq, AV.str.injEq, and_true] at h
  rw [h])
noncomputable def fFindP : Fact Tryz.prog envS := Fact.pure 41 (fun x : List Nd × Int => szL x.1 < 4611686018427387904) (fun x => [ndE.av x.1, .int .i64 x.2]) (fun x => .tup [.agg (ndC (findW x.1 x.2).2), .bool (!(findW x.1 x.2).1)]) (fun x h H => find_cs x.1 x.2 h H) (fun x y _ _ h => by
  simp only [List.cons.injEq, AV.int.injEq, true_and, and_true] at h
  rw [ndE.av_inj h.1, h.2])
noncomputable def fCountP : Fact Tryz.prog envS := Fact.pure 44 (fun x : List Nd => szL x < 4611686018427387904) (fun x => [ndE.av x]) (fun x => .int .i64 (szL x : Int)) (fun x h H => count_cs x h H) (fun x y _ _ h => by
  simp only [List.cons.injEq, and_true] at h
  rw [ndE.av_inj h])
noncomputable def Lk7 : List (Fact Tryz.prog envS) := [fTparse, fOfA, fFindP, fCountP, factS fAt, factS fTells]
theorem Lk7_nd : ((Lk7).map (·.f)).Nodup := show ([37, 48, 41, 44, 24, 23] : List Nat).Nodup by decide
structure K7O (O : Orc) : Prop where
  parse : ∀ (s : List UInt8) (H : AH), s.length < 900000 → O 37 [.str s] H = some (prsI (prsW s), H)
  of : ∀ (ow : Own) (ls : List (List UInt8)) (H : AH), ls.length < 1000000 → (∀ s ∈ ls, s.length < 1000000) → O 48 [anyL ow ls] H = some (treeI (ofW ls), H)
  find : ∀ (l : List Nd) (n : Int) (H : AH), szL l < 4611686018427387904 → O 41 [ndE.av l, .int .i64 n] H = some (.tup [.agg (ndC (findW l n).2), .bool (!(findW l n).1)], H)
  count : ∀ (l : List Nd) (H : AH), szL l < 4611686018427387904 → O 44 [ndE.av l] H = some (.int .i64 (szL l : Int), H)
  at_ : ∀ (w : List UInt8) (p c : Int) (H : AH), O 24 [.str w, .int .i64 p, .int .i64 c] H = some (.agg [.slice .full 2 1 [.str w, .int .i64 p], .int .i64 c], H)
  tells : ∀ (l : List (List UInt8 × Int)) (c : Int) (ow : Own) (H : AH), c ≠ 0 → l.length < 1000 → (ow = .unk ∨ ow = .full) → O 23 [errAV l c, .agg [.slice ow 2 l.length (partCells l), .int .i64 c]] H = some (.bool true, H)
theorem oK7_ok : K7O (oOf Lk7) := ⟨fun s H h => oOf_mem Lk7_nd fTparse (by simp [Lk7]) (x := s) h, fun ow ls H h1 h2 => oOf_mem Lk7_nd fOfA (by simp [Lk7]) (x := (ow, ls)) ⟨h1, h2⟩,
  fun l n H h => oOf_mem Lk7_nd fFindP (by simp [Lk7]) (x := (l, n)) h, fun l H h => oOf_mem Lk7_nd fCountP (by simp [Lk7]) (x := l) h,
  fun w p c H => oOf_mem Lk7_nd (factS fAt) (by simp [Lk7]) (x := (w, p, c)) trivial, fun l c ow H h1 h2 h3 => oOf_mem Lk7_nd (factS fTells) (by simp [Lk7]) (x := (l, c, ow)) ⟨h1, h2, h3⟩⟩
theorem oK7_cx : Cx (oOf Lk7) Tryz.prog envS := oOf_cx _ methSOk mixed
theorem K7O.point {O : Orc} (h : K7O O) (a0 : List AV) (H0 : AH) (v0 : AV) (H1 : AH) : K7O (orP 46 a0 H0 v0 H1 O) :=
  ⟨fun s H k => (orP_ne (by decide) ..).trans (h.parse s H k), fun ow ls H k1 k2 => (orP_ne (by decide) ..).trans (h.of ow ls H k1 k2), fun l n H k => (orP_ne (by decide) ..).trans (h.find l n H k),
    fun l H k => (orP_ne (by decide) ..).trans (h.count l H k), fun w p c H => (orP_ne (by decide) ..).trans (h.at_ w p c H), fun l c ow H k1 k2 k3 => (orP_ne (by decide) ..).trans (h.tells l c ow H k1 k2 k3)⟩
def k7H (c m : Int) : AH := [some (.box (ndC kn7F)), some (.box [.int .i64 c]), some (.box [.int .i64 m])]
theorem kn7_walk : wkL (cloKn 1 2 (by decide)).f kn7 0 (0, 0) = (true, 4, 2) := by kernel_rfl
theorem walk7_cs : CS Tryz.prog envS 46 [ndE.av kn7, .func (.func 78) [] [.ptr 1 0, .ptr 2 0]] (k7H 0 0) (.bool true) (k7H 4 2) := by
  have h := walkT_cs (cloKn 1 2 (by decide)) goKn71 (by decide) kn7 (0, 0) (k7H 0 0) (by rw [kn7_sz]; decide) (by show 0 + szL kn7 < _; rw [kn7_sz]; decide) (by constructor <;> decide) (fun x hx => by
    have hx : x ∈ ([(1, [.int .i64 0]), (2, [.int .i64 0])] : List (Nat × List AV)) := hx
    simp only [List.mem_cons, List.not_mem_nil, or_false] at hx
    rcases hx with rfl | rfl <;> rfl) (by simp [k7H, lowH, lowE, lowL_mono (Nat.zero_le _) _ (ndC_low kn7F)])
  rw [kn7_walk] at h
  exact h
@[simp] theorem bsS2 (a b : List UInt8) : abuildSlice Tryz.prog 23 2 [(0, .str a), (1, .str b)] = some (.slice .full 1 2 [.str a, .str b]) := by kernel_rfl
theorem known7_cs (H : AH) : CS Tryz.prog envS 36 [] H (.bool true) H := by
  have X := orP_cx walk7_cs (oK7_cx.toW (S := [41]))
  have hW := orP_at 46 [ndE.av kn7, .func (.func 78) [] [.ptr 1 0, .ptr 2 0]] (k7H 0 0) (.bool true) (k7H 4 2) (oOf Lk7)
  have hO := oK7_ok.point [ndE.av kn7, .func (.func 78) [] [.ptr 1 0, .ptr 2 0]] (k7H 0 0) (.bool true) (k7H 4 2)
  generalize orP 46 [ndE.av kn7, .func (.func 78) [] [.ptr 1 0, .ptr 2 0]] (k7H 0 0) (.bool true) (k7H 4 2) (oOf Lk7) = O at X hW hO
  have p1 := fun H => hO.parse k7S H (by decide)
  rw [kn7_p] at p1
  have o1 : ∀ H, O 48 [.slice .full 1 2 [.str k7D, .str k7E]] H = some (.tup [ndE.av (ofW [k7D, k7E]).1, erI (ofW [k7D, k7E]).2], H) := fun H => hO.of .full [k7D, k7E] H (by decide) (by decide)
  have o2 : ∀ H, O 48 [.slice .full 1 1 [.str k7D]] H = some (.tup [ndE.av (ofW [k7D]).1, erI (ofW [k7D]).2], H) := fun H => hO.of .full [k7D] H (by decide) (by decide)
  rw [kn7_o1] at o1
  rw [kn7_o2] at o2
  generalize (ofW [k7D, k7E]).1 = T1 at *
  generalize (ofW [k7D]).1 = T2 at *
  have d1 := fun H => hO.find kn7 4 H (by rw [kn7_sz]; decide)
  have c1 := fun H => hO.count kn7 H (by rw [kn7_sz]; decide)
  rw [kn7_sz] at c1
  have a1 := fun H => hO.at_ lineTxt' 1 12 H
  have a2 := fun H => hO.at_ lineTxt' 0 11 H
  have t1 : ∀ H, O 23 [.iface 152 (.vptr [.str lineTxt', .int .i64 1, .iface 134 (.int .i64 12)] 0), .agg [.slice .full 2 1 [.str lineTxt', .int .i64 1], .int .i64 12]] H = some (.bool true, H) := fun H => hO.tells [(lineTxt', 1)] 12 .full H (by decide) (by decide) (.inr rfl)
  have t2 : ∀ H, O 23 [.iface 152 (.vptr [.str lineTxt', .int .i64 0, .iface 134 (.int .i64 11)] 0), .agg [.slice .full 2 1 [.str lineTxt', .int .i64 0], .int .i64 11]] H = some (.bool true, H) := fun H => hO.tells [(lineTxt', 0)] 11 .full H (by decide) (by decide) (.inr rfl)
  rw [kn7_found] at d1
  have hF : (findW kn7 4).2 = kn7F := rfl
  rw [hF] at d1
  have hsl : alen Tryz.prog 23 (strE.av kn7L) = some (.int .i64 8) := by rw [strE.alen Tryz.underlying23 kn7L, kn7_l]; rfl
  have g31 : kn7C[65]? = some (ndE.av kn7N.body) := by rw [kn7_c 31 (by decide), ndC_eq]; rfl
  have g33 : kn7C[67]? = some (.int .i64 (-1)) := by rw [kn7_c 33 (by decide), ndC_eq, ← kn7_mid]; rfl
  have g1 : kn7C[35]? = some (.int .i64 7) := by rw [kn7_c 1 (by decide), ndC_eq, ← kn7_end]; rfl
  have hbv : ndE.av kn7N.body = .slice .unk 34 1 (ndE.row kn7N.body) := by
    have h := kn7_bl
    rw [ndE.av_ne (fun hh => by rw [hh] at h; cases h), h]
    rfl
  have q33 : (ndE.row kn7N.body)[33]? = some (.int .i64 5) := by
    have := ndE.row_cell kn7_getM 33 (by decide)
    rw [show ndE.sz = 34 from rfl] at this
    rw [show 33 = 0 * 34 + 33 from rfl, this, ← kn7_midM]
    show (ndC kn7M)[33]? = _
    rw [ndC_eq]; rfl
  have q1 : (ndE.row kn7N.body)[1]? = some (.int .i64 6) := by
    have := ndE.row_cell kn7_getM 1 (by decide)
    rw [show ndE.sz = 34 from rfl] at this
    rw [show 1 = 0 * 34 + 1 from rfl, this, ← kn7_endM]
    show (ndC kn7M)[1]? = _
    rw [ndC_eq]; rfl
  rw [hbv] at g31
  generalize ndE.row kn7N.body = R at *
  simp only [prsI, kn7_av] at p1 d1 c1 hW
  generalize kn7C = C at *
  have eF := ndC_eq kn7F
  have kF := kn7_kind
  simp only [k7H] at hW
  generalize ndC kn7F = F at *
  generalize kn7F = M at *
  simp only [Sx.c, List.cons_append, List.nil_append, kF] at eF
  subst eF
  simp only [k7S, k7D, k7E, lineTxt', erI_some, castP, errAV, List.map, partCells, erI_none] at p1 o1 o2 a1 a2 t1 t2
  refine CS.tr0 lowS Tryz.func36 (by kernel_rfl) 0 (by simp [Tryz.f36]) (fun B hBs hG => ?_) rfl rfl H
  refine Tr.goW X hG (by kernel_rfl) ?_
  simp [Tryz.f36, p1, o1, o2, kn7_l, g31, g33, g1, q33, q1, d1, hW, c1, a1, a2, t1, t2]
end Go.Proofs.YtejjlojfgcgopaaGreatDoor

namespace Go.Proofs.YtejjlojfgcgopaaGreatDoor
open Go.RowKit Go.Proofs.Fw
set_option maxRecDepth 100000
set_option maxHeartbeats 4000000
noncomputable def fKn7 : Fact Tryz.prog envS := Fact.pure 36 (fun _ : Unit => True) (fun _ => []) (fun _ => .bool true) (fun _ _ H => known7_cs H) (fun _ _ _ _ _ => rfl)
noncomputable def Lk8 : List (Fact Tryz.prog envS) := [fKn7, fOfA, fFindP, fCountP, factS fAt, factS fTells]
theorem Lk8_nd : ((Lk8).map (·.f)).Nodup := show ([36, 48, 41, 44, 24, 23] : List Nat).Nodup by decide
structure K8O (O : Orc) : Prop where
  known : ∀ H, O 36 [] H = some (.bool true, H)
  of : ∀ (ow : Own) (ls : List (List UInt8)) (H : AH), ls.length < 1000000 → (∀ s ∈ ls, s.length < 1000000) → O 48 [anyL ow ls] H = some (.tup [ndE.av (ofW ls).1, erI (ofW ls).2], H)
  find : ∀ (l : List Nd) (n : Int) (H : AH), szL l < 4611686018427387904 → O 41 [ndE.av l, .int .i64 n] H = some (.tup [.agg (ndC (findW l n).2), .bool (!(findW l n).1)], H)
  count : ∀ (l : List Nd) (H : AH), szL l < 4611686018427387904 → O 44 [ndE.av l] H = some (.int .i64 (szL l : Int), H)
  at_ : ∀ (w : List UInt8) (p c : Int) (H : AH), O 24 [.str w, .int .i64 p, .int .i64 c] H = some (.agg [.slice .full 2 1 [.str w, .int .i64 p], .int .i64 c], H)
  tells : ∀ (w : List UInt8) (p c : Int) (H : AH), c ≠ 0 → O 23 [.iface 152 (.vptr [.str w, .int .i64 p, .iface 134 (.int .i64 c)] 0), .agg [.slice .full 2 1 [.str w, .int .i64 p], .int .i64 c]] H = some (.bool true, H)
theorem oK8_ok : K8O (oOf Lk8) := ⟨fun H => oOf_mem Lk8_nd fKn7 (by simp [Lk8]) (x := ()) trivial, fun ow ls H h1 h2 => oOf_mem Lk8_nd fOfA (by simp [Lk8]) (x := (ow, ls)) ⟨h1, h2⟩,
  fun l n H h => oOf_mem Lk8_nd fFindP (by simp [Lk8]) (x := (l, n)) h, fun l H h => oOf_mem Lk8_nd fCountP (by simp [Lk8]) (x := l) h,
  fun w p c H => oOf_mem Lk8_nd (factS fAt) (by simp [Lk8]) (x := (w, p, c)) trivial, fun w p c H h1 => oOf_mem Lk8_nd (factS fTells) (by simp [Lk8]) (x := ([(w, p)], c, .full)) ⟨h1, show 1 < 1000 by decide, .inr rfl⟩⟩
theorem oK8_cx : Cx (oOf Lk8) Tryz.prog envS := oOf_cx _ methSOk mixed
theorem wrap_u8 {n : Int} (h0 : 0 ≤ n) (h : n ≤ 255) : IntKind.u8.wrap n = n := by
  simp only [IntKind.wrap, IntKind.bits, IntKind.signed]
  simp
  omega
def opnT : List UInt8 := [100, 111, 32, 105, 32, 61, 32, 49, 44, 32, 50, 10]
def clsT : List UInt8 := [101, 110, 100, 32, 100, 111, 10]
end Go.Proofs.YtejjlojfgcgopaaGreatDoor
