/- StmtItems: declarations as texts, their words, and what the  .. What the rows of the laws on expressions lay: what the runs  -/
import Derived.Test.YtejjlojfgcgopaaGreatDoorZi8
import Derived.Test.YtejjlojfgcgopaaGreatDoorZi7
import Derived.Test.YtejjlojfgcgopaaGreatDoorZi6
import Derived.Test.YtejjlojfgcgopaaGreatDoorZi4
import Derived.Test.YtejjlojfgcgopaaGreatDoorZi3
import Derived.Test.YtejjlojfgcgopaaGreatDoorZi2
import Derived.RangeFuncRecord
import Derived.LoopNIn
import Derived.OrdersIn
import Derived.KernelRfl
import Derived.Deep.Matrix
import Derived.Test.YtejjlojfgcgopaaGreatDoorCards
import Derived.Test.YtejjlojfgcgopaaGreatDoorTie
import Derived.WalkKit
import Derived.ProofKit
import Derived.OpenShut
import Derived.Deep.DeepHandedRow
import Derived.Deep.DeepWitnessRowRef
import Derived.LaidMore
import Derived.LaidSub
import Derived.ChangeMaps5
set_option linter.unusedSimpArgs false
set_option linter.unusedVariables false
namespace Go.Proofs.YtejjlojfgcgopaaGreatDoor
open Go.RowKit Go.Proofs.Fw
set_option maxRecDepth 100000
set_option maxHeartbeats 4000000
abbrev Ky := Nat × List UInt8 × Nat
def vT (i : Nat) : List UInt8 := 118 :: dd i
def dT (r : List UInt8) : List Nat → List UInt8
  | [] => 41 :: r
  | v :: l => 44 :: 32 :: (dd v ++ dT r l)
def itT (i : Nat) (d : List Nat) (r : List UInt8) : List UInt8 := 118 :: (dd i ++ (match d with
  | [] => r
  | v :: l => 40 :: (dd v ++ dT r l)))
def isT2 (r : List UInt8) : Nat → List (List Nat) → List UInt8
  | _, [] => r
  | i, d :: ds => 44 :: 32 :: itT i d (isT2 r (i + 1) ds)
def intTx : List UInt8 := [105, 110, 116, 101, 103, 101, 114, 32]
def dK (K : List Ky) : List Nat → List Ky
  | [] => (3, [41], 0) :: K
  | v :: l => (3, [44], 0) :: (2, dd v, v) :: dK K l
def itK (i : Nat) (d : List Nat) (K : List Ky) : List Ky := (1, vT i, 0) :: (match d with
  | [] => K
  | v :: l => (3, [40], 0) :: (2, dd v, v) :: dK K l)
def isK2 (K : List Ky) : Nat → List (List Nat) → List Ky
  | _, [] => K
  | i, d :: ds => (3, [44], 0) :: itK i d (isK2 K (i + 1) ds)
structure LxT (r : List UInt8) (K : List Ky) : Prop where
  lx : ∀ n p b, r.length < n → ∃ ts, lex n r p b = .ok ts ∧ ts.map strip3 = K
  hd : ∀ c l, r = c :: l → isInner c = false
theorem inner_dig {c : UInt8} (h : isInner c = false) : isDigit c = false := by
  unfold isInner at h
  simp only [Bool.or_eq_false_iff] at h
  exact h.1.2
theorem lex_sg {c : UInt8} (hc : c = 40 ∨ c = 41 ∨ c = 44) (n : Nat) (r : List UInt8) (p : Nat) (b : Bool) : lex (n + 1) (c :: r) p b = behind [⟨3, [c], p, 0⟩] (lex n r (p + 1) false) := by
  have h1 : wordOf (c :: r) = ((3, [c], 0), 0) := by
    rcases hc with rfl | rfl | rfl <;> simp [wordOf, isSmall, isDigit, signLen]
  have hb : isBlank c = false := by rcases hc with rfl | rfl | rfl <;> decide
  have hs : isSmall c = false := by rcases hc with rfl | rfl | rfl <;> decide
  have he : wordErr b c r = 0 := by simp [wordErr, h1, hs]
  rw [lex_word _ _ _ _ _ hb, he, if_neg (by simp), h1]
  simp only [List.length_cons, List.length_nil, Nat.zero_add, List.drop_succ_cons, List.drop_zero]
  rfl
theorem LxT.sign {r : List UInt8} {K : List Ky} (h : LxT r K) {c : UInt8} (hc : c = 40 ∨ c = 41 ∨ c = 44) : LxT (c :: r) ((3, [c], 0) :: K) := by
  refine ⟨fun n p b hn => ?_, fun x l hx => ?_⟩
  · simp only [List.length_cons] at hn
    obtain ⟨n, rfl⟩ : ∃ k, n = k + 1 := ⟨n - 1, by omega⟩
    obtain ⟨ts, h1, h2⟩ := h.lx n (p + 1) false (by omega)
    exact ⟨⟨3, [c], p, 0⟩ :: ts, by rw [lex_sg hc, h1]; rfl, by rw [List.map_cons, h2]; rfl⟩
  · injection hx with hx
    subst hx
    rcases hc with rfl | rfl | rfl <;> decide
theorem LxT.nil : LxT [] [] := ⟨fun n p b _ => ⟨[], lex_end n p b, rfl⟩, fun _ _ h => by cases h⟩
theorem LxT.num {r : List UInt8} {K : List Ky} (h : LxT r K) {v : Nat} (hv : v < 9223372036854775808) (n p : Nat) (hn : (dd v ++ r).length < n) : ∃ ts, lex n (dd v ++ r) p false = .ok ts ∧ ts.map strip3 = (2, dd v, v) :: K := by
  rw [List.length_append] at hn
  have hpos : 0 < (dd v).length := List.length_pos_iff.2 (dd_ok v).1
  obtain ⟨n, rfl⟩ : ∃ k, n = k + 1 := ⟨n - 1, by omega⟩
  obtain ⟨ts, h1, h2⟩ := h.lx n (p + (dd v).length) true (by omega)
  exact ⟨⟨2, dd v, p, v⟩ :: ts, by rw [lex_num hv (fun c l hc => inner_dig (h.hd c l hc)), h1]; rfl, by rw [List.map_cons, h2]; rfl⟩
theorem LxT.comma {r : List UInt8} {K : List Ky} (h : ∀ n p, r.length < n → ∃ ts, lex n r p false = .ok ts ∧ ts.map strip3 = K) : LxT (44 :: 32 :: r) ((3, [44], 0) :: K) := by
  refine ⟨fun n p b hn => ?_, fun x l hx => ?_⟩
  · simp only [List.length_cons] at hn
    obtain ⟨n, rfl⟩ : ∃ k, n = k + 2 := ⟨n - 2, by omega⟩
    obtain ⟨ts, h1, h2⟩ := h n (p + 1 + 1) (by omega)
    exact ⟨⟨3, [44], p, 0⟩ :: ts, by rw [lex_sg (.inr (.inr rfl)), lex_blank (by decide), h1]; rfl, by rw [List.map_cons, h2]; rfl⟩
  · injection hx with hx
    subst hx
    decide
theorem dT_lx {r : List UInt8} {K : List Ky} (h : LxT r K) : ∀ (l : List Nat), (∀ v ∈ l, v < 9223372036854775808) → LxT (dT r l) (dK K l)
  | [], _ => h.sign (.inr (.inl rfl))
  | v :: l, hl => LxT.comma fun n p hn => (dT_lx h l fun x hx => hl x (List.mem_cons_of_mem _ hx)).num (hl v List.mem_cons_self) n p hn
theorem vT_word (i : Nat) (hi : i < 20) {r : List UInt8} (hr : ∀ c l, r = c :: l → isInner c = false) : wordOf (118 :: (dd i ++ r)) = ((1, vT i, 0), 0) ∧ wordErr false 118 (dd i ++ r) = 0 := by
  have hin : ∀ b ∈ (118 : UInt8) :: dd i, isInner b = true := fun b hb => by
    rcases List.mem_cons.1 hb with rfl | hb
    · decide
    · have := (dd_ok i).2.1 b hb
      simp [isInner, this]
  have hf : frontLen isInner (118 :: (dd i ++ r)) = (118 :: dd i).length := front_end (s := 118 :: dd i) hin hr
  have ht : (118 :: (dd i ++ r)).take (118 :: dd i).length = 118 :: dd i := by
    rw [show (118 : UInt8) :: (dd i ++ r) = (118 :: dd i) ++ r from rfl, List.take_left']
    rfl
  have hk : isKey (118 :: dd i) = false := by
    unfold isKey keysL
    simp
  have hs : isSmall 118 = true := by decide
  have hl := dd_len i
  have h1 : wordOf (118 :: (dd i ++ r)) = ((1, vT i, 0), 0) := by
    simp only [wordOf, hs, if_true, hf, ht, hk, Bool.false_eq_true, if_false]
    rw [if_neg (by simp only [List.length_cons]; omega)]
    rfl
  exact ⟨h1, by simp [wordErr, h1]⟩
theorem name_lx {r : List UInt8} {K : List Ky} (h : LxT r K) (i : Nat) (hi : i < 20) (n p : Nat) (hn : (118 :: (dd i ++ r)).length < n) : ∃ ts, lex n (118 :: (dd i ++ r)) p false = .ok ts ∧ ts.map strip3 = (1, vT i, 0) :: K := by
  obtain ⟨h1, h2⟩ := vT_word i hi h.hd
  simp only [List.length_cons, List.length_append] at hn
  obtain ⟨n, rfl⟩ : ∃ k, n = k + 1 := ⟨n - 1, by omega⟩
  have hd : (118 :: (dd i ++ r)).drop (vT i).length = r := by
    rw [show (118 : UInt8) :: (dd i ++ r) = vT i ++ r from rfl, List.drop_left']
    rfl
  obtain ⟨ts, h3, h4⟩ := h.lx n (p + (vT i).length) false (by omega)
  refine ⟨⟨1, vT i, p, 0⟩ :: ts, ?_, by rw [List.map_cons, h4]; rfl⟩
  rw [lex_word _ _ _ _ _ (by decide), h2, if_neg (by simp), h1]
  simp only [hd]
  rw [show ((1 : Nat) == 2) = false by decide, h3]
  rfl
theorem it_lx {r : List UInt8} {K : List Ky} (h : LxT r K) (i : Nat) (hi : i < 20) (d : List Nat) (hd : ∀ v ∈ d, v < 9223372036854775808) (n p : Nat) (hn : (itT i d r).length < n) : ∃ ts, lex n (itT i d r) p false = .ok ts ∧ ts.map strip3 = itK i d K := by
  cases d with
  | nil => exact name_lx h i hi n p hn
  | cons v l =>
    have h1 := dT_lx h l fun x hx => hd x (List.mem_cons_of_mem _ hx)
    have h2 : LxT (40 :: (dd v ++ dT r l)) ((3, [40], 0) :: (2, dd v, v) :: dK K l) := by
      refine ⟨fun n p b hn => ?_, fun x l hx => ?_⟩
      · simp only [List.length_cons] at hn
        obtain ⟨n, rfl⟩ : ∃ k, n = k + 1 := ⟨n - 1, by omega⟩
        obtain ⟨ts, h3, h4⟩ := h1.num (hd v List.mem_cons_self) n (p + 1) (by omega)
        exact ⟨⟨3, [40], p, 0⟩ :: ts, by rw [lex_sg (.inl rfl), h3]; rfl, by rw [List.map_cons, h4]; rfl⟩
      · injection hx with hx
        subst hx
        decide
    exact name_lx h2 i hi n p hn
theorem is_lx {r : List UInt8} {K : List Ky} (h : LxT r K) : ∀ (ds : List (List Nat)) (i : Nat), i + ds.length < 20 → (∀ d ∈ ds, ∀ v ∈ d, v < 9223372036854775808) → LxT (isT2 r i ds) (isK2 K i ds)
  | [], _, _, _ => h
  | d :: ds, i, hi, hd => by
    simp only [List.length_cons] at hi
    exact LxT.comma fun n p hn => it_lx (is_lx h ds (i + 1) (by omega) fun x hx => hd x (List.mem_cons_of_mem _ hx)) i (by omega) d (hd d List.mem_cons_self) n p hn
def declX (d : List Nat) (ds : List (List Nat)) (r : List UInt8) : List UInt8 := intTx ++ itT 0 d (isT2 r 1 ds)
def dclK (d : List Nat) (ds : List (List Nat)) (K : List Ky) : List Ky := (4, integerT, 0) :: itK 0 d (isK2 K 1 ds)
theorem int_lex (n : Nat) (r : List UInt8) : lex (n + 9) (intTx ++ r) 0 false = behind [⟨4, integerT, 0, 0⟩] (lex (n + 7) r 8 false) := by
  have e : intTx ++ r = 105 :: (110 :: 116 :: 101 :: 103 :: 101 :: 114 :: 32 :: r) := rfl
  rw [e]
  have h1 : wordOf (105 :: 110 :: 116 :: 101 :: 103 :: 101 :: 114 :: 32 :: r) = ((4, integerT, 0), 0) := by kernel_rfl
  have h2 : wordErr false 105 (110 :: 116 :: 101 :: 103 :: 101 :: 114 :: 32 :: r) = 0 := by simp [wordErr, h1]
  rw [lex_word _ _ _ _ _ (by decide), h2, if_neg (by simp), h1]
  have hd : (105 :: 110 :: 116 :: 101 :: 103 :: 101 :: 114 :: 32 :: r).drop integerT.length = 32 :: r := rfl
  simp only [hd]
  rw [show ((4 : Nat) == 2) = false by decide, lex_blank (by decide)]
  rfl
theorem decl_lx {r : List UInt8} {K : List Ky} (h : LxT r K) (d : List Nat) (ds : List (List Nat)) (hl : ds.length < 10) (hd : ∀ x ∈ d :: ds, ∀ v ∈ x, v < 9223372036854775808) : ∃ ts, lex ((declX d ds r).length + 1) (declX d ds r) 0 false = .ok ts ∧ ts.map strip3 = dclK d ds K := by
  obtain ⟨ts, h1, h2⟩ := it_lx (is_lx h ds 1 (by omega) fun x hx => hd x (List.mem_cons_of_mem _ hx)) 0 (by omega) d (hd d List.mem_cons_self) ((itT 0 d (isT2 r 1 ds)).length + 7) 8 (by omega)
  refine ⟨⟨4, integerT, 0, 0⟩ :: ts, ?_, by rw [List.map_cons, h2]; rfl⟩
  unfold declX
  rw [List.length_append, show intTx.length + (itT 0 d (isT2 r 1 ds)).length + 1 = (itT 0 d (isT2 r 1 ds)).length + 9 by have : intTx.length = 8 := rfl; omega, int_lex, h1]
  rfl
theorem must_err (ts : List Wd) (j : Nat) (e : List (List UInt8 × Nat) × Nat) (k : Nat) (s : List UInt8) : mustW ts ⟨j, some e⟩ k s = (wd0, ⟨j, some e⟩) := by simp [mustW, isW, Sr.fail]
section
variable {ts : List Wd} {K : List Ky}
theorem ky_at (hK : ts.map strip3 = K) {i : Nat} {k : Nat} {t : List UInt8} {n : Nat} {L : List Ky} (h : K.drop i = (k, t, n) :: L) : ∃ w, ts[i]? = some w ∧ w.kind = k ∧ w.text = t ∧ w.n = n ∧ K.drop (i + 1) = L := by
  have h1 : K[i]? = some (k, t, n) := by
    have := List.getElem?_drop (xs := K) (i := i) (j := 0)
    rw [h] at this
    simpa using this.symm
  rw [← hK, List.getElem?_map] at h1
  cases hw : ts[i]? with
  | none => rw [hw] at h1; cases h1
  | some w =>
    rw [hw] at h1
    simp only [Option.map_some, Option.some.injEq, strip3, Prod.mk.injEq] at h1
    refine ⟨w, rfl, h1.1, h1.2.1, h1.2.2, ?_⟩
    rw [← List.drop_drop, h]
    rfl
theorem isK_yes (hK : ts.map strip3 = K) {i k : Nat} {t : List UInt8} {n : Nat} {L : List Ky} (h : K.drop i = (k, t, n) :: L) {s : List UInt8} (hs : s = [] ∨ s = t) : isK ts i k s = true := by
  obtain ⟨w, h1, h2, h3, _⟩ := ky_at hK h
  unfold isK
  rw [h1]
  rcases hs with rfl | rfl <;> simp [h2, h3]
theorem isK_no (hK : ts.map strip3 = K) {i k k' : Nat} {t : List UInt8} {n : Nat} {L : List Ky} (h : K.drop i = (k, t, n) :: L) {s : List UInt8} (hs : k ≠ k' ∨ (s ≠ [] ∧ s ≠ t)) : isK ts i k' s = false := by
  obtain ⟨w, h1, h2, h3, _⟩ := ky_at hK h
  unfold isK
  rw [h1]
  rcases hs with hs | ⟨hs, hs2⟩
  · simp [h2, hs]
  · have : ¬ t = s := fun h => hs2 h.symm
    simp [h2, h3, hs, this]
theorem isK_end (hK : ts.map strip3 = K) {i k : Nat} (h : K.drop i = []) (s : List UInt8) : isK ts i k s = false := by
  have : ts[i]? = none := List.getElem?_eq_none (by
    have := congrArg List.length h
    rw [List.length_drop, ← hK, List.length_map] at this
    simp at this
    omega)
  unfold isK
  rw [this]
theorem must_yes (hK : ts.map strip3 = K) {i k : Nat} {t : List UInt8} {n : Nat} {L : List Ky} (h : K.drop i = (k, t, n) :: L) {s : List UInt8} (hs : s = [] ∨ s = t) : ∃ w, mustW ts ⟨i, none⟩ k s = (w, ⟨i + 1, none⟩) ∧ w.text = t ∧ w.n = n := by
  obtain ⟨w, h1, h2, h3, h4, _⟩ := ky_at hK h
  refine ⟨w, ?_, h3, h4⟩
  unfold mustW isW
  rw [isK_yes hK h hs]
  simp [h1, Sr.step]
theorem dim_read (hK : ts.map strip3 = K) : ∀ (l : List Nat) (v i n : Nat) (d : List Int) (L : List Ky), K.drop i = (2, dd v, v) :: dK L l → (∀ x ∈ v :: l, x ≠ 0) → d.length + 1 + l.length ≤ 4 → l.length < n →
    dimL ts n d ⟨i, none⟩ = (d ++ (v :: l).map (fun x : Nat => (x : Int)), ⟨i + 1 + 2 * l.length, none⟩) ∧ K.drop (i + 1 + 2 * l.length) = (3, [41], 0) :: L
  | [], v, i, n, d, L, h, h0, h4, hn => by
    obtain ⟨n, rfl⟩ : ∃ k, n = k + 1 := ⟨n - 1, by omega⟩
    obtain ⟨w, hm, _, hwn⟩ := must_yes hK h (s := []) (.inl rfl)
    obtain ⟨_, _, _, _, _, h1⟩ := ky_at hK h
    have hv := h0 v List.mem_cons_self
    have hc : isK ts (i + 1) 3 commaT = false := isK_no hK h1 (.inr ⟨by decide, by decide⟩)
    refine ⟨?_, h1⟩
    simp only [dimL, hm, hwn, hv, if_false, isW, hc, Option.isNone_none, Bool.and_false, Bool.false_eq_true]
    rfl
  | u :: l, v, i, n, d, L, h, h0, h4, hn => by
    simp only [List.length_cons] at h4 hn
    obtain ⟨n, rfl⟩ : ∃ k, n = k + 1 := ⟨n - 1, by omega⟩
    obtain ⟨w, hm, _, hwn⟩ := must_yes hK h (s := []) (.inl rfl)
    obtain ⟨_, _, _, _, _, h1⟩ := ky_at hK h
    obtain ⟨_, _, _, _, _, h2⟩ := ky_at hK (show K.drop (i + 1) = (3, [44], 0) :: (2, dd u, u) :: dK L l from h1)
    have hv := h0 v List.mem_cons_self
    have hc : isK ts (i + 1) 3 commaT = true := isK_yes hK (show K.drop (i + 1) = (3, [44], 0) :: (2, dd u, u) :: dK L l from h1) (.inr rfl)
    have hl : (d ++ [(v : Int)]).length = d.length + 1 := by simp
    obtain ⟨r1, r2⟩ := dim_read hK l u (i + 1 + 1) n (d ++ [(v : Int)]) L h2 (fun x hx => h0 x (List.mem_cons_of_mem _ hx)) (by omega) (by omega)
    have e : i + 1 + 2 * (l.length + 1) = i + 1 + 1 + 1 + 2 * l.length := by omega
    rw [List.length_cons, e]
    refine ⟨?_, r2⟩
    have hstep : (⟨i + 1, none⟩ : Sr).step = ⟨i + 1 + 1, none⟩ := rfl
    simp only [dimL, hm, hwn, hv, if_false, isW, hc, Option.isNone_none, Bool.and_true, if_true, hl]
    rw [if_neg (by omega), hstep, r1]
    simp
def szI (d : List Nat) : Nat := if d = [] then 1 else 2 + 2 * d.length
theorem item_read (hK : ts.map strip3 = K) (j : Nat) (d : List Nat) (i : Nat) (L : List Ky) (h : K.drop i = itK j d L) (h0 : ∀ x ∈ d, x ≠ 0) (h4 : d.length ≤ 4) (hL : ∀ t n M, L = (3, t, n) :: M → t ≠ [40]) :
    itemW ts ⟨i, none⟩ = (⟨vT j, d.map (fun x : Nat => (x : Int))⟩, ⟨i + szI d, none⟩) ∧ K.drop (i + szI d) = L := by
  cases d with
  | nil =>
    have h : K.drop i = (1, vT j, 0) :: L := h
    obtain ⟨w, hm, hwt, _⟩ := must_yes hK h (s := []) (.inl rfl)
    obtain ⟨_, _, _, _, _, h1⟩ := ky_at hK h
    have hno : isK ts (i + 1) 3 openT = false := by
      cases L with
      | nil => exact isK_end hK h1 _
      | cons q M =>
        obtain ⟨k, t, n⟩ := q
        by_cases hk : k = 3
        · subst hk
          exact isK_no hK h1 (.inr ⟨by decide, fun hh => hL t n M rfl hh.symm⟩)
        · exact isK_no hK h1 (.inl hk)
    refine ⟨?_, h1⟩
    simp only [itemW, hm, isW, hno, Bool.and_false, Bool.false_eq_true, if_false, hwt]
    rfl
  | cons v l =>
    have h : K.drop i = (1, vT j, 0) :: (3, [40], 0) :: (2, dd v, v) :: dK L l := h
    simp only [List.length_cons] at h4
    obtain ⟨w, hm, hwt, _⟩ := must_yes hK h (s := []) (.inl rfl)
    obtain ⟨_, _, _, _, _, h1⟩ := ky_at hK h
    obtain ⟨_, _, _, _, _, h2⟩ := ky_at hK h1
    have hop : isK ts (i + 1) 3 openT = true := isK_yes hK h1 (.inr rfl)
    obtain ⟨r1, r2⟩ := dim_read hK l v (i + 1 + 1) 5 [] L h2 h0 (by simp only [List.length_nil]; omega) (by omega)
    obtain ⟨w2, hm2, _, _⟩ := must_yes hK r2 (s := shutT) (.inr rfl)
    obtain ⟨_, _, _, _, _, h3⟩ := ky_at hK r2
    have e : i + szI (v :: l) = i + 1 + 1 + 1 + 2 * l.length + 1 := by unfold szI; rw [if_neg (by simp), List.length_cons]; omega
    have hstep : (⟨i + 1, none⟩ : Sr).step = ⟨i + 1 + 1, none⟩ := rfl
    rw [e]
    refine ⟨?_, h3⟩
    simp only [itemW, hm, isW, hop, Option.isNone_none, Bool.and_true, if_true, hstep, r1, hm2, hwt]
    simp
def CmE (L : List Ky) : Prop := ∀ t n M, L = (3, t, n) :: M → t ≠ [40]
theorem isK2_cm (hK : ts.map strip3 = K) {L : List Ky} (h : CmE L) (i : Nat) (ds : List (List Nat)) : CmE (isK2 L i ds) := by
  cases ds with
  | nil => exact h
  | cons d ds =>
    intro t n M he
    injection he with he
    injection he with _ he
    injection he with he
    rw [← he]; decide
def itsOf : Nat → List (List Nat) → List It
  | _, [] => []
  | j, d :: ds => ⟨vT j, d.map (fun x : Nat => (x : Int))⟩ :: itsOf (j + 1) ds
def szS : List (List Nat) → Nat
  | [] => 0
  | d :: ds => 1 + szI d + szS ds
theorem items_read (hK : ts.map strip3 = K) (L : List Ky) (hL : CmE L) : ∀ (ds : List (List Nat)) (j i m : Nat) (l : List It), K.drop i = isK2 L j ds → (∀ d ∈ ds, d.length ≤ 4 ∧ ∀ x ∈ d, x ≠ 0) →
    itemL ts (ds.length + m) l ⟨i, none⟩ = itemL ts m (l ++ itsOf j ds) ⟨i + szS ds, none⟩ ∧ K.drop (i + szS ds) = L
  | [], j, i, m, l, h, _ => by simp [itsOf, szS]; exact h
  | d :: ds, j, i, m, l, h, hd => by
    have h : K.drop i = (3, [44], 0) :: itK j d (isK2 L (j + 1) ds) := h
    obtain ⟨_, _, _, _, _, h1⟩ := ky_at hK h
    have hc : isK ts i 3 commaT = true := isK_yes hK h (.inr rfl)
    obtain ⟨hd4, hd0⟩ := hd d List.mem_cons_self
    obtain ⟨r1, r2⟩ := item_read hK j d (i + 1) (isK2 L (j + 1) ds) h1 hd0 hd4 (isK2_cm hK hL _ _)
    obtain ⟨s1, s2⟩ := items_read hK L hL ds (j + 1) (i + 1 + szI d) m (l ++ [⟨vT j, d.map (fun x : Nat => (x : Int))⟩]) r2 (fun x hx => hd x (List.mem_cons_of_mem _ hx))
    have e : (d :: ds).length + m = (ds.length + m) + 1 := by rw [List.length_cons]; omega
    have e2 : i + szS (d :: ds) = i + 1 + szI d + szS ds := by rw [szS]; omega
    have hstep : (⟨i, none⟩ : Sr).step = ⟨i + 1, none⟩ := rfl
    rw [e, e2]
    refine ⟨?_, s2⟩
    rw [itemL]
    simp only [isW, hc, Option.isNone_none, Bool.and_true, if_true, hstep, r1, s1]
    rw [itsOf]
    simp
theorem zero_read (hK : ts.map strip3 = K) (i m : Nat) (l : List It) (h : K.drop i = [(3, [44], 0), (1, [122], 0), (3, [40], 0), (2, [48], 0), (3, [41], 0)]) : (itemL ts (m + 1) l ⟨i, none⟩).2.err = some ([(stmtTxt, i + 3)], 1) := by
  obtain ⟨_, _, _, _, _, h1⟩ := ky_at hK h
  obtain ⟨_, _, _, _, _, h2⟩ := ky_at hK h1
  obtain ⟨_, _, _, _, _, h3⟩ := ky_at hK h2
  obtain ⟨w, hm, hwt, _⟩ := must_yes hK h1 (s := []) (.inl rfl)
  obtain ⟨w3, hm3, _, hn3⟩ := must_yes hK h3 (s := []) (.inl rfl)
  have hc : isK ts i 3 commaT = true := isK_yes hK h (.inr rfl)
  have ho : isK ts (i + 1 + 1) 3 openT = true := isK_yes hK h2 (.inr rfl)
  have hs1 : (⟨i, none⟩ : Sr).step = ⟨i + 1, none⟩ := rfl
  have hs2 : (⟨i + 1 + 1, none⟩ : Sr).step = ⟨i + 1 + 1 + 1, none⟩ := rfl
  have hdim : dimL ts 5 [] ⟨i + 1 + 1 + 1, none⟩ = ([0], ⟨i + 1 + 1 + 1 + 1, some ([(stmtTxt, i + 1 + 1 + 1)], 1)⟩) := by
    simp [dimL, hm3, hn3, Sr.fail, isW]
  have hit : itemW ts ⟨i + 1, none⟩ = (⟨w.text, [0]⟩, ⟨i + 1 + 1 + 1 + 1, some ([(stmtTxt, i + 1 + 1 + 1)], 1)⟩) := by
    simp [itemW, hm, isW, ho, hs2, hdim, must_err]
  rw [itemL]
  simp only [isW, hc, Option.isNone_none, Bool.and_true, if_true, hs1, hit]
  cases m with
  | zero => rfl
  | succ m => simp [itemL, isW]
end
end Go.Proofs.YtejjlojfgcgopaaGreatDoor

namespace Go.Proofs.YtejjlojfgcgopaaGreatDoor
open Go.RowKit Go.Proofs.Fw
set_option maxRecDepth 100000
set_option maxHeartbeats 4000000
theorem dK_len (K : List Ky) : ∀ l, (dK K l).length = 1 + 2 * l.length + K.length
  | [] => by simp only [dK, List.length_cons, List.length_nil]; omega
  | v :: l => by have := dK_len K l; simp only [dK, List.length_cons, this]; omega
theorem itK_len (i : Nat) (d : List Nat) (K : List Ky) : (itK i d K).length = szI d + K.length := by
  cases d with
  | nil => simp only [itK, szI, List.length_cons, if_true]; omega
  | cons v l => simp only [itK, List.length_cons, dK_len, szI, if_neg (List.cons_ne_nil v l)]; omega
theorem isK2_len (K : List Ky) : ∀ (ds : List (List Nat)) (i : Nat), (isK2 K i ds).length = szS ds + K.length
  | [], _ => by simp [isK2, szS]
  | d :: ds, i => by simp only [isK2, List.length_cons, itK_len, isK2_len K ds, szS]; omega
theorem szS_ge : ∀ ds : List (List Nat), ds.length ≤ szS ds
  | [] => Nat.zero_le _
  | d :: ds => by have := szS_ge ds; simp only [List.length_cons, szS]; omega
def nK (d : List Nat) (ds : List (List Nat)) : Nat := 1 + szI d + szS ds
theorem dclK_len (d : List Nat) (ds : List (List Nat)) (K : List Ky) : (dclK d ds K).length = nK d ds + K.length := by
  simp only [dclK, List.length_cons, itK_len, isK2_len, nK]; omega
structure DsOk (d : List Nat) (ds : List (List Nat)) : Prop where
  len : ds.length < 8
  ok : ∀ x ∈ d :: ds, x.length ≤ 4 ∧ ∀ v ∈ x, v ≠ 0 ∧ v < 100000
def declM (d : List Nat) (ds : List (List Nat)) : Sm := { kind := 1, items := itsOf 0 (d :: ds) }
section
variable {ts : List Wd} {L : List Ky} {d : List Nat} {ds : List (List Nat)}
theorem decl_first {K : List Ky} (hK : ts.map strip3 = (4, integerT, 0) :: K) : stmtW ts = ({ kind := 1, items := (itemsW ts ⟨1, none⟩).1 }, (itemsW ts ⟨1, none⟩).2) := by
  obtain ⟨w, h1, h2, h3, _⟩ := ky_at hK (i := 0) (L := K) rfl
  unfold stmtW
  rw [h1]
  simp [h2, h3, keyW]
theorem par_ok {x : Sm} {n : Nat} (hne : ts ≠ []) (h : stmtW ts = (x, ⟨n, none⟩)) (hn : ts.length ≤ n) : parseW ts = (x, none) := by
  unfold parseW
  rw [if_neg hne, h]
  simp [Nat.not_lt.2 hn]
theorem par_err {e : List (List UInt8 × Nat) × Nat} (hne : ts ≠ []) (h : (stmtW ts).2.err = some e) : parseW ts = ({}, some e) := by
  unfold parseW
  rw [if_neg hne]
  have : ∀ r : Sr, r.err = some e → (if r.at_ < ts.length then r.fail r.at_ 2 else r).err = some e := by
    intro r hr
    split
    · unfold Sr.fail; simp [hr]
    · exact hr
  simp only [this _ h]
theorem decl_n (hK : ts.map strip3 = dclK d ds L) : ts.length = nK d ds + L.length := by rw [← dclK_len, ← hK, List.length_map]
theorem decl_ne (hK : ts.map strip3 = dclK d ds L) : ts ≠ [] := by
  have := decl_n hK
  rintro rfl
  unfold nK at this
  simp only [List.length_nil] at this
  omega
theorem decl_items (hK : ts.map strip3 = dclK d ds L) (hL : CmE L) (h : DsOk d ds) : ∃ m, itemsW ts ⟨1, none⟩ = itemL ts (m + 1) (itsOf 0 (d :: ds)) ⟨nK d ds, none⟩ ∧ (dclK d ds L).drop (nK d ds) = L := by
  obtain ⟨hd4, hd0⟩ := h.ok d List.mem_cons_self
  obtain ⟨r1, r2⟩ := item_read hK 0 d 1 (isK2 L 1 ds) rfl (fun x hx => (hd0 x hx).1) hd4 (isK2_cm hK hL 1 ds)
  have hts := decl_n hK
  have hge := szS_ge ds
  have e : ts.length + 1 = ds.length + ((ts.length - ds.length) + 1) := by unfold nK at hts; omega
  obtain ⟨s1, s2⟩ := items_read hK L hL ds 1 (1 + szI d) ((ts.length - ds.length) + 1) [⟨vT 0, d.map (fun x : Nat => (x : Int))⟩] r2 (fun x hx => ⟨(h.ok x (List.mem_cons_of_mem _ hx)).1, fun v hv => ((h.ok x (List.mem_cons_of_mem _ hx)).2 v hv).1⟩)
  refine ⟨ts.length - ds.length, ?_, s2⟩
  unfold itemsW
  rw [r1]
  exact (congrArg (fun n => itemL ts n [⟨vT 0, d.map (fun x : Nat => (x : Int))⟩] ⟨1 + szI d, none⟩) e).trans s1
theorem decl_par (hK : ts.map strip3 = dclK d ds []) (h : DsOk d ds) : parseW ts = (declM d ds, none) := by
  obtain ⟨m, e1, e2⟩ := decl_items hK (fun _ _ _ h => by cases h) h
  have hi : itemsW ts ⟨1, none⟩ = (itsOf 0 (d :: ds), ⟨nK d ds, none⟩) := by
    rw [e1, itemL]
    simp [isW, isK_end hK e2 commaT]
  refine par_ok (n := nK d ds) (decl_ne hK) ?_ (by rw [decl_n hK]; exact Nat.le_refl _)
  rw [decl_first hK, hi]
  rfl
def zK : List Ky := [(3, [44], 0), (1, [122], 0), (3, [40], 0), (2, [48], 0), (3, [41], 0)]
def fK : List Ky := [(3, [44], 0), (1, [122], 0), (3, [40], 0), (2, [49], 1), (3, [44], 0), (2, [50], 2), (3, [44], 0), (2, [51], 3), (3, [44], 0), (2, [52], 4), (3, [44], 0), (2, [53], 5), (3, [41], 0)]
theorem zK_cm : CmE zK := fun t n M h => by
  injection h with h
  injection h with _ h
  injection h with h
  rw [← h]; decide
theorem fK_cm : CmE fK := fun t n M h => by
  injection h with h
  injection h with _ h
  injection h with h
  rw [← h]; decide
theorem decl_zero (hK : ts.map strip3 = dclK d ds zK) (h : DsOk d ds) : parseW ts = ({}, some ([(stmtTxt, nK d ds + 3)], 1)) := by
  obtain ⟨m, e1, e2⟩ := decl_items hK zK_cm h
  refine par_err (decl_ne hK) ?_
  rw [decl_first hK]
  show (itemsW ts ⟨1, none⟩).2.err = _
  rw [e1]
  exact zero_read hK _ _ _ e2
theorem dimL_step {w : Wd} {j v : Nat} (hm : mustW ts ⟨j, none⟩ 2 [] = (w, ⟨j + 1, none⟩)) (hn : w.n = v) (hv : v ≠ 0) (hc : isK ts (j + 1) 3 commaT = true) (n : Nat) (d : List Int) : dimL ts (n + 1) d ⟨j, none⟩ = dimL ts n (d ++ [(v : Int)]) (if (d ++ [(v : Int)]).length = 4 then ⟨j + 1 + 1, some ([(stmtTxt, j + 1)], 4)⟩ else ⟨j + 1 + 1, none⟩) := by
  simp only [dimL, hm, hn, hv, if_false, isW, hc, Option.isNone_none, Bool.and_true, if_true]
  congr 1
  split <;> rfl
theorem five_read {K : List Ky} (hK : ts.map strip3 = K) (i m : Nat) (l : List It) (h : K.drop i = fK) : (itemL ts (m + 1) l ⟨i, none⟩).2.err = some ([(stmtTxt, i + 10)], 4) := by
  unfold fK at h
  obtain ⟨_, _, _, _, _, h1⟩ := ky_at hK h
  obtain ⟨_, _, _, _, _, h2⟩ := ky_at hK h1
  obtain ⟨_, _, _, _, _, h3⟩ := ky_at hK h2
  obtain ⟨_, _, _, _, _, h4⟩ := ky_at hK h3
  obtain ⟨_, _, _, _, _, h5⟩ := ky_at hK h4
  obtain ⟨_, _, _, _, _, h6⟩ := ky_at hK h5
  obtain ⟨_, _, _, _, _, h7⟩ := ky_at hK h6
  obtain ⟨_, _, _, _, _, h8⟩ := ky_at hK h7
  obtain ⟨_, _, _, _, _, h9⟩ := ky_at hK h8
  obtain ⟨_, _, _, _, _, h10⟩ := ky_at hK h9
  obtain ⟨w, hm, hwt, _⟩ := must_yes hK h1 (s := []) (.inl rfl)
  obtain ⟨w3, m3, _, n3⟩ := must_yes hK h3 (s := []) (.inl rfl)
  obtain ⟨w5, m5, _, n5⟩ := must_yes hK h5 (s := []) (.inl rfl)
  obtain ⟨w7, m7, _, n7⟩ := must_yes hK h7 (s := []) (.inl rfl)
  obtain ⟨w9, m9, _, n9⟩ := must_yes hK h9 (s := []) (.inl rfl)
  have c0 : isK ts i 3 commaT = true := isK_yes hK h (.inr rfl)
  have o2 : isK ts (i + 1 + 1) 3 openT = true := isK_yes hK h2 (.inr rfl)
  have c4 : isK ts (i + 1 + 1 + 1 + 1) 3 commaT = true := isK_yes hK h4 (.inr rfl)
  have c6 : isK ts (i + 1 + 1 + 1 + 1 + 1 + 1) 3 commaT = true := isK_yes hK h6 (.inr rfl)
  have c8 : isK ts (i + 1 + 1 + 1 + 1 + 1 + 1 + 1 + 1) 3 commaT = true := isK_yes hK h8 (.inr rfl)
  have c10 : isK ts (i + 1 + 1 + 1 + 1 + 1 + 1 + 1 + 1 + 1 + 1) 3 commaT = true := isK_yes hK h10 (.inr rfl)
  have st : ∀ j : Nat, (⟨j, none⟩ : Sr).step = ⟨j + 1, none⟩ := fun j => rfl
  have st2 : ∀ (j : Nat) e, (⟨j, some e⟩ : Sr).step = ⟨j + 1, some e⟩ := fun j e => rfl
  have d1 := dimL_step m3 n3 (by decide) c4 4 []
  have d2 := dimL_step m5 n5 (by decide) c6 3 [1]
  have d3 := dimL_step m7 n7 (by decide) c8 2 [1, 2]
  have d4 := dimL_step m9 n9 (by decide) c10 1 [1, 2, 3]
  have d5 : ∀ (d : List Int) (j : Nat) (e : List (List UInt8 × Nat) × Nat), dimL ts 1 d ⟨j, some e⟩ = (d, ⟨j, some e⟩) := fun _ _ _ => by simp [dimL]
  have hdim : dimL ts 5 [] ⟨i + 1 + 1 + 1, none⟩ = ([1, 2, 3, 4], ⟨i + 1 + 1 + 1 + 1 + 1 + 1 + 1 + 1 + 1 + 1 + 1, some ([(stmtTxt, i + 1 + 1 + 1 + 1 + 1 + 1 + 1 + 1 + 1 + 1)], 4)⟩) := d1.trans (d2.trans (d3.trans (d4.trans (d5 _ _ _))))
  have hit : (itemW ts ⟨i + 1, none⟩).2.err = some ([(stmtTxt, i + 10)], 4) := by
    simp [itemW, hm, isW, o2, st, hdim, must_err]
  rw [itemL]
  simp only [isW, c0, Option.isNone_none, Bool.and_true, if_true, st]
  generalize (itemW ts ⟨i + 1, none⟩).1 = x
  generalize (itemW ts ⟨i + 1, none⟩).2 = r at hit
  cases m with
  | zero => exact hit
  | succ m =>
    rw [itemL]
    have : isW ts r 3 commaT = false := by unfold isW; rw [hit]; rfl
    rw [this]
    exact hit
theorem decl_five (hK : ts.map strip3 = dclK d ds fK) (h : DsOk d ds) : parseW ts = ({}, some ([(stmtTxt, nK d ds + 10)], 4)) := by
  obtain ⟨m, e1, e2⟩ := decl_items hK fK_cm h
  refine par_err (decl_ne hK) ?_
  rw [decl_first hK]
  show (itemsW ts ⟨1, none⟩).2.err = _
  rw [e1]
  exact five_read hK _ _ _ e2
end
theorem dT_app (r : List UInt8) : ∀ l, dT r l = dT [] l ++ r
  | [] => rfl
  | v :: l => by simp only [dT, dT_app r l, List.cons_append, List.append_assoc]
theorem itT_app (i : Nat) (d : List Nat) (r : List UInt8) : itT i d r = itT i d [] ++ r := by
  cases d with
  | nil => simp [itT]
  | cons v l => simp only [itT, dT_app r l, List.cons_append, List.append_assoc]
theorem isT2_app (r : List UInt8) : ∀ (ds : List (List Nat)) (i : Nat), isT2 r i ds = isT2 [] i ds ++ r
  | [], _ => rfl
  | d :: ds, i => by rw [isT2, isT2, itT_app, isT2_app r ds, itT_app i d (isT2 [] (i + 1) ds)]; simp
theorem declX_app (d : List Nat) (ds : List (List Nat)) (r : List UInt8) : declX d ds r = declX d ds [] ++ r := by
  unfold declX
  rw [isT2_app, itT_app, itT_app 0 d (isT2 [] 1 ds)]
  simp
def Pl (s : List UInt8) : Prop := ∀ c ∈ s, c ≠ 10 ∧ c ≠ 33
theorem Pl.app {a b : List UInt8} (ha : Pl a) (hb : Pl b) : Pl (a ++ b) := fun c hc => (List.mem_append.1 hc).elim (ha c) (hb c)
theorem dT_pl : ∀ l, Pl (dT [] l)
  | [] => by unfold Pl; decide
  | v :: l => Pl.app (a := [44, 32]) (by unfold Pl; decide) (Pl.app (dd_plain v) (dT_pl l))
theorem itT_pl (i : Nat) (d : List Nat) : Pl (itT i d []) := by
  refine Pl.app (a := [118]) (by unfold Pl; decide) (Pl.app (dd_plain i) ?_)
  cases d with
  | nil => exact fun c hc => absurd hc List.not_mem_nil
  | cons v l => exact Pl.app (a := [40]) (by unfold Pl; decide) (Pl.app (dd_plain v) (dT_pl l))
theorem isT2_pl : ∀ (ds : List (List Nat)) (i : Nat), Pl (isT2 [] i ds)
  | [], _ => fun c hc => absurd hc List.not_mem_nil
  | d :: ds, i => by
    rw [isT2, itT_app]
    exact Pl.app (a := [44, 32]) (by unfold Pl; decide) ((itT_pl i d).app (isT2_pl ds (i + 1)))
theorem declX_pl (d : List Nat) (ds : List (List Nat)) : Pl (declX d ds []) := by
  unfold declX
  rw [itT_app]
  exact Pl.app (by unfold Pl; decide) ((itT_pl 0 d).app (isT2_pl ds 1))
theorem dd_pow : ∀ (k n : Nat), n < 10 ^ (k + 1) → (dd n).length ≤ k + 1
  | 0, n, h => by rw [dd_lt (by omega)]; simp
  | k + 1, n, h => by
    by_cases h1 : n < 10
    · rw [dd_lt h1]; simp
    · have := dd_pow k (n / 10) (by rw [Nat.pow_succ] at h; omega)
      rw [dd_ge h1, List.length_append]
      simp only [List.length_cons, List.length_nil]
      omega
theorem dT_len : ∀ (l : List Nat), (∀ v ∈ l, v < 100000) → (dT [] l).length ≤ 1 + 7 * l.length
  | [], _ => by simp [dT]
  | v :: l, h => by
    have h1 := dT_len l fun x hx => h x (List.mem_cons_of_mem _ hx)
    have h2 := dd_pow 4 v (h v List.mem_cons_self)
    simp only [dT, List.length_cons, List.length_append]
    omega
theorem itT_len (i : Nat) (d : List Nat) (hi : i < 100) (h4 : d.length ≤ 4) (h : ∀ v ∈ d, v < 100000) : (itT i d []).length ≤ 50 := by
  have h1 := dd_pow 1 i hi
  cases d with
  | nil => simp only [itT, List.length_cons, List.length_append, List.length_nil]; omega
  | cons v l =>
    have h2 := dd_pow 4 v (h v List.mem_cons_self)
    have h3 := dT_len l fun x hx => h x (List.mem_cons_of_mem _ hx)
    simp only [List.length_cons] at h4
    simp only [itT, List.length_cons, List.length_append]
    omega
theorem isT2_len : ∀ (ds : List (List Nat)) (i : Nat), i + ds.length < 100 → (∀ x ∈ ds, x.length ≤ 4 ∧ ∀ v ∈ x, v < 100000) → (isT2 [] i ds).length ≤ 52 * ds.length
  | [], _, _, _ => by simp [isT2]
  | d :: ds, i, hi, h => by
    simp only [List.length_cons] at hi
    have h1 := itT_len i d (by omega) (h d List.mem_cons_self).1 (h d List.mem_cons_self).2
    have h2 := isT2_len ds (i + 1) (by omega) fun x hx => h x (List.mem_cons_of_mem _ hx)
    rw [isT2, itT_app]
    simp only [List.length_cons, List.length_append]
    omega
theorem declX_len {d : List Nat} {ds : List (List Nat)} (h : DsOk d ds) : (declX d ds []).length ≤ 500 := by
  have hl := h.len
  have hv : ∀ x ∈ d :: ds, x.length ≤ 4 ∧ ∀ v ∈ x, v < 100000 := fun x hx => ⟨(h.ok x hx).1, fun v hv => ((h.ok x hx).2 v hv).2⟩
  have h1 := itT_len 0 d (by decide) (hv d List.mem_cons_self).1 (hv d List.mem_cons_self).2
  have h2 := isT2_len ds 1 (by omega) fun x hx => hv x (List.mem_cons_of_mem _ hx)
  unfold declX
  rw [itT_app]
  have h3 : intTx.length = 8 := rfl
  simp only [List.length_append]
  omega
theorem itoa_dd (v : Nat) : Lib.itoa (v : Int) = dd v := by
  unfold Lib.itoa
  rw [if_neg (by omega)]
  simp
theorem tail_dT : ∀ l : List Nat, Lib.joinTail csT ((l.map fun x : Nat => (x : Int)).map Lib.itoa) ++ [41] = dT [] l
  | [] => rfl
  | v :: l => by
    have := tail_dT l
    simp only [Lib.joinTail, List.map_cons, List.flatten_cons, List.append_assoc, itoa_dd] at this ⊢
    rw [this]
    rfl
theorem itemT_eq (j : Nat) (d : List Nat) : itemT ⟨vT j, d.map fun x : Nat => (x : Int)⟩ = itT j d [] := by
  cases d with
  | nil => simp [itemT, itT, vT]
  | cons v l =>
    have := tail_dT l
    unfold itemT
    rw [if_neg (by simp), List.map_cons, List.map_cons, Lib.join_cons, itoa_dd]
    simp only [List.append_assoc, this]
    rfl
theorem tail_isT : ∀ (ds : List (List Nat)) (i : Nat), Lib.joinTail csT ((itsOf i ds).map itemT) = isT2 [] i ds
  | [], _ => rfl
  | d :: ds, i => by
    have := tail_isT ds (i + 1)
    rw [isT2, itT_app]
    simp only [Lib.joinTail, itsOf, List.map_cons, List.flatten_cons, itemT_eq] at this ⊢
    rw [this]
    simp [csT]
theorem decl_txt (d : List Nat) (ds : List (List Nat)) : tInt ++ declT (itsOf 0 (d :: ds)) = declX d ds [] := by
  unfold declT declX
  rw [itsOf, List.map_cons, Lib.join_cons, tail_isT, itemT_eq, itT_app 0 d (isT2 [] 1 ds)]
  rfl
def zX : List UInt8 := [44, 32, 122, 40, 48, 41]
def fX : List UInt8 := [44, 32, 122, 40, 49, 44, 32, 50, 44, 32, 51, 44, 32, 52, 44, 32, 53, 41]
theorem zX_lx : LxT zX zK := LxT.comma (r := [122, 40, 48, 41]) fun n p hn => by
  obtain ⟨n, rfl⟩ : ∃ k, n = k + 5 := ⟨n - 5, by simp only [List.length_cons, List.length_nil] at hn; omega⟩
  exact ⟨[⟨1, [122], p, 0⟩, ⟨3, [40], p + 1, 0⟩, ⟨2, [48], p + 1 + 1, 0⟩, ⟨3, [41], p + 1 + 1 + 1, 0⟩], by kernel_rfl, rfl⟩
theorem fX_lx : LxT fX fK := LxT.comma (r := [122, 40, 49, 44, 32, 50, 44, 32, 51, 44, 32, 52, 44, 32, 53, 41]) fun n p hn => by
  obtain ⟨n, rfl⟩ : ∃ k, n = k + 17 := ⟨n - 17, by simp only [List.length_cons, List.length_nil] at hn; omega⟩
  exact ⟨[⟨1, [122], p, 0⟩, ⟨3, [40], p + 1, 0⟩, ⟨2, [49], p + 2, 1⟩, ⟨3, [44], p + 3, 0⟩, ⟨2, [50], p + 5, 2⟩, ⟨3, [44], p + 6, 0⟩, ⟨2, [51], p + 8, 3⟩, ⟨3, [44], p + 9, 0⟩, ⟨2, [52], p + 11, 4⟩, ⟨3, [44], p + 12, 0⟩, ⟨2, [53], p + 14, 5⟩, ⟨3, [41], p + 15, 0⟩], by kernel_rfl, rfl⟩
theorem decl_rd {d : List Nat} {ds : List (List Nat)} (h : DsOk d ds) {r : List UInt8} {K : List Ky} (hx : LxT r K) (hp : Pl r) : ∃ ts, lex ((declX d ds [] ++ r).length + 1) (declX d ds [] ++ r) 0 false = .ok ts ∧ ts.map strip3 = dclK d ds K ∧ parseS (bodyOfLine (declX d ds [] ++ r)) = parseW ts := by
  obtain ⟨ts, h1, h2⟩ := decl_lx hx d ds (by have := h.len; omega) fun x hx v hv => by have := ((h.ok x hx).2 v hv).2; omega
  rw [declX_app] at h1
  refine ⟨ts, h1, h2, ?_⟩
  rw [body_plain ((declX_pl d ds).app hp)]
  unfold parseS
  rw [h1]
structure DeclF (d : List Nat) (ds : List (List Nat)) (s : List UInt8) : Prop where
  par : parseS (bodyOfLine s) = (declM d ds, none)
  zero : parseS (bodyOfLine (s ++ zX)) = ({}, some ([(stmtTxt, nK d ds + 3)], 1))
  five : parseS (bodyOfLine (s ++ fX)) = ({}, some ([(stmtTxt, nK d ds + 10)], 4))
  toks : ∃ ts, lex (s.length + 1) s 0 false = .ok ts ∧ ts.length = nK d ds
  txt : stmtT (declM d ds).x = s
  len : s.length ≤ 500
theorem decl_facts {d : List Nat} {ds : List (List Nat)} (h : DsOk d ds) : DeclF d ds (declX d ds []) := by
  obtain ⟨t0, a1, a2, a3⟩ := decl_rd h LxT.nil (fun c hc => absurd hc List.not_mem_nil)
  obtain ⟨t1, b1, b2, b3⟩ := decl_rd h zX_lx (by unfold Pl; decide)
  obtain ⟨t2, c1, c2, c3⟩ := decl_rd h fX_lx (by unfold Pl; decide)
  rw [List.append_nil] at a1 a3
  refine ⟨by rw [a3, decl_par a2 h], by rw [b3, decl_zero b2 h], by rw [c3, decl_five c2 h], ⟨t0, a1, decl_n a2⟩, ?_, declX_len h⟩
  rw [← decl_txt]
  rfl
end Go.Proofs.YtejjlojfgcgopaaGreatDoor

namespace Go.Proofs.Fw
open Go.RowKit
def wideF (ro : Option Nat) : Fence := { Fence.wide with round := ro }
theorem callsIn_wideF {ro : Option Nat} {n : Nat} {P : Program} {f : FuncId} {args : Array Value} {w : World} {R : Ending → World → Prop} (h : Calls P f args w R) : CallsIn (wideF ro) n P f args w R := (callsIn_wide (n := n)).2 h
def noDef (o : Op) : Bool := match o with
  | .defer _ => false
  | _ => true
section
variable {P : Program} {ro : Option Nat} {n : Nat}
theorem opIn_of {o : Oper} (hnd : noDef o.op = true) {K : Act → World → Prop} {Q : Exit → Act → World → Prop} {a : Act} {w : World} (h : o.wp P a w K Q) : o.wpIn (wideF ro) n P a w K Q := by
  refine ⟨fun _ _ => trivial, ?_⟩
  have hsem : Oper.semAt (wideF ro).round a.eval o = execOp a.eval o := Oper.semAt_eq _ _ _ (fun c hc => by rw [hc] at hnd; cases hnd)
  rw [hsem]
  unfold Oper.wp at h
  revert h
  generalize (execOp a.eval o).run P w = r
  intro h
  cases r with
  | ok nx w' =>
    cases nx with
    | enter f args => exact ⟨(fun hh => by cases hh), callsIn_wideF h⟩
    | row r args => 
      refine ⟨(fun hh => by cases hh), ?_⟩
      intro c cs _
      obtain ⟨v, w2, hr, hs⟩ := h c cs
      exact ⟨v, w2, hr, (stepsIn_wide (P := P)).2 hs⟩
    | _ => first | exact h | exact h.elim
  | halt r w' => cases r <;> first | exact h | exact h.elim
theorem wpOpsIn_of {ops : Array Oper} {Q : Exit → Act → World → Prop} (hno : ¬ LetsOut Q) (hnd : ∀ (i : Nat) (o : Oper), ops[i]? = some o → noDef o.op = true) : ∀ (is : List Nat) (a : Act) (w : World), wpOps P ops Q is a w → wpOpsIn (wideF ro) n P ops Q is a w
  | [], a, w, h => h
  | i :: is, a, w, h => by
    simp only [wpOps] at h
    simp only [wpOpsIn]
    cases ho : ops[i]? with
    | none =>
      rw [ho] at h
      exact wpOpsIn_of hno hnd is a w h
    | some o =>
      rw [ho] at h
      simp only at h ⊢
      split
      · rename_i hw
        rw [if_pos hw] at h
        rcases h with h | h
        · exact Oper.wpIn_mono (fun a w h => wpOpsIn_of hno hnd is a w h) (opIn_of (hnd i o ho) h)
        · exact absurd h.2 hno
      · rename_i hw
        rw [if_neg hw] at h
        exact ⟨fun _ _ => trivial, wpOpsIn_of hno hnd is _ w h⟩
theorem wpAnyIn_of {md : Region.Mode} {ops : Array Oper} {Q : Exit → Act → World → Prop} (hno : ¬ LetsOut Q) (hnd : ∀ (i : Nat) (o : Oper), ops[i]? = some o → noDef o.op = true) : ∀ (m : Nat) (listed : Array Bool) (a : Act) (w : World), wpAny P md ops Q m listed a w → wpAnyIn (wideF ro) n P md ops Q m listed a w
  | 0, listed, a, w, h => h
  | m + 1, listed, a, w, h => by
    refine ⟨h.1, fun i hi => ?_⟩
    have h2 := h.2 i hi
    unfold wpOp at h2
    unfold wpOpIn
    cases ho : ops[i]? with
    | none =>
      rw [ho] at h2
      exact wpAnyIn_of hno hnd m _ a w h2
    | some o =>
      rw [ho] at h2
      simp only at h2 ⊢
      split
      · rename_i hw
        rw [if_pos hw] at h2
        rcases h2 with h2 | h2
        · exact Oper.wpIn_mono (fun a w h => wpAnyIn_of hno hnd m _ a w h) (opIn_of (hnd i o ho) h2)
        · exact absurd h2.2 hno
      · rename_i hw
        rw [if_neg hw] at h2
        exact ⟨fun _ _ => trivial, wpAnyIn_of hno hnd m _ _ w h2⟩
variable {E : Env} {O : Orc} {g : Gh} {H : AH} {w : World}
def noDefs (ops : Array Oper) : Bool := ops.toList.all fun o => noDef o.op
theorem noDefs_at {ops : Array Oper} (h : noDefs ops = true) (i : Nat) (o : Oper) (hi : ops[i]? = some o) : noDef o.op = true :=
  List.all_eq_true.1 h o (by rw [← Array.getElem?_toList] at hi; exact List.mem_of_getElem? hi)
theorem drawR (X : Cx O P E) {ops : Array Oper} (hnd : noDefs ops = true) {id : Nat} {t t1 : List AV} {H1 : AH} {a : Act} {Q : Exit → Act → World → Prop} (h : evDraw O P E ops t H = some (t1, H1))
    (R : Rel g H w) (hG : GlobOk E g) (hT : RepL g t a.tmps.toList) (hd : a.defers = [])
    (hQ : ∀ g' a' w', Rel g' H1 w' → Post g H w g' H1 w' → RepL g' t1 a'.tmps.toList → a'.defers = [] → Q .normal a' w') : (Code.region id ops true).wpIn (wideF ro) n P Q a w := by
  have h1 := evDraw_any X.sound X.meth (Q := fun e a' w' => e = .normal ∧ Q .normal a' w') h R hG hT hd (fun g' a' w' R' p' q r => ⟨rfl, hQ g' a' w' R' p' q r⟩)
  refine wpIn_mono (wpIn_region_any X.mix (wpAnyIn_of (by rintro ⟨_, _, h, _⟩; cases h) (noDefs_at hnd) _ _ _ _ h1)) ?_
  rintro e a' w' ⟨rfl, h⟩
  exact h
theorem WTr.draw {ks : List Nat} {bad : List (Nat × Nat)} {ops : Array Oper} {t : List AV} {K : List AV → AH → Prop} (hd : okDrawB ops ks bad = true)
    (h : WTr O P E ops ks (bad.flatMap fun p => [p.1, p.2]) 0 (withIds E ops.toList H.length) t (grow H (idCount E ops.toList)) [] fun t1 H1 f => badOk f bad = true ∧ K t1 H1) : ∃ t1 H1, evDraw O P E ops t H = some (t1, H1) ∧ K t1 H1 := by
  simp only [okDrawB, Bool.and_eq_true] at hd
  obtain ⟨t1, H1, its, h1, h2, h3, h4⟩ := WTr.items (ms := masksFrom [] ops.toList) h
  obtain ⟨q1, q2, q3, q4⟩ := evD_items _ _ _ _ _ _ _ h1
  have hp : its.Pairwise fun a b => a.i ≠ b.i := by
    have : (its.map (·.i)).Pairwise (· ≠ ·) := by
      rw [q4]
      exact (List.pairwise_lt_range' ..).imp (fun h => Nat.ne_of_lt h)
    exact List.pairwise_map.1 this
  rw [List.nil_append] at h3
  have hsyn : its.map Item.syn = synItems 0 (masksFrom [] ops.toList) (withIds E ops.toList H.length) := evD_syn h1
  have hc : chk ops its = true := chk_of_B hp h2 h3 its (fun _ h => h) (by rw [hsyn, syn_withIds]; exact hd.1)
  refine ⟨t1, H1, ?_, h4⟩
  unfold evDraw
  rw [h1]
  simp only
  rw [if_pos ⟨hc, hd.2⟩]
end
end Go.Proofs.Fw

namespace Go.Proofs.Fw
open Go.RowKit
section
variable {P : Program} {E : Env} {O : Orc} {ro : Option Nat} {B : Bs} {Ω : World → Prop} {t : List AV} {H : AH} {Q : AEx → List AV → AH → Prop} {D : List Deferred}
def SatD (B : Bs) (D : List Deferred) (t : List AV) (H : AH) (a : Act) (w : World) : Prop := ∃ g, Rel g H w ∧ Post B.g B.H B.w g H w ∧ RepL g t a.tmps.toList ∧ a.defers = D
theorem SatD.nil {a : Act} {w : World} : SatD B [] t H a w ↔ Sat B t H a w := Iff.rfl
def TrR (ro : Option Nat) (P : Program) (B : Bs) (Ω : World → Prop) (D : List Deferred) (c : Code) (t : List AV) (H : AH) (Q : AEx → List AV → AH → Prop) : Prop :=
  ∀ (Q' : Exit → Act → World → Prop) a w, SatD B D t H a w → (∀ ex t' H' a' w', Q ex t' H' → SatD B D t' H' a' w' → Q' ex.ex a' w') → (∀ a' w', a'.defers = D → Ω w' → Q' .ret a' w') → c.wpIn (wideF ro) 0 P Q' a w
theorem TrR.mono {c : Code} {Q1 : AEx → List AV → AH → Prop} (h : TrR ro P B Ω D c t H Q1) (hQ : ∀ e t H, Q1 e t H → Q e t H) : TrR ro P B Ω D c t H Q :=
  fun Q' a w hs k ho => h Q' a w hs (fun ex t' H' a' w' h1 h2 => k ex t' H' a' w' (hQ _ _ _ h1) h2) ho
theorem TrR.skip (h : Q .normal t H) : TrR ro P B Ω D .skip t H Q := fun Q' a w hs k _ => wpIn_skip (k _ _ _ _ _ h hs)
theorem TrR.ret (h : Q .ret t H) : TrR ro P B Ω D .ret t H Q := fun Q' a w hs k _ => wpIn_ret (k _ _ _ _ _ h hs)
theorem TrR.exit {id : Nat} (h : Q (.exit id) t H) : TrR ro P B Ω D (.exit id) t H Q := fun Q' a w hs k _ => wpIn_exit (k _ _ _ _ _ h hs)
theorem TrR.seq {c d : Code} (h : TrR ro P B Ω D c t H (Goes (fun t1 H1 => TrR ro P B Ω D d t1 H1 Q) Q)) : TrR ro P B Ω D (.seq c d) t H Q := by
  intro Q' a w hs k ho
  refine wpIn_seq (h _ a w hs (fun ex t' H' a' w' h1 h2 => ?_) (fun a' w' hd h => ho a' w' hd h))
  cases ex with
  | normal => exact h1 Q' a' w' h2 k ho
  | exit id => exact k _ _ _ _ _ h1 h2
  | ret => exact k _ _ _ _ _ h1 h2
theorem TrR.block {id : Nat} {c : Code} (h : TrR ro P B Ω D c t H (Blk id Q)) : TrR ro P B Ω D (.block id c) t H Q := by
  intro Q' a w hs k ho
  refine wpIn_block (h _ a w hs (fun ex t' H' a' w' h1 h2 => ?_) (fun a' w' hd h => ho a' w' hd h))
  cases ex with
  | normal => exact k _ _ _ _ _ h1 h2
  | ret => exact k _ _ _ _ _ h1 h2
  | exit id' =>
    simp only [Blk] at h1
    simp only [AEx.ex, Exit.inBlock]
    split
    · rename_i hid
      rw [if_pos hid] at h1
      exact k _ _ _ _ _ h1 h2
    · rename_i hid
      rw [if_neg hid] at h1
      exact k _ _ _ _ _ h1 h2
theorem TrR.cond (hG : GlobOk E B.g) {c : Operand} {x y : Code} (b : Bool) (hc : aeval E t c = .bool b) (h1 : b = true → TrR ro P B Ω D x t H Q) (h2 : b = false → TrR ro P B Ω D y t H Q) : TrR ro P B Ω D (.cond c x y) t H Q := by
  intro Q' a w hs k ho
  obtain ⟨g, R, p, hT, hd⟩ := hs
  have he : a.eval c = .bool b := by
    have := aeval_ok (hG.mono p.le) hT c
    rw [hc] at this
    simpa [RepV] using this
  cases b with
  | true => exact wpIn_cond_true he (h1 rfl Q' a w ⟨g, R, p, hT, hd⟩ k ho)
  | false => exact wpIn_cond_false he (h2 rfl Q' a w ⟨g, R, p, hT, hd⟩ k ho)
def LessD (B : Bs) (D : List Deferred) (t : List AV) (H : AH) (t' : List AV) (H' : AH) : Prop := ∀ a w, SatD B D t H a w → SatD B D t' H' a w
theorem Less.toD {t' : List AV} {H' : AH} (h : Less B t H t' H') : LessD B D t H t' H' := fun a w ⟨g, R, p, hT, hd⟩ => by
  obtain ⟨g', R', p', hT', _⟩ := h { a with defers := [] } w ⟨g, R, p, hT, rfl⟩
  exact ⟨g', R', p', hT', hd⟩
theorem TrR.less {c : Code} {t' : List AV} {H' : AH} (hl : Less B t H t' H') (h : TrR ro P B Ω D c t' H' Q) : TrR ro P B Ω D c t H Q :=
  fun Q' a w hs k ho => h Q' a w (hl.toD a w hs) k ho
theorem TrR.loop {L : Code} (I : Nat → List AV → AH → Prop) (k : Nat) (hI : I k t H)
    (h : ∀ k t H, I k t H → TrR ro P B Ω D L t H (Goes (fun t1 H1 => ∃ j t2 H2, j < k ∧ Less B t1 H1 t2 H2 ∧ I j t2 H2) Q)) : TrR ro P B Ω D (.loop L) t H Q := by
  intro Q' a w hs hk ho
  refine wpIn_loop_rounds (k + 1) ?_
  have key : ∀ (m k : Nat) {t : List AV} {H : AH} {a : Act} {w : World}, k < m → I k t H → SatD B D t H a w → Code.roundsIn (wideF ro) 0 P L Q' m a w := by
    intro m
    induction m with
    | zero => intro k t H a w hm; omega
    | succ m ih =>
      intro k t H a w hm hI hs
      rw [roundsIn_succ]
      refine h k t H hI _ a w hs (fun ex t' H' a' w' h1 h2 => ?_) (fun a' w' hd h => ho a' w' hd h)
      cases ex with
      | normal =>
        obtain ⟨j, t2, H2, hj, hl, hI'⟩ := h1
        exact ih j (by omega) hI' (hl.toD a' w' h2)
      | exit id => exact hk _ _ _ _ _ h1 h2
      | ret => exact hk _ _ _ _ _ h1 h2
  exact key (k + 1) k (by omega) hI hs
theorem evOps_okD (hS : Sound P E O) (hM : MethOk P E) {ops : Array Oper} {Q : Exit → Act → World → Prop} : ∀ (ps : List (Oper × Nat)) (is : List Nat) {g : Gh} {H : AH} {w : World} {tmps : List AV} {a : Act}
    {tmps' : List AV} {H' : AH}, evOps O P E ops ps tmps H = some (tmps', H') → All2 (fun i p => ops[i]? = some p.1) is ps → Ready E H ps → Rel g H w → GlobOk E g → RepL g tmps a.tmps.toList → a.defers = D →
    (∀ g' a' w', Rel g' H' w' → Post g H w g' H' w' → RepL g' tmps' a'.tmps.toList → a'.defers = D → Q .normal a' w') → wpOps P ops Q is a w
  | [], is, g, H, w, tmps, a, tmps', H', h, hf, _, R, _, hT, hd, hQ => by
    cases hf
    simp only [evOps] at h
    injection h with h; simp only [Prod.mk.injEq] at h; obtain ⟨rfl, rfl⟩ := h
    exact hQ g a w R (Post.refl g H w) hT hd
  | (o, fid) :: ps, is, g, H, w, tmps, a, tmps', H', h, hf, hr, R, hG, hT, hd, hQ => by
    cases hf with
    | cons hi hf =>
      rename_i i is
      cases hr with
      | cons _ _ r1 r2 r3 =>
        simp only [evOps] at h
        simp only [wpOps, hi]
        split at h
        · cases h
        · rename_i hw
          rw [wantedA_ok hT hw]
          simp only [Bool.false_eq_true, if_false]
          exact evOps_okD hS hM ps is h hf r3 R hG (putT_ok hT (by simp [AV.nothing, RepV, RepL, undef])) (by rw [put_defers]; exact hd) hQ
        · rename_i hw
          rw [wantedA_ok hT hw]
          simp only [if_true]
          split at h
          · rename_i v H1 hst
            refine .inl (stepO_ok hS hM R hG hT r1 hst fun g' u w' R' p' hv => ?_)
            obtain ⟨f1, f2⟩ := stepO_free hS hst
            refine evOps_okD hS hM ps is h hf (Ready.step (p := (o, fid)) r3 f1 fun q hq hn hl hfr => ?_) R' (hG.mono p'.le) (putT_ok (RepL.mono p'.le _ _ hT) hv) (by rw [put_defers]; exact hd)
              (fun g2 a2 w2 R2 p2 => hQ g2 a2 w2 R2 (Post.trans R p' p2))
            refine f2 q.2 hl hfr ?_
            by_cases hno : needsId E o.op = true
            · exact .inl (r2 hno q hq hn)
            · exact .inr (by simpa using hno)
          · cases h
theorem TrR.region (X : Cx O P E) (hG : GlobOk E B.g) {id : Nat} {ops : Array Oper} (hnd : noDefs ops = true)
    (h : WOx O P E ops (withIds E ops.toList H.length) t (grow H (idCount E ops.toList)) fun t1 H1 => Q .normal t1 H1) : TrR ro P B Ω D (.region id ops false) t H Q := by
  intro Q' a w hs k _
  obtain ⟨g, R, p, hT, hdf⟩ := hs
  have hw := WOx.sound h
  unfold WO at hw
  cases he : evOps O P E ops (withIds E ops.toList H.length) t (grow H (idCount E ops.toList)) with
  | none => rw [he] at hw; exact hw.elim
  | some x =>
    obtain ⟨t', H'⟩ := x
    rw [he] at hw
    have hf := forall_withIds (E := E) ops ops.toList H.length 0 (fun j => by simp)
    rw [Array.length_toList, ← List.range_eq_range'] at hf
    have h1 : wpOps P ops (fun e a' w' => e = .normal ∧ Q' .normal a' w') (List.range ops.size) a w := by
      refine evOps_okD X.sound X.meth _ _ he hf (ready_withIds H 0 (fun _ _ _ => trivial) ops.toList H.length _ (fun id hid => ?_) (by rw [grow_eq, List.length_append, List.length_replicate]; exact Nat.le_refl _)) (R.grow _) (hG.mono p.le) hT hdf
        (fun g' a' w' R' p' q r => ⟨rfl, k .normal t' H' a' w' hw ⟨g', R', Post.trans B.R p p'.ungrow, q, r⟩⟩)
      rw [at_grow]
      exact at_ge hid
    refine wpIn_mono (wpIn_region (wpOpsIn_of (by rintro ⟨_, _, h, _⟩; cases h) (noDefs_at hnd) _ _ _ h1)) ?_
    rintro e a' w' ⟨rfl, h⟩
    exact h
theorem TrR.turns (X : Cx O P E) (hG : GlobOk E B.g) (ks : List Nat) (bad : List (Nat × Nat)) {id : Nat} {ops : Array Oper} (hnd : noDefs ops = true) (hd : okDrawB ops ks bad = true)
    (h : WTr O P E ops ks (bad.flatMap fun p => [p.1, p.2]) 0 (withIds E ops.toList H.length) t (grow H (idCount E ops.toList)) [] fun t1 H1 f => badOk f bad = true ∧ Q .normal t1 H1) : TrR ro P B Ω [] (.region id ops true) t H Q := by
  intro Q' a w hs k _
  obtain ⟨g, R, p, hT, hdf⟩ := hs
  obtain ⟨t', H', he, hw⟩ := WTr.draw hd h
  exact drawR X hnd he R (hG.mono p.le) hT hdf fun g' a' w' R' p' q r => k .normal t' H' a' w' hw ⟨g', R', Post.trans B.R p p', q, r⟩
def isR (S : List Nat) : Code → Bool
  | .region id _ false => S.contains id
  | _ => false
def softR (S : List Nat) : Code → Code
  | .region id ops true => .loop (.scope (.region id ops true))
  | .region id ops false => if S.contains id = true then .loop (.scope (.region id ops false)) else .region id ops false
  | .rangeFunc a b c d => .loop (.scope (.rangeFunc a b c d))
  | .seq a b => if isR S a = true then .loop (.scope (.seq a b)) else .seq (softR S a) (softR S b)
  | .cond c a b => .cond c (softR S a) (softR S b)
  | .block id c => .block id (softR S c)
  | c => c
theorem softR_draw (S : List Nat) (id : Nat) (ops : Array Oper) : softR S (.region id ops true) = .loop (.scope (.region id ops true)) := nrfl rfl
theorem softR_region (S : List Nat) (id : Nat) (ops : Array Oper) : softR S (.region id ops false) = if S.contains id = true then .loop (.scope (.region id ops false)) else .region id ops false := nrfl rfl
theorem softR_range (S : List Nat) (a : Operand) (b : Array Tmp) (c d : Code) : softR S (.rangeFunc a b c d) = .loop (.scope (.rangeFunc a b c d)) := nrfl rfl
theorem softR_seq (S : List Nat) (a b : Code) : softR S (.seq a b) = if isR S a = true then .loop (.scope (.seq a b)) else .seq (softR S a) (softR S b) := nrfl rfl
theorem isR_region (S : List Nat) (id : Nat) (ops : Array Oper) : isR S (.region id ops false) = S.contains id := nrfl rfl
theorem isR_draw (S : List Nat) (id : Nat) (ops : Array Oper) : isR S (.region id ops true) = false := nrfl rfl
theorem isR_seq (S : List Nat) (a b : Code) : isR S (.seq a b) = false := nrfl rfl
theorem isR_cond (S : List Nat) (c : Operand) (a b : Code) : isR S (.cond c a b) = false := nrfl rfl
theorem isR_block (S : List Nat) (id : Nat) (c : Code) : isR S (.block id c) = false := nrfl rfl
theorem isR_loop (S : List Nat) (c : Code) : isR S (.loop c) = false := nrfl rfl
theorem isR_skip (S : List Nat) : isR S .skip = false := nrfl rfl
attribute [simp] isR_region isR_draw isR_seq isR_cond isR_block isR_loop isR_skip
theorem softR_cond (S : List Nat) (c : Operand) (a b : Code) : softR S (.cond c a b) = .cond c (softR S a) (softR S b) := nrfl rfl
theorem softR_block (S : List Nat) (id : Nat) (c : Code) : softR S (.block id c) = .block id (softR S c) := nrfl rfl
theorem softR_loop (S : List Nat) (c : Code) : softR S (.loop c) = .loop c := nrfl rfl
theorem softR_skip (S : List Nat) : softR S .skip = .skip := nrfl rfl
theorem softR_ret (S : List Nat) : softR S .ret = .ret := nrfl rfl
theorem softR_exit (S : List Nat) (id : Nat) : softR S (.exit id) = .exit id := nrfl rfl
attribute [simp] softR_draw softR_region softR_range softR_seq softR_cond softR_block softR_loop softR_skip softR_ret softR_exit
def okSoftR : Code → Bool
  | .loop (.scope _) => false
  | .region _ ops _ => noDefs ops
  | .seq a b => okSoftR a && okSoftR b
  | .cond _ a b => okSoftR a && okSoftR b
  | .block _ c => okSoftR c
  | .scope _ => false
  | _ => true
def LpR (ro : Option Nat) (P : Program) (B : Bs) (Ω : World → Prop) (D : List Deferred) : LoopP := fun c t H Q => match c with
  | .scope r => TrR ro P B Ω D r t H Q
  | c => TrR ro P B Ω D (.loop c) t H Q
theorem Wt.softR (X : Cx O P E) (hG : GlobOk E B.g) (S : List Nat) : ∀ {c : Code} {t : List AV} {H : AH} {Q : AEx → List AV → AH → Prop}, okSoftR c = true → Wt O P E (LpR ro P B Ω D) (Fw.softR S c) t H Q → TrR ro P B Ω D c t H Q
  | .skip, t, H, Q, _, h => TrR.skip h
  | .region id ops false, t, H, Q, hd, h => by
    simp only [Fw.softR] at h
    split at h
    · exact h
    · exact TrR.region X hG hd h
  | .region id ops true, t, H, Q, _, h => h
  | .seq a b, t, H, Q, hd, h => by
    simp only [okSoftR, Bool.and_eq_true] at hd
    simp only [Fw.softR] at h
    split at h
    · exact h
    · simp only [Wt] at h
      refine TrR.seq (TrR.mono (Wt.softR X hG S hd.1 h) ?_)
      intro e t1 H1 h1
      cases e with
      | normal => exact Wt.softR X hG S hd.2 h1
      | exit id => exact h1
      | ret => exact h1
  | .cond c a b, t, H, Q, hd, h => by
    simp only [okSoftR, Bool.and_eq_true] at hd
    simp only [Fw.softR, Wt] at h
    unfold WB at h
    split at h
    · rename_i v hv
      exact TrR.cond hG v hv (fun e => Wt.softR X hG S hd.1 (h.1 e)) (fun e => Wt.softR X hG S hd.2 (h.2 e))
    · exact h.elim
  | .block id c, t, H, Q, hd, h => by
    simp only [okSoftR] at hd
    simp only [Fw.softR, Wt] at h
    exact TrR.block (Wt.softR X hG S hd h)
  | .exit id, t, H, Q, _, h => TrR.exit h
  | .ret, t, H, Q, _, h => TrR.ret h
  | .loop c, t, H, Q, hd, h => by
    simp only [Fw.softR, Wt] at h
    cases c <;> first | exact h | cases hd
  | .rangeFunc _ _ _ _, _, _, _, _, h => h
  | .scope _, _, _, _, hd, _ => by cases hd
  | .label _, _, _, _, _, h => h.elim
  | .goto _, _, _, _, _, h => h.elim
  | .refuse _, _, _, _, _, h => h.elim
theorem TrR.go (X : Cx O P E) (hG : GlobOk E B.g) (S : List Nat) {c : Code} (hd : okSoftR c = true) (h : Go O P E (LpR ro P B Ω D) (softR S c) [] t H Q) : TrR ro P B Ω D c t H Q := Wt.softR X hG S hd h
theorem LpR.turns {Lp : LoopP} {ks0 : List Fr} {O' : Orc} (X : Cx O' P E) (hG : GlobOk E B.g) (ks : List Nat) (bad : List (Nat × Nat)) {id : Nat} {ops : Array Oper} (hnd : noDefs ops = true) (hd : okDrawB ops ks bad = true)
    (h : WTr O' P E ops ks (bad.flatMap fun p => [p.1, p.2]) 0 (withIds E ops.toList H.length) t (grow H (idCount E ops.toList)) [] fun t1 H1 f => badOk f bad = true ∧ Go O P E Lp .skip ks0 t1 H1 Q) : LpR ro P B Ω [] (.scope (.region id ops true)) t H (unwind O P E Lp ks0 Q) :=
  TrR.turns X hG ks bad hnd hd (by simpa only [unwind_normal] using h)
theorem LpR.loopN {L : Code} (X : Cx O P E) (hG : GlobOk E B.g) (S : List Nat) (hd : okSoftR L = true) (I : Nat → List AV → AH → Prop) (k : Nat) {t' : List AV} {H' : AH} (hl : Less B t H t' H') (hI : I k t' H')
    (h : ∀ k t H, I k t H → Go O P E (LpR ro P B Ω D) (softR S L) [] t H (Goes (Nxt B I k) Q)) : LpR ro P B Ω D L t H Q := by
  have key : TrR ro P B Ω D (.loop L) t H Q := TrR.less hl (TrR.loop I k hI fun k t H hI => TrR.go X hG S hd (h k t H hI))
  cases L <;> first | exact key | cases hd
end
end Go.Proofs.Fw

namespace Go.Proofs.YtejjlojfgcgopaaGreatDoor
open Go.RowKit Go.Proofs.Fw
set_option maxRecDepth 100000
set_option maxHeartbeats 4000000
inductive Nd where
  | mk (line end_ : Int) (st : Sx) (body els : List Nd) (mid : Int)
mutual
def ndC : Nd → List AV
  | .mk l e s b c m => .int .i64 l :: .int .i64 e :: (s.c ++ [if b.isEmpty then .nilSlice else .slice .unk 34 b.length (ndsC b), if c.isEmpty then .nilSlice else .slice .unk 34 c.length (ndsC c), .int .i64 m])
def ndsC : List Nd → List AV
  | [] => []
  | n :: r => ndC n ++ ndsC r
end
def Nd.line : Nd → Int | .mk l _ _ _ _ _ => l
def Nd.end_ : Nd → Int | .mk _ e _ _ _ _ => e
def Nd.st : Nd → Sx | .mk _ _ s _ _ _ => s
def Nd.body : Nd → List Nd | .mk _ _ _ b _ _ => b
def Nd.els : Nd → List Nd | .mk _ _ _ _ c _ => c
def Nd.mid : Nd → Int | .mk _ _ _ _ _ m => m
theorem Sx.c_len (x : Sx) : x.c.length = 29 := rfl
theorem ndC_len (n : Nd) : (ndC n).length = 34 := by
  cases n
  rw [ndC]
  simp [Sx.c_len]
mutual
theorem ndC_low : ∀ n : Nd, lowL 0 (ndC n) = true
  | .mk l e s b c m => by
    have h1 := ndsC_low b
    have h2 := ndsC_low c
    have h3 := Sx.c_low s
    rw [ndC]
    simp only [lowL, low, lowL_append, h3, Bool.true_and, Bool.and_true, Bool.and_eq_true]
    constructor
    · split
      · rfl
      · exact h1
    · split
      · rfl
      · exact h2
theorem ndsC_low : ∀ l : List Nd, lowL 0 (ndsC l) = true
  | [] => rfl
  | n :: r => by rw [ndsC, lowL_append, ndC_low n, ndsC_low r]; rfl
end
theorem ndC_one (n : Nd) : (ndC n).all AV.one = true := by
  cases n with
  | mk l e s b c m =>
    rw [ndC]
    have h3 := sxE.one s
    have h4 : s.c.all AV.one = true := h3
    simp only [List.all_cons, List.all_append, h4, AV.one, Bool.true_and, List.all_nil, Bool.and_true, Bool.and_eq_true]
    constructor
    · cases b <;> rfl
    · cases c <;> rfl
theorem ndsC_length : ∀ l : List Nd, (ndsC l).length = l.length * 34
  | [] => rfl
  | n :: r => by rw [ndsC, List.length_append, ndC_len, ndsC_length r, List.length_cons]; omega
mutual
theorem ndC_inj : ∀ a b : Nd, ndC a = ndC b → a = b
  | .mk l e s b c m, .mk l' e' s' b' c' m', h => by
    simp only [ndC, List.cons.injEq, AV.int.injEq, true_and] at h
    obtain ⟨h1, h2, h3⟩ := h
    obtain ⟨h4, h5⟩ := List.append_inj h3 (by rw [Sx.c_len, Sx.c_len])
    simp only [List.cons.injEq, AV.int.injEq, true_and, and_true] at h5
    have k1 : b = b' := by
      cases b with
      | nil => cases b' with
        | nil => rfl
        | cons => simp at h5
      | cons x b => cases b' with
        | nil => simp at h5
        | cons y b' =>
          simp only [List.isEmpty_cons, Bool.false_eq_true, if_false, AV.slice.injEq, true_and] at h5
          exact ndsC_inj _ _ h5.1.2
    have k2 : c = c' := by
      cases c with
      | nil => cases c' with
        | nil => rfl
        | cons => simp at h5
      | cons x c => cases c' with
        | nil => simp at h5
        | cons y c' =>
          simp only [List.isEmpty_cons, Bool.false_eq_true, if_false, AV.slice.injEq, true_and] at h5
          exact ndsC_inj _ _ h5.2.1.2
    rw [h1, h2, sxE.inj s s' h4, k1, k2, h5.2.2]
theorem ndsC_inj : ∀ a b : List Nd, ndsC a = ndsC b → a = b
  | [], [], _ => rfl
  | [], n :: b, h => by
    have := congrArg List.length h
    rw [ndsC_length, ndsC_length] at this
    simp at this
  | n :: a, [], h => by
    have := congrArg List.length h
    rw [ndsC_length, ndsC_length] at this
    simp at this
  | n :: a, m :: b, h => by
    rw [ndsC, ndsC] at h
    obtain ⟨h1, h2⟩ := List.append_inj h (by rw [ndC_len, ndC_len])
    rw [ndC_inj n m h1, ndsC_inj a b h2]
end
def ndE : Enc Nd where
  sz := 34
  c := ndC
  pos := by decide
  len := ndC_len
  low := ndC_low
  one := ndC_one
  inj := ndC_inj
end Go.Proofs.YtejjlojfgcgopaaGreatDoor

namespace Go.Proofs.YtejjlojfgcgopaaGreatDoor.Tt
open Go.RowKit Go.Proofs.Fw
set_option maxRecDepth 100000
theorem sz68 : szOf Tryz.prog 68 = some 1 := by kernel_rfl
theorem ag68 : aggB Tryz.prog 68 = some false := by kernel_rfl
theorem zv68 : zeroAV Tryz.prog 68 = some (.nilSlice) := by kernel_rfl
theorem ec68 : elemChk Tryz.prog 68 34 = true := by kernel_rfl
theorem sz108 : szOf Tryz.prog 108 = some 34 := by kernel_rfl
theorem ag108 : aggB Tryz.prog 108 = some true := by kernel_rfl
theorem zv108 : zeroAV Tryz.prog 108 = some (.agg [.int .i64 0, .int .i64 0, .int .i64 0, .nilSlice, .int .i64 0, .int .i64 0, .str [], .nilSlice, .int .i64 0, .int .i64 0, .str [], .nilSlice, .str [], .int .i64 0, .int .i64 0, .str [], .nilSlice, .int .i64 0, .int .i64 0, .str [], .nilSlice, .str [], .int .i64 0, .int .i64 0, .str [], .nilSlice, .int .i64 0, .int .i64 0, .str [], .nilSlice, .int .i64 0, .nilSlice, .nilSlice, .int .i64 0]) := by kernel_rfl
theorem fa108_0 : fI Tryz.prog 108 0 = (0, 3, true) := by kernel_rfl
theorem fa108_1 : fI Tryz.prog 108 1 = (1, 3, true) := by kernel_rfl
theorem fa108_2 : fI Tryz.prog 108 2 = (2, 46, true) := by kernel_rfl
theorem fa108_3 : fI Tryz.prog 108 3 = (31, 68, true) := by kernel_rfl
theorem fa108_4 : fI Tryz.prog 108 4 = (32, 68, true) := by kernel_rfl
theorem fa108_5 : fI Tryz.prog 108 5 = (33, 3, true) := by kernel_rfl
theorem sz171 : szOf Tryz.prog 171 = some 1 := by kernel_rfl
theorem ag171 : aggB Tryz.prog 171 = some false := by kernel_rfl
theorem zv171 : zeroAV Tryz.prog 171 = some (.nilPtr) := by kernel_rfl
theorem sz172 : szOf Tryz.prog 172 = some 1 := by kernel_rfl
theorem ag172 : aggB Tryz.prog 172 = some false := by kernel_rfl
theorem zv172 : zeroAV Tryz.prog 172 = some (.nilSlice) := by kernel_rfl
theorem ec172 : elemChk Tryz.prog 172 29 = true := by kernel_rfl
theorem sz173 : szOf Tryz.prog 173 = some 1 := by kernel_rfl
theorem ag173 : aggB Tryz.prog 173 = some false := by kernel_rfl
theorem zv173 : zeroAV Tryz.prog 173 = some (.nilSlice) := by kernel_rfl
theorem ec173 : elemChk Tryz.prog 173 2 = true := by kernel_rfl
theorem sz175 : szOf Tryz.prog 175 = some 7 := by kernel_rfl
theorem ag175 : aggB Tryz.prog 175 = some true := by kernel_rfl
theorem zv175 : zeroAV Tryz.prog 175 = some (.agg [.nilSlice, .nilSlice, .nilSlice, .int .i64 0, .nilSlice, .int .i64 0, .bool false]) := by kernel_rfl
theorem fa175_0 : fI Tryz.prog 175 0 = (0, 23, true) := by kernel_rfl
theorem fa175_1 : fI Tryz.prog 175 1 = (1, 172, true) := by kernel_rfl
theorem fa175_2 : fI Tryz.prog 175 2 = (2, 173, true) := by kernel_rfl
theorem fa175_3 : fI Tryz.prog 175 3 = (3, 3, true) := by kernel_rfl
theorem fa175_4 : fI Tryz.prog 175 4 = (4, 57, true) := by kernel_rfl
theorem fa175_5 : fI Tryz.prog 175 5 = (6, 4, true) := by kernel_rfl
theorem go27 : goFn Tryz.prog 27 = true := by kernel_rfl
theorem go35 : goFn Tryz.prog 35 = true := by kernel_rfl
theorem go72 : goFn Tryz.prog 72 = true := by kernel_rfl
theorem go77 : goFn Tryz.prog 77 = true := by kernel_rfl
theorem go107 : goFn Tryz.prog 107 = true := by kernel_rfl
theorem go122 : goFn Tryz.prog 122 = true := by kernel_rfl
theorem go123 : goFn Tryz.prog 123 = true := by kernel_rfl
theorem go124 : goFn Tryz.prog 124 = true := by kernel_rfl
attribute [simp] sz68 ag68 zv68 ec68 Tryz.underlying68 sz108 ag108 zv108 fa108_0 fa108_1 fa108_2 fa108_3 fa108_4 fa108_5 Tryz.underlying108 sz171 ag171 zv171 Tryz.underlying171 sz172
attribute [simp] ag172 zv172 ec172 Tryz.underlying172 sz173 ag173 zv173 ec173 Tryz.underlying173 sz175 ag175 zv175 fa175_0 fa175_1 fa175_2 fa175_3 fa175_4 fa175_5 Tryz.underlying175 go27
attribute [simp] go35 go72 go77 go107 go122 go123 go124
end Go.Proofs.YtejjlojfgcgopaaGreatDoor.Tt

namespace Go.Proofs.YtejjlojfgcgopaaGreatDoor.Ts
open Go.RowKit Go.Proofs.Fw
set_option maxRecDepth 100000
theorem sz78 : szOf Tryz.prog 78 = some 1 := by kernel_rfl
theorem ag78 : aggB Tryz.prog 78 = some false := by kernel_rfl
theorem zv78 : zeroAV Tryz.prog 78 = some (.nilSlice) := by kernel_rfl
theorem ec78 : elemChk Tryz.prog 78 4 = true := by kernel_rfl
theorem sz167 : szOf Tryz.prog 167 = some 1 := by kernel_rfl
theorem ag167 : aggB Tryz.prog 167 = some false := by kernel_rfl
theorem zv167 : zeroAV Tryz.prog 167 = some (.nilPtr) := by kernel_rfl
theorem sz169 : szOf Tryz.prog 169 = some 5 := by kernel_rfl
theorem ag169 : aggB Tryz.prog 169 = some true := by kernel_rfl
theorem zv169 : zeroAV Tryz.prog 169 = some (.agg [.nilSlice, .int .i64 0, .nilSlice, .int .i64 0, .int .i64 0]) := by kernel_rfl
theorem fa169_0 : fI Tryz.prog 169 0 = (0, 80, true) := by kernel_rfl
theorem fa169_1 : fI Tryz.prog 169 1 = (2, 57, true) := by kernel_rfl
theorem fa169_2 : fI Tryz.prog 169 2 = (4, 3, true) := by kernel_rfl
theorem go30 : goFn Tryz.prog 30 = true := by kernel_rfl
theorem go34 : goFn Tryz.prog 34 = true := by kernel_rfl
theorem go75 : goFn Tryz.prog 75 = true := by kernel_rfl
theorem go110 : goFn Tryz.prog 110 = true := by kernel_rfl
theorem go111 : goFn Tryz.prog 111 = true := by kernel_rfl
theorem go112 : goFn Tryz.prog 112 = true := by kernel_rfl
theorem go113 : goFn Tryz.prog 113 = true := by kernel_rfl
theorem go114 : goFn Tryz.prog 114 = true := by kernel_rfl
theorem go115 : goFn Tryz.prog 115 = true := by kernel_rfl
theorem go161 : goFn Tryz.prog 161 = true := by kernel_rfl
attribute [simp] sz78 ag78 zv78 ec78 Tryz.underlying78 sz167 ag167 zv167 Tryz.underlying167 sz169 ag169 zv169 fa169_0 fa169_1 fa169_2 Tryz.underlying169 go30 go34 go75 go110
attribute [simp] go111 go112 go113 go114 go115 go161
end Go.Proofs.YtejjlojfgcgopaaGreatDoor.Ts

namespace Go.Proofs.YtejjlojfgcgopaaGreatDoor.Th
open Go.RowKit Go.Proofs.Fw
set_option maxRecDepth 100000
theorem sz76 : szOf Tryz.prog 76 = some 1 := by kernel_rfl
theorem ag76 : aggB Tryz.prog 76 = some false := by kernel_rfl
theorem zv76 : zeroAV Tryz.prog 76 = some (.nilSlice) := by kernel_rfl
theorem ec76 : elemChk Tryz.prog 76 34 = true := by kernel_rfl
theorem sz104 : szOf Tryz.prog 104 = some 34 := by kernel_rfl
theorem ag104 : aggB Tryz.prog 104 = some true := by kernel_rfl
theorem zv104 : zeroAV Tryz.prog 104 = some (.agg [.int .i64 0, .int .i64 0, .int .i64 0, .nilSlice, .int .i64 0, .int .i64 0, .str [], .nilSlice, .int .i64 0, .int .i64 0, .str [], .nilSlice, .str [], .int .i64 0, .int .i64 0, .str [], .nilSlice, .int .i64 0, .int .i64 0, .str [], .nilSlice, .str [], .int .i64 0, .int .i64 0, .str [], .nilSlice, .int .i64 0, .int .i64 0, .str [], .nilSlice, .int .i64 0, .nilSlice, .nilSlice, .int .i64 0]) := by kernel_rfl
theorem fa104_0 : fI Tryz.prog 104 0 = (0, 3, true) := by kernel_rfl
theorem fa104_1 : fI Tryz.prog 104 1 = (1, 3, true) := by kernel_rfl
theorem fa104_2 : fI Tryz.prog 104 2 = (2, 31, true) := by kernel_rfl
theorem fa104_3 : fI Tryz.prog 104 3 = (31, 76, true) := by kernel_rfl
theorem fa104_4 : fI Tryz.prog 104 4 = (32, 76, true) := by kernel_rfl
theorem fa104_5 : fI Tryz.prog 104 5 = (33, 3, true) := by kernel_rfl
theorem sz116 : szOf Tryz.prog 116 = some 1 := by kernel_rfl
theorem ag116 : aggB Tryz.prog 116 = some false := by kernel_rfl
theorem zv116 : zeroAV Tryz.prog 116 = some (.nilFunc) := by kernel_rfl
theorem sz182 : szOf Tryz.prog 182 = some 1 := by kernel_rfl
theorem ag182 : aggB Tryz.prog 182 = some false := by kernel_rfl
theorem zv182 : zeroAV Tryz.prog 182 = some (.nilPtr) := by kernel_rfl
theorem sz183 : szOf Tryz.prog 183 = some 1 := by kernel_rfl
theorem ag183 : aggB Tryz.prog 183 = some false := by kernel_rfl
theorem zv183 : zeroAV Tryz.prog 183 = some (.nilPtr) := by kernel_rfl
theorem sz185 : szOf Tryz.prog 185 = some 4 := by kernel_rfl
theorem ag185 : aggB Tryz.prog 185 = some true := by kernel_rfl
theorem zv185 : zeroAV Tryz.prog 185 = some (.agg [.nilSlice, .nilPtr, .int .i64 0, .bool false]) := by kernel_rfl
theorem fa185_0 : fI Tryz.prog 185 0 = (0, 76, true) := by kernel_rfl
theorem fa185_1 : fI Tryz.prog 185 1 = (1, 183, true) := by kernel_rfl
theorem fa185_2 : fI Tryz.prog 185 2 = (2, 3, true) := by kernel_rfl
theorem fa185_3 : fI Tryz.prog 185 3 = (3, 4, true) := by kernel_rfl
theorem sz188 : szOf Tryz.prog 188 = some 35 := by kernel_rfl
theorem ag188 : aggB Tryz.prog 188 = some true := by kernel_rfl
theorem zv188 : zeroAV Tryz.prog 188 = some (.agg [.int .i64 0, .int .i64 0, .int .i64 0, .nilSlice, .int .i64 0, .int .i64 0, .str [], .nilSlice, .int .i64 0, .int .i64 0, .str [], .nilSlice, .str [], .int .i64 0, .int .i64 0, .str [], .nilSlice, .int .i64 0, .int .i64 0, .str [], .nilSlice, .str [], .int .i64 0, .int .i64 0, .str [], .nilSlice, .int .i64 0, .int .i64 0, .str [], .nilSlice, .int .i64 0, .nilSlice, .nilSlice, .int .i64 0, .nilPtr]) := by kernel_rfl
theorem fa188_0 : fI Tryz.prog 188 0 = (0, 104, true) := by kernel_rfl
theorem fa188_1 : fI Tryz.prog 188 1 = (34, 183, true) := by kernel_rfl
theorem go41 : goFn Tryz.prog 41 = true := by kernel_rfl
theorem go44 : goFn Tryz.prog 44 = true := by kernel_rfl
theorem go46 : goFn Tryz.prog 46 = true := by kernel_rfl
theorem go48 : goFn Tryz.prog 48 = true := by kernel_rfl
theorem go80 : goFn Tryz.prog 80 = true := by kernel_rfl
theorem go81 : goFn Tryz.prog 81 = true := by kernel_rfl
theorem go82 : goFn Tryz.prog 82 = true := by kernel_rfl
theorem go83 : goFn Tryz.prog 83 = true := by kernel_rfl
theorem go84 : goFn Tryz.prog 84 = true := by kernel_rfl
theorem go127 : goFn Tryz.prog 127 = true := by kernel_rfl
theorem go128 : goFn Tryz.prog 128 = true := by kernel_rfl
attribute [simp] sz76 ag76 zv76 ec76 Tryz.underlying76 sz104 ag104 zv104 fa104_0 fa104_1 fa104_2 fa104_3 fa104_4 fa104_5 Tryz.underlying104 sz116 ag116 zv116 Tryz.underlying116 sz182
attribute [simp] ag182 zv182 Tryz.underlying182 sz183 ag183 zv183 Tryz.underlying183 sz185 ag185 zv185 fa185_0 fa185_1 fa185_2 fa185_3 Tryz.underlying185 sz188 ag188 zv188 fa188_0 fa188_1
attribute [simp] Tryz.underlying188 go41 go44 go46 go48 go80 go81 go82 go83 go84 go127 go128
end Go.Proofs.YtejjlojfgcgopaaGreatDoor.Th

namespace Go.Proofs.YtejjlojfgcgopaaGreatDoor
open Go.RowKit Go.Proofs.Fw
set_option maxRecDepth 100000
set_option maxHeartbeats 4000000
def envS : Env := ⟨envF.glob, methN, envF.imm, fun t => t == 76, fun _ => false⟩
@[simp] theorem softSN : envS.soft 76 = true := by decide
@[simp] theorem immSb : envS.imm 185 = false := by decide
@[simp] theorem immSo : envS.imm 188 = false := by decide
@[simp] theorem immSn : envS.imm 104 = false := by decide
@[simp] theorem immSx : envS.imm 31 = false := by decide
@[simp] theorem bsNdP (cs : List AV) (hl : cs.length = 34) : abuildSlice Tryz.prog 76 1 [(0, .agg cs)] = some (.slice .full 34 1 cs) := by
  have h1 : szOf Tryz.prog 104 = some 34 := by kernel_rfl
  obtain ⟨z, h2, h3⟩ : ∃ z, zeroAV Tryz.prog 104 = some (.agg z) ∧ z.length = 34 := ⟨_, Th.zv104, rfl⟩
  simp [abuildSlice, Tryz.underlying76, h1, h2, h3, fillAV, putAt, hl, reps, cellsAV]
section
variable {cs : List AV}
end
end Go.Proofs.YtejjlojfgcgopaaGreatDoor

namespace Go.Proofs.YtejjlojfgcgopaaGreatDoor
open Go.RowKit Go.Proofs.Fw
set_option maxRecDepth 100000
set_option maxHeartbeats 4000000
structure Fr where
  line : Int
  end_ : Int
  st : Sx
  body : List Nd
  els : List Nd
  mid : Int
def Fr.nd (f : Fr) : Nd := .mk f.line f.end_ f.st f.body f.els f.mid
def Fr.pre (f : Fr) : List AV := .int .i64 f.line :: .int .i64 f.end_ :: f.st.c
def upC : Nat → AV
  | 0 => .nilPtr
  | n + 1 => .ptr (2 + 3 * n) 0
def Fr.c (d : Nat) (f : Fr) : List AV := f.pre ++ [ndE.tk (3 + 3 * d) f.body, ndE.tk (4 + 3 * d) f.els, .int .i64 f.mid, upC d]
structure Bd where
  l : List Nd
  fs : List Fr
  o : Bool
def Bd.c (s : Bd) : List AV := [ndE.tk 1 s.l, upC s.fs.length, .int .i64 (s.fs.length : Int), .bool s.o]
def Fr.put (f : Fr) (n : Nd) : Fr := if 0 ≤ f.mid then { f with els := f.els ++ [n] } else { f with body := f.body ++ [n] }
def Bd.put (s : Bd) (n : Nd) : Bd := match s.fs with
  | [] => { s with l := s.l ++ [n] }
  | f :: r => { s with fs := f.put n :: r }
def Fr.ok (m : Nat) (f : Fr) : Prop := f.body.length ≤ m ∧ f.els.length ≤ m
def Bd.ok (m : Nat) (s : Bd) : Prop := s.l.length ≤ m ∧ ∀ f ∈ s.fs, f.ok m
theorem Fr.c_len (d : Nat) (f : Fr) : (f.c d).length = 35 := rfl
end Go.Proofs.YtejjlojfgcgopaaGreatDoor

namespace Go.Proofs.YtejjlojfgcgopaaGreatDoor
open Go.RowKit Go.Proofs.Fw
set_option maxRecDepth 100000
set_option maxHeartbeats 4000000
def Bd.fin (s : Bd) (kind at_ : Int) : Bd × Nat := match s.fs with
  | [] => (s, 12)
  | f :: r => if f.st.kind = kind then (Bd.put ⟨s.l, r, s.o⟩ { f with end_ := at_ }.nd, 0) else (s, 12)
def Bd.mark (s : Bd) (x : Sx) : Bd := if x.kind = 1 then s else { s with o := true }
def Nd.lf (a : Int) (x : Sx) : Nd := .mk a a x [] [] (-1)
def Bd.add (s0 : Bd) (x : Sx) (a : Int) : Bd × Nat :=
  let s := s0.mark x
  if x.kind = 4 then s.fin 3 a
  else if x.kind = 7 then s.fin 5 a
  else if x.kind = 6 then (match s.fs with
    | [] => (s, 12)
    | f :: r => if f.st.kind = 5 ∧ f.mid < 0 then ({ s with fs := { f with mid := a } :: r }, 0) else (s, 12))
  else if x.kind = 3 ∨ x.kind = 5 then (if s.fs.length = 8 then (s, 4) else ({ s with fs := ⟨a, a, x, [], [], -1⟩ :: s.fs }, 0))
  else if x.kind = 1 then (if s.o = true ∨ s.fs ≠ [] then (s, 2) else (s.put (.lf a x), 0))
  else (s.put (.lf a x), 0)
end Go.Proofs.YtejjlojfgcgopaaGreatDoor

namespace Go.Proofs.YtejjlojfgcgopaaGreatDoor
open Go.RowKit Go.Proofs.Fw
set_option maxRecDepth 100000
set_option maxHeartbeats 4000000
section
variable {L : List (Fact Tryz.prog envF)} {ts : List Wd}
end
def inE (w : List UInt8) (p : Nat) (e : Er) : Er := e.map fun x => ((w, p) :: x.1, x.2)
@[simp] theorem buPt (w : List UInt8) (p : Int) : abuild Tryz.prog 158 [(0, .str w), (1, .int .i64 p)] = some (.agg [.str w, .int .i64 p]) := by kernel_rfl
@[simp] theorem bsPt (w : List UInt8) (p : Int) : abuildSlice Tryz.prog 55 1 [(0, .agg [.str w, .int .i64 p])] = some (.slice .full 2 1 [.str w, .int .i64 p]) := by kernel_rfl
@[simp] theorem buWr2 (ow : Own) (sz n : Nat) (cs : List AV) (c : Int) : abuild Tryz.prog 57 [(0, .slice ow sz n cs), (1, .int .i64 c)] = some (.agg [.slice ow sz n cs, .int .i64 c]) := by kernel_rfl
end Go.Proofs.YtejjlojfgcgopaaGreatDoor

namespace Go.Proofs.YtejjlojfgcgopaaGreatDoor
open Go.RowKit Go.Proofs.Fw
set_option maxRecDepth 100000
set_option maxHeartbeats 4000000
theorem elemIt : elemChk Tryz.prog 39 2 = true := by kernel_rfl
@[simp] theorem bsIt (s : List UInt8) (v : AV) : abuildSlice Tryz.prog 39 1 [(0, .agg [.str s, v])] = some (.slice .full 2 1 [.str s, v]) := by kernel_rfl
@[simp] theorem buIt (s : List UInt8) : abuild Tryz.prog 51 [(0, .str s)] = some (.agg [.str s, .nilSlice]) := by kernel_rfl
end Go.Proofs.YtejjlojfgcgopaaGreatDoor

namespace Go.Proofs.YtejjlojfgcgopaaGreatDoor
open Go.RowKit Go.Proofs.Fw
set_option maxRecDepth 100000
set_option maxHeartbeats 4000000
noncomputable def fToks : Fact Tryz.prog envF := Fact.pure 20 (fun s : List UInt8 => s.length < maxS) (fun s => [.str s]) (fun s => toksAV (lex (s.length + 1) s 0 false)) (fun s h H => CS.toF (CS.toX (CS.toN (rtoks_cs s h H)))) (fun x y _ _ h => by
  simp only [List.cons.injEq, AV.str.injEq, and_true] at h
  rw [h])
@[simp] theorem buMk (ts : List Wd) : abuild Tryz.prog 229 [(0, wdsAV ts)] = some (.agg [wdsAV ts, .int .i64 0, .nilSlice, .int .i64 0]) := by
  unfold wdsAV
  split <;> kernel_rfl
end Go.Proofs.YtejjlojfgcgopaaGreatDoor

namespace Go.Proofs.YtejjlojfgcgopaaGreatDoor
open Go.RowKit Go.Proofs.Fw
set_option maxRecDepth 100000
set_option maxHeartbeats 4000000
@[simp] theorem immFN : envF.imm 108 = false := by decide
@[simp] theorem immFB : envF.imm 175 = false := by decide
def lineTxt : List UInt8 := [108, 105, 110, 101]
structure Bst where
  at_ : Nat
  bad : Er
  plain : Bool
def Bst.fail (s : Bst) (p c : Nat) : Bst := ⟨s.at_, some (s.bad.getD ([(lineTxt, p)], c)), s.plain⟩
abbrev Zs := List (Sx × Er)
def empB (z : Sx × Er) : Bool := decide (z.1.kind = 0) && z.2.isNone
def skipA (Z : Zs) (i : Nat) : Nat := i + ((Z.drop i).takeWhile empB).length
def skipS (Z : Zs) (s : Bst) : Bst := ⟨skipA Z s.at_, match s.bad, Z[skipA Z s.at_]? with
  | none, some (_, some x) => inE lineTxt (skipA Z s.at_) (some x)
  | e, _ => e, s.plain⟩
theorem skipA_le (Z : Zs) (i : Nat) : i ≤ skipA Z i := Nat.le_add_right _ _
theorem skipA_len (Z : Zs) (i : Nat) (h : i ≤ Z.length) : skipA Z i ≤ Z.length := by
  unfold skipA
  have := (List.takeWhile_sublist (l := Z.drop i) empB).length_le
  rw [List.length_drop] at this
  omega
theorem skipS_bad {Z : Zs} {s : Bst} {i : Nat} (hf : i = skipA Z s.at_) {x : List (List UInt8 × Nat) × Nat} (h : s.bad = some x) : skipS Z s = ⟨i, some x, s.plain⟩ := by
  unfold skipS
  rw [← hf, h]
theorem skipS_end {Z : Zs} {s : Bst} {i : Nat} (hf : i = skipA Z s.at_) (h : s.bad = none) (hz : Z[i]? = none) : skipS Z s = ⟨i, none, s.plain⟩ := by
  unfold skipS
  rw [← hf, h, hz]
theorem skipS_good {Z : Zs} {s : Bst} {i : Nat} (hf : i = skipA Z s.at_) (h : s.bad = none) {z : Sx × Er} (hz : Z[i]? = some z) (h2 : z.2 = none) : skipS Z s = ⟨i, none, s.plain⟩ := by
  obtain ⟨a, b⟩ := z
  simp only at h2
  unfold skipS
  rw [← hf, h, hz, h2]
theorem skipS_err {Z : Zs} {s : Bst} {i : Nat} (hf : i = skipA Z s.at_) (h : s.bad = none) {z : Sx × Er} (hz : Z[i]? = some z) {y : List (List UInt8 × Nat) × Nat} (h2 : z.2 = some y) : skipS Z s = ⟨i, inE lineTxt i (some y), s.plain⟩ := by
  obtain ⟨a, b⟩ := z
  simp only at h2
  unfold skipS
  rw [← hf, h, hz, h2]
structure ZOk (Z : Zs) : Prop where
  len : Z.length < 1000000
  err : ∀ z ∈ Z, erOk z.2 ∧ ∀ l c, z.2 = some (l, c) → l.length < 1000
@[simp high] theorem alenSx (l : List Sx) : alen Tryz.prog 172 (sxE.av l) = some (.int .i64 l.length) := sxE.alen Tryz.underlying172 l
@[simp high] theorem aidxSx {l : List Sx} {i : Nat} (h : i < l.length) : aindexAddr Tryz.prog 172 (sxE.av l) (.int .i64 (i : Int)) = some (.vptr (sxE.row l) (i * 29)) := sxE.aidx Tryz.underlying172 (by kernel_rfl) h
end Go.Proofs.YtejjlojfgcgopaaGreatDoor

namespace Go.Proofs.YtejjlojfgcgopaaGreatDoor
open Go.RowKit Go.Proofs.Fw
set_option maxRecDepth 100000
set_option maxHeartbeats 4000000
theorem inE_ok {w : List UInt8} {p : Nat} {e : Er} (h : erOk e) : erOk (inE w p e) := by
  cases e with
  | none => exact erOk_none
  | some y =>
    obtain ⟨l, c⟩ := y
    exact erOk_some (by simp) (h l c rfl).2
theorem skipS_ok {Z : Zs} (hZ : ZOk Z) {s : Bst} (h : erOk s.bad) : erOk (skipS Z s).bad := by
  cases hb : s.bad with
  | some x => rw [skipS_bad rfl hb, ← hb]; exact h
  | none =>
    cases hz : Z[skipA Z s.at_]? with
    | none => rw [skipS_end rfl hb hz]; exact erOk_none
    | some z =>
      cases h2 : z.2 with
      | none => rw [skipS_good rfl hb hz h2]; exact erOk_none
      | some y =>
        rw [skipS_err rfl hb hz h2]
        have h3 := (hZ.err z (List.mem_of_getElem? hz)).1
        rw [h2] at h3
        exact inE_ok h3
theorem Bst.fail_ok {s : Bst} (h : erOk s.bad) (p : Nat) {c : Nat} (hc : c ≠ 0) : erOk (s.fail p c).bad := erOk_getD h (by simp) hc
structure Goes (Z : Zs) (s r : Bst) : Prop where
  up : s.at_ ≤ r.at_
  len : s.at_ ≤ Z.length → r.at_ ≤ Z.length
  ok : erOk s.bad → erOk r.bad
theorem Goes.refl (Z : Zs) (s : Bst) : Goes Z s s := ⟨Nat.le_refl _, fun h => h, fun h => h⟩
theorem Goes.trans {Z : Zs} {s r q : Bst} (h : Goes Z s r) (k : Goes Z r q) : Goes Z s q := ⟨Nat.le_trans h.up k.up, fun x => k.len (h.len x), fun x => k.ok (h.ok x)⟩
theorem Goes.fail (Z : Zs) (s : Bst) (p : Nat) {c : Nat} (hc : c ≠ 0) : Goes Z s (s.fail p c) := ⟨Nat.le_refl _, fun h => h, fun h => Bst.fail_ok h p hc⟩
theorem Goes.skip {Z : Zs} (hZ : ZOk Z) (s : Bst) : Goes Z s (skipS Z s) := ⟨skipA_le Z _, fun h => skipA_len Z _ h, fun h => skipS_ok hZ h⟩
theorem Goes.step {Z : Zs} {s : Bst} (h : s.at_ < Z.length) (p : Bool) : Goes Z s ⟨s.at_ + 1, s.bad, p⟩ := ⟨Nat.le_succ _, fun _ => h, fun h => h⟩
theorem Goes.mark (Z : Zs) (s : Bst) (p : Bool) : Goes Z s ⟨s.at_, s.bad, p⟩ := ⟨Nat.le_refl _, fun h => h, fun h => h⟩
end Go.Proofs.YtejjlojfgcgopaaGreatDoor

namespace Go.Proofs.YtejjlojfgcgopaaGreatDoor
open Go.RowKit Go.Proofs.Fw
set_option maxRecDepth 100000
set_option maxHeartbeats 4000000
@[simp high] theorem alenStr (l : List (List UInt8)) : alen Tryz.prog 23 (strE.av l) = some (.int .i64 l.length) := strE.alen Tryz.underlying23 l
@[simp high] theorem aidxStr {l : List (List UInt8)} {i : Nat} (h : i < l.length) : aindexAddr Tryz.prog 23 (strE.av l) (.int .i64 (i : Int)) = some (.vptr (strE.row l) (i * 1)) := strE.aidx Tryz.underlying23 (by kernel_rfl) h
@[simp high] theorem aidxStr0 {l : List (List UInt8)} (h : 0 < l.length) : aindexAddr Tryz.prog 23 (strE.av l) (.int .i64 0) = some (.vptr (strE.row l) 0) := aidxStr (i := 0) h
@[simp] theorem buBd (ls : List (List UInt8)) : abuild Tryz.prog 175 [(0, strE.av ls)] = some (.agg [strE.av ls, .nilSlice, .nilSlice, .int .i64 0, .nilSlice, .int .i64 0, .bool false]) := by
  unfold Enc.av
  split <;> kernel_rfl
@[simp] theorem bsSx (c0 c1 c2 c3 c4 c5 c6 c7 c8 c9 c10 c11 c12 c13 c14 c15 c16 c17 c18 c19 c20 c21 c22 c23 c24 c25 c26 c27 c28 : AV) : abuildSlice Tryz.prog 172 1 [(0, .agg [c0, c1, c2, c3, c4, c5, c6, c7, c8, c9, c10, c11, c12, c13, c14, c15, c16, c17, c18, c19, c20, c21, c22, c23, c24, c25, c26, c27, c28])] = some (.slice .full 29 1 [c0, c1, c2, c3, c4, c5, c6, c7, c8, c9, c10, c11, c12, c13, c14, c15, c16, c17, c18, c19, c20, c21, c22, c23, c24, c25, c26, c27, c28]) := by kernel_rfl
@[simp] theorem bsWr (a b : AV) : abuildSlice Tryz.prog 173 1 [(0, .agg [a, b])] = some (.slice .full 2 1 [a, b]) := by kernel_rfl
theorem Less.boxStrip {B : Bs} {t : List AV} {H : AH} (id n : Nat) {cs : List AV} (h : H.at id = some (.box cs)) : Less B t H t (H.set id (some (.box (stripL n cs)))) := by
  intro a w hs
  obtain ⟨g, R, p, hT, hd⟩ := hs
  refine ⟨g, ⟨R.imm, ?_, ?_, R.inj, R.blk⟩, ⟨p.le, ?_, p.new, p.old, p.size, p.os, p.tape, p.output⟩, hT, hd⟩
  · intro i hi
    rw [AH.at_set] at hi
    split at hi
    · cases hi
    · exact R.free i hi
  · intro i e he hne
    rw [AH.at_set] at he
    split at he
    · rename_i hh
      obtain ⟨rfl, _⟩ := hh
      simp only [Option.some.injEq] at he
      subst he
      obtain ⟨ge, h1, h2⟩ := R.ent id _ h (by simp)
      refine ⟨ge, h1, ?_⟩
      cases ge with
      | box b =>
        obtain ⟨vs, el, h3, h4, h5⟩ := h2
        exact ⟨vs, el, h3, RepL.strip n _ _ h4, h5⟩
      | tok => exact h2
    · exact R.ent i e he hne
  · intro i hi
    obtain ⟨h1, h2⟩ := p.hid i hi
    refine ⟨h1, ?_⟩
    rw [AH.at_set, if_neg]
    · exact h2
    · rintro ⟨rfl, _⟩
      rw [h] at h2
      cases h2
theorem encAppN {α : Type} (E : Enc α) {P : Program} {H : AH} {fid k : Nat} {t : TypeId} {ow : Own} (h : elemChk P t E.sz = true) (l : List α) (x : α) (h0 : l ≠ []) (hk : H.at k = some (.tok l.length)) (hb : l.length + 1 ≤ 137438953472) :
    aappend P H fid t t (E.tk k l) (.slice ow E.sz 1 (E.c x)) = some (E.tk k (l ++ [x]), [(k, .tok (l.length + 1))]) := by
  rw [E.tk_ne k h0, E.tk_ne k (by simp), List.length_append]
  exact E.app1_tok h l x rfl hk hb
theorem encApp0 {α : Type} (E : Enc α) {P : Program} {H : AH} {fid : Nat} {t : TypeId} {ow : Own} (h : elemChk P t E.sz = true) (x : α) :
    aappend P H fid t t .nilSlice (.slice ow E.sz 1 (E.c x)) = some (E.tk fid [x], [(fid, .tok 1)]) := by
  rw [E.tk_ne fid (by simp), E.row_one1]
  exact E.app1_nil h x
theorem encIds {α : Type} (E : Enc α) (k : Nat) {l : List α} (h : l ≠ []) : idsOf (E.tk k l) = [k] := by
  rw [E.tk_ne k h]
  simp only [idsOf, ids_low0L _ (E.row_low l)]
end Go.Proofs.YtejjlojfgcgopaaGreatDoor

namespace Go.Proofs.YtejjlojfgcgopaaGreatDoor.Tf
open Go.RowKit Go.Proofs.Fw
set_option maxRecDepth 100000
theorem go10 : goFn Tryz.prog 10 = true := by kernel_rfl
theorem go11 : goFn Tryz.prog 11 = true := by kernel_rfl
theorem go12 : goFn Tryz.prog 12 = true := by kernel_rfl
theorem go13 : goFn Tryz.prog 13 = true := by kernel_rfl
theorem go14 : goFn Tryz.prog 14 = true := by kernel_rfl
theorem go22 : goFn Tryz.prog 22 = true := by kernel_rfl
theorem go26 : goFn Tryz.prog 26 = true := by kernel_rfl
theorem go29 : goFn Tryz.prog 29 = true := by kernel_rfl
theorem go36 : goFn Tryz.prog 36 = true := by kernel_rfl
theorem go37 : goFn Tryz.prog 37 = true := by kernel_rfl
theorem go38 : goFn Tryz.prog 38 = true := by kernel_rfl
theorem go39 : goFn Tryz.prog 39 = true := by kernel_rfl
theorem go42 : goFn Tryz.prog 42 = true := by kernel_rfl
theorem go43 : goFn Tryz.prog 43 = true := by kernel_rfl
theorem go45 : goFn Tryz.prog 45 = true := by kernel_rfl
theorem go47 : goFn Tryz.prog 47 = true := by kernel_rfl
theorem go74 : goFn Tryz.prog 74 = true := by kernel_rfl
theorem go78 : goFn Tryz.prog 78 = true := by kernel_rfl
theorem go79 : goFn Tryz.prog 79 = true := by kernel_rfl
theorem go125 : goFn Tryz.prog 125 = true := by kernel_rfl
theorem go126 : goFn Tryz.prog 126 = true := by kernel_rfl
theorem go170 : goFn Tryz.prog 170 = true := by kernel_rfl
theorem go198 : goFn Tryz.prog 198 = true := by kernel_rfl
theorem go200 : goFn Tryz.prog 200 = true := by kernel_rfl
attribute [simp] go10 go11 go12 go13 go14 go22 go26 go29 go36 go37 go38 go39 go42 go43 go45 go47 go74 go78 go79 go125
attribute [simp] go126 go170 go198 go200
end Go.Proofs.YtejjlojfgcgopaaGreatDoor.Tf

namespace Go.Proofs.YtejjlojfgcgopaaGreatDoor
open Go.RowKit Go.Proofs.Fw
set_option maxRecDepth 100000
set_option maxHeartbeats 4000000
@[simp] theorem immSFl : envS.imm 156 = true := by decide
@[simp] theorem buFaultI (w : List UInt8) (p c : Int) : abuild Tryz.prog 156 [(0, .str w), (1, .int .i64 p), (2, .iface 134 (.int .i64 c))] = some (.agg [.str w, .int .i64 p, .iface 134 (.int .i64 c)]) := by kernel_rfl
@[simp high] theorem alenTkS (k : Nat) (l : List (List UInt8)) : alen Tryz.prog 23 (strE.tk k l) = some (.int .i64 l.length) := strE.tk_len Tryz.underlying23 k l
@[simp] theorem softSStr : envS.soft 23 = false := by decide
def rangeParts : Code → Option (Code × Code)
  | .rangeFunc _ _ a b => some (a, b)
  | .seq a b => (match rangeParts a with
    | some x => some x
    | none => rangeParts b)
  | .block _ c => rangeParts c
  | _ => none
noncomputable def splitA : Code := ((rangeParts (bodyOf Tryz.f79)).getD (.skip, .skip)).1
noncomputable def splitB : Code := ((rangeParts (bodyOf Tryz.f79)).getD (.skip, .skip)).2
def hS (e : Er) (ls : List (List UInt8)) (rest : List UInt8) : AH := [some (.box [.nilSlice]), some (.box [erI e]), some (.box [strE.tk 6 ls]), some (.box [.str rest]), some (.box [.str [10]]), some (.box [.int .i64 1])] ++ (if ls = [] then [] else [some (.tok ls.length)])
end Go.Proofs.YtejjlojfgcgopaaGreatDoor

namespace Go.Proofs.Fw
open Go.RowKit
structure PostL (l : Nat) (g : Gh) (H : AH) (w : World) (g' : Gh) (H' : AH) (w' : World) : Prop where
  le : g.le g'
  hid : ∀ id, H.at id = some .hid → g'.M id = g.M id ∧ H'.at id = some .hid
  new : ∀ id e', g'.M id = some e' → (∃ e, g.M id = some e ∧ e.block = e'.block) ∨ w.heap.size ≤ e'.block
  old : ∀ b, b ≠ l → b < w.heap.size → (∀ id e ge, H.at id = some e → e ≠ .hid → g.M id = some ge → ge.block ≠ b) → w'.heap[b]? = w.heap[b]? ∧ ∀ i, g'.G b i = g.G b i
  size : w.heap.size ≤ w'.heap.size
  os : w'.os = w.os
  tape : w'.tape = w.tape
  output : w'.output = w.output
section
variable {l : Nat} {g g1 g2 : Gh} {H H1 H2 : AH} {w w1 w2 : World}
theorem PostL.trans (R : Rel g H w) (p : PostL l g H w g1 H1 w1) (q : PostL l g1 H1 w1 g2 H2 w2) : PostL l g H w g2 H2 w2 where
  le := Gh.le_trans p.le q.le
  hid := fun id h => by
    obtain ⟨h1, h2⟩ := p.hid id h
    obtain ⟨h3, h4⟩ := q.hid id h2
    exact ⟨h3.trans h1, h4⟩
  new := fun id e h => by
    rcases q.new id e h with ⟨e1, h1, hb⟩ | h1
    · rcases p.new id e1 h1 with ⟨e0, h0, hb0⟩ | h0
      · exact .inl ⟨e0, h0, hb0.trans hb⟩
      · exact .inr (hb ▸ h0)
    · exact .inr (Nat.le_trans p.size h1)
  old := fun b hbl hb hn => by
    obtain ⟨h1, h2⟩ := p.old b hbl hb hn
    have := q.old b hbl (Nat.lt_of_lt_of_le hb p.size) (fun id e ge he hne hM hbk => by
      rcases p.new id ge hM with ⟨e0, h0, hb0⟩ | h0
      · cases hH : H.at id with
        | none => rw [R.free id hH] at h0; cases h0
        | some e' =>
          by_cases hh : e' = .hid
          · subst hh
            have := (p.hid id hH).2
            rw [he] at this
            injection this with this
            exact hne this
          · exact hn id e' e0 hH hh h0 (hb0.trans hbk)
      · omega)
    exact ⟨this.1.trans h1, fun i => (this.2 i).trans (h2 i)⟩
  size := Nat.le_trans p.size q.size
  os := q.os.trans p.os
  tape := q.tape.trans p.tape
  output := q.output.trans p.output
theorem PostL.put (g : Gh) (H : AH) (w : World) (l : Nat) (o : Obj) : PostL l g H w g H (w.putObj l o) :=
  ⟨g.le_refl, fun _ h => ⟨rfl, h⟩, fun _ e h => .inl ⟨e, h, rfl⟩, fun b hb _ _ => ⟨World.putObj_heap_other hb, fun _ => rfl⟩, by rw [World.putObj_size]; exact Nat.le_refl _, rfl, rfl, rfl⟩
theorem PostL.post (p : PostL l g H w g1 H1 w1) (h : w.heap.size ≤ l ∨ (w1.heap[l]? = w.heap[l]? ∧ ∀ i, g1.G l i = g.G l i)) : Post g H w g1 H1 w1 :=
  ⟨p.le, p.hid, p.new, fun b hb hn => by
    by_cases hbl : b = l
    · subst hbl
      rcases h with h | h
      · omega
      · exact h
    · exact p.old b hbl hb hn, p.size, p.os, p.tape, p.output⟩
end
end Go.Proofs.Fw
namespace Go.Proofs.YtejjlojfgcgopaaGreatDoor
open Go.RowKit Go.Proofs.Fw
set_option maxRecDepth 100000
set_option maxHeartbeats 4000000
noncomputable def recS (fn : FuncId) (tm : Array Value) (D : Nat) (st : LoopState) (pe : Option Code) : Loop := { state := st, pending := pe, fn, tmps := tm, params := #[16], assign := splitA, body := splitB, defers := D }
end Go.Proofs.YtejjlojfgcgopaaGreatDoor

namespace Go.Proofs.YtejjlojfgcgopaaGreatDoor
open Go.RowKit Go.Proofs.Fw
set_option maxRecDepth 100000
set_option maxHeartbeats 4000000
structure Yl (B : Bs) (l D : Nat) (fn : FuncId) (tm : Array Value) : Prop where
  hl : B.w.heap[l]? = some (.loop (recS fn tm D .ready none))
  hfr : ∀ id ge, B.g.M id = some ge → ge.block ≠ l
  hT : RepL B.g (mkT 34 [(2, .ptr 0 0), (3, .ptr 1 0), (4, .ptr 2 0)]) tm.toList
  hG : GlobOk envS B.g
theorem Yl.lt {B : Bs} {l D : Nat} {fn : FuncId} {tm : Array Value} (Y : Yl B l D fn tm) : l < B.w.heap.size := (Array.getElem?_eq_some_iff.1 Y.hl).1
end Go.Proofs.YtejjlojfgcgopaaGreatDoor

namespace Go.Proofs.YtejjlojfgcgopaaGreatDoor
open Go.RowKit Go.Proofs.Fw
set_option maxRecDepth 100000
set_option maxHeartbeats 4000000
@[simp] theorem immFrs : envF.imm 46 = false := by decide
@[simp] theorem buCd6 (s : List UInt8) (a0 a1 a2 a3 b0 b1 b2 b3 : AV) : abuild Tryz.prog 29 [(0, .str s), (1, .agg [a0, a1, a2, a3]), (2, .agg [b0, b1, b2, b3])] = some (.agg [.str s, a0, a1, a2, a3, b0, b1, b2, b3]) := by kernel_rfl
@[simp] theorem buSt6 (k st : Int) (s nm : List UInt8) (a0 a1 a2 a3 b0 b1 b2 b3 c0 c1 c2 c3 d0 d1 d2 d3 e0 e1 e2 e3 f0 f1 f2 f3 : AV) : abuild Tryz.prog 31 [(0, .int .i64 k), (2, .agg [a0, a1, a2, a3]), (3, .agg [b0, b1, b2, b3]), (4, .agg [.str s, c0, c1, c2, c3, d0, d1, d2, d3]), (5, .str nm), (6, .agg [e0, e1, e2, e3]), (7, .agg [f0, f1, f2, f3]), (8, .int .i64 st)]
    = some (.agg [.int .i64 k, .nilSlice, a0, a1, a2, a3, b0, b1, b2, b3, .str s, c0, c1, c2, c3, d0, d1, d2, d3, .str nm, e0, e1, e2, e3, f0, f1, f2, f3, .int .i64 st]) := by kernel_rfl
@[simp high] theorem alenRit (l : List It) : alen Tryz.prog 39 (itE.av l) = some (.int .i64 l.length) := itE.alen Tryz.underlying39 l
@[simp high] theorem aidxRit {l : List It} {i : Nat} (h : i < l.length) : aindexAddr Tryz.prog 39 (itE.av l) (.int .i64 (i : Int)) = some (.vptr (itE.row l) (i * 2)) := itE.aidx Tryz.underlying39 (by kernel_rfl) h
@[simp] theorem buIt6 (s : List UInt8) (ow : Own) (sz n : Nat) (cs : List AV) : abuild Tryz.prog 121 [(0, .str s), (1, .slice ow sz n cs)] = some (.agg [.str s, .slice ow sz n cs]) := by kernel_rfl
@[simp] theorem buIt6n (s : List UInt8) : abuild Tryz.prog 121 [(0, .str s), (1, .nilSlice)] = some (.agg [.str s, .nilSlice]) := by kernel_rfl
@[simp] theorem buIt6d (s : List UInt8) (l : List Int) : abuild Tryz.prog 121 [(0, .str s), (1, dimE.av l)] = some (.agg [.str s, dimE.av l]) := by
  by_cases h : l = []
  · subst h; exact buIt6n s
  · rw [dimE.av_ne h]; exact buIt6 s _ _ _ _
def toSx (x : Sx) : Sx := ⟨x.kind, x.items, ofT x.to, ofT x.e, x.op, ofT x.ca, ofT x.cb, x.name, ofT x.lo, ofT x.hi, x.step⟩
structure SxT (x : Sx) : Prop where
  to : okT x.to = true
  e : okT x.e = true
  ca : okT x.ca = true
  cb : okT x.cb = true
  lo : okT x.lo = true
  hi : okT x.hi = true
  items : x.items.length < 4294967296
  dims : ∀ y ∈ x.items, y.dims.length < 4294967296
def c6 (x : Sx) (v : AV) : List AV := [.int .i64 x.kind, v, .int .i64 (ofT x.to).k, .int .i64 (ofT x.to).n, .str (ofT x.to).s, (ofT x.to).ar, .int .i64 (ofT x.e).k, .int .i64 (ofT x.e).n, .str (ofT x.e).s, (ofT x.e).ar, .str x.op,
  .int .i64 (ofT x.ca).k, .int .i64 (ofT x.ca).n, .str (ofT x.ca).s, (ofT x.ca).ar, .int .i64 (ofT x.cb).k, .int .i64 (ofT x.cb).n, .str (ofT x.cb).s, (ofT x.cb).ar, .str x.name, .int .i64 (ofT x.lo).k, .int .i64 (ofT x.lo).n, .str (ofT x.lo).s, (ofT x.lo).ar, .int .i64 (ofT x.hi).k, .int .i64 (ofT x.hi).n, .str (ofT x.hi).s, (ofT x.hi).ar, .int .i64 x.step]
end Go.Proofs.YtejjlojfgcgopaaGreatDoor

namespace Go.Proofs.YtejjlojfgcgopaaGreatDoor
open Go.RowKit Go.Proofs.Fw
set_option maxRecDepth 100000
set_option maxHeartbeats 4000000
mutual
def toN : Nd → Nd
  | .mk l e s b c m => .mk l e (toSx s) (toNs b) (toNs c) m
def toNs : List Nd → List Nd
  | [] => []
  | n :: r => toN n :: toNs r
end
@[simp high] theorem alenNd7 (l : List Nd) : alen Tryz.prog 68 (ndE.av l) = some (.int .i64 l.length) := ndE.alen Tryz.underlying68 l
@[simp high] theorem aidxNd7 {l : List Nd} {i : Nat} (h : i < l.length) : aindexAddr Tryz.prog 68 (ndE.av l) (.int .i64 (i : Int)) = some (.vptr (ndE.row l) (i * 34)) := ndE.aidx Tryz.underlying68 (by kernel_rfl) h
end Go.Proofs.YtejjlojfgcgopaaGreatDoor

namespace Go.Proofs.YtejjlojfgcgopaaGreatDoor
open Go.RowKit Go.Proofs.Fw
set_option maxRecDepth 100000
set_option maxHeartbeats 4000000
def upD (d : List Nat) : Nat → List UInt8
  | 0 => []
  | j + 1 => upD d j ++ ((if j = 0 then [40] else csT) ++ dd (d.getD j 0))
def upT (ds : List (List Nat)) : Nat → List UInt8
  | 0 => tInt
  | i + 1 => upT ds i ++ ((if i = 0 then [] else csT) ++ itT i (ds.getD i []) [])
theorem tail_dd : ∀ l : List Nat, dT [] l = Lib.joinTail csT (l.map dd) ++ [41]
  | [] => rfl
  | v :: l => by
    have := tail_dd l
    simp only [Lib.joinTail, List.map_cons, List.flatten_cons, List.append_assoc, dT] at this ⊢
    rw [this]
    rfl
theorem upD_cons (v : Nat) (l : List Nat) : ∀ j, j ≤ l.length → upD (v :: l) (j + 1) = 40 :: (dd v ++ Lib.joinTail csT ((l.take j).map dd))
  | 0, _ => by simp [upD, Lib.joinTail]
  | j + 1, h => by
    have hj : j < l.length := by omega
    have e1 : (l.map dd)[j]? = some (dd l[j]) := by rw [List.getElem?_map, List.getElem?_eq_getElem hj]; rfl
    have := Lib.joinTail_take_succ csT (l.map dd) j _ e1
    rw [upD, upD_cons v l j (by omega), List.map_take, List.map_take, this]
    have e2 : (v :: l).getD (j + 1) 0 = l[j] := by simp [List.getD, List.getElem?_eq_getElem hj]
    rw [e2, if_neg (by omega)]
    simp
theorem itT_up (i : Nat) (d : List Nat) : itT i d [] = vT i ++ (upD d d.length ++ (if d = [] then [] else [41])) := by
  cases d with
  | nil => simp [itT, vT, upD]
  | cons v l =>
    rw [List.length_cons, upD_cons v l l.length (Nat.le_refl _), List.take_length, if_neg (List.cons_ne_nil v l)]
    simp only [itT, tail_dd l, vT]
    simp
theorem isT2_snoc (x : List Nat) : ∀ (l : List (List Nat)) (i : Nat), isT2 [] i (l ++ [x]) = isT2 [] i l ++ (csT ++ itT (i + l.length) x [])
  | [], i => by simp [isT2, csT]
  | d :: l, i => by
    rw [List.cons_append, isT2, isT2, isT2_snoc x l (i + 1), itT_app, itT_app i d (isT2 [] (i + 1) l), List.length_cons, show i + 1 + l.length = i + (l.length + 1) by omega]
    simp
theorem upT_cons (d : List Nat) (ds : List (List Nat)) : ∀ j, j ≤ ds.length → upT (d :: ds) (j + 1) = intTx ++ (itT 0 d [] ++ isT2 [] 1 (ds.take j))
  | 0, _ => by simp [upT, isT2]; rfl
  | j + 1, h => by
    have hj : j < ds.length := by omega
    have e2 : (d :: ds).getD (j + 1) [] = ds[j] := by simp [List.getD, List.getElem?_eq_getElem hj]
    have e3 : ds.take (j + 1) = ds.take j ++ [ds[j]] := by rw [List.take_add_one, List.getElem?_eq_getElem hj, Option.toList_some]
    have e4 : (ds.take j).length = j := by rw [List.length_take]; omega
    rw [upT, upT_cons d ds j (by omega), e2, if_neg (by omega), e3, isT2_snoc, e4, show 1 + j = j + 1 by omega]
    simp
theorem upT_all (d : List Nat) (ds : List (List Nat)) : upT (d :: ds) (d :: ds).length = declX d ds [] := by
  rw [List.length_cons, upT_cons d ds ds.length (Nat.le_refl _), List.take_length]
  unfold declX
  rw [itT_app 0 d (isT2 [] 1 ds)]
theorem upD_len {d : List Nat} (h : ∀ v ∈ d, v < 100000) : ∀ j, (upD d j).length ≤ 7 * j
  | 0 => by simp [upD]
  | j + 1 => by
    have h1 := upD_len h j
    have h2 : (dd (d.getD j 0)).length ≤ 5 := dd_pow 4 _ (by
      rw [List.getD]
      cases hj : d[j]? with
      | none => decide
      | some v => exact h v (List.mem_of_getElem? hj))
    have h3 : (if j = 0 then [40] else csT : List UInt8).length ≤ 2 := by split <;> decide
    rw [upD]
    simp only [List.length_append]
    omega
theorem upT_len {L : List (List Nat)} (h : ∀ x ∈ L, x.length ≤ 4 ∧ ∀ v ∈ x, v < 100000) : ∀ j, j ≤ 20 → (upT L j).length ≤ 8 + 52 * j
  | 0, _ => by simp [upT, tInt]
  | j + 1, hj => by
    have h1 := upT_len h j (by omega)
    have hx : (L.getD j []).length ≤ 4 ∧ ∀ v ∈ L.getD j [], v < 100000 := by
      rw [List.getD]
      cases hj : L[j]? with
      | none => exact ⟨by decide, fun v hv => absurd hv List.not_mem_nil⟩
      | some v => exact h v (List.mem_of_getElem? hj)
    have h2 := itT_len j (L.getD j []) (by omega) hx.1 hx.2
    have h3 : (if j = 0 then [] else csT : List UInt8).length ≤ 2 := by split <;> decide
    rw [upT]
    simp only [List.length_append]
    omega
theorem itsOf_at : ∀ (L : List (List Nat)) (i j : Nat), i < L.length → (itsOf j L)[i]? = some ⟨vT (j + i), (L.getD i []).map (fun x : Nat => (x : Int))⟩
  | [], i, j, h => absurd h (by simp)
  | d :: L, 0, j, _ => rfl
  | d :: L, i + 1, j, h => by
    have := itsOf_at L i (j + 1) (by simpa using h)
    rw [itsOf, List.getElem?_cons_succ, this, show j + 1 + i = j + (i + 1) by omega]
    rfl
theorem itsOf_len : ∀ (L : List (List Nat)) (j : Nat), (itsOf j L).length = L.length
  | [], _ => rfl
  | d :: L, j => by rw [itsOf, List.length_cons, itsOf_len L, List.length_cons]
def RtI (x : Sx) (L : List (List Nat)) (k : Nat) (t : List AV) (H : AH) : Prop := ∃ i, i + k = L.length ∧ t = mkT 130 [(1, .ptr 0 0), (3, .str (upT L i)), (4, .int .i64 (i : Int))] ∧ H = [some (.box x.c)]
def RdI (x : Sx) (A : List UInt8) (d : List Nat) (i : Nat) (k : Nat) (t : List AV) (H : AH) : Prop := ∃ j, j + k = d.length ∧ t = mkT 130 [(1, .ptr 0 0), (3, .str (A ++ upD d j)), (4, .int .i64 (i : Int)), (5, .int .i64 (j : Int))] ∧ H = [some (.box x.c)]
@[simp high] theorem aidxDim0 {l : List Int} (h : 0 < l.length) : aindexAddr Tryz.prog 49 (dimE.av l) (.int .i64 0) = some (.vptr (dimE.row l) 0) := aidxDim (i := 0) h
theorem rtext_cs (x : Sx) (L : List (List Nat)) (hk : x.kind = 1) (hi : x.items = itsOf 0 L) (hL8 : L.length ≤ 8) (h4 : ∀ d ∈ L, d.length ≤ 4 ∧ ∀ v ∈ d, v < 100000) (H : AH) : CS Tryz.prog envF 19 [.agg x.c] H (.str (upT L L.length)) H := by
  have hL : ([fDec].map (·.f)).Nodup := show ([18] : List Nat).Nodup by decide
  have X := oOf_cx [fDec] methFOk mixed
  have f1 := fun (n : Nat) (h : n < 1000000000000) H => oOf_pure hL (show fDec ∈ [fDec] by simp) n h H
  generalize oOf [fDec] = O at X f1
  refine CS.tr0 lowF Tryz.func19 (by kernel_rfl) 0 (by simp [Tryz.f19]) (fun B hB hG => ?_) (by simp) (by simp [Sx.c_low]) H
  refine Tr.goD X hG ?_
  simp [Tryz.f19, Sx.c, hk]
  refine LpD.loopN X hG (RtI x L) L.length (t' := mkT 130 [(1, .ptr 0 0), (3, .str (upT L 0)), (4, .int .i64 ((0 : Nat) : Int))]) (H' := [some (.box x.c)])
    (Less.mkK 1 (by simp [hB]) (by simp [upT, tInt]) (by simp [Sx.c, hk, upT, tInt]) (by simp [Sx.c, hk, upT, tInt])) ⟨0, by omega, rfl, rfl⟩ ?_
  rintro k tt H ⟨i, hik, rfl, rfl⟩
  cases k with
  | zero =>
    obtain rfl : i = L.length := by omega
    simp [Sx.c, hk, hi, itsOf_len, Blk_exit]
  | succ k =>
    have hil : i < L.length := by omega
    have hil' : (i : Int) < L.length := by omega
    have hy := itsOf_at L i 0 hil
    rw [Nat.zero_add, ← hi] at hy
    have hlen : x.items.length = L.length := by rw [hi, itsOf_len]
    have hix : i < x.items.length := by omega
    have g0 : (itE.row x.items)[i * 2 + 0]? = some (.str (vT i)) := itE.row_cell hy 0 (by decide)
    have g1 : (itE.row x.items)[i * 2 + 1]? = some (dimE.av ((L.getD i []).map (fun x : Nat => (x : Int)))) := itE.row_cell hy 1 (by decide)
    simp only [Nat.add_zero] at g0
    have w1 : IntKind.i64.wrap ((i : Int) + 1) = ((i + 1 : Nat) : Int) := by rw [wrap_i64 (by omega) (by omega)]; omega
    have hT := upT_len h4 i (by omega)
    have hd : (L.getD i []).length ≤ 4 ∧ ∀ v ∈ L.getD i [], v < 100000 := h4 _ (by rw [List.getD, List.getElem?_eq_getElem hil]; exact List.getElem_mem hil)
    have hup : upT L (i + 1) = upT L i ++ ((if i = 0 then [] else csT) ++ itT i (L.getD i []) []) := rfl
    rw [itT_up] at hup
    generalize L.getD i [] = d at *
    have hnx : RtI x L k (mkT 130 [(1, .ptr 0 0), (3, .str (upT L (i + 1))), (4, .int .i64 ((i + 1 : Nat) : Int))]) [some (.box x.c)] := ⟨i + 1, by omega, rfl, rfl⟩
    generalize upT L i = s at *
    have hv := dd_pow 1 i (by omega)
    have hvl : (vT i).length ≤ 3 := by simp only [vT, List.length_cons]; omega
    generalize vT i = nm at *
    have b1 : s.length + nm.length ≤ 9223372036854775807 := by omega
    have b2 : s.length + 2 ≤ 9223372036854775807 := by omega
    have b3 : s.length + 2 + nm.length ≤ 9223372036854775807 := by omega
    have b4 : s.length + (nm.length + 2) ≤ 9223372036854775807 := by omega
    have b5 : s.length ≤ 9223372036854775805 := by omega
    have hz0 : upD d 0 = [] := rfl
    by_cases h0 : i = 0
    all_goals
      first
      | rw [if_pos h0] at hup
        have hz : ¬ 0 < i := by omega
        obtain ⟨A, hA⟩ : ∃ A, A = s ++ nm := ⟨_, rfl⟩
        have hAl : A.length ≤ 450 := by rw [hA, List.length_append]; omega
        simp [Sx.c, hk, hlen, hil, hil', hix, hz, g0, b1, -Int.natCast_add]
        refine LpD.loopN X hG (RdI x A d i) d.length (t' := mkT 130 [(1, .ptr 0 0), (3, .str (A ++ upD d 0)), (4, .int .i64 (i : Int)), (5, .int .i64 ((0 : Nat) : Int))]) (H' := [some (.box x.c)])
          (Less.mkK 1 (by simp [hB]) (by simp [hz0, hA]) (by simp [Sx.c, hk, hz0, hA]) (by simp [Sx.c, hk, hz0, hA])) ⟨0, by omega, rfl, rfl⟩ ?_
        have hu : upT L (i + 1) = A ++ (upD d d.length ++ if d = [] then [] else [41]) := by rw [hup, hA]; simp
      | rw [if_neg h0] at hup
        have hz : 0 < i := by omega
        obtain ⟨A, hA⟩ : ∃ A, A = s ++ 44 :: 32 :: nm := ⟨_, rfl⟩
        have hAl : A.length ≤ 450 := by rw [hA, List.length_append]; simp only [List.length_cons]; omega
        simp [Sx.c, hk, hlen, hil, hil', hix, hz, g0, b1, b2, b3, b4, b5, -Int.natCast_add]
        refine LpD.loopN X hG (RdI x A d i) d.length (t' := mkT 130 [(1, .ptr 0 0), (3, .str (A ++ upD d 0)), (4, .int .i64 (i : Int)), (5, .int .i64 ((0 : Nat) : Int))]) (H' := [some (.box x.c)])
          (Less.mkK 1 (by simp [hB]) (by simp [hz0, hA]) (by simp [Sx.c, hk, hz0, hA]) (by simp [Sx.c, hk, hz0, hA])) ⟨0, by omega, rfl, rfl⟩ ?_
        have hu : upT L (i + 1) = A ++ (upD d d.length ++ if d = [] then [] else [41]) := by rw [hup, hA]; simp [csT]
      clear hA hup
      rintro k2 tt H ⟨j, hjk, rfl, rfl⟩
      have hD := upD_len hd.2 j
      cases k2 with
      | zero =>
        obtain rfl : j = d.length := by omega
        have hmp : (d.map (fun x : Nat => (x : Int))).length = d.length := List.length_map _
        have b6 : A.length + (upD d d.length).length ≤ 9223372036854775806 := by omega
        have b7 : A.length + ((upD d d.length).length + 1) ≤ 9223372036854775807 := by omega
        by_cases hd0 : d = []
        · rw [if_pos hd0, List.append_nil] at hu
          have hpos : ¬ 0 < d.length := by simp [hd0]
          simp [Sx.c, hk, hix, g1, Blk_exit, hmp, hpos, w1, -Int.natCast_add]
          exact Nxt.mk k (by omega) (Less.mkK 1 (by simp [hB]) (by simp [hu]) (by simp [Sx.c, hk]) (by simp [Sx.c, hk])) hnx
        · rw [if_neg hd0] at hu
          have hpos : 0 < d.length := List.length_pos_iff.2 hd0
          simp [Sx.c, hk, hix, g1, Blk_exit, hmp, hpos, w1, b6, b7, -Int.natCast_add]
          exact Nxt.mk k (by omega) (Less.mkK 1 (by simp [hB]) (by simp [hu]) (by simp [Sx.c, hk]) (by simp [Sx.c, hk])) hnx
      | succ k2 =>
        have hj : j < d.length := by omega
        have hj' : (j : Int) < d.length := by omega
        have hmp : (d.map (fun x : Nat => (x : Int))).length = d.length := List.length_map _
        have hjm : j < (d.map (fun x : Nat => (x : Int))).length := by rw [hmp]; exact hj
        have cz : (dimE.row (d.map (fun x : Nat => (x : Int))))[j]? = some (.int .i64 ((d.getD j 0 : Nat) : Int)) := by
          have := dimE.row_cell (l := d.map (fun x : Nat => (x : Int))) (i := j) (x := ((d.getD j 0 : Nat) : Int)) (by rw [List.getElem?_map, List.getD, List.getElem?_eq_getElem hj]; rfl) 0 (by decide)
          rw [dim_sz, Nat.mul_one, Nat.add_zero] at this
          exact this
        have hv5 : d.getD j 0 < 100000 := hd.2 _ (by rw [List.getD, List.getElem?_eq_getElem hj]; exact List.getElem_mem hj)
        have hdd := dd_pow 4 _ hv5
        have gd := f1 (d.getD j 0) (by omega)
        have hupj : upD d (j + 1) = upD d j ++ ((if j = 0 then [40] else csT) ++ dd (d.getD j 0)) := rfl
        have hnj : RdI x A d i k2 (mkT 130 [(1, .ptr 0 0), (3, .str (A ++ upD d (j + 1))), (4, .int .i64 (i : Int)), (5, .int .i64 ((j + 1 : Nat) : Int))]) [some (.box x.c)] := ⟨j + 1, by omega, rfl, rfl⟩
        generalize d.getD j 0 = v at *
        generalize dd v = dv at *
        generalize upD d (j + 1) = u' at *
        generalize upD d j = u at *
        have w2 : IntKind.i64.wrap ((j : Int) + 1) = ((j + 1 : Nat) : Int) := by rw [wrap_i64 (by omega) (by omega)]; omega
        have e1 : A.length + u.length ≤ 9223372036854775000 := by omega
        have e2 : A.length + (u.length + (1 + dv.length)) ≤ 9223372036854775000 := by omega
        by_cases j0 : j = 0
        · rw [if_pos j0] at hupj
          have hpos : 0 < d.length := by omega
          have e3 : A.length + u.length ≤ 9223372036854775806 := by omega
          have e4 : A.length + (u.length + 1) + dv.length ≤ 9223372036854775807 := by omega
          subst j0
          have w3 : IntKind.i64.wrap (1 : Int) = 1 := by decide
          simp [Sx.c, hk, hix, g1, hmp, hj, hj', hjm, hpos, cz, gd, w3, e3, e4, -Int.natCast_add]
          exact Nxt.mk k2 (by omega) (Less.mkK 1 (by simp [hB]) (by simp [hupj, csT]) (by simp [Sx.c, hk]) (by simp [Sx.c, hk])) hnj
        · rw [if_neg j0] at hupj
          have e3 : A.length + u.length ≤ 9223372036854775805 := by omega
          have e4 : A.length + (u.length + 2) + dv.length ≤ 9223372036854775807 := by omega
          simp [Sx.c, hk, hix, g1, hmp, hj, hj', hjm, j0, cz, gd, w2, e3, e4, -Int.natCast_add]
          exact Nxt.mk k2 (by omega) (Less.mkK 1 (by simp [hB]) (by simp [hupj, csT]) (by simp [Sx.c, hk]) (by simp [Sx.c, hk])) hnj
end Go.Proofs.YtejjlojfgcgopaaGreatDoor

namespace Go.Proofs.YtejjlojfgcgopaaGreatDoor
open Go.RowKit Go.Proofs.Fw
set_option maxRecDepth 100000
set_option maxHeartbeats 4000000
@[simp] theorem immFtn : envF.imm 104 = false := by decide
@[simp] theorem goOfI : goFn Tryz.prog 68 = true := nrfl (by kernel_rfl)
@[simp] theorem goOf6 : goFn Tryz.prog 22 = true := nrfl (by kernel_rfl)
@[simp] theorem goOfN : goFn Tryz.prog 43 = true := nrfl (by kernel_rfl)
@[simp] theorem goOf7 : goFn Tryz.prog 39 = true := nrfl (by kernel_rfl)
@[simp] theorem goOf5 : goFn Tryz.prog 69 = true := nrfl (by kernel_rfl)
theorem buRi8 (s : List UInt8) (l : List Int) : abuild Tryz.prog 51 [(0, .str s), (1, dimE.av l)] = some (.agg [.str s, dimE.av l]) := by
  by_cases h : l = []
  · subst h; kernel_rfl
  · rw [dimE.av_ne h]; kernel_rfl
@[simp high] theorem alenSit8 (l : List It) : alen Tryz.prog 24 (itE.av l) = some (.int .i64 l.length) := itE.alen Tryz.underlying24 l
@[simp high] theorem aidxSit8 {l : List It} {i : Nat} (h : i < l.length) : aindexAddr Tryz.prog 24 (itE.av l) (.int .i64 (i : Int)) = some (.vptr (itE.row l) (i * 2)) := itE.aidx Tryz.underlying24 (by kernel_rfl) h
def OiI (l : List It) (k : Nat) (tt : List AV) (H : AH) : Prop := ∃ i, i + k = l.length ∧ tt = mkT 26 [(0, itE.av l), (3, itE.tk 0 (l.take i)), (4, .int .i64 (i : Int))] ∧ H = [tokE (l.take i)]
theorem ofItems_cs (l : List It) (hl : l.length < 4294967296) (H : AH) : CS Tryz.prog envF 68 [itE.av l] H (itE.av l) H := by
  refine CS.tr0 lowF Tryz.func68 (by kernel_rfl) 0 (by simp [Tryz.f68]) (fun B hB hG => ?_) (by simp) (by simp) H
  refine Tr.goD oNilF hG ?_
  simp [Tryz.f68]
  refine LpD.loopN oNilF hG (OiI l) l.length (t' := mkT 26 [(0, itE.av l), (3, itE.tk 0 (l.take 0)), (4, .int .i64 ((0 : Nat) : Int))]) (H' := [tokE (l.take 0)])
    (Less.mkV 1000 (fun i => i) 1 (by simp [hB]) (by simp) (by simp) rfl (by
      intro i hi
      obtain rfl : i = 0 := by omega
      simp [AH.at]) (by simp) (by simp [ren, itE.av_ren])) ⟨0, by omega, rfl, rfl⟩ ?_
  rintro k tt H ⟨i, hik, rfl, rfl⟩
  cases k with
  | zero =>
    obtain rfl : i = l.length := by omega
    rw [List.take_length]
    have hcut := itE.tk_cut (show ¬ 0 < 0 by omega) l
    simp [Blk_exit, hcut]
  | succ k =>
    have hi : i < l.length := by omega
    have hi' : (i : Int) < l.length := by omega
    obtain ⟨y, hy⟩ : ∃ y, l[i]? = some y := ⟨_, List.getElem?_eq_getElem hi⟩
    have g0 : (itE.row l)[i * 2 + 0]? = some (.str y.name) := itE.row_cell hy 0 (by decide)
    have g1 : (itE.row l)[i * 2 + 1]? = some (dimE.av y.dims) := itE.row_cell hy 1 (by decide)
    simp only [Nat.add_zero] at g0
    have htk : l.take (i + 1) = l.take i ++ [y] := by rw [List.take_add_one, hy, Option.toList_some]
    have hol : (l.take i).length = i := by rw [List.length_take]; omega
    have w1 : IntKind.i64.wrap ((i : Int) + 1) = ((i + 1 : Nat) : Int) := by rw [wrap_i64 (by omega) (by omega)]; omega
    have hI : ∀ {t H}, Less B t H (mkT 26 [(0, itE.av l), (3, itE.tk 0 (l.take i ++ [y])), (4, .int .i64 ((i + 1 : Nat) : Int))]) [tokE (l.take i ++ [y])] → Nxt B (OiI l) (k + 1) t H :=
      fun h => Nxt.mk k (by omega) h ⟨i + 1, by omega, by rw [htk], by rw [htk]⟩
    generalize l.take i = out at *
    have e1 : itE.c y = [.str y.name, dimE.av y.dims] := rfl
    have e2 : itE.sz = 2 := rfl
    by_cases h0 : out = []
    · subst h0
      have a1 := fun H ow fid => encApp0 itE (P := Tryz.prog) (H := H) (ow := ow) (fid := fid) elemIt y
      rw [e1, e2] at a1
      simp [hi', -Int.natCast_add]
      refine LpD.turns oNilF hG [13] [] ?_
      simp [hi, g0, g1, a1, w1, buRi8, -Int.natCast_add]
      refine hI (Less.mkV 1000 (fun i => if i = 0 then 1 else i) 1 (by simp [hB]) (by intro i j hi hj h; omega) (by simp [hB]) rfl (by
        intro i hi
        obtain rfl : i = 0 := by omega
        simp [AH.at, tokE, renE]) (by simp [tokE]) (by simp [ren, itE.tk_ren, itE.tk_low, itE.av_ren, itE.tk_strip]))
    · have a1 := fun H ow fid (h : AH.at H 0 = some (.tok out.length)) => encAppN itE (P := Tryz.prog) (H := H) (ow := ow) (fid := fid) (k := 0) elemIt out y h0 h (by omega)
      rw [e1, e2] at a1
      have hte : tokE out = some (.tok out.length) := tokE_ne h0
      rw [hte]
      have i1 := encIds itE 0 h0
      simp [hi', -Int.natCast_add]
      refine LpD.turns oNilF hG [13] [] ?_
      simp [hi, g0, g1, a1, w1, i1, buRi8, -Int.natCast_add]
      exact hI (Less.mkK 1 (by simp [hB]) (by simp [itE.tk_low]) (by simp [tokE]) (by simp [tokE]))
noncomputable def fOfI : Fact Tryz.prog envF := Fact.pure 68 (fun l : List It => l.length < 4294967296) (fun l => [itE.av l]) (fun l => itE.av l) (fun l h H => ofItems_cs l h H) (fun x y _ _ h => by
  simp only [List.cons.injEq, and_true] at h
  rw [itE.av_inj h])
noncomputable def fOf5 : Fact Tryz.prog envF := Fact.pure 69 (fun t : Tn => okT t = true) (fun t => [.agg (tC t)]) (fun t => .agg (tC (ofT t))) (fun t h H => CS.toF (of_cs t h H)) (fun x y _ _ h => by
  simp only [List.cons.injEq, AV.agg.injEq, and_true] at h
  rw [tC_inj x y h])
@[simp] theorem buRc8 (s : List UInt8) (a0 a1 a2 a3 b0 b1 b2 b3 : AV) : abuild Tryz.prog 44 [(0, .str s), (1, .agg [a0, a1, a2, a3]), (2, .agg [b0, b1, b2, b3])] = some (.agg [.str s, a0, a1, a2, a3, b0, b1, b2, b3]) := by kernel_rfl
theorem buRs8 (k st : Int) (s nm : List UInt8) (l : List It) (a0 a1 a2 a3 b0 b1 b2 b3 c0 c1 c2 c3 d0 d1 d2 d3 e0 e1 e2 e3 f0 f1 f2 f3 : AV) : abuild Tryz.prog 46 [(0, .int .i64 k), (1, itE.av l), (2, .agg [a0, a1, a2, a3]), (3, .agg [b0, b1, b2, b3]), (4, .agg [.str s, c0, c1, c2, c3, d0, d1, d2, d3]), (5, .str nm), (6, .agg [e0, e1, e2, e3]), (7, .agg [f0, f1, f2, f3]), (8, .int .i64 st)]
    = some (.agg [.int .i64 k, itE.av l, a0, a1, a2, a3, b0, b1, b2, b3, .str s, c0, c1, c2, c3, d0, d1, d2, d3, .str nm, e0, e1, e2, e3, f0, f1, f2, f3, .int .i64 st]) := by
  by_cases h : l = []
  · subst h; kernel_rfl
  · rw [itE.av_ne h]; kernel_rfl
theorem of6_cs (x : Sx) (hx : SxT x) (H : AH) : CS Tryz.prog envF 22 [.agg x.c] H (.agg (toSx x).c) H := by
  have hL : ([fOfI, fOf5].map (·.f)).Nodup := show ([68, 69] : List Nat).Nodup by decide
  have X := oOf_cx [fOfI, fOf5] methFOk mixed
  have f0 := fun H => oOf_pure hL (show fOfI ∈ [fOfI, fOf5] by simp) x.items hx.items H
  have f1 := fun t (h : okT t = true) H => oOf_pure hL (show fOf5 ∈ [fOfI, fOf5] by simp) t h H
  have h1 := f1 _ hx.to
  have h2 := f1 _ hx.e
  have h3 := f1 _ hx.ca
  have h4 := f1 _ hx.cb
  have h5 := f1 _ hx.lo
  have h6 := f1 _ hx.hi
  generalize oOf [fOfI, fOf5] = O at X f0 h1 h2 h3 h4 h5 h6
  simp only [tC_eq] at h1 h2 h3 h4 h5 h6
  refine CS.tr0 lowF Tryz.func22 (by kernel_rfl) 0 (by simp [Tryz.f22]) (fun B hB hG => ?_) (by simp [Sx.c_low]) (by simp [Sx.c_low]) H
  refine Tr.goD X hG ?_
  simp [Tryz.f22, Sx.c]
  refine LpD.turns X hG [4, 7, 10, 17, 21, 27, 30, 34] [(0, 4), (0, 7), (0, 10), (0, 17), (0, 21), (0, 27), (0, 30), (1, 4), (1, 7), (1, 10), (1, 17), (1, 21), (1, 27), (1, 30), (4, 5), (4, 6), (4, 8), (4, 9), (4, 11), (4, 12), (4, 13), (4, 14), (4, 15), (4, 16), (4, 18), (4, 19), (4, 20), (4, 23), (4, 24), (4, 25), (4, 26), (4, 28), (4, 29), (4, 31), (4, 32), (7, 8), (7, 9), (7, 11), (7, 12), (7, 13), (7, 14), (7, 15), (7, 16), (7, 18), (7, 19), (7, 20), (7, 23), (7, 24), (7, 25), (7, 26), (7, 28), (7, 29), (7, 31), (7, 32), (10, 11), (10, 12), (10, 13), (10, 14), (10, 15), (10, 16), (10, 18), (10, 19), (10, 20), (10, 23), (10, 24), (10, 25), (10, 26), (10, 28), (10, 29), (10, 31), (10, 32), (11, 17), (11, 21), (11, 27), (11, 30), (12, 17), (12, 21), (12, 27), (12, 30), (13, 17), (13, 21), (13, 27), (13, 30), (17, 18), (17, 19), (17, 20), (17, 23), (17, 24), (17, 25), (17, 26), (17, 28), (17, 29), (17, 31), (17, 32), (21, 23), (21, 24), (21, 25), (21, 26), (21, 28), (21, 29), (21, 31), (21, 32), (22, 27), (22, 30), (23, 27), (23, 30), (24, 27), (24, 30), (27, 28), (27, 29), (27, 31), (27, 32), (30, 31), (30, 32)] ?_
  simp [f0, h1, h2, h3, h4, h5, h6, buRs8, toSx, Sx.c]
noncomputable def fOf6 : Fact Tryz.prog envF := Fact.pure 22 (fun x : Sx => SxT x) (fun x => [.agg x.c]) (fun x => .agg (toSx x).c) (fun x h H => of6_cs x h H) (fun x y _ _ h => by
  simp only [List.cons.injEq, AV.agg.injEq, and_true] at h
  rw [sxE.inj x y h])
@[simp high] theorem alenTn8 (l : List Nd) : alen Tryz.prog 76 (ndE.av l) = some (.int .i64 l.length) := ndE.alen Tryz.underlying76 l
@[simp high] theorem aidxTn8 {l : List Nd} {i : Nat} (h : i < l.length) : aindexAddr Tryz.prog 76 (ndE.av l) (.int .i64 (i : Int)) = some (.vptr (ndE.row l) (i * 34)) := ndE.aidx Tryz.underlying76 (by kernel_rfl) h
end Go.Proofs.YtejjlojfgcgopaaGreatDoor

namespace Go.Proofs.YtejjlojfgcgopaaGreatDoor
open Go.RowKit Go.Proofs.Fw
set_option maxRecDepth 100000
set_option maxHeartbeats 4000000
@[simp] theorem goSm6 : goFn Tryz.prog 21 = true := nrfl (by kernel_rfl)
@[simp] theorem goSm7 : goFn Tryz.prog 38 = true := nrfl (by kernel_rfl)
@[simp] theorem goSmE : goFn Tryz.prog 67 = true := nrfl (by kernel_rfl)
@[simp] theorem goSmL : goFn Tryz.prog 40 = true := nrfl (by kernel_rfl)
@[simp high] theorem alenStr8 (l : List (List UInt8)) : alen Tryz.prog 23 (strE.av l) = some (.int .i64 l.length) := strE.alen Tryz.underlying23 l
@[simp high] theorem aidxStr8 {l : List (List UInt8)} {i : Nat} (h : i < l.length) : aindexAddr Tryz.prog 23 (strE.av l) (.int .i64 (i : Int)) = some (.vptr (strE.row l) (i * 1)) := strE.aidx Tryz.underlying23 (by kernel_rfl) h
noncomputable def fSmE : Fact Tryz.prog envF := Fact.pure 67 (fun t : Tn => okT t = true) (fun t => [.agg (tC (ofT t)), .agg (tC t)]) (fun _ => .bool true) (fun t h H => by
  have := CS.toF (same_cs (ofT t) t (okT_of t h) H)
  rwa [same_of] at this) (fun _ _ _ _ _ => rfl)
def S6H (x : Sx) : AH := [some (.box (toSx x).c), some (.box x.c)]
def S6I (x : Sx) (k : Nat) (tt : List AV) (H : AH) : Prop := ∃ i, i + k = x.items.length ∧ tt = mkT 155 [(2, .ptr 0 0), (3, .ptr 1 0), (5, .int .i64 (i : Int))] ∧ H = S6H x
def S6J (x : Sx) (i : Nat) (d : List Int) (k : Nat) (tt : List AV) (H : AH) : Prop := ∃ j, j + k = d.length ∧ tt = mkT 155 [(2, .ptr 0 0), (3, .ptr 1 0), (5, .int .i64 (i : Int)), (6, .int .i64 (j : Int))] ∧ H = S6H x
@[simp high] theorem alenDim8 (l : List Int) : alen Tryz.prog 49 (dimE.av l) = some (.int .i64 l.length) := dimE.alen Tryz.underlying49 l
@[simp high] theorem aidxDim8 {l : List Int} {i : Nat} (h : i < l.length) : aindexAddr Tryz.prog 49 (dimE.av l) (.int .i64 (i : Int)) = some (.vptr (dimE.row l) (i * 1)) := dimE.aidx Tryz.underlying49 (by kernel_rfl) h
theorem same6_cs (x : Sx) (hx : SxT x) (H : AH) : CS Tryz.prog envF 21 [.agg (toSx x).c, .agg x.c] H (.bool true) H := by
  have hL : ([fSmE].map (·.f)).Nodup := show ([67] : List Nat).Nodup by decide
  have X := oOf_cx [fSmE] methFOk mixed
  have f1 := fun t (h : okT t = true) H => oOf_pure hL (show fSmE ∈ [fSmE] by simp) t h H
  have h1 := f1 _ hx.to
  have h2 := f1 _ hx.e
  have h3 := f1 _ hx.ca
  have h4 := f1 _ hx.cb
  have h5 := f1 _ hx.lo
  have h6 := f1 _ hx.hi
  generalize oOf [fSmE] = O at X h1 h2 h3 h4 h5 h6
  simp only [tC_eq] at h1 h2 h3 h4 h5 h6
  refine CS.tr0 lowF Tryz.func21 (by kernel_rfl) 0 (by simp [Tryz.f21]) (fun B hB hG => ?_) (by simp) (by simp [Sx.c_low]) H
  refine Tr.goD X hG ?_
  simp [Tryz.f21, Sx.c, toSx]
  refine LpD.loopN X hG (S6I x) x.items.length (t' := mkT 155 [(2, .ptr 0 0), (3, .ptr 1 0), (5, .int .i64 ((0 : Nat) : Int))]) (H' := S6H x)
    (Less.mkK 2 (by simp [hB]) (by simp) (by simp [S6H, Sx.c, toSx]) (by simp [S6H, Sx.c, toSx])) ⟨0, by omega, rfl, rfl⟩ ?_
  rintro k tt H ⟨i, hik, rfl, rfl⟩
  cases k with
  | zero =>
    obtain rfl : i = x.items.length := by omega
    simp [S6H, Sx.c, toSx, Blk_exit, h1, h2, h3, h4, h5, h6]
  | succ k =>
    have hb := hx.items
    have hi : i < x.items.length := by omega
    have hi' : (i : Int) < x.items.length := by omega
    obtain ⟨y, hy⟩ : ∃ y, x.items[i]? = some y := ⟨_, List.getElem?_eq_getElem hi⟩
    have hyd := hx.dims y (List.mem_of_getElem? hy)
    have g0 : (itE.row x.items)[i * 2 + 0]? = some (.str y.name) := itE.row_cell hy 0 (by decide)
    have g1 : (itE.row x.items)[i * 2 + 1]? = some (dimE.av y.dims) := itE.row_cell hy 1 (by decide)
    simp only [Nat.add_zero] at g0
    have w1 : IntKind.i64.wrap ((i : Int) + 1) = ((i + 1 : Nat) : Int) := by rw [wrap_i64 (by omega) (by omega)]; omega
    simp [S6H, Sx.c, toSx, hi', -Int.natCast_add]
    refine LpD.turns X hG [] [] ?_
    simp [hi, g0, g1, -Int.natCast_add]
    refine LpD.loopN X hG (S6J x i y.dims) y.dims.length (t' := mkT 155 [(2, .ptr 0 0), (3, .ptr 1 0), (5, .int .i64 (i : Int)), (6, .int .i64 ((0 : Nat) : Int))]) (H' := S6H x)
      (Less.mkK 2 (by simp [hB]) (by simp) (by simp [S6H, Sx.c, toSx]) (by simp [S6H, Sx.c, toSx])) ⟨0, by omega, rfl, rfl⟩ ?_
    rintro k2 tt H ⟨j, hjk, rfl, rfl⟩
    cases k2 with
    | zero =>
      obtain rfl : j = y.dims.length := by omega
      simp [S6H, Sx.c, toSx, Blk_exit, hi, g0, g1, w1, -Int.natCast_add]
      exact Nxt.mk k (by omega) (Less.mkK 2 (by simp [hB]) (by simp) (by simp [S6H, Sx.c, toSx]) (by simp [S6H, Sx.c, toSx])) ⟨i + 1, by omega, rfl, rfl⟩
    | succ k2 =>
      have hj : j < y.dims.length := by omega
      have hj' : (j : Int) < y.dims.length := by omega
      obtain ⟨z, hz⟩ : ∃ z, y.dims[j]? = some z := ⟨_, List.getElem?_eq_getElem hj⟩
      have cz : (dimE.row y.dims)[j]? = some (.int .i64 z) := by
        have := dimE.row_cell hz 0 (by decide)
        rw [dim_sz, Nat.mul_one, Nat.add_zero] at this
        exact this
      have w2 : IntKind.i64.wrap ((j : Int) + 1) = ((j + 1 : Nat) : Int) := by rw [wrap_i64 (by omega) (by omega)]; omega
      simp [S6H, Sx.c, toSx, hi, g0, g1, hj', -Int.natCast_add]
      refine LpD.turns X hG [] [] ?_
      simp [hi, g0, g1, hj, cz, w2, -Int.natCast_add]
      exact Nxt.mk k2 (by omega) (Less.mkK 2 (by simp [hB]) (by simp) (by simp [S6H, Sx.c, toSx]) (by simp [S6H, Sx.c, toSx])) ⟨j + 1, by omega, rfl, rfl⟩
noncomputable def fSm6 : Fact Tryz.prog envF := Fact.pure 21 (fun x : Sx => SxT x) (fun x => [.agg (toSx x).c, .agg x.c]) (fun _ => .bool true) (fun x h H => same6_cs x h H) (fun _ _ _ _ _ => rfl)
end Go.Proofs.YtejjlojfgcgopaaGreatDoor

namespace Go.Proofs.YtejjlojfgcgopaaGreatDoor
open Go.RowKit Go.Proofs.Fw
set_option maxRecDepth 100000
set_option maxHeartbeats 4000000
@[simp] theorem agU : aggB Tryz.prog 47 = some false := by kernel_rfl
@[simp] theorem szU : szOf Tryz.prog 47 = some 1 := by kernel_rfl
@[simp] theorem agU1 : aggB Tryz.prog 52 = some false := by kernel_rfl
@[simp] theorem szU1 : szOf Tryz.prog 52 = some 1 := by kernel_rfl
theorem cvU_any (H H' : AH) (v : AV) : aconvert Tryz.prog H' 52 2 v = aconvert Tryz.prog H 52 2 v := by
  unfold aconvert
  rw [Tryz.underlying52, Tryz.underlying2]
  cases v <;> rfl
@[simp] theorem WTq_cvU {O : Orc} {ops : Array Oper} {ks bs : List Nat} {i : Nat} {l : List (Oper × Nat)} {t : List AV} {H : AH} {fs : List Foot} {K : TK} (fid : Nat) (dst : Option Tmp) (ty : TypeId) (pos : String) (after : Array Edge) (guard : Option (Nat × Bool)) (x : Operand) :
    WTq O Tryz.prog envF ops ks bs i ⟨dst, .convert 52 2 x, ty, pos, after, guard⟩ fid l t H fs K = WTv O Tryz.prog envF (aconvert Tryz.prog H 52 2 (aeval envF t x)) ops ks bs i ⟨dst, .convert 52 2 x, ty, pos, after, guard⟩ fid l t H fs K := WTq_v (by
  show (aconvert Tryz.prog (mask H _) 52 2 (aeval envF t x)).map (fun a => (a, ([] : Ups))) = _
  rw [cvU_any H])
def uE : Enc Nat where
  sz := 1
  c := fun n => [.int .u16 (n : Int)]
  pos := by decide
  len := fun _ => rfl
  low := fun _ => rfl
  one := fun _ => rfl
  inj := fun x y h => by
    simp only [List.cons.injEq, AV.int.injEq, true_and, and_true] at h
    omega
inductive Ur where
  | nil
  | emp
  | row (v : Nat) (l : List Nat)
def Ur.l : Ur → List Nat
  | .nil => []
  | .emp => []
  | .row v l => v :: l
def Ur.av : Ur → AV
  | .nil => .nilSlice
  | .emp => .emp
  | .row v l => uE.av (v :: l)
def ruE : Enc Ur where
  sz := 1
  c := fun r => [r.av]
  pos := by decide
  len := fun _ => rfl
  low := fun r => by cases r <;> first | rfl | simp [Ur.av]
  one := fun r => by cases r <;> first | rfl | simp [Ur.av]
  inj := fun x y h => by
    simp only [List.cons.injEq, and_true] at h
    cases x <;> cases y
    all_goals first
      | rfl
      | (simp [Ur.av, Enc.av_ne] at h; done)
      | (have := uE.av_inj h; injection this with h1 h2; rw [h1, h2])
@[simp high] theorem alenU (r : Ur) : alen Tryz.prog 47 r.av = some (.int .i64 r.l.length) := by
  cases r with
  | nil => exact uE.alen Tryz.underlying47 []
  | emp => kernel_rfl
  | row v l => exact uE.alen Tryz.underlying47 (v :: l)
@[simp high] theorem aidxU {r : Ur} {i : Nat} (h : i < r.l.length) : aindexAddr Tryz.prog 47 r.av (.int .i64 (i : Int)) = some (.vptr (uE.row r.l) i) := by
  cases r with
  | nil => exact absurd h (by simp [Ur.l])
  | emp => exact absurd h (by simp [Ur.l])
  | row v l =>
    have := uE.aidx (P := Tryz.prog) Tryz.underlying47 (by kernel_rfl) h
    rw [show uE.sz = 1 from rfl, Nat.mul_one] at this
    exact this
@[simp high] theorem alenUU (ls : List Ur) : alen Tryz.prog 38 (ruE.av ls) = some (.int .i64 ls.length) := ruE.alen Tryz.underlying38 ls
@[simp high] theorem aidxUU {ls : List Ur} {i : Nat} (h : i < ls.length) : aindexAddr Tryz.prog 38 (ruE.av ls) (.int .i64 (i : Int)) = some (.vptr (ruE.row ls) i) := by
  have := ruE.aidx (P := Tryz.prog) Tryz.underlying38 (by kernel_rfl) h
  rw [show ruE.sz = 1 from rfl, Nat.mul_one] at this
  exact this
def Ur.d (r : Ur) : List Nat := r.l.map (· + 1)
def xD (l : List It) : Sx := ⟨1, l, t0, t0, [], t0, t0, [], t0, t0, 0⟩
def cDx (v : AV) : List AV := [.int .i64 1, v, .int .i64 0, .int .i64 0, .str [], .nilSlice, .int .i64 0, .int .i64 0, .str [], .nilSlice, .str [], .int .i64 0, .int .i64 0, .str [], .nilSlice, .int .i64 0, .int .i64 0, .str [], .nilSlice, .str [], .int .i64 0, .int .i64 0, .str [], .nilSlice, .int .i64 0, .int .i64 0, .str [], .nilSlice, .int .i64 0]
theorem xD_c (l : List It) : (xD l).c = cDx (itE.av l) := rfl
theorem declM_x (d : List Nat) (ds : List (List Nat)) : (declM d ds).x = xD (itsOf 0 (d :: ds)) := rfl
theorem bu_st : abuild Tryz.prog 46 [(0, .int .i64 1)] = some (.agg (cDx .nilSlice)) := by kernel_rfl
theorem bu_it (s : List UInt8) : abuild Tryz.prog 51 [(0, .str s)] = some (.agg [.str s, .nilSlice]) := by kernel_rfl
theorem itsOf_inj : ∀ (L M : List (List Nat)) (j : Nat), itsOf j L = itsOf j M → L = M
  | [], [], _, _ => rfl
  | [], _ :: _, _, h => by cases h
  | _ :: _, [], _, h => by cases h
  | d :: L, e :: M, j, h => by
    simp only [itsOf, List.cons.injEq, It.mk.injEq, true_and] at h
    have h1 : d = e := (List.map_inj_right (f := fun x : Nat => (x : Int)) (fun a b h => by have h : (a : Int) = b := h; omega)).1 h.1
    rw [h1, itsOf_inj L M (j + 1) h.2]
noncomputable def fRt : Fact Tryz.prog envF := Fact.pure 19 (fun L : List (List Nat) => L.length ≤ 8 ∧ ∀ d ∈ L, d.length ≤ 4 ∧ ∀ v ∈ d, v < 100000) (fun L => [.agg (xD (itsOf 0 L)).c]) (fun L => .str (upT L L.length))
  (fun L h H => rtext_cs (xD (itsOf 0 L)) L rfl rfl h.1 h.2 H) (fun x y _ _ h => by
  simp only [List.cons.injEq, AV.agg.injEq, and_true, xD_c, cDx] at h
  rw [itsOf_inj x y 0 (itE.av_inj (by simpa using h))])
def OiD (ls : List Ur) : Nat → List AV → AH → Prop
  | 0, t, H => (∀ r ∈ ls, r.l.length ≤ 4) ∧ t = mkT 129 [(0, ruE.av ls), (3, .ptr 0 0), (4, .int .i64 (ls.length : Int))] ∧ H = [some (.box (cDx (itE.av (itsOf 0 (ls.map Ur.d)))))]
  | k + 1, t, H => ∃ i, i + (k + 1) = ls.length ∧ (∀ r ∈ ls.take i, r.l.length ≤ 4) ∧ t = mkT 129 [(0, ruE.av ls), (3, .ptr 0 0), (4, .int .i64 (i : Int))] ∧ H = [some (.box (cDx (itE.tk 1 (itsOf 0 ((ls.take i).map Ur.d))))), tokE (itsOf 0 ((ls.take i).map Ur.d))]
def IiD (ls : List Ur) (i : Nat) (nm : List UInt8) (out : List It) (d : List Int) (k : Nat) (t : List AV) (H : AH) : Prop := ∃ j, j + k = d.length ∧ t = mkT 129 [(0, ruE.av ls), (3, .ptr 0 0), (4, .int .i64 (i : Int)), (5, .ptr 2 0), (6, .int .i64 (j : Int))] ∧ H = [some (.box (cDx (itE.tk 1 out))), tokE out, some (.box [.str nm, dimE.tk 3 (d.take j)]), tokE (d.take j)]
noncomputable def fsD : List (Fact Tryz.prog envF) := [fPparse, fPtext, fKn6, fDec, fRt, fOf6, fSm6, fToks, fAt, fTells]
theorem itsOf_snoc (x : List Nat) : ∀ (L : List (List Nat)) (j : Nat), itsOf j (L ++ [x]) = itsOf j L ++ [⟨vT (j + L.length), x.map (fun x : Nat => (x : Int))⟩]
  | [], j => rfl
  | d :: L, j => by rw [List.cons_append, itsOf, itsOf_snoc x L (j + 1), itsOf, List.length_cons, show j + 1 + L.length = j + (L.length + 1) by omega]; rfl
theorem dsOk_rows {r0 : Ur} {rs : List Ur} (hn : rs.length < 8) (h4 : ∀ r ∈ r0 :: rs, r.l.length ≤ 4) (hu : ∀ r ∈ r0 :: rs, ∀ v ∈ r.l, v < 65536) : DsOk r0.d (rs.map Ur.d) := by
  refine ⟨by rw [List.length_map]; exact hn, fun x hx => ?_⟩
  obtain ⟨r, hr, rfl⟩ := List.mem_map.1 (show x ∈ (r0 :: rs).map Ur.d from hx)
  refine ⟨by rw [Ur.d, List.length_map]; exact h4 r hr, fun v hv => ?_⟩
  obtain ⟨u, hu', rfl⟩ := List.mem_map.1 hv
  have := hu r hr u hu'
  omega
theorem rt_ok {d : List Nat} {ds : List (List Nat)} (h : DsOk d ds) : (d :: ds).length ≤ 8 ∧ ∀ x ∈ d :: ds, x.length ≤ 4 ∧ ∀ v ∈ x, v < 100000 :=
  ⟨by have := h.len; simp only [List.length_cons]; omega, fun x hx => ⟨(h.ok x hx).1, fun v hv => ((h.ok x hx).2 v hv).2⟩⟩
theorem itsOf_mem : ∀ (L : List (List Nat)) (j : Nat) (x : It), x ∈ itsOf j L → ∃ i d, d ∈ L ∧ i < j + L.length ∧ x = ⟨vT i, d.map (fun x : Nat => (x : Int))⟩
  | [], _, _, h => absurd h List.not_mem_nil
  | d :: L, j, x, h => by
    rcases List.mem_cons.1 h with rfl | h
    · exact ⟨j, d, List.mem_cons_self, by simp only [List.length_cons]; omega, rfl⟩
    · obtain ⟨i, d', h1, h2, h3⟩ := itsOf_mem L (j + 1) x h
      exact ⟨i, d', List.mem_cons_of_mem _ h1, by simp only [List.length_cons]; omega, h3⟩
theorem szI_le {d : List Nat} (h : d.length ≤ 4) : szI d ≤ 10 := by unfold szI; split <;> omega
theorem szS_le : ∀ ds : List (List Nat), (∀ x ∈ ds, x.length ≤ 4) → szS ds ≤ 11 * ds.length
  | [], _ => by simp [szS]
  | d :: ds, h => by
    have h1 := szI_le (h d List.mem_cons_self)
    have h2 := szS_le ds fun x hx => h x (List.mem_cons_of_mem _ hx)
    simp only [szS, List.length_cons]
    omega
theorem nK_lt {d : List Nat} {ds : List (List Nat)} (h : DsOk d ds) : nK d ds < 1000 := by
  have h1 := szI_le (h.ok d List.mem_cons_self).1
  have h2 := szS_le ds fun x hx => (h.ok x (List.mem_cons_of_mem _ hx)).1
  have := h.len
  unfold nK
  omega
@[simp] theorem goRtx : goFn Tryz.prog 19 = true := nrfl (by kernel_rfl)
theorem SxT_decl {d : List Nat} {ds : List (List Nat)} (h : DsOk d ds) : SxT (declM d ds).x := by
  refine ⟨by kernel_rfl, by kernel_rfl, by kernel_rfl, by kernel_rfl, by kernel_rfl, by kernel_rfl, ?_, fun y hy => ?_⟩
  · show (itsOf 0 (d :: ds)).length < _
    have := h.len
    rw [itsOf_len, List.length_cons]; omega
  · obtain ⟨i, x, h1, _, rfl⟩ := itsOf_mem _ _ _ (show y ∈ itsOf 0 (d :: ds) from hy)
    have := (h.ok x h1).1
    rw [List.length_map]; omega
theorem SxOk_decl {d : List Nat} {ds : List (List Nat)} (h : DsOk d ds) : SxOk (declM d ds).x := by
  refine ⟨fun _ => ⟨by show itsOf 0 (d :: ds) ≠ []; rw [itsOf]; exact List.cons_ne_nil _ _, ?_, fun y hy => ?_⟩, fun k => ?_, fun k => ?_, fun k => ?_, fun k => ?_, fun k => ?_, fun k => ?_, fun k => ?_, fun k => ?_, fun k => ?_⟩
  · show (itsOf 0 (d :: ds)).length ≤ _
    have := h.len
    rw [itsOf_len, List.length_cons]; omega
  · obtain ⟨i, x, h1, hi, rfl⟩ := itsOf_mem _ _ _ (show y ∈ itsOf 0 (d :: ds) from hy)
    have h4 := (h.ok x h1).1
    have hl := h.len
    simp only [List.length_cons] at hi
    have hdd := dd_pow 1 i (by omega)
    refine ⟨by rw [List.length_map]; omega, fun n hn => ?_, by simp only [vT, List.length_cons]; omega⟩
    obtain ⟨v, hv, rfl⟩ := List.mem_map.1 hn
    have := ((h.ok x h1).2 v hv).2
    exact ⟨by omega, by omega⟩
  all_goals (first | (cases k; done) | (rcases k with k | k <;> cases k))
theorem itemsLaw_cs (ls : List Ur) (hu : ∀ r ∈ ls, ∀ v ∈ r.l, v < 65536) (H : AH) : CS Tryz.prog envF 4 [ruE.av ls] H (.bool true) H := by
  have hL : (fsD.map (·.f)).Nodup := show ([16, 17, 15, 18, 19, 22, 21, 20, 24, 23] : List Nat).Nodup by decide
  have X := oOf_cx fsD methFOk mixed
  have f1 := fun (s : List UInt8) (h : s.length < 1000000) H => oOf_pure hL (show fPparse ∈ fsD by simp [fsD]) s h H
  have f2 := fun x (h : SxOk x) H => oOf_pure hL (show fPtext ∈ fsD by simp [fsD]) x h H
  have f3 := fun H => oOf_pure hL (show fKn6 ∈ fsD by simp [fsD]) () trivial H
  have f4 := fun n (h : n < 1000000000000) H => oOf_pure hL (show fDec ∈ fsD by simp [fsD]) n h H
  have f5 := fun L h H => oOf_pure hL (show fRt ∈ fsD by simp [fsD]) L h H
  have f6 := fun x (h : SxT x) H => oOf_pure hL (show fOf6 ∈ fsD by simp [fsD]) x h H
  have f7 := fun x (h : SxT x) H => oOf_pure hL (show fSm6 ∈ fsD by simp [fsD]) x h H
  have f8 := fun (s : List UInt8) (h : s.length < maxS) H => oOf_pure hL (show fToks ∈ fsD by simp [fsD]) s h H
  have f9 := fun s p c H => oOf_pure hL (show fAt ∈ fsD by simp [fsD]) (s, p, c) trivial H
  have f10 := fun l c ow h H => oOf_pure hL (show fTells ∈ fsD by simp [fsD]) (l, c, ow) h H
  generalize oOf fsD = O at X f1 f2 f3 f4 f5 f6 f7 f8 f9 f10
  refine CS.tr0 lowF Tryz.func4 (by kernel_rfl) 0 (by simp [Tryz.f4]) (fun B hB hG => ?_) (by simp) (by simp) H
  refine Tr.goD X hG ?_
  by_cases hn : ls.length < 1 ∨ 8 < ls.length
  · have hc : ((ls.length : Int) < 1 ∨ 8 < (ls.length : Int)) := by omega
    by_cases h1 : (ls.length : Int) < 1
    · simp [Tryz.f4, f3, h1]
      skip
    · have h8 : 8 < (ls.length : Int) := by omega
      simp [Tryz.f4, f3, h1, h8]
      skip
  have h1 : ¬ (ls.length : Int) < 1 := by omega
  have h8 : ¬ 8 < (ls.length : Int) := by omega
  simp [Tryz.f4, f3, h1, h8, Sx.c, bu_st, cDx]
  obtain ⟨k0, hk0⟩ : ∃ k0, ls.length = k0 + 1 := ⟨ls.length - 1, by omega⟩
  refine LpD.loopN X hG (OiD ls) ls.length (t' := mkT 129 [(0, ruE.av ls), (3, .ptr 0 0), (4, .int .i64 ((0 : Nat) : Int))]) (H' := [some (.box (cDx .nilSlice)), none])
    (Less.mkV 1000 (fun i => i) 2 (by simp [hB]) (by simp) (by simp) rfl (by
      intro i hi
      rcases (by omega : i = 0 ∨ i = 1) with rfl | rfl
      · simp [AH.at, renE, renL, ren, cDx]
      · simp [AH.at]) (by simp [cDx]) (by simp [ren, ruE.av_ren])) (by rw [hk0]; exact ⟨0, by omega, by simp, rfl, rfl⟩) ?_
  rintro k tt H hI
  cases k with
  | zero =>
    obtain ⟨h4, rfl, rfl⟩ := hI
    cases ls with
    | nil => cases hk0
    | cons r0 rs =>
    have hD := dsOk_rows (by simp only [List.length_cons] at hn ⊢; omega) h4 hu
    have F := decl_facts hD
    have hx := SxOk_decl hD
    have q5 := f5 (r0.d :: rs.map Ur.d) (rt_ok hD)
    rw [upT_all] at q5
    have q2 := f2 _ hx
    rw [F.txt] at q2
    have q6 := f6 _ (SxT_decl hD)
    have q7 := f7 _ (SxT_decl hD)
    have ht : toSx (declM r0.d (rs.map Ur.d)).x = (declM r0.d (rs.map Ur.d)).x := rfl
    rw [ht] at q6 q7
    obtain ⟨ts, hts, htn⟩ := F.toks
    have hls := F.len
    have q8 := f8 (declX r0.d (rs.map Ur.d) []) (by unfold maxS; omega)
    rw [hts] at q8
    have q1 := f1 (declX r0.d (rs.map Ur.d) []) (by omega)
    have q1z := f1 (declX r0.d (rs.map Ur.d) [] ++ zX) (by rw [List.length_append]; have : zX.length = 6 := rfl; omega)
    have q1f := f1 (declX r0.d (rs.map Ur.d) [] ++ fX) (by rw [List.length_append]; have : fX.length = 18 := rfl; omega)
    simp only [pstmtAV, F.par, erI_none] at q1
    simp only [pstmtAV, F.zero] at q1z
    simp only [pstmtAV, F.five] at q1f
    rw [declM_x, xD_c] at q1 q2 q6 q7
    rw [xD_c] at q5
    have hz : ({} : Sm).x.c = Sx.c ⟨0, [], t0, t0, [], t0, t0, [], t0, t0, 0⟩ := rfl
    rw [hz] at q1z q1f
    have e1 := f10 [(stmtTxt, ((nK r0.d (rs.map Ur.d) : Nat) : Int) + 3)] 1 .full ⟨by simp, by simp, .inr rfl⟩
    have e2 := f10 [(stmtTxt, ((nK r0.d (rs.map Ur.d) : Nat) : Int) + 10)] 4 .full ⟨by simp, by simp, .inr rfl⟩
    have a1 := f9 stmtTxt (((nK r0.d (rs.map Ur.d) : Nat) : Int) + 3) 1
    have a2 := f9 stmtTxt (((nK r0.d (rs.map Ur.d) : Nat) : Int) + 10) 4
    have hkn := nK_lt hD
    have b1 : (declX r0.d (rs.map Ur.d) []).length + 6 ≤ 9223372036854775807 := by omega
    have b2 : (declX r0.d (rs.map Ur.d) []).length + 18 ≤ 9223372036854775807 := by omega
    clear F hD hx h4
    simp only [List.map_cons]
    generalize nK r0.d (rs.map Ur.d) = n at *
    generalize declX r0.d (rs.map Ur.d) [] = s at *
    generalize itsOf 0 (r0.d :: rs.map Ur.d) = its at *
    simp only [toksAV, noneAV, erI, castP, partCells, cDx, Sx.c, zX, fX, stmtTxt] at q1 q1z q1f q2 q5 q6 q7 q8 e1 e2 a1 a2
    simp at q1 q1z q1f q2 q5 q6 q7 q8 e1 e2 a1 a2
    have w1 : IntKind.i64.wrap ((n : Int) + 3) = (n : Int) + 3 := wrap_i64 (by omega) (by omega)
    have w2 : IntKind.i64.wrap ((n : Int) + 10) = (n : Int) + 10 := wrap_i64 (by omega) (by omega)
    simp [cDx, Blk_exit, q1, q1z, q1f, q5, q8, b1, b2]
    refine LpD.turns X hG [4, 6, 10, 19, 20, 27, 28] [(4, 5), (10, 11), (15, 19), (23, 27)] ?_
    simp [q2, q6, q7, a1, a2, e1, e2, w1, w2, htn]
  | succ k =>
    obtain ⟨i, hik, h4, rfl, rfl⟩ := hI
    have hi : i < ls.length := by omega
    have hi' : (i : Int) < ls.length := by omega
    obtain ⟨r, hr⟩ : ∃ r, ls[i]? = some r := ⟨_, List.getElem?_eq_getElem hi⟩
    have g0 : (ruE.row ls)[i]? = some r.av := by
      have := ruE.row_cell hr 0 (by decide)
      rw [show ruE.sz = 1 from rfl, Nat.mul_one, Nat.add_zero] at this
      exact this
    have gd := f4 i (by omega)
    have hdl := dd_pow 1 i (by omega)
    have hvT : vT i = 118 :: dd i := rfl
    have htk : ls.take (i + 1) = ls.take i ++ [r] := by rw [List.take_add_one, hr, Option.toList_some]
    have w1 : IntKind.i64.wrap ((i : Int) + 1) = ((i + 1 : Nat) : Int) := by rw [wrap_i64 (by omega) (by omega)]; omega
    have b1 : 1 + (dd i).length ≤ 9223372036854775807 := by omega
    have hol : ((ls.take i).map Ur.d).length = i := by rw [List.length_map, List.length_take]; omega
    have hout2 : itsOf 0 ((ls.take (i + 1)).map Ur.d) = itsOf 0 ((ls.take i).map Ur.d) ++ [⟨vT i, r.d.map (fun x : Nat => (x : Int))⟩] := by
      rw [htk, List.map_append, List.map_cons, List.map_nil, itsOf_snoc, hol, Nat.zero_add]
    by_cases hr4 : 4 < (r.l.length : Int)
    · simp [cDx, hi, hi', g0, hr4, -Int.natCast_add]
    have hrl : r.l.length ≤ 4 := by omega
    rw [hvT] at hout2
    have hlo : (itsOf 0 ((ls.take i).map Ur.d)).length = i := by rw [itsOf_len, hol]
    have hstep : ∀ {t H}, Less B t H (mkT 129 [(0, ruE.av ls), (3, .ptr 0 0), (4, .int .i64 ((i + 1 : Nat) : Int))]) [some (.box (cDx (itE.tk 1 (itsOf 0 ((ls.take (i + 1)).map Ur.d))))), tokE (itsOf 0 ((ls.take (i + 1)).map Ur.d))] → Nxt B (OiD ls) (k + 1) t H := fun h => by
      have h4' : ∀ r' ∈ ls.take (i + 1), r'.l.length ≤ 4 := fun r' hr' => by
        rw [htk] at hr'
        rcases List.mem_append.1 hr' with hr' | hr'
        · exact h4 r' hr'
        · rw [List.mem_singleton.1 hr']; exact hrl
      cases k with
      | zero =>
        have hil : i + 1 = ls.length := by omega
        rw [hil, List.take_length] at h h4'
        refine Nxt.mk 0 (by omega) (h.trans ((Less.boxStrip 0 1 rfl).trans (Less.mkK 1 (by simp [hB]) (by simp) ?_ (by simp [cDx])))) ⟨h4', rfl, rfl⟩
        simp [cDx, stripL, Enc.tk_cut, Enc.av_strip, strip]
      | succ k => exact Nxt.mk (k + 1) (by omega) h ⟨i + 1, by omega, h4', rfl, rfl⟩
    rw [hout2] at hstep
    generalize itsOf 0 ((ls.take i).map Ur.d) = out at *
    generalize dd i = di at *
    have hdlen : (r.d.map (fun x : Nat => (x : Int))).length = r.l.length := by rw [List.length_map, Ur.d, List.length_map]
    simp [cDx, hi, hi', g0, hr4, gd, b1, bu_it, -Int.natCast_add]
    refine LpD.loopN X hG (IiD ls i (118 :: di) out (r.d.map (fun x : Nat => (x : Int)))) r.l.length (t' := mkT 129 [(0, ruE.av ls), (3, .ptr 0 0), (4, .int .i64 (i : Int)), (5, .ptr 2 0), (6, .int .i64 ((0 : Nat) : Int))]) (H' := [some (.box (cDx (itE.tk 1 out))), tokE out, some (.box [.str (118 :: di), .nilSlice]), none])
      (Less.mkV 1000 (fun i => i) 4 (by simp [hB]) (by simp) (by simp) rfl (by
        intro i hi
        rcases (by omega : i = 0 ∨ i = 1 ∨ i = 2 ∨ i = 3) with rfl | rfl | rfl | rfl
        · simp [AH.at, renE, renL, ren, cDx, itE.tk_ren]
        · simp [AH.at, tokE_ren]
        · simp [AH.at, renE, renL, ren]
        · simp [AH.at]) (by have := tokE_low 4 out; simp [cDx, itE.tk_low] at this ⊢; exact this) (by simp [ren, ruE.av_ren])) ⟨0, by rw [hdlen]; omega, rfl, rfl⟩ ?_
    rintro k2 tt H ⟨j, hjk, rfl, rfl⟩
    rw [hdlen] at hjk
    cases k2 with
    | zero =>
      obtain rfl : j = r.l.length := by omega
      have etk : (r.d.map (fun x : Nat => (x : Int))).take r.l.length = r.d.map (fun x : Nat => (x : Int)) := by rw [← hdlen, List.take_length]
      rw [etk]
      generalize r.d.map (fun x : Nat => (x : Int)) = d at *
      cases out with
      | nil =>
        have happ := fun H ow => aappend_nil (P := Tryz.prog) (t := 39) (sz := 2) (m := 1) (H := H) (fid := 4) (ow := ow) (ys := [.str (118 :: di), dimE.tk 3 d]) elemIt (by decide) (by decide) (by simp)
        simp [cDx, hi, hi', g0, Blk_exit, happ, w1, -Int.natCast_add]
        refine hstep ((Less.mkV (l' := [(0, ruE.av ls), (3, .ptr 0 0), (4, .int .i64 ((i + 1 : Nat) : Int))]) (H' := [some (.box (cDx (.slice (.tok 1) 2 1 [.str (118 :: di), dimE.tk 2 d]))), some (.tok 1), tokE d]) 100 (fun i => if i = 1 then 4 else if i = 2 then 3 else i) 3 (by simp [hB]) (by
            intro i j hi hj h
            rcases (by omega : i = 0 ∨ i = 1 ∨ i = 2) with rfl | rfl | rfl <;> rcases (by omega : j = 0 ∨ j = 1 ∨ j = 2) with rfl | rfl | rfl <;> simp at h ⊢) (by simp [hB]) rfl (by
            intro i hi
            rcases (by omega : i = 0 ∨ i = 1 ∨ i = 2) with rfl | rfl | rfl
            · simp [AH.at, renE, renL, ren, cDx, dimE.tk_ren]
            · simp [AH.at, renE]
            · simp [AH.at, tokE_ren]) (by
            have := tokE_low 3 d
            simp [cDx, dimE.tk_low] at this ⊢
            exact this) (by simp [ren, ruE.av_ren])).trans ((Less.boxStrip 0 2 rfl).trans (Less.mkK 2 (by simp [hB]) (by simp) ?_ (by simp [cDx, tokE, itE.tk_low]))))
        simp [cDx, stripL, strip, Enc.tk_ne, it_c, Enc.row, it_sz, dimE.tk_cut, tokE]
      | cons x l =>
        have happ := fun H ow (h : AH.at H 1 = some (.tok (x :: l).length)) => aappend_tok (P := Tryz.prog) (t := 39) (sz := 2) (n := (x :: l).length) (m := 1) (H := H) (fid := 4) (ow := ow) (xs := itE.row (x :: l)) (ys := [.str (118 :: di), dimE.tk 3 d]) elemIt h (by decide) (by omega) (by simp)
        have hrw : itE.row (x :: l ++ [⟨118 :: di, d⟩]) = itE.row (x :: l) ++ [.str (118 :: di), dimE.av d] := by rw [itE.row_append]; rfl
        have htk1 : itE.tk 1 (x :: l) = .slice (.tok 1) 2 (x :: l).length (itE.row (x :: l)) := rfl
        have htk2 : itE.tk 1 (x :: l ++ [⟨118 :: di, d⟩]) = .slice (.tok 1) 2 ((x :: l).length + 1) (itE.row (x :: l) ++ [.str (118 :: di), dimE.av d]) := by
          rw [itE.tk_ne 1 (by simp), List.length_append, hrw]; rfl
        have hte : tokE (x :: l) = some (.tok (x :: l).length) := rfl
        have hte2 : tokE (x :: l ++ [(⟨118 :: di, d⟩ : It)]) = some (.tok ((x :: l).length + 1)) := by rw [tokE_ne (by simp), List.length_append]; rfl
        have hlow := itE.row_lowm 2 (x :: l)
        have hstr := itE.row_strip 2 (x :: l)
        have sA : ∀ (n : Nat) (a b : List AV), stripL n (a ++ b) = stripL n a ++ stripL n b := by
          intro n a b
          induction a with
          | nil => rfl
          | cons x a ih => simp [stripL, ih]
        rw [htk2, hte2] at hstep
        rw [htk1, hte]
        generalize itE.row (x :: l) = cs at *
        generalize (x :: l).length = n at *
        simp [cDx, hi, hi', g0, Blk_exit, happ, w1, -Int.natCast_add]
        refine hstep ((Less.boxStrip 0 2 rfl).trans (Less.mkK 2 (by simp [hB]) (by simp) ?_ (by simp [cDx, hlow])))
        simp [cDx, stripL, strip, sA, hstr, dimE.tk_cut]
    | succ k2 =>
      have hj : j < r.l.length := by omega
      have hj' : (j : Int) < r.l.length := by omega
      obtain ⟨v, hv⟩ : ∃ v, r.l[j]? = some v := ⟨_, List.getElem?_eq_getElem hj⟩
      have hvb := hu r (List.mem_of_getElem? hr) v (List.mem_of_getElem? hv)
      have cv : (uE.row r.l)[j]? = some (.int .u16 (v : Int)) := by
        have := uE.row_cell hv 0 (by decide)
        rw [show uE.sz = 1 from rfl, Nat.mul_one, Nat.add_zero] at this
        exact this
      have hdj : (r.d.map (fun x : Nat => (x : Int)))[j]? = some ((v : Int) + 1) := by
        rw [Ur.d, List.map_map, List.getElem?_map, hv]
        simp
      have hsucc : (r.d.map (fun x : Nat => (x : Int))).take (j + 1) = (r.d.map (fun x : Nat => (x : Int))).take j ++ [(v : Int) + 1] := by rw [List.take_add_one, hdj, Option.toList_some]
      have w2 : IntKind.i64.wrap (v : Int) = (v : Int) := wrap_i64 (by omega) (by omega)
      have w3 : IntKind.i64.wrap (1 + (v : Int)) = (v : Int) + 1 := by rw [wrap_i64 (by omega) (by omega)]; omega
      have w4 : IntKind.i64.wrap ((j : Int) + 1) = ((j + 1 : Nat) : Int) := by rw [wrap_i64 (by omega) (by omega)]; omega
      have hI : ∀ {t H}, Less B t H (mkT 129 [(0, ruE.av ls), (3, .ptr 0 0), (4, .int .i64 (i : Int)), (5, .ptr 2 0), (6, .int .i64 ((j + 1 : Nat) : Int))]) [some (.box (cDx (itE.tk 1 out))), tokE out, some (.box [.str (118 :: di), dimE.tk 3 ((r.d.map (fun x : Nat => (x : Int))).take (j + 1))]), tokE ((r.d.map (fun x : Nat => (x : Int))).take (j + 1))] → Nxt B (IiD ls i (118 :: di) out (r.d.map (fun x : Nat => (x : Int)))) (k2 + 1) t H :=
        fun h => Nxt.mk k2 (by omega) h ⟨j + 1, by rw [hdlen]; omega, rfl, rfl⟩
      rw [hsucc] at hI
      have hjl : ((r.d.map (fun x : Nat => (x : Int))).take j).length = j := by rw [List.length_take, hdlen]; omega
      generalize (r.d.map (fun x : Nat => (x : Int))).take j = ds at *
      have e1 : dimE.c ((v : Int) + 1) = [.int .i64 ((v : Int) + 1)] := rfl
      have e2 : dimE.sz = 1 := rfl
      simp [cDx, hi, hi', hj', g0, -Int.natCast_add]
      refine LpD.turns X hG [12, 14] [] ?_
      by_cases d0 : ds = []
      · subst d0
        have a1 := fun H ow fid => encApp0 dimE (P := Tryz.prog) (H := H) (ow := ow) (fid := fid) elemDim ((v : Int) + 1)
        rw [e1, e2] at a1
        simp [hi, hi', hj, hj', g0, cv, w2, w3, w4, a1, Tryz.underlying52, -Int.natCast_add]
        refine hI (Less.mkV 1000 (fun i => if i = 3 then 4 else i) 4 (by simp [hB]) (by intro i j hi hj h; split at h <;> split at h <;> omega) (by simp [hB]) rfl (by
          intro i hi
          rcases (by omega : i = 0 ∨ i = 1 ∨ i = 2 ∨ i = 3) with rfl | rfl | rfl | rfl
          · simp [AH.at, renE, renL, ren, cDx, itE.tk_ren]
          · simp [AH.at, tokE_ren]
          · simp [AH.at, renE, renL, ren, dimE.tk_ren]
          · simp [AH.at, tokE, renE]) (by have := tokE_low 4 out; simp [cDx, itE.tk_low, dimE.tk_low, tokE] at this ⊢ <;> exact this) (by simp [ren, ruE.av_ren]))
      · have a1 := fun H ow fid (h : AH.at H 3 = some (.tok ds.length)) => encAppN dimE (P := Tryz.prog) (H := H) (ow := ow) (fid := fid) (k := 3) elemDim ds ((v : Int) + 1) d0 h (by omega)
        rw [e1, e2] at a1
        have hte : tokE ds = some (.tok ds.length) := tokE_ne d0
        rw [hte]
        have i1 := encIds dimE 3 d0
        simp [hi, hi', hj, hj', g0, cv, w2, w3, w4, a1, i1, Tryz.underlying52, -Int.natCast_add]
        exact hI (Less.mkK 4 (by simp [hB]) (by simp) (by simp [cDx, tokE]) (by have := tokE_low 4 out; simp [cDx, itE.tk_low, dimE.tk_low, tokE] at this ⊢ <;> exact this))
end Go.Proofs.YtejjlojfgcgopaaGreatDoor

namespace Go.Proofs.YtejjlojfgcgopaaGreatDoor
open Go.ChangeShapes Go.WideShapes Go.RowKit Go.Proofs.Fw
set_option maxRecDepth 100000
set_option maxHeartbeats 4000000
theorem itemsLaw_emp (H : AH) : CS Tryz.prog envF 4 [.emp] H (.bool true) H := by
  have hL : ([fKn6].map (·.f)).Nodup := show ([15] : List Nat).Nodup by decide
  have X := oOf_cx [fKn6] methFOk mixed
  have f3 := fun H => oOf_pure hL (show fKn6 ∈ [fKn6] by simp) () trivial H
  generalize oOf [fKn6] = O at X f3
  have ha : alen Tryz.prog 38 .emp = some (.int .i64 0) := by kernel_rfl
  refine CS.tr0 lowF Tryz.func4 (by kernel_rfl) 0 (by simp [Tryz.f4]) (fun B hB hG => ?_) (by simp) (by simp) H
  refine Tr.goD X hG ?_
  simp [Tryz.f4, f3, ha]
theorem uE_row : ∀ l : List Nat, uE.row l = (l.map (fun n : Nat => (n : Int))).map (AV.int .u16)
  | [] => rfl
  | x :: l => by
    have : uE.row (x :: l) = .int .u16 (x : Int) :: uE.row l := rfl
    rw [this, uE_row l]; rfl
theorem rowU : ∀ zs : List Int, (∀ z ∈ zs, (Lit.int .u16 z).wf = true) → ∃ l : List Nat, zs = l.map (fun n : Nat => (n : Int)) ∧ ∀ x ∈ l, x < 65536
  | [], _ => ⟨[], rfl, fun _ h => absurd h List.not_mem_nil⟩
  | z :: zs, h => by
    obtain ⟨l, h1, h2⟩ := rowU zs fun x hx => h x (List.mem_cons_of_mem _ hx)
    have e1 : IntKind.u16.min = 0 := rfl
    have e2 : IntKind.u16.max = 65535 := rfl
    have hz : 0 ≤ z ∧ z ≤ 65535 := by simpa [Lit.wf, e1, e2] using h z List.mem_cons_self
    obtain ⟨n, rfl⟩ := Int.eq_ofNat_of_zero_le hz.1
    refine ⟨n :: l, by rw [h1]; rfl, fun x hx => ?_⟩
    rcases List.mem_cons.1 hx with rfl | hx
    · omega
    · exact h2 x hx
theorem repRows (g : Gh) (f : Nat → Ur) (w : Nat → Value) : ∀ ks : List Nat, (∀ k ∈ ks, RepV g (f k).av (w k)) → RepL g (ruE.row (ks.map f)) (ks.map w)
  | [], _ => by simp [RepL, Enc.row]
  | k :: ks, h => by
    have : ruE.row ((k :: ks).map f) = (f k).av :: ruE.row (ks.map f) := rfl
    rw [this, List.map_cons]
    simp only [RepL]
    exact ⟨_, _, rfl, h k List.mem_cons_self, repRows g f w ks fun x hx => h x (List.mem_cons_of_mem _ hx)⟩
theorem open_uRow {W : World} {A : Option Addr} {L C : Nat} {Z : List Int} (h1 : L ≤ C) (h2 : Z.length = C) (h3 : ∀ n ∈ Z, (Lit.int .u16 n).wf = true) (h4 : A = none → C = 0) (h5 : ∀ a', A = some a' → ∀ c, c < C → W.cell? (a'.add c) = some (.int .u16 (Z.getD c 0))) :
    ∃ u : Ur, (∀ x ∈ u.l, x < 65536) ∧ RepV (ghAll W) u.av (.slice A L C) := by
  cases A with
  | none =>
    have hC := h4 rfl
    refine ⟨.nil, fun x hx => absurd hx List.not_mem_nil, ?_⟩
    show RepV _ .nilSlice _
    obtain rfl : L = 0 := by omega
    subst hC
    simp [RepV]
  | some a =>
    by_cases hL : L = 0
    · subst hL
      exact ⟨.emp, fun x hx => absurd hx List.not_mem_nil, by show RepV _ .emp _; simp [RepV]⟩
    obtain ⟨l, hl, hb⟩ := rowU (Z.take L) fun z hz => h3 z (List.mem_of_mem_take hz)
    have hlen : l.length = L := by
      have := congrArg List.length hl
      rw [List.length_take, List.length_map] at this
      omega
    cases l with
    | nil => exact absurd hlen (fun h => hL h.symm)
    | cons v l =>
      refine ⟨.row v l, hb, ?_⟩
      have hs : a.spot = none := by
        have := h5 a rfl 0 (by omega)
        unfold World.cell? at this
        split at this
        · split at this
          · cases this
          · rename_i hh
            have e : a.add 0 = a := rfl
            rw [e] at hh
            cases hsp : a.spot with
            | none => rfl
            | some s => rw [hsp] at hh; exact absurd rfl hh
        · cases this
      show RepV _ (uE.av (v :: l)) _
      rw [Enc.av_ne _ (List.cons_ne_nil v l), uE_row, ← hl]
      obtain ⟨b, o, spot⟩ := a
      simp only at hs
      subst hs
      simp only [RepV]
      refine ⟨b, o, C, (Z.take L).map (Value.int .u16), by rw [hlen], repInts _ _ _, fun i x hi => ?_, ?_, ?_, trivial⟩
      · rw [List.getElem?_map] at hi
        obtain ⟨z, hz1, rfl⟩ := Option.map_eq_some_iff.1 hi
        have hil : i < L := by
          have := (List.getElem?_eq_some_iff.1 hz1).1
          rw [List.length_take] at this; omega
        have hc := h5 _ rfl i (by omega)
        have hzi : Z[i]? = some z := by
          rw [List.getElem?_take, if_pos hil] at hz1
          exact hz1
        rw [List.getD_eq_getElem?_getD, hzi, Option.getD_some] at hc
        show W.cell? ⟨b, o + i, none⟩ = _
        rw [← hc]
        unfold Addr.add
        split
        · rename_i h0; rw [h0]; rfl
        · rfl
      · rw [List.length_map, List.length_take, hlen, show uE.sz = 1 from rfl]; omega
      · rw [hlen]; exact h1
instance : Inhabited Ur := ⟨.nil⟩
theorem open_uRows {H : Type} {enc : TypeId × Value → H} {W : World} {base : Nat} {held : Bool} {r : Reach} {b0 : Nat} {v : Value} {d : DataW H} {ps : List MemPlace}
    (hval : Value.okWide Tryz.prog W r b0 38 v) (h : DataW.Trod enc Tryz.prog W base (fun _ => true) held 38 v d ps) :
    ∃ lv, (lv = .emp ∨ ∃ ls : List Ur, lv = ruE.av ls ∧ ∀ r ∈ ls, ∀ u ∈ r.l, u < 65536) ∧ RepV (ghAll W) lv v := by
  obtain ⟨a0, len, cap, rfl⟩ := okWide_slice Tryz.underlying38 hval
  obtain ⟨fuel, hf⟩ := h
  rcases Go.Deep.open_int_rows Tryz.underlying38 Tryz.underlying47 Tryz.underlying52 (by kernel_rfl) (by kernel_rfl) hf with ⟨hcs, _⟩ | ⟨a, len', cap', A, L, C, Z, hcs, _, hl, hm, _, hr⟩
  · simp [Value.cells] at hcs
    obtain ⟨rfl, rfl, rfl⟩ := hcs
    exact ⟨.nilSlice, .inr ⟨[], rfl, fun _ h => absurd h List.not_mem_nil⟩, by simp [RepV]⟩
  · simp [Value.cells] at hcs
    obtain ⟨rfl, rfl, rfl⟩ := hcs
    have hs := okWide_spot Tryz.underlying38 hval
    obtain ⟨b, o, spot⟩ := a
    simp only at hs
    subst hs
    by_cases h0 : len = 0
    · subst h0
      exact ⟨.emp, .inl rfl, by simp [RepV]⟩
    have each : ∀ k, k < len → ∃ u : Ur, (∀ x ∈ u.l, x < 65536) ∧ RepV (ghAll W) u.av (.slice (A k) (L k) (C k)) := fun k hk => by
      obtain ⟨_, h1, _, h2, h3, h4, h5⟩ := hr k (by omega)
      exact open_uRow h1 h2 h3 h4 fun a' ha => (h5 a' ha).2
    obtain ⟨f, hf⟩ := Go.Deep.choose_lt each
    refine ⟨ruE.av ((List.range len).map f), .inr ⟨_, rfl, fun u hu => ?_⟩, ?_⟩
    · obtain ⟨k, hk, rfl⟩ := List.mem_map.1 hu
      exact (hf k (List.mem_range.1 hk)).1
    · rw [Enc.av_ne _ (by intro h; have := congrArg List.length h; simp at this; exact h0 this)]
      simp only [RepV]
      refine ⟨b, o, cap, (List.range len).map fun k => .slice (A k) (L k) (C k), by simp, repRows _ f _ _ fun k hk => (hf k (List.mem_range.1 hk)).2, fun i x hi => ?_, ?_, by simpa using hl, trivial⟩
      · rw [List.getElem?_map] at hi
        obtain ⟨k, hk, rfl⟩ := Option.map_eq_some_iff.1 hi
        have hil := (List.getElem?_eq_some_iff.1 hk).1
        rw [List.length_range] at hil
        obtain rfl : k = i := by
          rw [List.getElem?_range hil] at hk
          exact (Option.some.inj hk).symm
        obtain ⟨hc, _⟩ := hr k (by omega)
        show W.cell? ⟨b, o + k, none⟩ = _
        rw [← hc]
        unfold Addr.add
        split
        · rename_i h0; rw [h0]; rfl
        · rfl
      · have : ∀ ks : List Nat, (ruE.row (ks.map f)).length = ks.length := fun ks => by
          induction ks with
          | nil => rfl
          | cons k ks ih => show (ruE.row (ks.map f)).length + 1 = _; rw [ih]; rfl
        rw [this, List.length_map, show ruE.sz = 1 from rfl, Nat.mul_one]
end Go.Proofs.YtejjlojfgcgopaaGreatDoor

namespace Go.Proofs.YtejjlojfgcgopaaGreatDoor
open Go.ChangeShapes Go.WideShapes Go.ChangeAt Go.RowKit Go.Proofs.Fw
set_option maxRecDepth 100000
theorem gSpace : Tryz.prog.globalNamed "strings.asciiSpace" = some 3 := by kernel_rfl
theorem tSpace : (Tryz.prog.globals[3]?).map (·.type) = some 320 := by kernel_rfl
theorem rowSpace : avRow (H := Unit) Tryz.prog 3 320 Rows.laid_strings_asciiSpace = spaceCells := by kernel_rfl
theorem gRange : Tryz.prog.globalNamed "strconv.ErrRange" = some 6 := by kernel_rfl
theorem tRange : (Tryz.prog.globals[6]?).map (·.type) = some 33 := by kernel_rfl
theorem starErr : "*" ++ "errors.errorString" = "*errors.errorString" := by decide
theorem rowRange (u : TypeId) (h : Tryz.prog.typeName? 3 u = some "*errors.errorString") : u = 357 :=
  typeName_ptr_named (nm := "errors.errorString") (by rw [starErr]; kernel_rfl) (by kernel_rfl) (by decide) u (by rw [starErr]; exact h)
theorem glob_ofT {l : List (String × DataW Unit)} {W : World} (h : laidMet Tryz.prog l W) (hm : ("strings.asciiSpace", Rows.laid_strings_asciiSpace) ∈ l) (hr : l.filter (fun x => x.1 == "strconv.ErrRange") = [("strconv.ErrRange", Rows.laid_strconv_ErrRange)]) : GlobOk envT (ghAll W) := by
  have h1 := h.filter fun x => x.1 == "strconv.ErrRange"
  rw [hr] at h1
  obtain ⟨ps, h, _⟩ := h
  refine globOk_of (tab := globT) rfl fun x hx => ?_
  simp only [globT, List.mem_cons, List.not_mem_nil, or_false] at hx
  rcases hx with rfl | rfl
  · have := laid_rep h hm 3 gSpace tSpace
    rw [rowSpace] at this
    exact this
  · exact sentinel_rep h1 gRange tRange Tryz.underlying33 rowRange Tryz.underlying357 Tryz.underlying359 rfl rfl Tryz.underlying9 (by kernel_rfl) (by kernel_rfl)
theorem own : ownKnob Tryz.prog.godebug = none := by kernel_rfl
end Go.Proofs.YtejjlojfgcgopaaGreatDoor

namespace Go.Proofs.YtejjlojfgcgopaaGreatDoor
open Go.ChangeShapes Go.WideShapes Go.ChangeAt Go.ChangeMaps Go.RowKit Go.Proofs.Fw
set_option maxRecDepth 100000
theorem gPow : Tryz.prog.globalNamed "internal/strconv.uint64pow10" = some 1 := by kernel_rfl
theorem tPow : (Tryz.prog.globals[1]?).map (·.type) = some 309 := by kernel_rfl
theorem rowPow : avRow (H := Unit) Tryz.prog 3 309 Rows.laid_internal_strconv_uint64pow10 = pow10Cells := by kernel_rfl
theorem et : Tryz.prog.globalNamed "errors.errorType" = some 0 := by kernel_rfl
theorem rt : (Tryz.prog.cutTypes.find? (·.1 == "internal/reflectlite.rtype")).map (·.2) = some 266 := by kernel_rfl
theorem oneRow : ((List.range Tryz.prog.types.size).filter fun t => Tryz.prog.rowNamed t [101, 114, 114, 111, 114]) = [33] := by kernel_rfl
def l7 : List (String × DataW Unit) := [("math/bits.deBruijn32tab", Rows.laid_math_bits_deBruijn32tab), ("math/bits.deBruijn64tab", Rows.laid_math_bits_deBruijn64tab), ("internal/strconv.uint64pow10", Rows.laid_internal_strconv_uint64pow10), ("strconv.ErrRange", Rows.laid_strconv_ErrRange), ("strconv.ErrSyntax", Rows.laid_strconv_ErrSyntax), ("unicode.White_Space", Rows.laid_unicode_White_Space), ("strings.asciiSpace", Rows.laid_strings_asciiSpace)]
theorem handle_cell {W : World} (h : handlesMet Tryz.prog [("errors.errorType", Rows.laid_errors_errorType)] W) : W.cell? ⟨0, 0, none⟩ = some (.iface 266 (.agg #[.pointer (some ⟨12, 33, none⟩)])) := by
  obtain ⟨name, u, ty, e1, e2, e3, e4, e5⟩ := h _ (List.mem_singleton.2 rfl)
  have en : name = [101, 114, 114, 111, 114] := (Option.some.inj e1).symm
  subst en
  obtain rfl := Option.some.inj (rt.symm.trans e2)
  have hm : ty ∈ (List.range Tryz.prog.types.size).filter fun t => Tryz.prog.rowNamed t [101, 114, 114, 111, 114] := List.mem_filter.2 ⟨List.mem_range.2 e3, e4⟩
  rw [oneRow] at hm
  obtain rfl := List.mem_singleton.1 hm
  have hh : typeHandle Tryz.prog 33 = .pointer (some ⟨12, 33, none⟩) := by kernel_rfl
  rw [hh] at e5
  simpa using World.var?_cell et e5 0
theorem globs_of {W : World} {l : List (String × DataW Unit)} (h1 : laidMet Tryz.prog l W) (ha : ("strings.asciiSpace", Rows.laid_strings_asciiSpace) ∈ l) (hr : l.filter (fun x => x.1 == "strconv.ErrRange") = [("strconv.ErrRange", Rows.laid_strconv_ErrRange)]) (hp : ("internal/strconv.uint64pow10", Rows.laid_internal_strconv_uint64pow10) ∈ l)
    (h2 : W.cell? ⟨0, 0, none⟩ = some (.iface 266 (.agg #[.pointer (some ⟨12, 33, none⟩)]))) : GlobOk envF (ghAll W) := by
  have hT : GlobOk envT (ghAll W) := glob_ofT h1 ha hr
  intro i
  by_cases hi : i = 1
  · subst hi
    rw [show envF.glob 1 = .vptr pow10Cells 0 from rfl]
    obtain ⟨ps, h3, _⟩ := h1
    have := laid_rep h3 hp 3 gPow tPow
    rw [rowPow] at this
    exact this
  · by_cases hj : i = 0
    · subst hj
      rw [show envF.glob 0 = .vptr [.iface 266 (.agg [.adr 12 33])] 0 from rfl]
      simp only [RepV, RepL]
      refine ⟨0, 0, [.iface 266 (.agg #[.pointer (some ⟨12, 33, none⟩)])], rfl, ⟨_, _, rfl, ⟨_, rfl, _, rfl, _, _, rfl, rfl, rfl⟩, rfl⟩, ?_⟩
      intro k v hk
      cases k with
      | zero => simp at hk; subst hk; exact h2
      | succ k => simp at hk
    · have : envT.glob i = envF.glob i := by
        simp only [envT, envF, globOf, globF, globN, List.find?_cons]
        rw [show ((0 : Nat) == i) = false by simp; omega, show ((1 : Nat) == i) = false by simp; omega]
      rw [← this]
      exact hT i
theorem globsF {W : World} (h : laidMetH Tryz.prog Rows.stmtKindsRow.laid W) : GlobOk envF (ghAll W) := by
  have h' : laidMet Tryz.prog l7 W ∧ handlesMet Tryz.prog [("errors.errorType", Rows.laid_errors_errorType)] W := h
  exact globs_of h'.1 (by simp [l7]) (by kernel_rfl) (by simp [l7]) (handle_cell h'.2)
end Go.Proofs.YtejjlojfgcgopaaGreatDoor
