/- Trees of the program's and of the reference's: Of, Same, To. The environment of the laws that write expressions; small numbers as texts; strings.Join; an expression's rank, and its brackets. expr.Text, expr.CondText: what they write. -/
import Derived.Test.YtejjlojfgcgopaaGreatDoorExP
import Derived.Test.YtejjlojfgcgopaaGreatDoorTu
import Derived.Test.YtejjlojfgcgopaaGreatDoorFwG5
import Derived.Shelf.Strings.OnBuilder
set_option linter.unusedSimpArgs false
set_option linter.unusedVariables false
namespace Go.Proofs.YtejjlojfgcgopaaGreatDoor
open Go.RowKit Go.Proofs.Fw
set_option maxRecDepth 100000
set_option maxHeartbeats 4000000
-- 

/-- A tree: its row is nil, or is not. -/
inductive Tn where
  | lf (k n : Int) (s : List UInt8)
  | nd (k n : Int) (s : List UInt8) (a : List Tn)
  deriving Inhabited

mutual
def tC : Tn → List AV
  | .lf k n s => [.int .i64 k, .int .i64 n, .str s, .nilSlice]
  | .nd k n s a => [.int .i64 k, .int .i64 n, .str s, .slice .unk 4 a.length (tsC a)]
def tsC : List Tn → List AV
  | [] => []
  | t :: l => tC t ++ tsC l
end
def Tn.k : Tn → Int
  | .lf k _ _ => k
  | .nd k _ _ _ => k
def Tn.n : Tn → Int
  | .lf _ n _ => n
  | .nd _ n _ _ => n
def Tn.s : Tn → List UInt8
  | .lf _ _ s => s
  | .nd _ _ s _ => s
def Tn.kids : Tn → List Tn
  | .lf _ _ _ => []
  | .nd _ _ _ a => a
def Tn.ar (t : Tn) : AV := (tC t).getD 3 .undef
@[simp] theorem tC_eq (t : Tn) : tC t = [.int .i64 t.k, .int .i64 t.n, .str t.s, t.ar] := by cases t <;> rfl
theorem tsC_append : ∀ a b : List Tn, tsC (a ++ b) = tsC a ++ tsC b
  | [], b => rfl
  | t :: a, b => by rw [List.cons_append, tsC, tsC, tsC_append a b, List.append_assoc]
mutual
theorem tC_low : ∀ t : Tn, lowL 0 (tC t) = true
  | .lf _ _ _ => rfl
  | .nd _ _ _ a => by rw [tC]; have := tsC_low a; simp [this]
theorem tsC_low : ∀ l : List Tn, lowL 0 (tsC l) = true
  | [] => rfl
  | t :: l => by rw [tsC, lowL_append, tC_low t, tsC_low l]; rfl
end
@[simp ↓ high] theorem tar_low (t : Tn) : low 0 t.ar = true := by
  have := tC_low t
  rw [tC_eq] at this
  simpa using this
@[simp ↓ high] theorem tar_lowm (m : Nat) (t : Tn) : low m t.ar = true := low_at m (tar_low t)
@[simp ↓ high] theorem tar_ids (t : Tn) : idsOf t.ar = [] := by cases t <;> rfl
@[simp ↓ high] theorem tar_known (t : Tn) : t.ar.known = true := by cases t <;> rfl
@[simp ↓ high] theorem tar_one (t : Tn) : t.ar.one = true := by cases t <;> rfl
@[simp ↓ high] theorem tar_cells (t : Tn) : cellsAV t.ar = [t.ar] := by cases t <;> rfl
theorem tsC_length : ∀ l : List Tn, (tsC l).length = l.length * 4
  | [] => rfl
  | t :: l => by rw [tsC, List.length_append, tsC_length l, tC_eq]; simp; omega
theorem tsC_at : ∀ (l : List Tn) (i : Nat) {t : Tn}, l[i]? = some t → ((tsC l).drop (i * 4)).take 4 = tC t ∧ i * 4 + 4 ≤ (tsC l).length
  | [], i, t, h => by simp at h
  | x :: l, i, t, h => by
    have hc : tsC (x :: l) = tC x ++ tsC l := rfl
    have hx : (tC x).length = 4 := by simp
    cases i with
    | zero =>
      simp only [List.getElem?_cons_zero, Option.some.injEq] at h
      subst h
      rw [hc]
      refine ⟨?_, by rw [List.length_append, hx]; omega⟩
      rw [Nat.zero_mul, List.drop_zero, List.take_append_of_le_length (by omega), List.take_of_length_le (by omega)]
    | succ i =>
      simp only [List.getElem?_cons_succ] at h
      obtain ⟨h1, h2⟩ := tsC_at l i h
      rw [hc]
      refine ⟨?_, by simp only [List.length_append, hx]; omega⟩
      rw [List.drop_append, List.drop_of_length_le (by omega), hx, List.nil_append, show (i + 1) * 4 - 4 = i * 4 by omega]
      exact h1
mutual
theorem tC_inj : ∀ (t u : Tn), tC t = tC u → t = u
  | .lf _ _ _, .lf _ _ _, h => by simp only [tC, List.cons.injEq, AV.int.injEq, AV.str.injEq, true_and, and_true] at h; obtain ⟨rfl, rfl, rfl⟩ := h; rfl
  | .lf _ _ _, .nd _ _ _ _, h => by simp [tC] at h
  | .nd _ _ _ _, .lf _ _ _, h => by simp [tC] at h
  | .nd _ _ _ a, .nd _ _ _ b, h => by
    simp only [tC, List.cons.injEq, AV.int.injEq, AV.str.injEq, AV.slice.injEq, true_and, and_true] at h
    obtain ⟨rfl, rfl, rfl, _, h⟩ := h
    rw [tsC_inj a b h]
theorem tsC_inj : ∀ (a b : List Tn), tsC a = tsC b → a = b
  | [], [], _ => rfl
  | [], t :: b, h => by rw [tsC, tsC, tC_eq] at h; simp at h
  | t :: a, [], h => by rw [tsC, tsC, tC_eq] at h; simp at h
  | t :: a, u :: b, h => by
    rw [tsC, tsC] at h
    have := List.append_inj h (by simp)
    rw [tC_inj t u this.1, tsC_inj a b this.2]
end
mutual
def okT : Tn → Bool
  | .lf _ _ _ => true
  | .nd _ _ _ a => decide (a.length < 4294967296) && okTs a
def okTs : List Tn → Bool
  | [] => true
  | t :: l => okT t && okTs l
end
theorem okTs_mem : ∀ {l : List Tn}, okTs l = true → ∀ t ∈ l, okT t = true
  | [], _, _, h => by cases h
  | u :: l, h, t, ht => by
    simp only [okTs, Bool.and_eq_true] at h
    rcases List.mem_cons.1 ht with rfl | ht
    · exact h.1
    · exact okTs_mem h.2 t ht
theorem okT_len {t : Tn} (h : okT t = true) : t.kids.length < 4294967296 := by
  cases t with
  | lf => simp [Tn.kids]
  | nd k n s a => simp only [okT, Bool.and_eq_true, decide_eq_true_eq] at h; exact h.1
theorem okT_kid {t u : Tn} (h : okT t = true) (hu : u ∈ t.kids) : okT u = true := by
  cases t with
  | lf => simp [Tn.kids] at hu
  | nd k n s a => simp only [okT, Bool.and_eq_true, decide_eq_true_eq] at h; exact okTs_mem h.2 u hu
theorem kid_lt {t u : Tn} (hu : u ∈ t.kids) : SizeOf.sizeOf u < SizeOf.sizeOf t := by
  cases t with
  | lf => simp [Tn.kids] at hu
  | nd k n s a =>
    have := List.sizeOf_lt_of_mem (show u ∈ a from hu)
    simp only [Tn.nd.sizeOf_spec]
    omega

@[simp high] theorem alenT1 (t : Tn) : alen Tryz.prog 25 t.ar = some (.int .i64 t.kids.length) := by
  cases t <;> simp [Tn.ar, tC, Tn.kids, alen]
@[simp high] theorem alenT2 (t : Tn) : alen Tryz.prog 40 t.ar = some (.int .i64 t.kids.length) := by
  cases t <;> simp [Tn.ar, tC, Tn.kids, alen]
@[simp high] theorem aidxT1 {t : Tn} {i : Nat} (h : i < t.kids.length) : aindexAddr Tryz.prog 25 t.ar (.int .i64 (i : Int)) = some (.vptr (tsC t.kids) (i * 4)) := by
  cases t with
  | lf => simp [Tn.kids] at h
  | nd k n s a =>
    have h' : i < a.length := h
    have : (i : Int) < a.length := by omega
    simp [Tn.ar, tC, Tn.kids, aindexAddr, h', this]
@[simp high] theorem aidxT2 {t : Tn} {i : Nat} (h : i < t.kids.length) : aindexAddr Tryz.prog 40 t.ar (.int .i64 (i : Int)) = some (.vptr (tsC t.kids) (i * 4)) := by
  cases t with
  | lf => simp [Tn.kids] at h
  | nd k n s a =>
    have h' : i < a.length := h
    have : (i : Int) < a.length := by omega
    simp [Tn.ar, tC, Tn.kids, aindexAddr, h', this]

open Classical in
/-- A function of trees. -/
noncomputable def oTn (f0 : FuncId) (S : Tn → Prop) (out : Tn → AV) : Orc := fun f args H => if h : f = f0 ∧ ∃ t, S t ∧ args = [.agg (tC t)] then some (out h.2.choose, H) else none
theorem oTn_at {f0 : FuncId} {S : Tn → Prop} {out : Tn → AV} {t : Tn} (h : S t) (H : AH) : oTn f0 S out f0 [.agg (tC t)] H = some (out t, H) := by
  have hh : f0 = f0 ∧ ∃ u, S u ∧ [AV.agg (tC t)] = [.agg (tC u)] := ⟨rfl, t, h, rfl⟩
  have hc := hh.2.choose_spec.2
  injection hc with hc _
  injection hc with hc
  have he : hh.2.choose = t := (tC_inj _ _ hc).symm
  simp only [oTn, dif_pos hh]
  rw [he]
theorem oTn_sound {E : Env} {f0 : FuncId} {S : Tn → Prop} {out : Tn → AV} (h : ∀ t, S t → ∀ H, CS Tryz.prog E f0 [.agg (tC t)] H (out t) H) : Sound Tryz.prog E (oTn f0 S out) := by
  intro f args H v H' ho
  unfold oTn at ho
  split at ho
  · rename_i hx
    injection ho with ho
    simp only [Prod.mk.injEq] at ho
    obtain ⟨rfl, rfl⟩ := ho
    have hs := hx.2.choose_spec
    generalize hx.2.choose = u at *
    obtain ⟨rfl, _⟩ := hx
    rw [hs.2]
    exact ⟨h _ hs.1 _, Nat.le_refl _, fun _ _ h => h⟩
  · cases ho
open Classical in
noncomputable def oTn2 (f0 : FuncId) (S : Tn → Tn → Prop) (out : Tn → Tn → AV) : Orc := fun f args H => if h : f = f0 ∧ ∃ p : Tn × Tn, S p.1 p.2 ∧ args = [.agg (tC p.1), .agg (tC p.2)] then some (out h.2.choose.1 h.2.choose.2, H) else none
theorem oTn2_at {f0 : FuncId} {S : Tn → Tn → Prop} {out : Tn → Tn → AV} {t u : Tn} (h : S t u) (H : AH) : oTn2 f0 S out f0 [.agg (tC t), .agg (tC u)] H = some (out t u, H) := by
  have hh : f0 = f0 ∧ ∃ p : Tn × Tn, S p.1 p.2 ∧ [AV.agg (tC t), .agg (tC u)] = [.agg (tC p.1), .agg (tC p.2)] := ⟨rfl, (t, u), h, rfl⟩
  have hc := hh.2.choose_spec.2
  injection hc with hc hd
  injection hd with hd _
  injection hc with hc
  injection hd with hd
  have he : hh.2.choose = (t, u) := Prod.ext (tC_inj _ _ hc).symm (tC_inj _ _ hd).symm
  simp only [oTn2, dif_pos hh]
  rw [he]
theorem oTn2_sound {E : Env} {f0 : FuncId} {S : Tn → Tn → Prop} {out : Tn → Tn → AV} (h : ∀ t u, S t u → ∀ H, CS Tryz.prog E f0 [.agg (tC t), .agg (tC u)] H (out t u) H) : Sound Tryz.prog E (oTn2 f0 S out) := by
  intro f args H v H' ho
  unfold oTn2 at ho
  split at ho
  · rename_i hx
    injection ho with ho
    simp only [Prod.mk.injEq] at ho
    obtain ⟨rfl, rfl⟩ := ho
    have hs := hx.2.choose_spec
    generalize hx.2.choose = u at *
    obtain ⟨rfl, _⟩ := hx
    rw [hs.2]
    exact ⟨h _ _ hs.1 _, Nat.le_refl _, fun _ _ h => h⟩
  · cases ho

mutual
def sameT : Tn → Tn → Bool
  | .lf k n s, u => k == u.k && n == u.n && s == u.s && u.kids.length == 0
  | .nd k n s a, u => k == u.k && n == u.n && s == u.s && a.length == u.kids.length && sameTs a u.kids
def sameTs : List Tn → List Tn → Bool
  | [], _ => true
  | _ :: _, [] => true
  | a :: l, b :: r => sameT a b && sameTs l r
end
theorem sameT_eq (t u : Tn) : sameT t u = (t.k == u.k && t.n == u.n && t.s == u.s && t.kids.length == u.kids.length && sameTs t.kids u.kids) := by
  cases t with
  | lf k n s =>
    have h : sameTs [] u.kids = true := rfl
    have h0 : (0 == u.kids.length) = (u.kids.length == 0) := by cases u.kids.length <;> rfl
    show (k == u.k && n == u.n && s == u.s && u.kids.length == 0) = (k == u.k && n == u.n && s == u.s && 0 == u.kids.length && sameTs [] u.kids)
    rw [h, h0, Bool.and_true]
  | nd k n s a => rfl
theorem sameTs_cons (a b : Tn) (l r : List Tn) : sameTs (a :: l) (b :: r) = (sameT a b && sameTs l r) := rfl

def SameI (t u : Tn) (res : Bool) (k : Nat) (tt : List AV) (H : AH) : Prop :=
  ∃ i, i + k = t.kids.length ∧ sameTs (t.kids.drop i) (u.kids.drop i) = res ∧ tt = mkT 53 [(2, .vptr (tC t) 0), (3, .vptr (tC u) 0), (5, .int .i64 ((i : Nat) : Int))] ∧ H = []
@[simp] theorem immXT : envX.imm 42 = true := by decide

theorem same_cs (t u : Tn) (ht : okT t = true) (H : AH) : CS Tryz.prog envX 67 [.agg (tC t), .agg (tC u)] H (.bool (sameT t u)) H := by
  have X : Cx (oTn2 67 (fun a b => a ∈ t.kids) (fun a b => .bool (sameT a b))) Tryz.prog envX := ⟨oTn2_sound fun a b hab H => same_cs a b (okT_kid ht hab) H, methXOk, mixed⟩
  have hat := fun (a b : Tn) (h : a ∈ t.kids) H => oTn2_at (f0 := 67) (S := fun a b => a ∈ t.kids) (out := fun a b => .bool (sameT a b)) (t := a) (u := b) h H
  generalize hO : oTn2 67 (fun a b => a ∈ t.kids) (fun a b => .bool (sameT a b)) = O at X hat
  clear hO
  refine CS.tr0 lowX Tryz.func67 (by kernel_rfl) 0 (by simp [Tryz.f67]) (fun B hB hG => ?_) (by simp) (by simp) H
  refine Tr.goD X hG (by kernel_rfl) ?_
  have hlen := okT_len ht
  rw [sameT_eq]
  have hbn : ∀ a b : Int, (a == b) = !(a != b) := fun a b => by simp [bne]
  by_cases h1 : t.k = u.k
  · by_cases h2 : t.n = u.n
    · by_cases h3 : t.s = u.s
      · by_cases h4 : t.kids.length = u.kids.length
        · simp [Tryz.f67, h1, h2, h3, h4]
          have hst : sameTs t.kids u.kids = sameTs (t.kids.drop 0) (u.kids.drop 0) := by simp
          have hb1 : (decide (u.kids.length = u.kids.length)) = true := by simp
          refine LpD.loopN X hG (by kernel_rfl) (SameI t u (sameTs t.kids u.kids)) t.kids.length (t' := mkT 53 [(2, .vptr (tC t) 0), (3, .vptr (tC u) 0), (5, .int .i64 ((0 : Nat) : Int))]) (H' := [])
            (Less.mk0 hB (by simp [h1, h2, h3])) ⟨0, by omega, hst.symm, rfl, rfl⟩ ?_
          rintro k tt H ⟨i, hik, hres, rfl, rfl⟩
          cases k with
          | zero =>
            obtain rfl : i = t.kids.length := by omega
            have e1 : sameTs t.kids u.kids = true := by rw [← hres, List.drop_length]; rfl
            simp [Blk_exit, e1]
          | succ k =>
            have hi : i < t.kids.length := by omega
            have hi2 : i < u.kids.length := by omega
            have hi' : (i : Int) < t.kids.length := by omega
            obtain ⟨a, ha⟩ : ∃ a, t.kids[i]? = some a := ⟨_, List.getElem?_eq_getElem hi⟩
            obtain ⟨b, hb⟩ : ∃ b, u.kids[i]? = some b := ⟨_, List.getElem?_eq_getElem hi2⟩
            obtain ⟨ca1, ca2⟩ := tsC_at t.kids i ha
            obtain ⟨cb1, cb2⟩ := tsC_at u.kids i hb
            have hm : a ∈ t.kids := List.mem_of_getElem? ha
            have hda : t.kids.drop i = a :: t.kids.drop (i + 1) := by
              rw [List.drop_eq_getElem_cons hi]; rw [List.getElem?_eq_getElem hi] at ha; injection ha with ha; rw [ha]
            have hdb : u.kids.drop i = b :: u.kids.drop (i + 1) := by
              rw [List.drop_eq_getElem_cons hi2]; rw [List.getElem?_eq_getElem hi2] at hb; injection hb with hb; rw [hb]
            rw [hda, hdb, sameTs_cons] at hres
            have w1 : IntKind.i64.wrap ((i : Int) + 1) = (i : Int) + 1 := wrap_i64 (by omega) (by omega)
            have hc := fun H => hat a b hm H
            simp only [tC_eq] at hc ca1 cb1
            simp [hi']
            refine LpD.turns X hG [] [] (by kernel_rfl) ?_
            cases hs : sameT a b with
            | true =>
              rw [hs, Bool.true_and] at hres
              simp [hi, hi2, ca1, cb1, ca2, cb2, hc, hs, w1]
              exact Nxt.mk k (by omega) (Less.mk0 (l' := [(2, .vptr (tC t) 0), (3, .vptr (tC u) 0), (5, .int .i64 ((i + 1 : Nat) : Int))]) hB (by simp [h1, h2, h3])) ⟨i + 1, by omega, hres, rfl, rfl⟩
            | false =>
              rw [hs, Bool.false_and] at hres
              simp [hi, hi2, ca1, cb1, ca2, cb2, hc, hs, ← hres]
        · have h4' : ¬ (t.kids.length : Int) = u.kids.length := by omega
          simp [Tryz.f67, h1, h2, h3, h4, h4']
      · simp [Tryz.f67, h1, h2, h3]
    · simp [Tryz.f67, h1, h2]
  · simp [Tryz.f67, h1]
termination_by SizeOf.sizeOf t
decreasing_by exact kid_lt hab

mutual
def ofT : Tn → Tn
  | .lf k n s => .lf k n s
  | .nd k n s [] => .lf k n s
  | .nd k n s (a :: l) => .nd k n s (ofT a :: ofTs l)
def ofTs : List Tn → List Tn
  | [] => []
  | a :: l => ofT a :: ofTs l
end
theorem ofTs_length : ∀ l : List Tn, (ofTs l).length = l.length
  | [] => rfl
  | a :: l => by rw [ofTs, List.length_cons, List.length_cons, ofTs_length l]
theorem ofTs_append : ∀ a b : List Tn, ofTs (a ++ b) = ofTs a ++ ofTs b
  | [], b => rfl
  | t :: a, b => by rw [List.cons_append, ofTs, ofTs, ofTs_append a b, List.cons_append]
theorem ofT_eq (t : Tn) : tC (ofT t) = [.int .i64 t.k, .int .i64 t.n, .str t.s, if t.kids = [] then .nilSlice else .slice .unk 4 t.kids.length (tsC (ofTs t.kids))] := by
  cases t with
  | lf k n s => rfl
  | nd k n s a =>
    cases a with
    | nil => rfl
    | cons b l => simp only [ofT, tC, Tn.k, Tn.n, Tn.s, Tn.kids, List.length_cons, ofTs_length, ofTs]; rfl
@[simp] theorem buT3 (k n : Int) (s : List UInt8) : abuild Tryz.prog 42 [(0, .int .i64 k), (1, .int .i64 n), (2, .str s)] = some (.agg [.int .i64 k, .int .i64 n, .str s, .nilSlice]) := by kernel_rfl
/-- A row that is appended to, of trees. -/
def outO (i : Nat) (l : List Tn) : AV := if l = [] then .nilSlice else .slice (.tok i) 4 l.length (tsC l)
theorem elemO : elemChk Tryz.prog 40 4 = true := by kernel_rfl
def OfI (t : Tn) (k : Nat) (tt : List AV) (H : AH) : Prop :=
  ∃ i, i + k = t.kids.length ∧ tt = mkT 31 [(1, .vptr (tC t) 0), (2, .ptr 0 0), (3, .ptr 1 0), (4, .int .i64 ((i : Nat) : Int))] ∧
    H = some (.box [.int .i64 0, .int .i64 0, .str [], .nilSlice]) :: some (.box [.int .i64 t.k, .int .i64 t.n, .str t.s, outO 2 (ofTs (t.kids.take i))]) :: (if i = 0 then [] else [some (.tok i)])
theorem of_cs (t : Tn) (ht : okT t = true) (H : AH) : CS Tryz.prog envX 69 [.agg (tC t)] H (.agg (tC (ofT t))) H := by
  have X : Cx (oTn 69 (fun a => a ∈ t.kids) (fun a => .agg (tC (ofT a)))) Tryz.prog envX := ⟨oTn_sound fun a hab H => of_cs a (okT_kid ht hab) H, methXOk, mixed⟩
  have hat := fun (a : Tn) (h : a ∈ t.kids) H => oTn_at (f0 := 69) (S := fun a => a ∈ t.kids) (out := fun a => .agg (tC (ofT a))) (t := a) h H
  generalize hO : oTn 69 (fun a => a ∈ t.kids) (fun a => .agg (tC (ofT a))) = O at X hat
  clear hO
  have hlen := okT_len ht
  rw [ofT_eq]
  refine CS.tr0 lowX Tryz.func69 (by kernel_rfl) 0 (by simp [Tryz.f69]) (fun B hB hG => ?_) (by split <;> simp [tsC_low]) (by simp) H
  refine Tr.goD X hG (by kernel_rfl) ?_
  simp [Tryz.f69]
  refine LpD.loopN X hG (by kernel_rfl) (OfI t) t.kids.length (t' := mkT 31 [(1, .vptr (tC t) 0), (2, .ptr 0 0), (3, .ptr 1 0), (4, .int .i64 ((0 : Nat) : Int))])
    (H' := [some (.box [.int .i64 0, .int .i64 0, .str [], .nilSlice]), some (.box [.int .i64 t.k, .int .i64 t.n, .str t.s, .nilSlice])])
    (Less.mkK 2 (by simp [hB]) (by simp) (by simp) (by simp)) ⟨0, by omega, rfl, rfl⟩ ?_
  rintro k tt H ⟨i, hik, rfl, rfl⟩
  cases k with
  | zero =>
    obtain rfl : i = t.kids.length := by omega
    rw [List.take_length]
    by_cases h0 : t.kids = []
    · simp [h0, Blk_exit, outO, ofTs]
    · have h1 : ¬ ofTs t.kids = [] := fun h => h0 (by have := ofTs_length t.kids; rw [h] at this; exact List.eq_nil_of_length_eq_zero this.symm)
      simp [h0, Blk_exit, outO, h1, ofTs_length, tsC_low]
  | succ k =>
    have hi : i < t.kids.length := by omega
    have hi' : (i : Int) < t.kids.length := by omega
    obtain ⟨a, ha⟩ : ∃ a, t.kids[i]? = some a := ⟨_, List.getElem?_eq_getElem hi⟩
    obtain ⟨ca1, ca2⟩ := tsC_at t.kids i ha
    have hm : a ∈ t.kids := List.mem_of_getElem? ha
    have htk : ofTs (t.kids.take (i + 1)) = ofTs (t.kids.take i) ++ [ofT a] := by
      rw [List.take_add_one, ha, Option.toList_some, ofTs_append]; rfl
    have hol : (ofTs (t.kids.take i)).length = i := by rw [ofTs_length, List.length_take]; omega
    have w1 : IntKind.i64.wrap ((i : Int) + 1) = (i : Int) + 1 := wrap_i64 (by omega) (by omega)
    have hc := fun H => hat a hm H
    simp only [tC_eq] at hc ca1
    simp [hi']
    generalize hl : ofTs (t.kids.take i) = l at *
    have hcase : (l = [] ∧ (if i = 0 then [] else [some (Ent.tok i)]) = []) ∨ (¬ l = [] ∧ (if i = 0 then [] else [some (Ent.tok i)]) = [some (Ent.tok i)]) := by
      by_cases h0 : i = 0
      · exact .inl ⟨List.eq_nil_of_length_eq_zero (by omega), if_pos h0⟩
      · exact .inr ⟨fun h => by rw [h] at hol; simp at hol; omega, if_neg h0⟩
    generalize (if i = 0 then [] else [some (Ent.tok i)]) = Tk at *
    refine LpD.turns X hG [7, 9, 11] [(0, 7), (1, 7)] (by kernel_rfl) ?_
    rcases hcase with ⟨hl0, rfl⟩ | ⟨hl0, rfl⟩
    · subst hl0
      have hi0 : i = 0 := by simpa using hol.symm
      have happ := fun H => aappend_nil (P := Tryz.prog) (t := 40) (sz := 4) (m := 1) (H := H) (fid := 2) (ow := .full) (ys := tC (ofT a)) elemO (by decide) (by decide) (by simp)
      simp only [tC_eq] at happ
      simp [hi, ca1, ca2, hc, outO, happ, w1]
      refine Nxt.mk k (by omega) (Less.mkK 3 (l' := [(1, .vptr (tC t) 0), (2, .ptr 0 0), (3, .ptr 1 0), (4, .int .i64 ((i + 1 : Nat) : Int))])
        (H' := [some (.box [.int .i64 0, .int .i64 0, .str [], .nilSlice]), some (.box [.int .i64 t.k, .int .i64 t.n, .str t.s, outO 2 [ofT a]]), some (.tok (i + 1))]) (by simp [hB]) (by simp) (by simp [outO, tsC, hi0]) (by simp [outO, tsC])) ⟨i + 1, by omega, rfl, by rw [htk]; rfl⟩
    · have happ := fun H (h : AH.at H 2 = some (.tok i)) => aappend_tok (P := Tryz.prog) (t := 40) (sz := 4) (m := 1) (H := H) (fid := 3) (ow := .full) (xs := tsC l) (ys := tC (ofT a)) elemO h (by decide) (by omega) (by simp)
      simp only [tC_eq] at happ
      simp [hi, ca1, ca2, hc, outO, hl0, hol, happ, w1]
      refine Nxt.mk k (by omega) (Less.mkK 3 (l' := [(1, .vptr (tC t) 0), (2, .ptr 0 0), (3, .ptr 1 0), (4, .int .i64 ((i + 1 : Nat) : Int))])
        (H' := [some (.box [.int .i64 0, .int .i64 0, .str [], .nilSlice]), some (.box [.int .i64 t.k, .int .i64 t.n, .str t.s, outO 2 (l ++ [ofT a])]), some (.tok (i + 1))]) (by simp [hB]) (by simp) (by simp [outO, tsC, tsC_append, hol]) (by simp [outO, tsC, tsC_append, lowL_mono (Nat.zero_le 3) _ (tsC_low l)])) ⟨i + 1, by omega, rfl, by rw [htk]; rfl⟩
termination_by SizeOf.sizeOf t
decreasing_by exact kid_lt hab

/-! The words, handed from the reference to the program. -/
def outW (l : List Wd) : AV := if l = [] then .nilSlice else .slice (.tok 0) 4 l.length (wdsCells l)
theorem elemW : elemChk Tryz.prog 125 4 = true := by kernel_rfl
@[simp high] theorem alenR' (l : List Wd) : alen Tryz.prog 54 (wdsAV l) = some (.int .i64 l.length) := by
  unfold wdsAV
  split
  · rename_i h; subst h; simp [alen]
  · simp [alen]
@[simp high] theorem aidxR' {l : List Wd} {i : Nat} (h : i < l.length) : aindexAddr Tryz.prog 54 (wdsAV l) (.int .i64 (i : Int)) = some (.vptr (wdsCells l) (i * 4)) := by
  have hne : l ≠ [] := by rintro rfl; simp at h
  have : (i : Int) < l.length := by omega
  simp [wdsAV, hne, aindexAddr, h]
theorem wdsCells_append : ∀ a b : List Wd, wdsCells (a ++ b) = wdsCells a ++ wdsCells b
  | [], b => rfl
  | t :: a, b => by
    have h1 : wdsCells (t :: (a ++ b)) = wdCells t ++ wdsCells (a ++ b) := rfl
    have h2 : wdsCells (t :: a) = wdCells t ++ wdsCells a := rfl
    rw [List.cons_append, h1, h2, wdsCells_append a b, List.append_assoc]
def ToI (ts : List Wd) (k : Nat) (tt : List AV) (H : AH) : Prop :=
  ∃ i, i + k = ts.length ∧ tt = mkT 36 [(0, wdsAV ts), (3, outW (ts.take i)), (4, .int .i64 ((i : Nat) : Int))] ∧ H = (if i = 0 then [] else [some (.tok i)])
@[simp] theorem buWd (k n a : Int) (s : List UInt8) : abuild Tryz.prog 192 [(0, .int .i64 k), (1, .str s), (2, .int .i64 a), (3, .int .i64 n)] = some (.agg [.int .i64 k, .str s, .int .i64 a, .int .i64 n]) := by kernel_rfl
@[simp] theorem bsWd (a b c d : AV) : abuildSlice Tryz.prog 125 1 [(0, .agg [a, b, c, d])] = some (.slice .full 4 1 [a, b, c, d]) := by kernel_rfl
/-! What a reader returns is a tree. -/
mutual
def Ex.tn : Ex → Tn
  | .none => .lf 0 0 []
  | .num n => .lf 1 n []
  | .var s => .lf 2 0 s
  | .elem s a => .nd 3 0 s (Ex.tns a)
  | .neg e => .nd 4 0 [] [e.tn]
  | .bin k a b => .nd k 0 [] [a.tn, b.tn]
def Ex.tns : List Ex → List Tn
  | [] => []
  | e :: l => e.tn :: Ex.tns l
end
theorem tns_length : ∀ l : List Ex, (Ex.tns l).length = l.length
  | [] => rfl
  | a :: l => by rw [Ex.tns, List.length_cons, List.length_cons, tns_length l]
theorem repL_append2 {g : Gh} : ∀ {xs ys : List AV} {vs : List Value}, RepL g (xs ++ ys) vs → ∃ v1 v2, vs = v1 ++ v2 ∧ RepL g xs v1 ∧ RepL g ys v2
  | [], ys, vs, h => ⟨[], vs, rfl, rfl, h⟩
  | a :: xs, ys, vs, h => by
    obtain ⟨v, ws, rfl, h1, h2⟩ := h
    obtain ⟨v1, v2, rfl, h3, h4⟩ := repL_append2 h2
    exact ⟨v :: v1, v2, rfl, ⟨v, v1, rfl, h1, h3⟩, h4⟩
mutual
theorem rep_tn (g : Gh) : ∀ (e : Ex) (vs : List Value), RepL g (exC e) vs → RepL g (tC e.tn) vs
  | .none, _, h => h
  | .num _, _, h => h
  | .var _, _, h => h
  | .elem s a, vs, h => by
    have key := rep_tns g a
    rw [exC] at h
    rw [Ex.tn, tC, tns_length]
    obtain ⟨v0, _, rfl, h0, v1, _, rfl, h1, v2, _, rfl, h2, v3, _, rfl, h3, h4⟩ := h
    refine ⟨v0, _, rfl, h0, v1, _, rfl, h1, v2, _, rfl, h2, v3, _, rfl, ?_, h4⟩
    simp only [RepV] at h3 ⊢
    obtain ⟨b, o, cap, us, hv, q1, q2, q3, q4, q5⟩ := h3
    exact ⟨b, o, cap, us, hv, key us q1, q2, by rw [tsC_length, tns_length], q4, trivial⟩
  | .neg e, vs, h => by
    have key := rep_tn g e
    rw [exC] at h
    rw [Ex.tn, tC]
    obtain ⟨v0, _, rfl, h0, v1, _, rfl, h1, v2, _, rfl, h2, v3, _, rfl, h3, h4⟩ := h
    refine ⟨v0, _, rfl, h0, v1, _, rfl, h1, v2, _, rfl, h2, v3, _, rfl, ?_, h4⟩
    simp only [RepV] at h3 ⊢
    obtain ⟨b, o, cap, us, hv, q1, q2, q3, q4, q5⟩ := h3
    refine ⟨b, o, cap, us, hv, ?_, q2, by rw [tsC_length], q4, trivial⟩
    rw [tsC, tsC, List.append_nil]
    exact key us q1
  | .bin k x y, vs, h => by
    have key1 := rep_tn g x
    have key2 := rep_tn g y
    rw [exC] at h
    rw [Ex.tn, tC]
    obtain ⟨v0, _, rfl, h0, v1, _, rfl, h1, v2, _, rfl, h2, v3, _, rfl, h3, h4⟩ := h
    refine ⟨v0, _, rfl, h0, v1, _, rfl, h1, v2, _, rfl, h2, v3, _, rfl, ?_, h4⟩
    simp only [RepV] at h3 ⊢
    obtain ⟨b, o, cap, us, hv, q1, q2, q3, q4, q5⟩ := h3
    refine ⟨b, o, cap, us, hv, ?_, q2, by rw [tsC_length], q4, trivial⟩
    obtain ⟨u1, u2, rfl, r1, r2⟩ := repL_append2 q1
    rw [tsC, tsC, tsC, List.append_nil]
    exact (key1 u1 r1).append (key2 u2 r2)
theorem rep_tns (g : Gh) : ∀ (l : List Ex) (vs : List Value), RepL g (exsC l) vs → RepL g (tsC (Ex.tns l)) vs
  | [], _, h => h
  | e :: l, vs, h => by
    have k1 := rep_tn g e
    have k2 := rep_tns g l
    rw [exsC] at h
    rw [Ex.tns, tsC]
    obtain ⟨v1, v2, rfl, h1, h2⟩ := repL_append2 h
    exact (k1 v1 h1).append (k2 v2 h2)
end
mutual
theorem same_of : ∀ t : Tn, sameT (ofT t) t = true
  | .lf k n s => by simp [ofT, sameT, Tn.k, Tn.n, Tn.s, Tn.kids]
  | .nd k n s [] => by simp [ofT, sameT, Tn.k, Tn.n, Tn.s, Tn.kids]
  | .nd k n s (a :: l) => by
    have h1 := same_of a
    have h2 := sames_of l
    have h3 := ofTs_length l
    simp [ofT, sameT, Tn.k, Tn.n, Tn.s, Tn.kids, sameTs, h1, h2, h3]
theorem sames_of : ∀ l : List Tn, sameTs (ofTs l) l = true
  | [] => rfl
  | a :: l => by rw [ofTs, sameTs, same_of a, sames_of l]; rfl
end
theorem tn_cs (e : Ex) : Ex.tn e = e.tn := rfl
/-- Arguments of which less is asked. -/
theorem CS.arg {P : Program} {E : Env} {f : FuncId} {args args' : List AV} {H H' : AH} {v : AV} (h : CS P E f args' H v H') (hw : ∀ g cs, RepL g args cs → RepL g args' cs) : CS P E f args H v H' := fun g w cargs R hG hA => h g w cargs R hG (hw g cargs hA)
theorem ofEx_cs (e : Ex) (he : okT e.tn = true) (H : AH) : CS Tryz.prog envX 69 [exAV e] H (.agg (tC (ofT e.tn))) H := by
  refine CS.arg (of_cs e.tn he H) fun g cs h => ?_
  obtain ⟨v, ws, rfl, h1, h2⟩ := h
  refine ⟨v, ws, rfl, ?_, h2⟩
  unfold exAV at h1
  simp only [RepV] at h1 ⊢
  obtain ⟨vs, rfl, h1⟩ := h1
  exact ⟨vs, rfl, rep_tn g e vs h1⟩
mutual
theorem okT_of : ∀ t : Tn, okT t = true → okT (ofT t) = true
  | .lf _ _ _, _ => rfl
  | .nd _ _ _ [], _ => rfl
  | .nd k n s (a :: l), h => by
    simp only [okT, okTs, Bool.and_eq_true, decide_eq_true_eq, List.length_cons] at h
    have h1 := okT_of a h.2.1
    have h2 := okTs_of l h.2.2
    simp only [ofT, okT, okTs, Bool.and_eq_true, decide_eq_true_eq, List.length_cons, ofTs_length]
    exact ⟨h.1, h1, h2⟩
theorem okTs_of : ∀ l : List Tn, okTs l = true → okTs (ofTs l) = true
  | [], _ => rfl
  | a :: l, h => by
    simp only [okTs, Bool.and_eq_true] at h
    simp only [ofTs, okTs, Bool.and_eq_true]
    exact ⟨okT_of a h.1, okTs_of l h.2⟩
end
theorem sameEx_cs (e : Ex) (he : okT e.tn = true) (H : AH) : CS Tryz.prog envX 67 [.agg (tC (ofT e.tn)), exAV e] H (.bool true) H := by
  have := same_cs (ofT e.tn) e.tn (okT_of _ he) H
  rw [same_of] at this
  refine CS.arg this fun g cs h => ?_
  obtain ⟨v, ws, rfl, h1, u, ws, rfl, h2, h3⟩ := h
  refine ⟨v, _, rfl, h1, u, ws, rfl, ?_, h3⟩
  unfold exAV at h2
  simp only [RepV] at h2 ⊢
  obtain ⟨vs, rfl, h2⟩ := h2
  exact ⟨vs, rfl, rep_tn g e vs h2⟩
end Go.Proofs.YtejjlojfgcgopaaGreatDoor

namespace Go.Proofs.YtejjlojfgcgopaaGreatDoor
open Go.RowKit Go.Proofs.Fw
open Go.Shelf
set_option maxRecDepth 100000
set_option maxHeartbeats 4000000
-- 

def pow10Cells : List AV := (List.range 20).map fun i => .int .u64 ((10 ^ i : Nat) : Int)
def globF : List (Nat × AV) := (1, .vptr pow10Cells 0) :: globN
def envF : Env := ⟨globOf globF, methN, fun t => envX.imm t || t == 29⟩
theorem methFOk : MethOk Tryz.prog envF := methNOk
theorem lowF : ∀ i, low 0 (envF.glob i) = true := low_globOf (by
  intro x hx
  simp only [globF, globN, globT, List.mem_cons, List.not_mem_nil, or_false] at hx
  rcases hx with rfl | rfl | rfl | rfl
  · show lowL 0 pow10Cells = true
    kernel_rfl
  · rfl
  · show lowL 0 spaceCells = true
    kernel_rfl
  · rfl)
theorem globF_X {g : Gh} (h : GlobOk envF g) : GlobOk envX g := by
  intro i
  by_cases hi : i = 1
  · subst hi
    have : envX.glob 1 = .undef := by rfl
    rw [this]
    trivial
  · have : envX.glob i = envF.glob i := by
      simp only [envX, envF, envN, globOf, globF, List.find?_cons]
      rw [show ((1 : Nat) == i) = false by simp; omega]
    rw [this]
    exact h i
theorem CS.toF {f : FuncId} {args : List AV} {H H' : AH} {v : AV} (h : CS Tryz.prog envX f args H v H') : CS Tryz.prog envF f args H v H' := fun g w cargs R hG hA => h g w cargs R (globF_X hG) hA
theorem Sound.toF {O : Orc} (h : Sound Tryz.prog envX O) : Sound Tryz.prog envF O := fun f args H v H' ho => by
  obtain ⟨h1, h2, h3⟩ := h f args H v H' ho
  exact ⟨CS.toF h1, h2, h3⟩
@[simp] theorem immFE : envF.imm 27 = true := by decide
@[simp] theorem immFC : envF.imm 29 = true := by decide
theorem oNilF : Cx oNil Tryz.prog envF := ⟨oNil_sound, methFOk, mixed⟩

/-! Numbers that known writes. -/
def fzN : FuncId → Nat := fun _ => 0
theorem num_m4 : run fzN oNil Tryz.prog envF 100 8 94 [.int .i64 (-4)] [] = some (.str [40, 45, 52, 41], []) := by kernel_rfl
theorem num_1 : run fzN oNil Tryz.prog envF 100 8 94 [.int .i64 1] [] = some (.str [49], []) := by kernel_rfl
theorem num_2 : run fzN oNil Tryz.prog envF 100 8 94 [.int .i64 2] [] = some (.str [50], []) := by kernel_rfl
theorem num_3 : run fzN oNil Tryz.prog envF 100 8 94 [.int .i64 3] [] = some (.str [51], []) := by kernel_rfl
theorem num_4 : run fzN oNil Tryz.prog envF 100 8 94 [.int .i64 4] [] = some (.str [52], []) := by kernel_rfl
def numS (n : Int) : Prop := n = -4 ∨ n = 1 ∨ n = 2 ∨ n = 3 ∨ n = 4
def numG (n : Int) : List UInt8 := if n = -4 then [40, 45, 52, 41] else if n = 1 then [49] else if n = 2 then [50] else if n = 3 then [51] else [52]
/-- Which numbers are written, and how. -/
def NumOk (S : Int → Prop) (nt : Int → List UInt8) : Prop := ∀ n, S n → ∀ H, CS Tryz.prog envF 94 [.int .i64 n] H (.str (nt n)) H
theorem numS_ok : NumOk numS numG := by
  have key : ∀ {n : Int} {s : List UInt8}, run fzN oNil Tryz.prog envF 100 8 94 [.int .i64 n] [] = some (.str s, []) → ∀ H, CS Tryz.prog envF 94 [.int .i64 n] H (.str s) H := fun h H =>
    (run_sound (base := oNil) oNil_sound methFOk mixed 100 8 _ _ _ _ _ h).1.frame lowF rfl H
  rintro n (rfl | rfl | rfl | rfl | rfl) H
  · exact key num_m4 H
  · exact key num_1 H
  · exact key num_2 H
  · exact key num_3 H
  · exact key num_4 H

/-! strings.Join, by the kit's shelf. -/
def laysJoin_ren : Go.Shelf.Ren := ⟨fun | 156 => 93 | 165 => 146 | 166 => 147 | 169 => 148 | 240 => 182 | 241 => 183 | 276 => 211 | 277 => 212 | n => n, fun | 31 => 23 | 9 => 9 | 3 => 3 | 4 => 4 | 0 => 0 | 20 => 20 | 72 => 255 | 76 => 256 | 70 => 253 | 37 => 139 | 75 => 33 | 127 => 306 | 164 => 208 | 5 => 5 | 80 => 258 | n => n, fun | n => n⟩
theorem laysJoin : Lays.n156 Tryz.prog laysJoin_ren := {
  mixed := by kernel_rfl
  f156 := Tryz.func93.trans (congrArg some (by kernel_rfl))
  f165 := Tryz.func146.trans (congrArg some (by kernel_rfl))
  f166 := Tryz.func147.trans (congrArg some (by kernel_rfl))
  f169 := Tryz.func148.trans (congrArg some (by kernel_rfl))
  f240 := Tryz.func182.trans (congrArg some (by kernel_rfl))
  f241 := Tryz.func183.trans (congrArg some (by kernel_rfl))
  f276 := Tryz.func211.trans (congrArg some (by kernel_rfl))
  f277 := Tryz.func212.trans (congrArg some (by kernel_rfl))
  t0 := Tryz.underlying0
  a0 := Tryz.isAgg0
  z0 := Tryz.sizeOf0
  v0 := Tryz.zeroValue0
  t3 := Tryz.underlying3
  a3 := Tryz.isAgg3
  z3 := Tryz.sizeOf3
  v3 := Tryz.zeroValue3
  t4 := Tryz.underlying4
  a4 := Tryz.isAgg4
  z4 := Tryz.sizeOf4
  v4 := Tryz.zeroValue4
  t9 := Tryz.underlying9
  a9 := Tryz.isAgg9
  z9 := Tryz.sizeOf9
  v9 := Tryz.zeroValue9
  t20 := Tryz.underlying20
  a20 := Tryz.isAgg20
  z20 := Tryz.sizeOf20
  v20 := Tryz.zeroValue20
  t31 := Tryz.underlying23
  a31 := Tryz.isAgg23
  z31 := Tryz.sizeOf23
  v31 := Tryz.zeroValue23
  t37 := Tryz.underlying139
  a37 := Tryz.isAgg139
  z37 := Tryz.sizeOf139
  v37 := Tryz.zeroValue139
  t70 := Tryz.underlying253
  a70 := Tryz.isAgg253
  z70 := Tryz.sizeOf253
  v70 := Tryz.zeroValue253
  t72 := Tryz.underlying255
  a72 := Tryz.isAgg255
  z72 := Tryz.sizeOf255
  v72 := Tryz.zeroValue255
  t75 := Tryz.underlying33
  a75 := Tryz.isAgg33
  z75 := Tryz.sizeOf33
  v75 := Tryz.zeroValue33
  t76 := Tryz.underlying256
  a76 := Tryz.isAgg256
  z76 := Tryz.sizeOf256
  v76 := Tryz.zeroValue256
  t127 := Tryz.underlying306
  a127 := Tryz.isAgg306
  z127 := Tryz.sizeOf306
  v127 := Tryz.zeroValue306
  t164 := Tryz.underlying208
  a164 := Tryz.isAgg208
  z164 := Tryz.sizeOf208
  v164 := Tryz.zeroValue208 }

theorem extraJ : Builder.Extra Tryz.prog laysJoin_ren := {
  sizeBuilder := by kernel_rfl
  liesBuilder := by kernel_rfl
  t5 := Tryz.underlying5
  a5 := Tryz.isAgg5
  z5 := Tryz.sizeOf5
  v5 := Tryz.zeroValue5
  infoByte := by kernel_rfl
  cellsByte := by kernel_rfl
  sizeByte := by kernel_rfl
  neB5 := by decide }

theorem repStrs (g : Gh) : ∀ (xs : List (List UInt8)) (vs : List Value), RepL g (xs.map AV.str) vs → vs = xs.map fun x => Value.string ⟨x.toArray⟩
  | [], vs, h => h
  | x :: xs, vs, h => by
    obtain ⟨v, ws, rfl, h1, h2⟩ := h
    simp only [RepV] at h1
    rw [h1, repStrs g xs ws h2]
    rfl
theorem join_cs (ow : Own) (xs : List (List UInt8)) (sep : List UInt8) (h0 : xs ≠ []) (hn : xs.length ≤ 140737488355328) (hl : (Lib.join xs sep).length ≤ 140737488355328) (H : AH) :
    CS Tryz.prog envF 93 [.slice ow 1 xs.length (xs.map .str), .str sep] H (.str (Lib.join xs sep)) H := by
  refine CS.of_calls2 fun g w cargs R hA => ?_
  simp only [RepL, RepV] at hA
  obtain ⟨_, _, rfl, ⟨b, o, cap, vs, rfl, hr, hhas, _, hcap, _⟩, _, _, rfl, rfl, rfl⟩ := hA
  have hvs := repStrs g xs vs hr
  subst hvs
  have hget : ∀ (j : Nat) (x : List UInt8), xs[j]? = some x → g.G b (o + j) = some (.string ⟨x.toArray⟩) := fun j x hx => hhas j _ (by rw [List.getElem?_map, hx]; rfl)
  have hid : (xs.map fun x => (⟨x.toArray⟩ : ByteArray)).map (·.data.toList) = xs := by
    rw [List.map_map]
    conv => rhs; rw [← List.map_id xs]
    exact List.map_congr_left fun x _ => rfl
  have key := Any.strings_Join laysJoin extraJ b o cap (xs.map fun x => (⟨x.toArray⟩ : ByteArray)) ⟨sep.toArray⟩ w
    (fun j x hx => by
      rw [List.getElem?_map] at hx
      cases hj : xs[j]? with
      | none => rw [hj] at hx; cases hx
      | some y =>
        rw [hj] at hx
        injection hx with hx
        subst hx
        exact R.imm _ _ _ (hget j y hj))
    (by
      cases xs with
      | nil => exact absurd rfl h0
      | cons x xs => exact R.lt (hget 0 x rfl))
    (by rw [List.length_map]; exact hn) (by rw [List.length_map]; exact hcap)
    (by rw [hid]; exact hl)
  rw [hid, List.length_map] at key
  refine key.mono ?_
  rintro e w' ⟨rfl, hb⟩
  exact ⟨_, rfl, fun g => by simp only [RepV], hb⟩
theorem strs_inj : ∀ {a b : List (List UInt8)}, a.map AV.str = b.map AV.str → a = b
  | [], [], _ => rfl
  | [], _ :: _, h => by cases h
  | _ :: _, [], h => by cases h
  | x :: a, y :: b, h => by
    simp only [List.map_cons, List.cons.injEq, AV.str.injEq] at h
    rw [h.1, strs_inj h.2]
open Classical in
noncomputable def oJoin : Orc := fun f args H => match args with
  | [.slice ow 1 n cs, .str sep] => if h : f = 93 ∧ ∃ xs : List (List UInt8), cs = xs.map .str ∧ n = xs.length ∧ xs ≠ [] ∧ xs.length ≤ 140737488355328 ∧ (Lib.join xs sep).length ≤ 140737488355328 then some (.str (Lib.join h.2.choose sep), H) else none
  | _ => none
theorem oJoin_at {ow : Own} {xs : List (List UInt8)} {sep : List UInt8} {n : Nat} (hn0 : n = xs.length) (h0 : xs ≠ []) (hn : xs.length ≤ 140737488355328) (hl : (Lib.join xs sep).length ≤ 140737488355328) (H : AH) :
    oJoin 93 [.slice ow 1 n (xs.map .str), .str sep] H = some (.str (Lib.join xs sep), H) := by
  have hh : 93 = 93 ∧ ∃ ys : List (List UInt8), xs.map AV.str = ys.map .str ∧ n = ys.length ∧ ys ≠ [] ∧ ys.length ≤ 140737488355328 ∧ (Lib.join ys sep).length ≤ 140737488355328 := ⟨rfl, xs, rfl, hn0, h0, hn, hl⟩
  have he := (strs_inj hh.2.choose_spec.1).symm
  simp only [oJoin, dif_pos hh]
  rw [he]
theorem oJoin_sound : Sound Tryz.prog envF oJoin := by
  intro f args H v H' ho
  unfold oJoin at ho
  split at ho
  · split at ho
    · rename_i hx
      injection ho with ho
      simp only [Prod.mk.injEq] at ho
      obtain ⟨rfl, rfl⟩ := ho
      have hs := hx.2.choose_spec
      generalize hx.2.choose = xs at *
      obtain ⟨rfl, rfl, h0, hn, hl⟩ := hs
      obtain ⟨rfl, _⟩ := hx
      exact ⟨join_cs _ xs _ h0 hn hl _, Nat.le_refl _, fun _ _ h => h⟩
    · cases ho
  · cases ho

/-! An expression's rank; brackets. -/
def levelT (k : Int) : Int := if k = 1 ∨ k = 2 ∨ k = 3 ∨ k = 4 then 3 else if k = 7 ∨ k = 8 then 2 else 1
def brackT (s : List UInt8) (b : Bool) : List UInt8 := if b then 40 :: (s ++ [41]) else s
def signT (k : Int) : List UInt8 := if k = 5 then [32, 43, 32] else if k = 6 then [32, 45, 32] else if k = 7 then [32, 42, 32] else if k = 8 then [32, 47, 32] else []
theorem level_cs (t : Tn) (H : AH) : CS Tryz.prog envF 96 [.agg (tC t)] H (.int .i64 (levelT t.k)) H := by
  refine CS.tr0 lowF Tryz.func96 (by kernel_rfl) 0 (by simp [Tryz.f96]) (fun B hB hG => ?_) (by simp) (by simp) H
  refine Tr.goD oNilF hG (by kernel_rfl) ?_
  have w2 : IntKind.i64.wrap 2 = 2 := by decide
  have w3 : IntKind.i64.wrap 3 = 3 := by decide
  by_cases h1 : t.k = 1
  · simp [Tryz.f96, levelT, h1, w2, w3]
  · by_cases h2 : t.k = 2
    · simp [Tryz.f96, levelT, h2, w2, w3]
    · by_cases h3 : t.k = 3
      · simp [Tryz.f96, levelT, h3, w2, w3]
      · by_cases h4 : t.k = 4
        · simp [Tryz.f96, levelT, h4, w2, w3]
        · by_cases h7 : t.k = 7
          · simp [Tryz.f96, levelT, h7, w2, w3]
          · by_cases h8 : t.k = 8
            · simp [Tryz.f96, levelT, h8, w2, w3]
            · simp [Tryz.f96, levelT, h1, h2, h3, h4, h7, h8, w2, w3]
theorem brack_cs (s : List UInt8) (b : Bool) (hs : s.length < 1099511627776) (H : AH) : CS Tryz.prog envF 95 [.str s, .bool b] H (.str (brackT s b)) H := by
  have e1 : s.length + 1 ≤ 9223372036854775807 := by omega
  have e2 : 1 + s.length ≤ 9223372036854775807 := by omega
  have e3 : s.length + 1 + 1 ≤ 9223372036854775807 := by omega
  have e4 : 1 + s.length + 1 ≤ 9223372036854775807 := by omega
  have e5 : s.length ≤ 9223372036854775806 := by omega
  have e6 : s.length ≤ 9223372036854775805 := by omega
  refine CS.tr0 lowF Tryz.func95 (by kernel_rfl) 0 (by simp [Tryz.f95]) (fun B hB hG => ?_) (by simp) (by simp) H
  refine Tr.goD oNilF hG (by kernel_rfl) ?_
  cases b with
  | true => simp [Tryz.f95, brackT, e1, e2, e3, e4, e5, e6]
  | false => simp [Tryz.f95, brackT]
end Go.Proofs.YtejjlojfgcgopaaGreatDoor

namespace Go.Proofs.YtejjlojfgcgopaaGreatDoor
open Go.RowKit Go.Proofs.Fw
set_option maxRecDepth 100000
set_option maxHeartbeats 4000000

def wordsT (nt : Int → List UInt8) (k n : Int) (s : List UInt8) (a : List Tn) (x : List (List UInt8)) : List UInt8 :=
  if k = 1 then nt n else if k = 2 then s else if k = 3 then s ++ [40] ++ Lib.join x [44, 32] ++ [41]
  else if k = 4 then [45] ++ brackT (x.getD 0 []) (decide (levelT (a.getD 0 default).k < 3))
  else brackT (x.getD 0 []) (decide (levelT (a.getD 0 default).k < levelT k)) ++ signT k ++ brackT (x.getD 1 []) (decide (levelT (a.getD 1 default).k ≤ levelT k) || (a.getD 1 default).k == 4)
mutual
def txt (nt : Int → List UInt8) : Tn → List UInt8
  | .lf k n s => wordsT nt k n s [] []
  | .nd k n s a => wordsT nt k n s a (txts nt a)
def txts (nt : Int → List UInt8) : List Tn → List (List UInt8)
  | [] => []
  | t :: l => txt nt t :: txts nt l
end
theorem txt_eq (nt : Int → List UInt8) (t : Tn) : txt nt t = wordsT nt t.k t.n t.s t.kids (txts nt t.kids) := by cases t <;> rfl
theorem txts_map (nt : Int → List UInt8) : ∀ l : List Tn, txts nt l = l.map (txt nt)
  | [] => rfl
  | t :: l => by rw [txts, txts_map nt l, List.map_cons]
def gk (S : Int → Prop) (k n : Int) (m : Nat) : Prop := (k = 1 ∧ S n) ∨ k = 2 ∨ (k = 3 ∧ 0 < m) ∨ (k = 4 ∧ m = 1) ∨ ((k < 1 ∨ 4 < k) ∧ m = 2)
mutual
/-- A tree that can be written. -/
def good (S : Int → Prop) : Tn → Prop
  | .lf k n _ => gk S k n 0
  | .nd k n _ a => gk S k n a.length ∧ ((k = 1 ∨ k = 2) ∨ goods S a)
def goods (S : Int → Prop) : List Tn → Prop
  | [] => True
  | t :: l => good S t ∧ goods S l
end
theorem goods_mem {S : Int → Prop} : ∀ {l : List Tn}, goods S l → ∀ t ∈ l, good S t
  | [], _, _, h => by cases h
  | u :: l, h, t, ht => by
    rcases List.mem_cons.1 ht with rfl | ht
    · exact h.1
    · exact goods_mem h.2 t ht
theorem good_gk {S : Int → Prop} {t : Tn} (h : good S t) : gk S t.k t.n t.kids.length := by
  cases t with
  | lf => exact h
  | nd => exact h.1
theorem good_kid {S : Int → Prop} {t u : Tn} (h : good S t) (hk : ¬ (t.k = 1 ∨ t.k = 2)) (hu : u ∈ t.kids) : good S u := by
  cases t with
  | lf => cases hu
  | nd k n s a =>
    rcases h.2 with h1 | h1
    · exact absurd h1 hk
    · exact goods_mem h1 u hu
theorem join_len {sep : List UInt8} : ∀ {x : List (List UInt8)} {s : List UInt8}, s ∈ x → s.length ≤ (Lib.join x sep).length
  | [], _, h => by cases h
  | [y], s, h => by
    rcases List.mem_cons.1 h with rfl | h
    · rw [Lib.join_one]; exact Nat.le_refl _
    · cases h
  | y :: z :: x, s, h => by
    have e : Lib.join (y :: z :: x) sep = y ++ sep ++ Lib.join (z :: x) sep := by simp [Lib.join, List.intercalate]
    rw [e]
    simp only [List.length_append]
    rcases List.mem_cons.1 h with rfl | h
    · omega
    · have := join_len (sep := sep) h
      omega
theorem brack_le (s : List UInt8) (b : Bool) : s.length ≤ (brackT s b).length := by
  cases b with
  | true => simp [brackT]; omega
  | false => simp [brackT]

open Classical in
noncomputable def oNum (S : Int → Prop) (nt : Int → List UInt8) (n : Int) : Orc := fun f args H => if f = 94 ∧ args = [.int .i64 n] ∧ S n then some (.str (nt n), H) else none
theorem oNum_sound {S : Int → Prop} {nt : Int → List UInt8} (hS : NumOk S nt) (n : Int) : Sound Tryz.prog envF (oNum S nt n) := by
  intro f args H v H' ho
  unfold oNum at ho
  split at ho
  · rename_i hx
    obtain ⟨rfl, rfl, hs⟩ := hx
    injection ho with ho
    simp only [Prod.mk.injEq] at ho
    obtain ⟨rfl, rfl⟩ := ho
    exact ⟨hS n hs _, Nat.le_refl _, fun _ _ h => h⟩
  · cases ho
def oBrk : Orc := oPure 95 (fun args => match args with
  | [.str s, .bool b] => if s.length < 1099511627776 then some (s, b) else none
  | _ => none) fun x => .str (brackT x.1 x.2)
theorem oBrk_sound : Sound Tryz.prog envF oBrk := oPure_sound fun args x H h => by
  split at h
  · split at h
    · injection h with h
      subst h
      exact brack_cs _ _ ‹_› H
    · cases h
  · cases h
structure TxO (O : Orc) (S : Int → Prop) (nt : Int → List UInt8) (L : List Tn) (n : Int) : Prop where
  text : ∀ u ∈ L, good S u → okT u = true → (txt nt u).length < 1099511627776 → ∀ H, O 56 [.agg (tC u)] H = some (.str (txt nt u), H)
  num : S n → ∀ H, O 94 [.int .i64 n] H = some (.str (nt n), H)
  join : ∀ (ow : Own) (m : Nat) (xs : List (List UInt8)) (H : AH), m = xs.length → xs ≠ [] → xs.length ≤ 140737488355328 → (Lib.join xs [44, 32]).length ≤ 140737488355328 → O 93 [.slice ow 1 m (xs.map .str), .str [44, 32]] H = some (.str (Lib.join xs [44, 32]), H)
  brk : ∀ (s : List UInt8) (b : Bool) (H : AH), s.length < 1099511627776 → O 95 [.str s, .bool b] H = some (.str (brackT s b), H)
  lev : ∀ (u : Tn) (H : AH), O 96 [.agg (tC u)] H = some (.int .i64 (levelT u.k), H)

noncomputable def oTx (S : Int → Prop) (nt : Int → List UInt8) (L : List Tn) (n : Int) : Orc := oTab [(56, oTn 56 (fun u => u ∈ L ∧ good S u ∧ okT u = true ∧ (txt nt u).length < 1099511627776) (fun u => .str (txt nt u))),
  (94, oNum S nt n), (93, oJoin), (95, oBrk), (96, oTn 96 (fun _ => True) (fun u => .int .i64 (levelT u.k)))]
theorem oTx_ok (S : Int → Prop) (nt : Int → List UInt8) (L : List Tn) (n : Int) : TxO (oTx S nt L n) S nt L n where
  text := fun u hu hg ho hl H => by
    have : oTx S nt L n 56 [.agg (tC u)] H = oTn 56 (fun u => u ∈ L ∧ good S u ∧ okT u = true ∧ (txt nt u).length < 1099511627776) (fun u => .str (txt nt u)) 56 [.agg (tC u)] H := by simp only [oTx, oTab, List.lookup]; rfl
    rw [this, oTn_at ⟨hu, hg, ho, hl⟩]
  num := fun hs H => by
    have : oTx S nt L n 94 [.int .i64 n] H = oNum S nt n 94 [.int .i64 n] H := by simp only [oTx, oTab, List.lookup]; rfl
    rw [this]
    unfold oNum
    rw [if_pos ⟨rfl, rfl, hs⟩]
  join := fun ow m xs H hm h0 hn hl => by
    have : oTx S nt L n 93 [.slice ow 1 m (xs.map .str), .str [44, 32]] H = oJoin 93 [.slice ow 1 m (xs.map .str), .str [44, 32]] H := by simp only [oTx, oTab, List.lookup]; rfl
    rw [this, oJoin_at hm h0 hn hl]
  brk := fun s b H hs => by
    have : oTx S nt L n 95 [.str s, .bool b] H = oBrk 95 [.str s, .bool b] H := by simp only [oTx, oTab, List.lookup]; rfl
    rw [this]
    simp [oBrk, oPure, hs]
  lev := fun u H => by
    have : oTx S nt L n 96 [.agg (tC u)] H = oTn 96 (fun _ => True) (fun u => .int .i64 (levelT u.k)) 96 [.agg (tC u)] H := by simp only [oTx, oTab, List.lookup]; rfl
    rw [this, oTn_at trivial]
theorem oTx_cx {S : Int → Prop} {nt : Int → List UInt8} (hS : NumOk S nt) {L : List Tn} (n : Int) (h : ∀ u ∈ L, good S u → okT u = true → (txt nt u).length < 1099511627776 → ∀ H, CS Tryz.prog envF 56 [.agg (tC u)] H (.str (txt nt u)) H) : Cx (oTx S nt L n) Tryz.prog envF := ⟨oTab_sound (by
  intro p hp
  simp only [List.mem_cons, List.not_mem_nil, or_false] at hp
  rcases hp with rfl | rfl | rfl | rfl | rfl
  · exact oTn_sound fun u hu H => h u hu.1 hu.2.1 hu.2.2.1 hu.2.2.2 H
  · exact oNum_sound hS n
  · exact oJoin_sound
  · exact oBrk_sound
  · exact oTn_sound fun u _ H => level_cs u H), methFOk, mixed⟩

def outS (l : List (List UInt8)) : AV := if l = [] then .nilSlice else .slice (.tok 1) 1 l.length (l.map .str)
theorem elemS : elemChk Tryz.prog 23 1 = true := by kernel_rfl
def textH (l : List Tn) (i : Nat) : AH := match l with
  | [] => []
  | u :: _ => [some (.box (tC u)), some (.tok i)]
theorem sign_find (k : Int) : ∃ r, findA (.int .i64 k) [(.int .i64 5, .str [32, 43, 32]), (.int .i64 6, .str [32, 45, 32]), (.int .i64 7, .str [32, 42, 32]), (.int .i64 8, .str [32, 47, 32])] = some r ∧ ((r = none ∧ signT k = []) ∨ r = some (.str (signT k))) := by
  by_cases h5 : k = 5
  · subst h5; exact ⟨_, rfl, .inr rfl⟩
  by_cases h6 : k = 6
  · subst h6; exact ⟨_, rfl, .inr rfl⟩
  by_cases h7 : k = 7
  · subst h7; exact ⟨_, rfl, .inr rfl⟩
  by_cases h8 : k = 8
  · subst h8; exact ⟨_, rfl, .inr rfl⟩
  exact ⟨none, by simp [findA, keyEq, h5, h6, h7, h8], .inl ⟨rfl, by simp [signT, h5, h6, h7, h8]⟩⟩
theorem find_1 : findA (.int .i64 5) [] = some none := rfl
theorem find_2 (v : AV) : findA (.int .i64 6) [(.int .i64 5, v)] = some none := rfl
theorem find_3 (v w : AV) : findA (.int .i64 7) [(.int .i64 5, v), (.int .i64 6, w)] = some none := rfl
theorem find_4 (v w x : AV) : findA (.int .i64 8) [(.int .i64 5, v), (.int .i64 6, w), (.int .i64 7, x)] = some none := rfl
theorem kdOk_i (n : Int) : kdOk (.int .i64) (.int .i64 n) = true := rfl
def TextI (nt : Int → List UInt8) (t : Tn) (k : Nat) (tt : List AV) (H : AH) : Prop :=
  ∃ i, i + k = t.kids.length ∧ tt = mkT 94 [(1, .vptr (tC t) 0), (3, outS ((t.kids.take i).map (txt nt))), (23, t.ar), (24, .int .i64 (t.kids.length : Int)), (25, .int .i64 ((i : Nat) : Int))] ∧
    H = textH (t.kids.take i) i
@[simp] theorem keyDesc_map : keyDesc Tryz.prog 201 = some (.int .i64, 9) := by kernel_rfl
@[simp] theorem bsStr (a : List UInt8) : abuildSlice Tryz.prog 23 1 [(0, .str a)] = some (.slice .full 1 1 [.str a]) := by kernel_rfl
theorem len2 : ∀ {l : List Tn}, l.length = 2 → ∃ u v, l = [u, v]
  | [u, v], _ => ⟨u, v, rfl⟩
@[simp] theorem zeroAV_str : zeroAV Tryz.prog 9 = some (.str []) := by kernel_rfl

theorem text_cs {S : Int → Prop} {nt : Int → List UInt8} (hS : NumOk S nt) (t : Tn) (ht : okT t = true) (hg : good S t) (hl : (txt nt t).length < 1099511627776) (H : AH) : CS Tryz.prog envF 56 [.agg (tC t)] H (.str (txt nt t)) H := by
  have X : Cx (oTx S nt t.kids t.n) Tryz.prog envF := oTx_cx hS t.n fun u hu g o l H => text_cs hS u o g l H
  have hO := oTx_ok S nt t.kids t.n
  generalize oTx S nt t.kids t.n = O at X hO
  have hgk := good_gk hg
  rw [txt_eq] at hl ⊢
  refine CS.tr0 lowF Tryz.func56 (by kernel_rfl) 0 (by simp [Tryz.f56]) (fun B hB hG => ?_) (by simp) (by simp) H
  refine Tr.goM X hG (by kernel_rfl) ?_
  by_cases h1 : t.k = 1
  · have hs : S t.n := by rcases hgk with h | h | h | h | h <;> first | exact h.2 | omega
    simp [Tryz.f56, h1, hO.num hs, wordsT]
  by_cases h2 : t.k = 2
  · simp [Tryz.f56, h2, wordsT]
  have hgd : ∀ u ∈ t.kids, good S u := fun u hu => good_kid hg (by omega) hu
  have hok : ∀ u ∈ t.kids, okT u = true := fun u hu => okT_kid ht hu
  by_cases h3 : t.k = 3
  · have hm : 0 < t.kids.length := by rcases hgk with h | h | h | h | h <;> omega
    have hw : wordsT nt t.k t.n t.s t.kids (txts nt t.kids) = t.s ++ [40] ++ Lib.join (t.kids.map (txt nt)) [44, 32] ++ [41] := by unfold wordsT; rw [if_neg h1, if_neg h2, if_pos h3, txts_map]
    rw [hw] at hl ⊢
    simp only [List.length_append, List.length_cons, List.length_nil] at hl
    have hkl : ∀ u ∈ t.kids, (txt nt u).length < 1099511627776 := fun u hu => by
      have := join_len (sep := [44, 32]) (x := t.kids.map (txt nt)) (List.mem_map_of_mem hu)
      omega
    have hlen := okT_len ht
    simp [Tryz.f56, h3]
    refine LpD.loopN X hG (by kernel_rfl) (TextI nt t) t.kids.length (t' := mkT 94 [(1, .vptr (tC t) 0), (3, .nilSlice), (23, t.ar), (24, .int .i64 (t.kids.length : Int)), (25, .int .i64 ((0 : Nat) : Int))]) (H' := [])
      (Less.mk0 hB (by simp [h3])) ⟨0, by omega, rfl, rfl⟩ ?_
    rintro k tt H ⟨i, hik, rfl, rfl⟩
    cases k with
    | zero =>
      obtain rfl : i = t.kids.length := by omega
      rw [List.take_length]
      obtain ⟨u, hH⟩ : ∃ u, textH t.kids t.kids.length = [some (.box (tC u)), some (.tok t.kids.length)] := by
        cases hk : t.kids with
        | nil => rw [hk] at hm; simp at hm
        | cons u l => exact ⟨u, rfl⟩
      rw [hH]
      have hxl : (t.kids.map (txt nt)).length = t.kids.length := by simp
      generalize t.kids.map (txt nt) = xs at *
      have hx0 : xs ≠ [] := fun h => by rw [h] at hxl; simp at hxl; omega
      have hj := fun ow H => hO.join ow xs.length xs H rfl hx0 (by omega) (by omega)
      have e1 : t.s.length ≤ 9223372036854775806 := by omega
      have e2 : t.s.length + 1 ≤ 9223372036854775807 := by omega
      have e3 : t.s.length + ((Lib.join xs [44, 32]).length + 1) ≤ 9223372036854775807 := by omega
      have e4 : t.s.length + (1 + (Lib.join xs [44, 32]).length) ≤ 9223372036854775807 := by omega
      have e5 : t.s.length + 1 + (Lib.join xs [44, 32]).length ≤ 9223372036854775807 := by omega
      have e6 : t.s.length + 1 + (Lib.join xs [44, 32]).length + 1 ≤ 9223372036854775807 := by omega
      have e7 : t.s.length + ((Lib.join xs [44, 32]).length + 1 + 1) ≤ 9223372036854775807 := by omega
      have e8 : t.s.length + (Lib.join xs [44, 32]).length + 1 ≤ 9223372036854775807 := by omega
      have e9 : t.s.length + ((Lib.join xs [44, 32]).length + 1) ≤ 9223372036854775806 := by omega
      simp [Blk_exit, outS, hx0]
      refine LpD.turns X hG [4] [(0, 4), (1, 4), (2, 4)] (by kernel_rfl) ?_
      simp [hj, e1, e2, e3, e4, e5, e6, e7, e8, e9]
    | succ k =>
      have hi : i < t.kids.length := by omega
      have hi' : (i : Int) < t.kids.length := by omega
      obtain ⟨a, ha⟩ : ∃ a, t.kids[i]? = some a := ⟨_, List.getElem?_eq_getElem hi⟩
      obtain ⟨ca1, ca2⟩ := tsC_at t.kids i ha
      have hmm : a ∈ t.kids := List.mem_of_getElem? ha
      have htk1 : t.kids.take (i + 1) = t.kids.take i ++ [a] := by rw [List.take_add_one, ha, Option.toList_some]
      have htk : (t.kids.take (i + 1)).map (txt nt) = (t.kids.take i).map (txt nt) ++ [txt nt a] := by rw [htk1, List.map_append]; rfl
      have hol : ((t.kids.take i).map (txt nt)).length = i := by rw [List.length_map, List.length_take]; omega
      have w1 : IntKind.i64.wrap ((i : Int) + 1) = (i : Int) + 1 := wrap_i64 (by omega) (by omega)
      have hc := fun H => hO.text a hmm (hgd a hmm) (hok a hmm) (hkl a hmm) H
      simp only [tC_eq] at hc ca1
      have hcase : (i = 0 ∧ (t.kids.take i).map (txt nt) = [] ∧ textH (t.kids.take i) i = [] ∧ textH (t.kids.take (i + 1)) (i + 1) = [some (.box (tC a)), some (.tok (i + 1))]) ∨
          (∃ u0, ¬ (t.kids.take i).map (txt nt) = [] ∧ textH (t.kids.take i) i = [some (.box (tC u0)), some (.tok i)] ∧ textH (t.kids.take (i + 1)) (i + 1) = [some (.box (tC u0)), some (.tok (i + 1))]) := by
        rw [htk1]
        cases hq : t.kids.take i with
        | nil =>
          rw [hq] at hol
          exact .inl ⟨by simpa using hol.symm, rfl, rfl, rfl⟩
        | cons u0 l => exact .inr ⟨u0, by simp, rfl, rfl⟩
      generalize hxs : (t.kids.take i).map (txt nt) = l at *
      rcases hcase with ⟨hi0, hl0, hH, hH'⟩ | ⟨u0, hl0, hH, hH'⟩
      · subst hl0
        rw [hH]
        have happ := fun H => aappend_nil (P := Tryz.prog) (t := 23) (sz := 1) (m := 1) (H := H) (fid := 1) (ow := .full) (ys := [.str (txt nt a)]) elemS (by decide) (by decide) (by simp)
        simp [hi, hi', ca1, ca2, hc, outS, happ, w1]
        refine Nxt.mk k (by omega) (Less.mkK 2 (l' := [(1, .vptr (tC t) 0), (3, outS [txt nt a]), (23, t.ar), (24, .int .i64 (t.kids.length : Int)), (25, .int .i64 ((i + 1 : Nat) : Int))])
          (H' := [some (.box (tC a)), some (.tok (i + 1))]) (by simp [hB]) (by simp [outS]) (by simp [hi0]) (by simp)) ⟨i + 1, by omega, by rw [htk]; rfl, hH'.symm⟩
      · rw [hH]
        have happ := fun H (h : AH.at H 1 = some (.tok i)) => aappend_tok (P := Tryz.prog) (t := 23) (sz := 1) (m := 1) (H := H) (fid := 3) (ow := .full) (xs := l.map .str) (ys := [.str (txt nt a)]) elemS h (by decide) (by omega) (by simp)
        have hlow : lowL 2 (l.map AV.str) = true := by
          clear happ hl0 hol htk hxs
          induction l with
          | nil => rfl
          | cons x l ih => simp [ih]
        simp [hi, hi', ca1, ca2, hc, outS, hl0, hol, happ, w1]
        refine Nxt.mk k (by omega) (Less.mkK 2 (l' := [(1, .vptr (tC t) 0), (3, outS (l ++ [txt nt a])), (23, t.ar), (24, .int .i64 (t.kids.length : Int)), (25, .int .i64 ((i + 1 : Nat) : Int))])
          (H' := [some (.box (tC u0)), some (.tok (i + 1))]) (by simp [hB]) (by simp [outS, hol, hlow]) (by simp) (by simp)) ⟨i + 1, by omega, by rw [htk], hH'.symm⟩
  by_cases h4 : t.k = 4
  · have hm : t.kids.length = 1 := by rcases hgk with h | h | h | h | h <;> omega
    obtain ⟨u, hu⟩ := List.length_eq_one_iff.1 hm
    have hts : tsC t.kids = [.int .i64 u.k, .int .i64 u.n, .str u.s, u.ar] := by rw [hu]; simp [tsC]
    have hmem : u ∈ t.kids := by rw [hu]; simp
    have hx0 := aidxT1 (t := t) (i := 0) (by omega)
    have hw : wordsT nt t.k t.n t.s t.kids (txts nt t.kids) = [45] ++ brackT (txt nt u) (decide (levelT u.k < 3)) := by unfold wordsT; rw [if_neg h1, if_neg h2, if_neg h3, if_pos h4, hu]; rfl
    rw [hw] at hl ⊢
    simp only [List.length_append, List.length_cons, List.length_nil] at hl
    have hb := brack_le (txt nt u) (decide (levelT u.k < 3))
    have hc := fun H => hO.text u hmem (hgd u hmem) (hok u hmem) (by omega) H
    have hlv := fun H => hO.lev u H
    have hbk := fun b H => hO.brk (txt nt u) b H (by omega)
    have e1 : (brackT (txt nt u) (decide (levelT u.k < 3))).length ≤ 9223372036854775806 := by omega
    have e2 : (brackT (txt nt u) (decide (levelT u.k < 3))).length + 1 ≤ 9223372036854775807 := by omega
    have e3 : 1 + (brackT (txt nt u) (decide (levelT u.k < 3))).length ≤ 9223372036854775807 := by omega
    simp at hx0
    simp only [tC_eq] at hc hlv
    simp [Tryz.f56, h4]
    refine LpD.turns X hG [4, 9, 11] [(4, 5), (4, 6), (4, 7), (4, 8)] (by kernel_rfl) ?_
    simp [hx0, hts, hc, hlv, hbk, e1, e2, e3]
  have hm : t.kids.length = 2 := by rcases hgk with h | h | h | h | h <;> omega
  obtain ⟨u, v, hu⟩ := len2 hm
  have hts : tsC t.kids = [.int .i64 u.k, .int .i64 u.n, .str u.s, u.ar, .int .i64 v.k, .int .i64 v.n, .str v.s, v.ar] := by rw [hu]; simp [tsC]
  have hmu : u ∈ t.kids := by rw [hu]; simp
  have hmv : v ∈ t.kids := by rw [hu]; simp
  have hx0 := aidxT1 (t := t) (i := 0) (by omega)
  have hx1 := aidxT1 (t := t) (i := 1) (by omega)
  have hw : wordsT nt t.k t.n t.s t.kids (txts nt t.kids) = brackT (txt nt u) (decide (levelT u.k < levelT t.k)) ++ signT t.k ++ brackT (txt nt v) (decide (levelT v.k ≤ levelT t.k) || v.k == 4) := by unfold wordsT; rw [if_neg h1, if_neg h2, if_neg h3, if_neg h4, hu]; rfl
  rw [hw] at hl ⊢
  simp only [List.length_append] at hl
  have hbu := brack_le (txt nt u) (decide (levelT u.k < levelT t.k))
  have hbv := brack_le (txt nt v) (decide (levelT v.k ≤ levelT t.k) || v.k == 4)
  have hcu := fun H => hO.text u hmu (hgd u hmu) (hok u hmu) (by omega) H
  have hcv := fun H => hO.text v hmv (hgd v hmv) (hok v hmv) (by omega) H
  have hlt := fun H => hO.lev t H
  have hlu := fun H => hO.lev u H
  have hlv := fun H => hO.lev v H
  have hku := fun b H => hO.brk (txt nt u) b H (by omega)
  have hkv := fun b H => hO.brk (txt nt v) b H (by omega)
  simp at hx0 hx1
  simp only [tC_eq] at hcu hcv hlt hlu hlv
  generalize hbU : brackT (txt nt u) (decide (levelT u.k < levelT t.k)) = bU at *
  generalize hbV : brackT (txt nt v) (decide (levelT v.k ≤ levelT t.k) || v.k == 4) = bV at *
  have e0 : bU.length ≤ 9223372036854775807 := by omega
  have e4 : bU.length + bV.length ≤ 9223372036854775807 := by omega
  have e1 : bU.length + (signT t.k).length ≤ 9223372036854775807 := by omega
  have e2 : bU.length + (signT t.k).length + bV.length ≤ 9223372036854775807 := by omega
  have e3 : bU.length + ((signT t.k).length + bV.length) ≤ 9223372036854775807 := by omega
  simp [Tryz.f56, h1, h2, h3, h4]
  refine LpD.mapR X hG ?_
  obtain ⟨r, hfr, hr⟩ := sign_find t.k
  rcases hr with ⟨rfl, hsg⟩ | rfl
  all_goals simp [evMR, evM, find_1, find_2, find_3, find_4, kdOk_i, hfr, withIds, needsId, idCount, grow, stepO, callee, aop, h1, mkT_length]
  all_goals refine LpD.turns X hG [8, 9, 10, 11] [(0, 8), (0, 9), (1, 8), (1, 9), (2, 8), (2, 9), (3, 8), (3, 9), (4, 8), (4, 9), (4, 10), (5, 8), (5, 9), (5, 10), (6, 8), (6, 9), (6, 10), (7, 8), (7, 9), (7, 10), (8, 9)] (by kernel_rfl) ?_
  all_goals simp [hx0, hx1, hts]
  all_goals refine LpD.turns X hG [1, 3, 5, 7, 11, 13, 15, 22] [(1, 2), (1, 4), (1, 8), (1, 10), (1, 12), (1, 14), (3, 4), (3, 8), (3, 10), (3, 12), (3, 14), (5, 8), (5, 10), (5, 12), (5, 14), (7, 8), (7, 10), (7, 12), (7, 14), (8, 11), (8, 13), (8, 15), (8, 22), (9, 11), (9, 13), (9, 15), (9, 22), (11, 12), (11, 14), (13, 14)] (by kernel_rfl) ?_
  all_goals by_cases hle : levelT v.k ≤ levelT t.k
  all_goals simp [hle] at hbV
  all_goals first
    | simp [hcu, hcv, hlt, hlu, hlv, hku, hkv, hbU, hbV, hle, hsg, e0, e1, e2, e3, e4]; done
    | simp [hcu, hcv, hlt, hlu, hlv, hku, hkv, hbU, hbV, hle, e0, e1, e2, e3, e4]; done
termination_by SizeOf.sizeOf t
decreasing_by exact kid_lt hu
end Go.Proofs.YtejjlojfgcgopaaGreatDoor
