/- Trees of the program's and of the reference's: Of, Same, To. -/
import Derived.Test.YtpmonaempgjgbaaGreatDoorExP
import Derived.Test.YtpmonaempgjgbaaGreatDoorTu
set_option linter.unusedSimpArgs false
set_option linter.unusedVariables false
namespace Go.Proofs.YtpmonaempgjgbaaGreatDoor
open Go.RowKit Go.Proofs.Fw
set_option maxRecDepth 100000
set_option maxHeartbeats 4000000
-- 

/-- A tree: its row is nil, or is not. -/
inductive Tn where
  | lf (k n : Int) (s : List UInt8)
  | nd (k n : Int) (s : List UInt8) (a : List Tn)
  deriving Inhabited

mutual
def tC : Tn → List AV
  | .lf k n s => [.int .i64 k, .int .i64 n, .str s, .nilSlice]
  | .nd k n s a => [.int .i64 k, .int .i64 n, .str s, .slice .unk 4 a.length (tsC a)]
def tsC : List Tn → List AV
  | [] => []
  | t :: l => tC t ++ tsC l
end
def Tn.k : Tn → Int
  | .lf k _ _ => k
  | .nd k _ _ _ => k
def Tn.n : Tn → Int
  | .lf _ n _ => n
  | .nd _ n _ _ => n
def Tn.s : Tn → List UInt8
  | .lf _ _ s => s
  | .nd _ _ s _ => s
def Tn.kids : Tn → List Tn
  | .lf _ _ _ => []
  | .nd _ _ _ a => a
def Tn.ar (t : Tn) : AV := (tC t).getD 3 .undef
@[simp] theorem tC_eq (t : Tn) : tC t = [.int .i64 t.k, .int .i64 t.n, .str t.s, t.ar] := by cases t <;> rfl
theorem tsC_append : ∀ a b : List Tn, tsC (a ++ b) = tsC a ++ tsC b
  | [], b => rfl
  | t :: a, b => by rw [List.cons_append, tsC, tsC, tsC_append a b, List.append_assoc]
mutual
theorem tC_low : ∀ t : Tn, lowL 0 (tC t) = true
  | .lf _ _ _ => rfl
  | .nd _ _ _ a => by rw [tC]; have := tsC_low a; simp [this]
theorem tsC_low : ∀ l : List Tn, lowL 0 (tsC l) = true
  | [] => rfl
  | t :: l => by rw [tsC, lowL_append, tC_low t, tsC_low l]; rfl
end
@[simp ↓ high] theorem tar_low (t : Tn) : low 0 t.ar = true := by
  have := tC_low t
  rw [tC_eq] at this
  simpa using this
@[simp ↓ high] theorem tar_lowm (m : Nat) (t : Tn) : low m t.ar = true := low_at m (tar_low t)
@[simp ↓ high] theorem tar_ids (t : Tn) : idsOf t.ar = [] := by cases t <;> rfl
@[simp ↓ high] theorem tar_known (t : Tn) : t.ar.known = true := by cases t <;> rfl
@[simp ↓ high] theorem tar_one (t : Tn) : t.ar.one = true := by cases t <;> rfl
@[simp ↓ high] theorem tar_cells (t : Tn) : cellsAV t.ar = [t.ar] := by cases t <;> rfl
theorem tsC_length : ∀ l : List Tn, (tsC l).length = l.length * 4
  | [] => rfl
  | t :: l => by rw [tsC, List.length_append, tsC_length l, tC_eq]; simp; omega
theorem tsC_at : ∀ (l : List Tn) (i : Nat) {t : Tn}, l[i]? = some t → ((tsC l).drop (i * 4)).take 4 = tC t ∧ i * 4 + 4 ≤ (tsC l).length
  | [], i, t, h => by simp at h
  | x :: l, i, t, h => by
    have hc : tsC (x :: l) = tC x ++ tsC l := rfl
    have hx : (tC x).length = 4 := by simp
    cases i with
    | zero =>
      simp only [List.getElem?_cons_zero, Option.some.injEq] at h
      subst h
      rw [hc]
      refine ⟨?_, by rw [List.length_append, hx]; omega⟩
      rw [Nat.zero_mul, List.drop_zero, List.take_append_of_le_length (by omega), List.take_of_length_le (by omega)]
    | succ i =>
      simp only [List.getElem?_cons_succ] at h
      obtain ⟨h1, h2⟩ := tsC_at l i h
      rw [hc]
      refine ⟨?_, by simp only [List.length_append, hx]; omega⟩
      rw [List.drop_append, List.drop_of_length_le (by omega), hx, List.nil_append, show (i + 1) * 4 - 4 = i * 4 by omega]
      exact h1
mutual
theorem tC_inj : ∀ (t u : Tn), tC t = tC u → t = u
  | .lf _ _ _, .lf _ _ _, h => by simp only [tC, List.cons.injEq, AV.int.injEq, AV.str.injEq, true_and, and_true] at h; obtain ⟨rfl, rfl, rfl⟩ := h; rfl
  | .lf _ _ _, .nd _ _ _ _, h => by simp [tC] at h
  | .nd _ _ _ _, .lf _ _ _, h => by simp [tC] at h
  | .nd _ _ _ a, .nd _ _ _ b, h => by
    simp only [tC, List.cons.injEq, AV.int.injEq, AV.str.injEq, AV.slice.injEq, true_and, and_true] at h
    obtain ⟨rfl, rfl, rfl, _, h⟩ := h
    rw [tsC_inj a b h]
theorem tsC_inj : ∀ (a b : List Tn), tsC a = tsC b → a = b
  | [], [], _ => rfl
  | [], t :: b, h => by rw [tsC, tsC, tC_eq] at h; simp at h
  | t :: a, [], h => by rw [tsC, tsC, tC_eq] at h; simp at h
  | t :: a, u :: b, h => by
    rw [tsC, tsC] at h
    have := List.append_inj h (by simp)
    rw [tC_inj t u this.1, tsC_inj a b this.2]
end
mutual
def okT : Tn → Bool
  | .lf _ _ _ => true
  | .nd _ _ _ a => decide (a.length < 4294967296) && okTs a
def okTs : List Tn → Bool
  | [] => true
  | t :: l => okT t && okTs l
end
theorem okTs_mem : ∀ {l : List Tn}, okTs l = true → ∀ t ∈ l, okT t = true
  | [], _, _, h => by cases h
  | u :: l, h, t, ht => by
    simp only [okTs, Bool.and_eq_true] at h
    rcases List.mem_cons.1 ht with rfl | ht
    · exact h.1
    · exact okTs_mem h.2 t ht
theorem okT_len {t : Tn} (h : okT t = true) : t.kids.length < 4294967296 := by
  cases t with
  | lf => simp [Tn.kids]
  | nd k n s a => simp only [okT, Bool.and_eq_true, decide_eq_true_eq] at h; exact h.1
theorem okT_kid {t u : Tn} (h : okT t = true) (hu : u ∈ t.kids) : okT u = true := by
  cases t with
  | lf => simp [Tn.kids] at hu
  | nd k n s a => simp only [okT, Bool.and_eq_true, decide_eq_true_eq] at h; exact okTs_mem h.2 u hu
theorem kid_lt {t u : Tn} (hu : u ∈ t.kids) : SizeOf.sizeOf u < SizeOf.sizeOf t := by
  cases t with
  | lf => simp [Tn.kids] at hu
  | nd k n s a =>
    have := List.sizeOf_lt_of_mem (show u ∈ a from hu)
    simp only [Tn.nd.sizeOf_spec]
    omega

@[simp high] theorem alenT1 (t : Tn) : alen Tryz.prog 46 t.ar = some (.int .i64 t.kids.length) := by
  cases t <;> simp [Tn.ar, tC, Tn.kids, alen]
@[simp high] theorem alenT2 (t : Tn) : alen Tryz.prog 53 t.ar = some (.int .i64 t.kids.length) := by
  cases t <;> simp [Tn.ar, tC, Tn.kids, alen]
@[simp high] theorem aidxT1 {t : Tn} {i : Nat} (h : i < t.kids.length) : aindexAddr Tryz.prog 46 t.ar (.int .i64 (i : Int)) = some (.vptr (tsC t.kids) (i * 4)) := by
  cases t with
  | lf => simp [Tn.kids] at h
  | nd k n s a =>
    have h' : i < a.length := h
    have : (i : Int) < a.length := by omega
    simp [Tn.ar, tC, Tn.kids, aindexAddr, h', this]
@[simp high] theorem aidxT2 {t : Tn} {i : Nat} (h : i < t.kids.length) : aindexAddr Tryz.prog 53 t.ar (.int .i64 (i : Int)) = some (.vptr (tsC t.kids) (i * 4)) := by
  cases t with
  | lf => simp [Tn.kids] at h
  | nd k n s a =>
    have h' : i < a.length := h
    have : (i : Int) < a.length := by omega
    simp [Tn.ar, tC, Tn.kids, aindexAddr, h', this]

open Classical in
/-- A function of trees. -/
noncomputable def oTn (f0 : FuncId) (S : Tn → Prop) (out : Tn → AV) : Orc := fun f args H => if h : f = f0 ∧ ∃ t, S t ∧ args = [.agg (tC t)] then some (out h.2.choose, H) else none
theorem oTn_at {f0 : FuncId} {S : Tn → Prop} {out : Tn → AV} {t : Tn} (h : S t) (H : AH) : oTn f0 S out f0 [.agg (tC t)] H = some (out t, H) := by
  have hh : f0 = f0 ∧ ∃ u, S u ∧ [AV.agg (tC t)] = [.agg (tC u)] := ⟨rfl, t, h, rfl⟩
  have hc := hh.2.choose_spec.2
  injection hc with hc _
  injection hc with hc
  have he : hh.2.choose = t := (tC_inj _ _ hc).symm
  simp only [oTn, dif_pos hh]
  rw [he]
theorem oTn_sound {E : Env} {f0 : FuncId} {S : Tn → Prop} {out : Tn → AV} (h : ∀ t, S t → ∀ H, CS Tryz.prog E f0 [.agg (tC t)] H (out t) H) : Sound Tryz.prog E (oTn f0 S out) := by
  intro f args H v H' ho
  unfold oTn at ho
  split at ho
  · rename_i hx
    injection ho with ho
    simp only [Prod.mk.injEq] at ho
    obtain ⟨rfl, rfl⟩ := ho
    have hs := hx.2.choose_spec
    generalize hx.2.choose = u at *
    obtain ⟨rfl, _⟩ := hx
    rw [hs.2]
    exact ⟨h _ hs.1 _, Nat.le_refl _, fun _ _ h => h⟩
  · cases ho
open Classical in
noncomputable def oTn2 (f0 : FuncId) (S : Tn → Tn → Prop) (out : Tn → Tn → AV) : Orc := fun f args H => if h : f = f0 ∧ ∃ p : Tn × Tn, S p.1 p.2 ∧ args = [.agg (tC p.1), .agg (tC p.2)] then some (out h.2.choose.1 h.2.choose.2, H) else none
theorem oTn2_at {f0 : FuncId} {S : Tn → Tn → Prop} {out : Tn → Tn → AV} {t u : Tn} (h : S t u) (H : AH) : oTn2 f0 S out f0 [.agg (tC t), .agg (tC u)] H = some (out t u, H) := by
  have hh : f0 = f0 ∧ ∃ p : Tn × Tn, S p.1 p.2 ∧ [AV.agg (tC t), .agg (tC u)] = [.agg (tC p.1), .agg (tC p.2)] := ⟨rfl, (t, u), h, rfl⟩
  have hc := hh.2.choose_spec.2
  injection hc with hc hd
  injection hd with hd _
  injection hc with hc
  injection hd with hd
  have he : hh.2.choose = (t, u) := Prod.ext (tC_inj _ _ hc).symm (tC_inj _ _ hd).symm
  simp only [oTn2, dif_pos hh]
  rw [he]
theorem oTn2_sound {E : Env} {f0 : FuncId} {S : Tn → Tn → Prop} {out : Tn → Tn → AV} (h : ∀ t u, S t u → ∀ H, CS Tryz.prog E f0 [.agg (tC t), .agg (tC u)] H (out t u) H) : Sound Tryz.prog E (oTn2 f0 S out) := by
  intro f args H v H' ho
  unfold oTn2 at ho
  split at ho
  · rename_i hx
    injection ho with ho
    simp only [Prod.mk.injEq] at ho
    obtain ⟨rfl, rfl⟩ := ho
    have hs := hx.2.choose_spec
    generalize hx.2.choose = u at *
    obtain ⟨rfl, _⟩ := hx
    rw [hs.2]
    exact ⟨h _ _ hs.1 _, Nat.le_refl _, fun _ _ h => h⟩
  · cases ho

mutual
def sameT : Tn → Tn → Bool
  | .lf k n s, u => k == u.k && n == u.n && s == u.s && u.kids.length == 0
  | .nd k n s a, u => k == u.k && n == u.n && s == u.s && a.length == u.kids.length && sameTs a u.kids
def sameTs : List Tn → List Tn → Bool
  | [], _ => true
  | _ :: _, [] => true
  | a :: l, b :: r => sameT a b && sameTs l r
end
theorem sameT_eq (t u : Tn) : sameT t u = (t.k == u.k && t.n == u.n && t.s == u.s && t.kids.length == u.kids.length && sameTs t.kids u.kids) := by
  cases t with
  | lf k n s =>
    have h : sameTs [] u.kids = true := rfl
    have h0 : (0 == u.kids.length) = (u.kids.length == 0) := by cases u.kids.length <;> rfl
    show (k == u.k && n == u.n && s == u.s && u.kids.length == 0) = (k == u.k && n == u.n && s == u.s && 0 == u.kids.length && sameTs [] u.kids)
    rw [h, h0, Bool.and_true]
  | nd k n s a => rfl
theorem sameTs_cons (a b : Tn) (l r : List Tn) : sameTs (a :: l) (b :: r) = (sameT a b && sameTs l r) := rfl

def SameI (t u : Tn) (res : Bool) (k : Nat) (tt : List AV) (H : AH) : Prop :=
  ∃ i, i + k = t.kids.length ∧ sameTs (t.kids.drop i) (u.kids.drop i) = res ∧ tt = mkT 53 [(2, .vptr (tC t) 0), (3, .vptr (tC u) 0), (5, .int .i64 ((i : Nat) : Int))] ∧ H = []
@[simp] theorem immXT : envX.imm 55 = true := by decide

theorem same_cs (t u : Tn) (ht : okT t = true) (H : AH) : CS Tryz.prog envX 22 [.agg (tC t), .agg (tC u)] H (.bool (sameT t u)) H := by
  have X : Cx (oTn2 22 (fun a b => a ∈ t.kids) (fun a b => .bool (sameT a b))) Tryz.prog envX := ⟨oTn2_sound fun a b hab H => same_cs a b (okT_kid ht hab) H, methXOk, mixed⟩
  have hat := fun (a b : Tn) (h : a ∈ t.kids) H => oTn2_at (f0 := 22) (S := fun a b => a ∈ t.kids) (out := fun a b => .bool (sameT a b)) (t := a) (u := b) h H
  generalize hO : oTn2 22 (fun a b => a ∈ t.kids) (fun a b => .bool (sameT a b)) = O at X hat
  clear hO
  refine CS.tr0 lowX Tryz.func22 (by kernel_rfl) 0 (by simp [Tryz.f22]) (fun B hB hG => ?_) (by simp) (by simp) H
  refine Tr.goD X hG (by kernel_rfl) ?_
  have hlen := okT_len ht
  rw [sameT_eq]
  have hbn : ∀ a b : Int, (a == b) = !(a != b) := fun a b => by simp [bne]
  by_cases h1 : t.k = u.k
  · by_cases h2 : t.n = u.n
    · by_cases h3 : t.s = u.s
      · by_cases h4 : t.kids.length = u.kids.length
        · simp [Tryz.f22, h1, h2, h3, h4]
          have hst : sameTs t.kids u.kids = sameTs (t.kids.drop 0) (u.kids.drop 0) := by simp
          have hb1 : (decide (u.kids.length = u.kids.length)) = true := by simp
          refine LpD.loopN X hG (by kernel_rfl) (SameI t u (sameTs t.kids u.kids)) t.kids.length (t' := mkT 53 [(2, .vptr (tC t) 0), (3, .vptr (tC u) 0), (5, .int .i64 ((0 : Nat) : Int))]) (H' := [])
            (Less.mk0 hB (by simp [h1, h2, h3])) ⟨0, by omega, hst.symm, rfl, rfl⟩ ?_
          rintro k tt H ⟨i, hik, hres, rfl, rfl⟩
          cases k with
          | zero =>
            obtain rfl : i = t.kids.length := by omega
            have e1 : sameTs t.kids u.kids = true := by rw [← hres, List.drop_length]; rfl
            simp [Blk_exit, e1]
          | succ k =>
            have hi : i < t.kids.length := by omega
            have hi2 : i < u.kids.length := by omega
            have hi' : (i : Int) < t.kids.length := by omega
            obtain ⟨a, ha⟩ : ∃ a, t.kids[i]? = some a := ⟨_, List.getElem?_eq_getElem hi⟩
            obtain ⟨b, hb⟩ : ∃ b, u.kids[i]? = some b := ⟨_, List.getElem?_eq_getElem hi2⟩
            obtain ⟨ca1, ca2⟩ := tsC_at t.kids i ha
            obtain ⟨cb1, cb2⟩ := tsC_at u.kids i hb
            have hm : a ∈ t.kids := List.mem_of_getElem? ha
            have hda : t.kids.drop i = a :: t.kids.drop (i + 1) := by
              rw [List.drop_eq_getElem_cons hi]; rw [List.getElem?_eq_getElem hi] at ha; injection ha with ha; rw [ha]
            have hdb : u.kids.drop i = b :: u.kids.drop (i + 1) := by
              rw [List.drop_eq_getElem_cons hi2]; rw [List.getElem?_eq_getElem hi2] at hb; injection hb with hb; rw [hb]
            rw [hda, hdb, sameTs_cons] at hres
            have w1 : IntKind.i64.wrap ((i : Int) + 1) = (i : Int) + 1 := wrap_i64 (by omega) (by omega)
            have hc := fun H => hat a b hm H
            simp only [tC_eq] at hc ca1 cb1
            simp [hi']
            refine LpD.turns X hG [] [] (by kernel_rfl) ?_
            cases hs : sameT a b with
            | true =>
              rw [hs, Bool.true_and] at hres
              simp [hi, hi2, ca1, cb1, ca2, cb2, hc, hs, w1]
              exact Nxt.mk k (by omega) (Less.mk0 (l' := [(2, .vptr (tC t) 0), (3, .vptr (tC u) 0), (5, .int .i64 ((i + 1 : Nat) : Int))]) hB (by simp [h1, h2, h3])) ⟨i + 1, by omega, hres, rfl, rfl⟩
            | false =>
              rw [hs, Bool.false_and] at hres
              simp [hi, hi2, ca1, cb1, ca2, cb2, hc, hs, ← hres]
        · have h4' : ¬ (t.kids.length : Int) = u.kids.length := by omega
          simp [Tryz.f22, h1, h2, h3, h4, h4']
      · simp [Tryz.f22, h1, h2, h3]
    · simp [Tryz.f22, h1, h2]
  · simp [Tryz.f22, h1]
termination_by SizeOf.sizeOf t
decreasing_by exact kid_lt hab

mutual
def ofT : Tn → Tn
  | .lf k n s => .lf k n s
  | .nd k n s [] => .lf k n s
  | .nd k n s (a :: l) => .nd k n s (ofT a :: ofTs l)
def ofTs : List Tn → List Tn
  | [] => []
  | a :: l => ofT a :: ofTs l
end
theorem ofTs_length : ∀ l : List Tn, (ofTs l).length = l.length
  | [] => rfl
  | a :: l => by rw [ofTs, List.length_cons, List.length_cons, ofTs_length l]
theorem ofTs_append : ∀ a b : List Tn, ofTs (a ++ b) = ofTs a ++ ofTs b
  | [], b => rfl
  | t :: a, b => by rw [List.cons_append, ofTs, ofTs, ofTs_append a b, List.cons_append]
theorem ofT_eq (t : Tn) : tC (ofT t) = [.int .i64 t.k, .int .i64 t.n, .str t.s, if t.kids = [] then .nilSlice else .slice .unk 4 t.kids.length (tsC (ofTs t.kids))] := by
  cases t with
  | lf k n s => rfl
  | nd k n s a =>
    cases a with
    | nil => rfl
    | cons b l => simp only [ofT, tC, Tn.k, Tn.n, Tn.s, Tn.kids, List.length_cons, ofTs_length, ofTs]; rfl
@[simp] theorem buT3 (k n : Int) (s : List UInt8) : abuild Tryz.prog 55 [(0, .int .i64 k), (1, .int .i64 n), (2, .str s)] = some (.agg [.int .i64 k, .int .i64 n, .str s, .nilSlice]) := by kernel_rfl
/-- A row that is appended to, of trees. -/
def outO (i : Nat) (l : List Tn) : AV := if l = [] then .nilSlice else .slice (.tok i) 4 l.length (tsC l)
theorem elemO : elemChk Tryz.prog 53 4 = true := by kernel_rfl
def OfI (t : Tn) (k : Nat) (tt : List AV) (H : AH) : Prop :=
  ∃ i, i + k = t.kids.length ∧ tt = mkT 31 [(1, .vptr (tC t) 0), (2, .ptr 0 0), (3, .ptr 1 0), (4, .int .i64 ((i : Nat) : Int))] ∧
    H = some (.box [.int .i64 0, .int .i64 0, .str [], .nilSlice]) :: some (.box [.int .i64 t.k, .int .i64 t.n, .str t.s, outO 2 (ofTs (t.kids.take i))]) :: (if i = 0 then [] else [some (.tok i)])
theorem of_cs (t : Tn) (ht : okT t = true) (H : AH) : CS Tryz.prog envX 23 [.agg (tC t)] H (.agg (tC (ofT t))) H := by
  have X : Cx (oTn 23 (fun a => a ∈ t.kids) (fun a => .agg (tC (ofT a)))) Tryz.prog envX := ⟨oTn_sound fun a hab H => of_cs a (okT_kid ht hab) H, methXOk, mixed⟩
  have hat := fun (a : Tn) (h : a ∈ t.kids) H => oTn_at (f0 := 23) (S := fun a => a ∈ t.kids) (out := fun a => .agg (tC (ofT a))) (t := a) h H
  generalize hO : oTn 23 (fun a => a ∈ t.kids) (fun a => .agg (tC (ofT a))) = O at X hat
  clear hO
  have hlen := okT_len ht
  rw [ofT_eq]
  refine CS.tr0 lowX Tryz.func23 (by kernel_rfl) 0 (by simp [Tryz.f23]) (fun B hB hG => ?_) (by split <;> simp [tsC_low]) (by simp) H
  refine Tr.goD X hG (by kernel_rfl) ?_
  simp [Tryz.f23]
  refine LpD.loopN X hG (by kernel_rfl) (OfI t) t.kids.length (t' := mkT 31 [(1, .vptr (tC t) 0), (2, .ptr 0 0), (3, .ptr 1 0), (4, .int .i64 ((0 : Nat) : Int))])
    (H' := [some (.box [.int .i64 0, .int .i64 0, .str [], .nilSlice]), some (.box [.int .i64 t.k, .int .i64 t.n, .str t.s, .nilSlice])])
    (Less.mkK 2 (by simp [hB]) (by simp) (by simp) (by simp)) ⟨0, by omega, rfl, rfl⟩ ?_
  rintro k tt H ⟨i, hik, rfl, rfl⟩
  cases k with
  | zero =>
    obtain rfl : i = t.kids.length := by omega
    rw [List.take_length]
    by_cases h0 : t.kids = []
    · simp [h0, Blk_exit, outO, ofTs]
    · have h1 : ¬ ofTs t.kids = [] := fun h => h0 (by have := ofTs_length t.kids; rw [h] at this; exact List.eq_nil_of_length_eq_zero this.symm)
      simp [h0, Blk_exit, outO, h1, ofTs_length, tsC_low]
  | succ k =>
    have hi : i < t.kids.length := by omega
    have hi' : (i : Int) < t.kids.length := by omega
    obtain ⟨a, ha⟩ : ∃ a, t.kids[i]? = some a := ⟨_, List.getElem?_eq_getElem hi⟩
    obtain ⟨ca1, ca2⟩ := tsC_at t.kids i ha
    have hm : a ∈ t.kids := List.mem_of_getElem? ha
    have htk : ofTs (t.kids.take (i + 1)) = ofTs (t.kids.take i) ++ [ofT a] := by
      rw [List.take_add_one, ha, Option.toList_some, ofTs_append]; rfl
    have hol : (ofTs (t.kids.take i)).length = i := by rw [ofTs_length, List.length_take]; omega
    have w1 : IntKind.i64.wrap ((i : Int) + 1) = (i : Int) + 1 := wrap_i64 (by omega) (by omega)
    have hc := fun H => hat a hm H
    simp only [tC_eq] at hc ca1
    simp [hi']
    generalize hl : ofTs (t.kids.take i) = l at *
    have hcase : (l = [] ∧ (if i = 0 then [] else [some (Ent.tok i)]) = []) ∨ (¬ l = [] ∧ (if i = 0 then [] else [some (Ent.tok i)]) = [some (Ent.tok i)]) := by
      by_cases h0 : i = 0
      · exact .inl ⟨List.eq_nil_of_length_eq_zero (by omega), if_pos h0⟩
      · exact .inr ⟨fun h => by rw [h] at hol; simp at hol; omega, if_neg h0⟩
    generalize (if i = 0 then [] else [some (Ent.tok i)]) = Tk at *
    refine LpD.turns X hG [7, 9, 11] [(0, 7), (1, 7)] (by kernel_rfl) ?_
    rcases hcase with ⟨hl0, rfl⟩ | ⟨hl0, rfl⟩
    · subst hl0
      have hi0 : i = 0 := by simpa using hol.symm
      have happ := fun H => aappend_nil (P := Tryz.prog) (t := 53) (sz := 4) (m := 1) (H := H) (fid := 2) (ow := .full) (ys := tC (ofT a)) elemO (by decide) (by decide) (by simp)
      simp only [tC_eq] at happ
      simp [hi, ca1, ca2, hc, outO, happ, w1]
      refine Nxt.mk k (by omega) (Less.mkK 3 (l' := [(1, .vptr (tC t) 0), (2, .ptr 0 0), (3, .ptr 1 0), (4, .int .i64 ((i + 1 : Nat) : Int))])
        (H' := [some (.box [.int .i64 0, .int .i64 0, .str [], .nilSlice]), some (.box [.int .i64 t.k, .int .i64 t.n, .str t.s, outO 2 [ofT a]]), some (.tok (i + 1))]) (by simp [hB]) (by simp) (by simp [outO, tsC, hi0]) (by simp [outO, tsC])) ⟨i + 1, by omega, rfl, by rw [htk]; rfl⟩
    · have happ := fun H (h : AH.at H 2 = some (.tok i)) => aappend_tok (P := Tryz.prog) (t := 53) (sz := 4) (m := 1) (H := H) (fid := 3) (ow := .full) (xs := tsC l) (ys := tC (ofT a)) elemO h (by decide) (by omega) (by simp)
      simp only [tC_eq] at happ
      simp [hi, ca1, ca2, hc, outO, hl0, hol, happ, w1]
      refine Nxt.mk k (by omega) (Less.mkK 3 (l' := [(1, .vptr (tC t) 0), (2, .ptr 0 0), (3, .ptr 1 0), (4, .int .i64 ((i + 1 : Nat) : Int))])
        (H' := [some (.box [.int .i64 0, .int .i64 0, .str [], .nilSlice]), some (.box [.int .i64 t.k, .int .i64 t.n, .str t.s, outO 2 (l ++ [ofT a])]), some (.tok (i + 1))]) (by simp [hB]) (by simp) (by simp [outO, tsC, tsC_append, hol]) (by simp [outO, tsC, tsC_append, lowL_mono (Nat.zero_le 3) _ (tsC_low l)])) ⟨i + 1, by omega, rfl, by rw [htk]; rfl⟩
termination_by SizeOf.sizeOf t
decreasing_by exact kid_lt hab

/-! The words, handed from the reference to the program. -/
def outW (l : List Wd) : AV := if l = [] then .nilSlice else .slice (.tok 0) 4 l.length (wdsCells l)
theorem elemW : elemChk Tryz.prog 44 4 = true := by kernel_rfl
@[simp high] theorem alenR' (l : List Wd) : alen Tryz.prog 38 (wdsAV l) = some (.int .i64 l.length) := by
  unfold wdsAV
  split
  · rename_i h; subst h; simp [alen]
  · simp [alen]
@[simp high] theorem aidxR' {l : List Wd} {i : Nat} (h : i < l.length) : aindexAddr Tryz.prog 38 (wdsAV l) (.int .i64 (i : Int)) = some (.vptr (wdsCells l) (i * 4)) := by
  have hne : l ≠ [] := by rintro rfl; simp at h
  have : (i : Int) < l.length := by omega
  simp [wdsAV, hne, aindexAddr, h]
theorem wdsCells_append : ∀ a b : List Wd, wdsCells (a ++ b) = wdsCells a ++ wdsCells b
  | [], b => rfl
  | t :: a, b => by
    have h1 : wdsCells (t :: (a ++ b)) = wdCells t ++ wdsCells (a ++ b) := rfl
    have h2 : wdsCells (t :: a) = wdCells t ++ wdsCells a := rfl
    rw [List.cons_append, h1, h2, wdsCells_append a b, List.append_assoc]
def ToI (ts : List Wd) (k : Nat) (tt : List AV) (H : AH) : Prop :=
  ∃ i, i + k = ts.length ∧ tt = mkT 36 [(0, wdsAV ts), (3, outW (ts.take i)), (4, .int .i64 ((i : Nat) : Int))] ∧ H = (if i = 0 then [] else [some (.tok i)])
@[simp] theorem buWd (k n a : Int) (s : List UInt8) : abuild Tryz.prog 121 [(0, .int .i64 k), (1, .str s), (2, .int .i64 a), (3, .int .i64 n)] = some (.agg [.int .i64 k, .str s, .int .i64 a, .int .i64 n]) := by kernel_rfl
@[simp] theorem bsWd (a b c d : AV) : abuildSlice Tryz.prog 44 1 [(0, .agg [a, b, c, d])] = some (.slice .full 4 1 [a, b, c, d]) := by kernel_rfl
theorem to_cs (ts : List Wd) (hts : ts.length < 1000000) (H : AH) : CS Tryz.prog envX 16 [wdsAV ts] H (wdsAV ts) H := by
  refine CS.tr0 lowX Tryz.func16 (by kernel_rfl) 0 (by simp [Tryz.f16]) (fun B hB hG => ?_) (by simp) (by simp) H
  refine Tr.goD oNilX hG (by kernel_rfl) ?_
  simp [Tryz.f16]
  refine LpD.loopN oNilX hG (by kernel_rfl) (ToI ts) ts.length (t' := mkT 36 [(0, wdsAV ts), (3, .nilSlice), (4, .int .i64 ((0 : Nat) : Int))]) (H' := [])
    (Less.mk0 hB (by simp)) ⟨0, by omega, rfl, rfl⟩ ?_
  rintro k tt H ⟨i, hik, rfl, rfl⟩
  cases k with
  | zero =>
    obtain rfl : i = ts.length := by omega
    rw [List.take_length]
    by_cases h0 : ts = []
    · simp [h0, Blk_exit, outW, wdsAV]
    · simp [h0, Blk_exit, outW, wdsAV, wdsCells_low]
  | succ k =>
    have hi : i < ts.length := by omega
    have hi' : (i : Int) < ts.length := by omega
    obtain ⟨w, hw⟩ : ∃ w, ts[i]? = some w := ⟨_, List.getElem?_eq_getElem hi⟩
    obtain ⟨c0, c1, c3⟩ := cellX hw
    have c2 : (wdsCells ts)[i * 4 + 2]? = some (.int .i64 w.at_) := by
      obtain ⟨h1, h2⟩ := cells_atX ts i w hw
      have : (wdsCells ts)[i * 4 + 2]? = (wdCells w)[2]? := by rw [← h1, List.getElem?_take, if_pos (by omega), List.getElem?_drop]
      simpa [wdCells] using this
    have hcw : wdsCells [w] = [.int .i64 w.kind, .str w.text, .int .i64 w.at_, .int .i64 w.n] := by simp [wdsCells, wdCells]
    have htk : ts.take (i + 1) = ts.take i ++ [w] := by rw [List.take_add_one, hw, Option.toList_some]
    have hol : (ts.take i).length = i := by rw [List.length_take]; omega
    have w1 : IntKind.i64.wrap ((i : Int) + 1) = (i : Int) + 1 := wrap_i64 (by omega) (by omega)
    simp [hi']
    generalize hl : ts.take i = l at *
    have hcase : (l = [] ∧ (if i = 0 then [] else [some (Ent.tok i)]) = []) ∨ (¬ l = [] ∧ (if i = 0 then [] else [some (Ent.tok i)]) = [some (Ent.tok i)]) := by
      by_cases h0 : i = 0
      · exact .inl ⟨List.eq_nil_of_length_eq_zero (by omega), if_pos h0⟩
      · exact .inr ⟨fun h => by rw [h] at hol; simp at hol; omega, if_neg h0⟩
    generalize (if i = 0 then [] else [some (Ent.tok i)]) = Tk at *
    refine LpD.turns oNilX hG [23] [] (by kernel_rfl) ?_
    rcases hcase with ⟨hl0, rfl⟩ | ⟨hl0, rfl⟩
    · subst hl0
      have hi0 : i = 0 := by simpa using hol.symm
      have happ := fun H => aappend_nil (P := Tryz.prog) (t := 44) (sz := 4) (m := 1) (H := H) (fid := 0) (ow := .full) (ys := wdCells w) elemW (by decide) (by decide) (by simp [wdCells])
      simp only [wdCells] at happ
      simp [hi, c0, c1, c2, c3, outW, happ, w1]
      refine Nxt.mk k (by omega) (Less.mkK 1 (l' := [(0, wdsAV ts), (3, outW [w]), (4, .int .i64 ((i + 1 : Nat) : Int))])
        (H' := [some (.tok (i + 1))]) (by simp [hB]) (by simp [outW, wdsCells, wdCells]) (by simp [hi0]) (by simp)) ⟨i + 1, by omega, by rw [htk]; rfl, rfl⟩
    · have happ := fun H (h : AH.at H 0 = some (.tok i)) => aappend_tok (P := Tryz.prog) (t := 44) (sz := 4) (m := 1) (H := H) (fid := 1) (ow := .full) (xs := wdsCells l) (ys := wdCells w) elemW h (by decide) (by omega) (by simp [wdCells])
      simp only [wdCells] at happ
      simp [hi, c0, c1, c2, c3, outW, hl0, hol, happ, w1]
      refine Nxt.mk k (by omega) (Less.mkK 1 (l' := [(0, wdsAV ts), (3, outW (l ++ [w])), (4, .int .i64 ((i + 1 : Nat) : Int))])
        (H' := [some (.tok (i + 1))]) (by simp [hB]) (by simp [outW, wdsCells_append, hcw, hol, lowL_mono (Nat.zero_le 1) _ (wdsCells_low l)]) (by simp) (by simp)) ⟨i + 1, by omega, by rw [htk], rfl⟩

/-! What a reader returns is a tree. -/
mutual
def Ex.tn : Ex → Tn
  | .none => .lf 0 0 []
  | .num n => .lf 1 n []
  | .var s => .lf 2 0 s
  | .elem s a => .nd 3 0 s (Ex.tns a)
  | .neg e => .nd 4 0 [] [e.tn]
  | .bin k a b => .nd k 0 [] [a.tn, b.tn]
def Ex.tns : List Ex → List Tn
  | [] => []
  | e :: l => e.tn :: Ex.tns l
end
theorem tns_length : ∀ l : List Ex, (Ex.tns l).length = l.length
  | [] => rfl
  | a :: l => by rw [Ex.tns, List.length_cons, List.length_cons, tns_length l]
theorem repL_append2 {g : Gh} : ∀ {xs ys : List AV} {vs : List Value}, RepL g (xs ++ ys) vs → ∃ v1 v2, vs = v1 ++ v2 ∧ RepL g xs v1 ∧ RepL g ys v2
  | [], ys, vs, h => ⟨[], vs, rfl, rfl, h⟩
  | a :: xs, ys, vs, h => by
    obtain ⟨v, ws, rfl, h1, h2⟩ := h
    obtain ⟨v1, v2, rfl, h3, h4⟩ := repL_append2 h2
    exact ⟨v :: v1, v2, rfl, ⟨v, v1, rfl, h1, h3⟩, h4⟩
mutual
theorem rep_tn (g : Gh) : ∀ (e : Ex) (vs : List Value), RepL g (exC e) vs → RepL g (tC e.tn) vs
  | .none, _, h => h
  | .num _, _, h => h
  | .var _, _, h => h
  | .elem s a, vs, h => by
    have key := rep_tns g a
    rw [exC] at h
    rw [Ex.tn, tC, tns_length]
    obtain ⟨v0, _, rfl, h0, v1, _, rfl, h1, v2, _, rfl, h2, v3, _, rfl, h3, h4⟩ := h
    refine ⟨v0, _, rfl, h0, v1, _, rfl, h1, v2, _, rfl, h2, v3, _, rfl, ?_, h4⟩
    simp only [RepV] at h3 ⊢
    obtain ⟨b, o, cap, us, hv, q1, q2, q3, q4, q5⟩ := h3
    exact ⟨b, o, cap, us, hv, key us q1, q2, by rw [tsC_length, tns_length], q4, trivial⟩
  | .neg e, vs, h => by
    have key := rep_tn g e
    rw [exC] at h
    rw [Ex.tn, tC]
    obtain ⟨v0, _, rfl, h0, v1, _, rfl, h1, v2, _, rfl, h2, v3, _, rfl, h3, h4⟩ := h
    refine ⟨v0, _, rfl, h0, v1, _, rfl, h1, v2, _, rfl, h2, v3, _, rfl, ?_, h4⟩
    simp only [RepV] at h3 ⊢
    obtain ⟨b, o, cap, us, hv, q1, q2, q3, q4, q5⟩ := h3
    refine ⟨b, o, cap, us, hv, ?_, q2, by rw [tsC_length], q4, trivial⟩
    rw [tsC, tsC, List.append_nil]
    exact key us q1
  | .bin k x y, vs, h => by
    have key1 := rep_tn g x
    have key2 := rep_tn g y
    rw [exC] at h
    rw [Ex.tn, tC]
    obtain ⟨v0, _, rfl, h0, v1, _, rfl, h1, v2, _, rfl, h2, v3, _, rfl, h3, h4⟩ := h
    refine ⟨v0, _, rfl, h0, v1, _, rfl, h1, v2, _, rfl, h2, v3, _, rfl, ?_, h4⟩
    simp only [RepV] at h3 ⊢
    obtain ⟨b, o, cap, us, hv, q1, q2, q3, q4, q5⟩ := h3
    refine ⟨b, o, cap, us, hv, ?_, q2, by rw [tsC_length], q4, trivial⟩
    obtain ⟨u1, u2, rfl, r1, r2⟩ := repL_append2 q1
    rw [tsC, tsC, tsC, List.append_nil]
    exact (key1 u1 r1).append (key2 u2 r2)
theorem rep_tns (g : Gh) : ∀ (l : List Ex) (vs : List Value), RepL g (exsC l) vs → RepL g (tsC (Ex.tns l)) vs
  | [], _, h => h
  | e :: l, vs, h => by
    have k1 := rep_tn g e
    have k2 := rep_tns g l
    rw [exsC] at h
    rw [Ex.tns, tsC]
    obtain ⟨v1, v2, rfl, h1, h2⟩ := repL_append2 h
    exact (k1 v1 h1).append (k2 v2 h2)
end
mutual
theorem same_of : ∀ t : Tn, sameT (ofT t) t = true
  | .lf k n s => by simp [ofT, sameT, Tn.k, Tn.n, Tn.s, Tn.kids]
  | .nd k n s [] => by simp [ofT, sameT, Tn.k, Tn.n, Tn.s, Tn.kids]
  | .nd k n s (a :: l) => by
    have h1 := same_of a
    have h2 := sames_of l
    have h3 := ofTs_length l
    simp [ofT, sameT, Tn.k, Tn.n, Tn.s, Tn.kids, sameTs, h1, h2, h3]
theorem sames_of : ∀ l : List Tn, sameTs (ofTs l) l = true
  | [] => rfl
  | a :: l => by rw [ofTs, sameTs, same_of a, sames_of l]; rfl
end
theorem tn_cs (e : Ex) : Ex.tn e = e.tn := rfl
/-- Arguments of which less is asked. -/
theorem CS.arg {P : Program} {E : Env} {f : FuncId} {args args' : List AV} {H H' : AH} {v : AV} (h : CS P E f args' H v H') (hw : ∀ g cs, RepL g args cs → RepL g args' cs) : CS P E f args H v H' := fun g w cargs R hG hA => h g w cargs R hG (hw g cargs hA)
theorem ofEx_cs (e : Ex) (he : okT e.tn = true) (H : AH) : CS Tryz.prog envX 23 [exAV e] H (.agg (tC (ofT e.tn))) H := by
  refine CS.arg (of_cs e.tn he H) fun g cs h => ?_
  obtain ⟨v, ws, rfl, h1, h2⟩ := h
  refine ⟨v, ws, rfl, ?_, h2⟩
  unfold exAV at h1
  simp only [RepV] at h1 ⊢
  obtain ⟨vs, rfl, h1⟩ := h1
  exact ⟨vs, rfl, rep_tn g e vs h1⟩
mutual
theorem okT_of : ∀ t : Tn, okT t = true → okT (ofT t) = true
  | .lf _ _ _, _ => rfl
  | .nd _ _ _ [], _ => rfl
  | .nd k n s (a :: l), h => by
    simp only [okT, okTs, Bool.and_eq_true, decide_eq_true_eq, List.length_cons] at h
    have h1 := okT_of a h.2.1
    have h2 := okTs_of l h.2.2
    simp only [ofT, okT, okTs, Bool.and_eq_true, decide_eq_true_eq, List.length_cons, ofTs_length]
    exact ⟨h.1, h1, h2⟩
theorem okTs_of : ∀ l : List Tn, okTs l = true → okTs (ofTs l) = true
  | [], _ => rfl
  | a :: l, h => by
    simp only [okTs, Bool.and_eq_true] at h
    simp only [ofTs, okTs, Bool.and_eq_true]
    exact ⟨okT_of a h.1, okTs_of l h.2⟩
end
theorem sameEx_cs (e : Ex) (he : okT e.tn = true) (H : AH) : CS Tryz.prog envX 22 [.agg (tC (ofT e.tn)), exAV e] H (.bool true) H := by
  have := same_cs (ofT e.tn) e.tn (okT_of _ he) H
  rw [same_of] at this
  refine CS.arg this fun g cs h => ?_
  obtain ⟨v, ws, rfl, h1, u, ws, rfl, h2, h3⟩ := h
  refine ⟨v, _, rfl, h1, u, ws, rfl, ?_, h3⟩
  unfold exAV at h2
  simp only [RepV] at h2 ⊢
  obtain ⟨vs, rfl, h2⟩ := h2
  exact ⟨vs, rfl, rep_tn g e vs h2⟩
end Go.Proofs.YtpmonaempgjgbaaGreatDoor
