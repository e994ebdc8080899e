/- StmtKinds: what the law's text returns. -/
import Derived.Test.YtejjlojfgcgopaaGreatDoorSkB
set_option linter.unusedSimpArgs false
set_option linter.unusedVariables false
namespace Go.Proofs.YtejjlojfgcgopaaGreatDoor
open Go.RowKit Go.Proofs.Fw
set_option maxRecDepth 100000
set_option maxHeartbeats 4000000
-- 

def kindL : List (List UInt8) := [[], [105, 110, 116, 101, 103, 101, 114, 32, 120], [120, 32, 61, 32, 49], [100, 111, 32, 105, 32, 61, 32, 49, 44, 32, 50], [101, 110, 100, 32, 100, 111], [105, 102, 32, 40, 120, 32, 60, 32, 49, 41, 32, 116, 104, 101, 110], [101, 108, 115, 101], [101, 110, 100, 32, 105, 102], [114, 101, 97, 100, 32, 120], [112, 114, 105, 110, 116, 32, 120]]
def kindAV : AV := .slice .full 1 10 (kindL.map .str)
def noteX : List UInt8 := [32, 33, 32, 112, 114, 105, 110, 116, 32, 53]
/-- The line that is read. -/
def kindS (k m : Nat) (b : Bool) : List UInt8 := List.replicate m 32 ++ kindL.getD k [] ++ (if b then noteX else []) ++ [10]
def kindB (k m : Nat) (b : Bool) : Bool := match parseS (bodyOfLine (kindS k m b)) with
  | (x, none) => decide (x.x.kind = (k : Int)) && sxB x.x && (stmtK x.x == kindL.getD k [])
  | _ => false
theorem kind_all : ((List.range 10).all fun k => (List.range 20).all fun m => kindB k m true && kindB k m false) = true := by kernel_rfl
theorem kind_ok {k m : Nat} (hk : k < 10) (hm : m < 20) (b : Bool) : kindB k m b = true := by
  have h := List.all_eq_true.1 kind_all k (List.mem_range.2 hk)
  have h2 := List.all_eq_true.1 h m (List.mem_range.2 hm)
  simp only [Bool.and_eq_true] at h2
  cases b
  · exact h2.2
  · exact h2.1
theorem kind_facts {k m : Nat} (hk : k < 10) (hm : m < 20) (b : Bool) : ∃ x : Sm, parseS (bodyOfLine (kindS k m b)) = (x, none) ∧ x.x.kind = (k : Int) ∧ SxOk x.x ∧ stmtT x.x = kindL.getD k [] := by
  have h := kind_ok hk hm b
  unfold kindB at h
  split at h
  · rename_i x hx
    simp only [Bool.and_eq_true, decide_eq_true_eq, beq_iff_eq] at h
    have ho := sxB_ok h.1.2
    exact ⟨x, hx, h.1.1, ho, by rw [stmtK_eq ho]; exact h.2⟩
  · cases h
@[simp] theorem bsKind : abuildSlice Tryz.prog 23 10 [(0, .str []), (1, .str [105, 110, 116, 101, 103, 101, 114, 32, 120]), (2, .str [120, 32, 61, 32, 49]), (3, .str [100, 111, 32, 105, 32, 61, 32, 49, 44, 32, 50]), (4, .str [101, 110, 100, 32, 100, 111]), (5, .str [105, 102, 32, 40, 120, 32, 60, 32, 49, 41, 32, 116, 104, 101, 110]), (6, .str [101, 108, 115, 101]), (7, .str [101, 110, 100, 32, 105, 102]), (8, .str [114, 101, 97, 100, 32, 120]), (9, .str [112, 114, 105, 110, 116, 32, 120])] = some kindAV := by kernel_rfl
@[simp high] theorem alenKind : alen Tryz.prog 23 kindAV = some (.int .i64 10) := by kernel_rfl
@[simp high] theorem aidxKind {k : Nat} (h : k < 10) : aindexAddr Tryz.prog 23 kindAV (.int .i64 (k : Int)) = some (.vptr (kindL.map .str) k) := by
  have h2 : (k : Int) < 10 := by omega
  simp [kindAV, aindexAddr, h2]
theorem kind_at {k : Nat} (h : k < 10) : (kindL.map AV.str)[k]? = some (.str (kindL.getD k [])) := by
  rw [List.getElem?_map, List.getD_eq_getElem?_getD]
  have : k < kindL.length := h
  rw [List.getElem?_eq_getElem this]
  rfl
theorem kind_len {k : Nat} (h : k < 10) : (kindL.getD k []).length ≤ 20 := by
  rcases (by omega : k = 0 ∨ k = 1 ∨ k = 2 ∨ k = 3 ∨ k = 4 ∨ k = 5 ∨ k = 6 ∨ k = 7 ∨ k = 8 ∨ k = 9) with rfl | rfl | rfl | rfl | rfl | rfl | rfl | rfl | rfl | rfl <;> decide
def KnI (w n : Nat) (b : Bool) (k : Nat) (t : List AV) (H : AH) : Prop :=
  ∃ i, i + k = n % 20 ∧ t = mkT 62 [(1, .int .u8 (n : Int)), (2, .bool b), (7, kindAV), (8, .int .i64 ((w % 10 : Nat) : Int)), (9, .str (List.replicate i 32)), (10, .int .i64 (i : Int))] ∧ H = []

theorem kindsLaw_cs (w n : Nat) (hw : w < 256) (hn : n < 256) (b : Bool) (H : AH) : CS Tryz.prog envF 3 [.int .u8 (w : Int), .int .u8 (n : Int), .bool b] H (.bool true) H := by
  have hL : ([fPparse, fPtext, fKn6].map (·.f)).Nodup := show ([16, 17, 15] : List Nat).Nodup by decide
  have X := oOf_cx [fPparse, fPtext, fKn6] methFOk mixed
  have f1 := fun (s : List UInt8) (h : s.length < 1000000) H => oOf_pure hL (show fPparse ∈ [fPparse, fPtext, fKn6] by simp) s h H
  have f2 := fun x (h : SxOk x) H => oOf_pure hL (show fPtext ∈ [fPparse, fPtext, fKn6] by simp) x h H
  have f3 := fun H => oOf_pure hL (show fKn6 ∈ [fPparse, fPtext, fKn6] by simp) () trivial H
  generalize oOf [fPparse, fPtext, fKn6] = O at X f1 f2 f3
  refine CS.tr0 lowF Tryz.func3 (by kernel_rfl) 0 (by simp [Tryz.f3]) (fun B hB hG => ?_) (by simp) (by simp) H
  refine Tr.goD X hG (by kernel_rfl) ?_
  have w1 : IntKind.i64.wrap (w : Int) = (w : Int) := wrap_i64 (by omega) (by omega)
  have w2 : ((w : Int)).tmod 10 = ((w % 10 : Nat) : Int) := by rw [Int.tmod_eq_emod_of_nonneg (by omega)]; omega
  have w3 : ((n : Int)).tmod 20 = ((n % 20 : Nat) : Int) := by rw [Int.tmod_eq_emod_of_nonneg (by omega)]; omega
  have w4 : IntKind.i64.wrap ((n % 20 : Nat) : Int) = ((n % 20 : Nat) : Int) := wrap_i64 (by omega) (by omega)
  have hlowK : ∀ m, low m kindAV = true := fun m => low_mono (Nat.zero_le m) _ (by kernel_rfl)
  simp [Tryz.f3, f3, w1, w2, -Int.natCast_emod]
  refine LpD.loopN X hG (by kernel_rfl) (KnI w n b) (n % 20) (t' := mkT 62 [(1, .int .u8 (n : Int)), (2, .bool b), (7, kindAV), (8, .int .i64 ((w % 10 : Nat) : Int)), (9, .str []), (10, .int .i64 ((0 : Nat) : Int))]) (H' := []) (Less.mk0 hB (by simp [hlowK])) ⟨0, by omega, rfl, rfl⟩ ?_
  rintro k t H ⟨i, hik, rfl, rfl⟩
  have hm : n % 20 < 20 := Nat.mod_lt _ (by decide)
  have hk : w % 10 < 10 := Nat.mod_lt _ (by decide)
  cases k with
  | succ k =>
    have hi : (i : Int) < ((n % 20 : Nat) : Int) := by omega
    have wi : IntKind.i64.wrap ((i : Int) + 1) = ((i + 1 : Nat) : Int) := by rw [wrap_i64 (by omega) (by omega)]; omega
    have hr : List.replicate i (32 : UInt8) ++ [32] = List.replicate (i + 1) 32 := by rw [List.replicate_succ']
    have hle : i + 1 ≤ 9223372036854775807 := by omega
    have hle2 : i ≤ 9223372036854775806 := by omega
    simp [w3, w4, hi, wi, hle, hle2, hr, -Int.natCast_add, -Int.natCast_emod]
    exact Nxt.mk k (by omega) (Less.mk0 (l' := [(1, .int .u8 (n : Int)), (2, .bool b), (7, kindAV), (8, .int .i64 ((w % 10 : Nat) : Int)), (9, .str (List.replicate (i + 1) 32)), (10, .int .i64 ((i + 1 : Nat) : Int))]) hB (by simp [hlowK])) ⟨i + 1, by omega, rfl, rfl⟩
  | zero =>
    obtain rfl : i = n % 20 := by omega
    obtain ⟨x, hx1, hx2, hx3, hx4⟩ := kind_facts hk hm b
    have hlen := kind_len hk
    have g1 := f1 (kindS (w % 10) (n % 20) b) (by
      unfold kindS
      have h := hlen
      generalize kindL.getD (w % 10) [] = s at *
      cases b <;> simp [noteX] <;> omega)
    have g2 := f2 _ hx3
    have hat := kind_at hk
    simp only [pstmtAV, hx1, hx4, erI_none] at g1 g2
    generalize hX : x.x = M at *
    simp [Sx.c, hx2, -Int.natCast_emod] at g1 g2
    unfold kindS at g1
    clear f1 f2 hx1 hx3 hx4
    generalize hs : kindL.getD (w % 10) [] = s at *
    generalize w % 10 = kk at *
    generalize n % 20 = mm at *
    have e1 : mm + s.length ≤ 9223372036854775807 := by omega
    cases b with
    | false =>
      have e2 : mm + s.length ≤ 9223372036854775806 := by omega
      simp [List.append_assoc] at g1
      simp [w3, w4, Blk_exit, hk, hat, e1, e2, g1, -Int.natCast_emod]
      refine LpD.turns X hG [10] [(10, 11), (10, 12), (10, 13), (10, 14)] (by kernel_rfl) ?_
      simp [g2, hk, hat]
      rw [← List.getD_eq_getElem?_getD]
      exact hs
    | true =>
      have e2 : mm + s.length + 10 ≤ 9223372036854775807 := by omega
      have e3 : mm + (s.length + 10) ≤ 9223372036854775806 := by omega
      have e4 : mm + s.length ≤ 9223372036854775797 := by omega
      simp [List.append_assoc, noteX] at g1
      simp [w3, w4, Blk_exit, hk, hat, e1, e2, e3, e4, g1, -Int.natCast_emod]
      refine LpD.turns X hG [10] [(10, 11), (10, 12), (10, 13), (10, 14)] (by kernel_rfl) ?_
      simp [g2, hk, hat]
      rw [← List.getD_eq_getElem?_getD]
      exact hs
end Go.Proofs.YtejjlojfgcgopaaGreatDoor
