/- TreeOpen returns true: what its text returns. -/
import Derived.Test.YtejjlojfgcgopaaGreatDoorZ22
set_option linter.unusedSimpArgs false
set_option linter.unusedVariables false
namespace Go.Proofs.YtejjlojfgcgopaaGreatDoor
open Go.RowKit Go.Proofs.Fw
set_option maxRecDepth 100000
set_option maxHeartbeats 4000000
def openL (n m : Nat) : List (List UInt8) := List.replicate n opnT ++ List.replicate m clsT
def openB (n m : Nat) : Bool := if m < n then decide ((ofW (openL n m)).2 = some ([(lineTxt', n - 1 - m)], 11)) else if n < m then decide ((ofW (openL n m)).2 = some ([(lineTxt', 2 * n)], 12)) else decide ((ofW (openL n m)).2 = none) && decide ((ofW (openL n m)).1.length = 1)
theorem open_all : ((List.range 8).all fun a => (List.range 10).all fun m => openB (a + 1) m) = true := by kernel_rfl
theorem open_b {a m : Nat} (ha : a < 8) (hm : m < 10) : openB (a + 1) m = true :=
  List.all_eq_true.1 (List.all_eq_true.1 open_all a (List.mem_range.2 ha)) m (List.mem_range.2 hm)
theorem open_lines {n m : Nat} : ∀ s ∈ openL n m, s.length < 1000000 := fun s hs => by
  rcases List.mem_append.1 hs with h | h
  · rw [List.eq_of_mem_replicate h]; decide
  · rw [List.eq_of_mem_replicate h]; decide
def OpI (n m : Nat) (k : Nat) (t : List AV) (H : AH) : Prop := ∃ i, i + k = n ∧ t = mkT 69 [(5, .int .i64 (n : Int)), (6, .int .i64 (m : Int)), (7, strE.tk 0 (List.replicate i opnT)), (8, .int .i64 (i : Int))] ∧ H = [tokE (List.replicate i opnT)]
def OpJ (n m : Nat) (k : Nat) (t : List AV) (H : AH) : Prop := ∃ i, i + k = m ∧ t = mkT 69 [(5, .int .i64 (n : Int)), (6, .int .i64 (m : Int)), (7, strE.tk 0 (openL n i)), (9, .int .i64 (i : Int))] ∧ H = [tokE (openL n i)]
theorem treeOpen_cs (a b : Nat) (ha : a < 256) (hb : b < 256) (H : AH) : CS Tryz.prog envS 13 [.int .u8 (a : Int), .int .u8 (b : Int)] H (.bool true) H := by
  have X := oK8_cx
  have hO := oK8_ok
  generalize oOf Lk8 = O at X hO
  have f1 := hO.known
  refine CS.tr0 lowS Tryz.func13 (by kernel_rfl) 0 (by simp [Tryz.f13]) (fun B hB hG => ?_) rfl (by simp) H
  refine Tr.goD X hG (by kernel_rfl) ?_
  have w1 : ((a : Int)).tmod 8 = ((a % 8 : Nat) : Int) := by rw [Int.tmod_eq_emod_of_nonneg (by omega)]; omega
  have w2 : ((b : Int)).tmod 10 = ((b % 10 : Nat) : Int) := by rw [Int.tmod_eq_emod_of_nonneg (by omega)]; omega
  have w3 : IntKind.u8.wrap ((a % 8 : Nat) : Int) = ((a % 8 : Nat) : Int) := wrap_u8 (by omega) (by omega)
  have w4 : IntKind.u8.wrap ((b % 10 : Nat) : Int) = ((b % 10 : Nat) : Int) := wrap_u8 (by omega) (by omega)
  have w5 : IntKind.i64.wrap ((a % 8 : Nat) : Int) = ((a % 8 : Nat) : Int) := wrap_i64 (by omega) (by omega)
  have w6 : IntKind.i64.wrap ((b % 10 : Nat) : Int) = ((b % 10 : Nat) : Int) := wrap_i64 (by omega) (by omega)
  have hn8 : a % 8 < 8 := Nat.mod_lt _ (by decide)
  have hm8 : b % 10 < 10 := Nat.mod_lt _ (by decide)
  have w7 : IntKind.i64.wrap (1 + ((a % 8 : Nat) : Int)) = ((a % 8 + 1 : Nat) : Int) := by rw [wrap_i64 (by omega) (by omega)]; omega
  have hp := open_b hn8 hm8
  simp [Tryz.f13, f1, w1, w2, w3, w4, w5, w6, w7, -Int.natCast_emod, -Int.natCast_add]
  generalize a % 8 = n0 at *
  generalize b % 10 = m at *
  clear w1 w2 w3 w4 w5 w6 w7
  generalize hn : n0 + 1 = n at *
  have hn1 : 1 ≤ n := by omega
  refine LpD.loopN X hG (by kernel_rfl) (OpI n m) n (t' := mkT 69 [(5, .int .i64 (n : Int)), (6, .int .i64 (m : Int)), (7, strE.tk 0 (List.replicate 0 opnT)), (8, .int .i64 ((0 : Nat) : Int))]) (H' := [tokE (List.replicate 0 opnT)])
    (Less.mkV 100 (fun i => i) 1 (by simp [hB]) (by simp) (by simp) rfl (by
      intro i hi
      obtain rfl : i = 0 := by omega
      simp [AH.at]) (by simp) (by simp [ren])) ⟨0, by omega, rfl, rfl⟩ ?_
  rintro k t H ⟨i, hik, rfl, rfl⟩
  have e1 : strE.c opnT = [.str opnT] := rfl
  have e3 : strE.c clsT = [.str clsT] := rfl
  have e2 : strE.sz = 1 := rfl
  cases k with
  | succ k =>
    have hi : (i : Int) < n := by omega
    have wi : IntKind.i64.wrap ((i : Int) + 1) = ((i + 1 : Nat) : Int) := by rw [wrap_i64 (by omega) (by omega)]; omega
    have hr : List.replicate i opnT ++ [opnT] = List.replicate (i + 1) opnT := by rw [List.replicate_succ']
    have hI : OpI n m k (mkT 69 [(5, .int .i64 (n : Int)), (6, .int .i64 (m : Int)), (7, strE.tk 0 (List.replicate i opnT ++ [opnT])), (8, .int .i64 ((i + 1 : Nat) : Int))]) [tokE (List.replicate i opnT ++ [opnT])] := ⟨i + 1, by omega, by rw [hr], by rw [hr]⟩
    have hln : (List.replicate i opnT).length = i := List.length_replicate
    generalize List.replicate i opnT = out at *
    by_cases h0 : out = []
    · subst h0
      have a1 := fun H ow fid => encApp0 strE (P := Tryz.prog) (H := H) (ow := ow) (fid := fid) elemStr opnT
      rw [e1, e2] at a1
      simp only [opnT] at *
      simp [hi, wi, aapp_hard softSStr, a1, -Int.natCast_add]
      refine Nxt.mk k (by omega) (Less.mkV 100 (fun i => if i = 0 then 1 else i) 1 (by simp [hB]) (by intro i hi hj h; omega) (by simp [hB]) rfl (by
          intro i hi
          obtain rfl : i = 0 := by omega
          simp [AH.at, tokE, renE]) (by simp [tokE]) (by simp [ren, strE.tk_ren, strE.tk_strip, strE.tk_low])) hI
    · have a1 := fun H ow fid (h : AH.at H 0 = some (.tok out.length)) => encAppN strE (P := Tryz.prog) (H := H) (ow := ow) (fid := fid) (k := 0) elemStr out opnT h0 h (by omega)
      rw [e1, e2] at a1
      have hte : tokE out = some (.tok out.length) := tokE_ne h0
      rw [hte]
      simp only [opnT] at *
      simp [hi, wi, aapp_hard softSStr, a1, -Int.natCast_add]
      exact Nxt.mk k (by omega) (Less.mkK 1 (by simp [hB]) (by simp [strE.tk_low]) (by simp [tokE]) (by simp [tokE])) hI
  | zero =>
    obtain rfl : i = n := by omega
    have hol : openL i 0 = List.replicate i opnT := by simp [openL]
    simp [Blk_exit, -Int.natCast_add]
    refine LpD.loopN X hG (by kernel_rfl) (OpJ i m) m (t' := mkT 69 [(5, .int .i64 (i : Int)), (6, .int .i64 (m : Int)), (7, strE.tk 0 (openL i 0)), (9, .int .i64 ((0 : Nat) : Int))]) (H' := [tokE (openL i 0)])
      (Less.mkK 1 (by simp [hB]) (by simp [strE.tk_low, hol]) (by simp [hol]) (tokE_low 1 _)) ⟨0, by omega, rfl, rfl⟩ ?_
    rintro k t H ⟨j, hjk, rfl, rfl⟩
    have hne : ∀ j, openL i j ≠ [] := fun j h => by
      have := congrArg List.length h
      simp [openL] at this
      omega
    cases k with
    | succ k =>
      have hi : (j : Int) < m := by omega
      have wi : IntKind.i64.wrap ((j : Int) + 1) = ((j + 1 : Nat) : Int) := by rw [wrap_i64 (by omega) (by omega)]; omega
      have hr : openL i j ++ [clsT] = openL i (j + 1) := by unfold openL; rw [List.append_assoc, List.replicate_succ']
      have hI : OpJ i m k (mkT 69 [(5, .int .i64 (i : Int)), (6, .int .i64 (m : Int)), (7, strE.tk 0 (openL i j ++ [clsT])), (9, .int .i64 ((j + 1 : Nat) : Int))]) [tokE (openL i j ++ [clsT])] := ⟨j + 1, by omega, by rw [hr], by rw [hr]⟩
      have hln : (openL i j).length = i + j := by simp [openL]
      have h0 := hne j
      generalize openL i j = out at *
      have a1 := fun H ow fid (h : AH.at H 0 = some (.tok out.length)) => encAppN strE (P := Tryz.prog) (H := H) (ow := ow) (fid := fid) (k := 0) elemStr out clsT h0 h (by omega)
      rw [e3, e2] at a1
      have hte : tokE out = some (.tok out.length) := tokE_ne h0
      rw [hte]
      simp only [clsT] at *
      simp [hi, wi, aapp_hard softSStr, a1, -Int.natCast_add]
      exact Nxt.mk k (by omega) (Less.mkK 1 (by simp [hB]) (by simp [strE.tk_low]) (by simp [tokE]) (by simp [tokE])) hI
    | zero =>
      obtain rfl : j = m := by omega
      have g1 : ∀ H, O 48 [strE.tk 0 (openL i j)] H = some (.tup [ndE.av (ofW (openL i j)).1, erI (ofW (openL i j)).2], H) := fun H => hO.of (.tok 0) (openL i j) H (by simp [openL]; omega) open_lines
      have hp : openB i j = true := hp
      unfold openB at hp
      have h0 := hne j
      generalize strE.tk 0 (openL i j) = V at *
      generalize ofW (openL i j) = T at *
      obtain ⟨T, e⟩ := T
      simp only at g1 hp
      by_cases q1 : j < i
      · rw [if_pos q1] at hp
        have q1' : (j : Int) < i := by omega
        have he : e = some ([(lineTxt', i - 1 - j)], 11) := by simpa using hp
        subst he
        have w1 : IntKind.i64.wrap ((i : Int) - 1) = ((i - 1 : Nat) : Int) := by rw [wrap_i64 (by omega) (by omega)]; omega
        have w2 : IntKind.i64.wrap (((i - 1 : Nat) : Int) - (j : Int)) = ((i - 1 - j : Nat) : Int) := by rw [wrap_i64 (by omega) (by omega)]; omega
        have a1 := fun H => hO.at_ lineTxt' ((i - 1 - j : Nat) : Int) 11 H
        have t1 := fun H => hO.tells lineTxt' ((i - 1 - j : Nat) : Int) 11 H (by decide)
        simp only [lineTxt', erI_some, castP, errAV, List.map] at g1 a1 t1
        simp [Blk_exit, -Int.natCast_add, g1, a1, t1, q1, q1', w1, w2]
      · have q1' : ¬ (j : Int) < i := by omega
        rw [if_neg q1] at hp
        by_cases q2 : i < j
        · rw [if_pos q2] at hp
          have q2' : (i : Int) < j := by omega
          have he : e = some ([(lineTxt', 2 * i)], 12) := by simpa using hp
          subst he
          have w1 : IntKind.i64.wrap (2 * (i : Int)) = ((2 * i : Nat) : Int) := by rw [wrap_i64 (by omega) (by omega)]; omega
          have a1 := fun H => hO.at_ lineTxt' ((2 * i : Nat) : Int) 12 H
          have t1 := fun H => hO.tells lineTxt' ((2 * i : Nat) : Int) 12 H (by decide)
          simp only [lineTxt', erI_some, castP, errAV, List.map] at g1 a1 t1
          simp [Blk_exit, -Int.natCast_add, -Int.natCast_mul, g1, a1, t1, q1, q1', q2, q2', w1]
        · rw [if_neg q2] at hp
          have q2' : ¬ (i : Int) < j := by omega
          obtain ⟨rfl, hl⟩ : e = none ∧ T.length = 1 := by simpa using hp
          simp [Blk_exit, -Int.natCast_add, g1, q1, q1', q2, q2', hl]
end Go.Proofs.YtejjlojfgcgopaaGreatDoor
