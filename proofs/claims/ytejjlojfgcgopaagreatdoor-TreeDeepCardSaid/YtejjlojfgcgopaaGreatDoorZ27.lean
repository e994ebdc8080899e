/- TreeDeep returns true: what its text returns. -/
import Derived.Test.YtejjlojfgcgopaaGreatDoorZ26
set_option linter.unusedSimpArgs false
set_option linter.unusedVariables false
namespace Go.Proofs.YtejjlojfgcgopaaGreatDoor
open Go.RowKit Go.Proofs.Fw
set_option maxRecDepth 100000
set_option maxHeartbeats 4000000
theorem wrap_u64 {n : Int} (h0 : 0 ≤ n) (h : n ≤ 9223372036854775807) : IntKind.u64.wrap n = n := by
  simp only [IntKind.wrap, IntKind.bits, IntKind.signed]
  simp
  omega
theorem shr8 (b k : Nat) (h : k < 8) : ((b : Int)).fdiv (2 ^ min (k : Int).toNat IntKind.u8.bits) = ((b / 2 ^ k : Nat) : Int) := by
  have h1 : min (k : Int).toNat IntKind.u8.bits = k := by show min k 8 = k; omega
  rw [h1, Int.fdiv_eq_ediv_of_nonneg _ (Int.pow_nonneg (by decide))]
  simp
theorem and1_all : ((List.range 256).all fun m => decide (IntKind.u8.wrap ((BitVec.ofInt IntKind.u8.bits (m : Int) &&& BitVec.ofInt IntKind.u8.bits 1).toNat : Int) = ((m % 2 : Nat) : Int))) = true := by kernel_rfl
theorem and1 (b k : Nat) (hb : b < 256) : abits .and .u8 ((b : Int) / 2 ^ k) 1 = some (.int .u8 ((b / 2 ^ k % 2 : Nat) : Int)) := by
  have h1 : ((b : Int) / 2 ^ k) = ((b / 2 ^ k : Nat) : Int) := by simp
  have h2 : b / 2 ^ k < 256 := Nat.lt_of_le_of_lt (Nat.div_le_self _ _) hb
  have h3 := of_decide_eq_true (List.all_eq_true.1 and1_all _ (List.mem_range.2 h2))
  rw [h1]
  unfold abits
  rw [h3]
theorem bitN_01 (b i : Nat) : bitN b i = 0 ∨ bitN b i = 1 := by unfold bitN; omega
theorem deep_b {n b : Nat} (hn : n < 12) (hb : b < 256) : deepB b n = true :=
  List.all_eq_true.1 (List.all_eq_true.1 deep_all n (List.mem_range.2 hn)) b (List.mem_range.2 hb)
theorem opL_len (b : Nat) : ∀ n, (opL b n).length = n
  | 0 => rfl
  | n + 1 => by rw [opL, List.length_append, opL_len b n]; rfl
theorem dpL_len (b n : Nat) : ∀ q, (dpL b n q).length = n + q
  | 0 => by rw [dpL, opL_len]; rfl
  | q + 1 => by rw [dpL, List.length_append, dpL_len b n q]; simp; omega
theorem opT_lt (b i : Nat) : (opT b i).length < 1000000 := by unfold opT; split <;> decide
theorem clT_lt (b i : Nat) : (clT b i).length < 1000000 := by unfold clT; split <;> decide
theorem opL_lines (b : Nat) : ∀ n, ∀ s ∈ opL b n, s.length < 1000000
  | 0, s, hs => by cases hs
  | n + 1, s, hs => by
    rw [opL] at hs
    rcases List.mem_append.1 hs with h | h
    · exact opL_lines b n s h
    · rw [List.mem_singleton.1 h]; exact opT_lt b n
theorem dpL_lines (b n : Nat) : ∀ q, ∀ s ∈ dpL b n q, s.length < 1000000
  | 0, s, hs => opL_lines b n s hs
  | q + 1, s, hs => by
    rw [dpL] at hs
    rcases List.mem_append.1 hs with h | h
    · exact dpL_lines b n q s h
    · rw [List.mem_singleton.1 h]; exact clT_lt b _
def DpI (n b : Nat) (k : Nat) (t : List AV) (H : AH) : Prop := ∃ i, i + k = n ∧ t = mkT 116 [(1, .int .u8 (b : Int)), (5, .int .i64 (n : Int)), (6, strE.tk 0 (opL b i)), (7, .int .i64 (i : Int))] ∧ H = [tokE (opL b i)]
theorem wrap_i64n {n : Int} (h0 : -1000 ≤ n) (h : n ≤ 9223372036854775807) : IntKind.i64.wrap n = n := by
  simp only [IntKind.wrap, IntKind.bits, IntKind.signed]
  simp
  omega
def DpK (T : List Nd) (n : Nat) (k : Nat) (t : List AV) (H : AH) : Prop := ∃ i, i + k = n ∧ t = mkT 116 [(5, .int .i64 (n : Int)), (9, ndE.av T), (11, .int .i64 (i : Int))] ∧ H = []
def DpJ (n b : Nat) (k : Nat) (t : List AV) (H : AH) : Prop := ∃ q, q + k = n ∧ t = mkT 116 [(1, .int .u8 (b : Int)), (5, .int .i64 (n : Int)), (6, strE.tk 0 (dpL b n q)), (8, .int .i64 ((n : Int) - 1 - (q : Int)))] ∧ H = [tokE (dpL b n q)]
theorem treeDeep_cs (a b : Nat) (ha : a < 256) (hb : b < 256) (H : AH) : CS Tryz.prog envS 12 [.int .u8 (a : Int), .int .u8 (b : Int)] H (.bool true) H := by
  have X := oK8_cx
  have hO := oK8_ok
  generalize oOf Lk8 = O at X hO
  have f1 := hO.known
  refine CS.tr0 lowS Tryz.func12 (by kernel_rfl) 0 (by simp [Tryz.f12]) (fun B hB hG => ?_) rfl (by simp) H
  refine Tr.goD X hG (by kernel_rfl) ?_
  have w1 : ((a : Int)).tmod 12 = ((a % 12 : Nat) : Int) := by rw [Int.tmod_eq_emod_of_nonneg (by omega)]; omega
  have w3 : IntKind.u8.wrap ((a % 12 : Nat) : Int) = ((a % 12 : Nat) : Int) := wrap_u8 (by omega) (by omega)
  have w5 : IntKind.i64.wrap ((a % 12 : Nat) : Int) = ((a % 12 : Nat) : Int) := wrap_i64 (by omega) (by omega)
  have hn12 : a % 12 < 12 := Nat.mod_lt _ (by decide)
  have hp := deep_b hn12 hb
  simp [Tryz.f12, f1, w1, w3, w5, -Int.natCast_emod, -Int.natCast_add]
  generalize a % 12 = n at *
  clear w1 w3 w5
  refine LpD.loopN X hG (by kernel_rfl) (DpI n b) n (t' := mkT 116 [(1, .int .u8 (b : Int)), (5, .int .i64 (n : Int)), (6, strE.tk 0 (opL b 0)), (7, .int .i64 ((0 : Nat) : Int))]) (H' := [tokE (opL b 0)])
    (Less.mkV 100 (fun i => i) 1 (by simp [hB]) (by simp) (by simp) rfl (by
      intro i hi
      obtain rfl : i = 0 := by omega
      simp [AH.at, opL]) (by simp [opL]) (by simp [ren, opL])) ⟨0, by omega, rfl, rfl⟩ ?_
  rintro k t H ⟨i, hik, rfl, rfl⟩
  have e2 : strE.sz = 1 := rfl
  cases k with
  | succ k =>
    have hi : (i : Int) < n := by omega
    have wi : IntKind.i64.wrap ((i : Int) + 1) = ((i + 1 : Nat) : Int) := by rw [wrap_i64 (by omega) (by omega)]; omega
    have w2 : ((i : Int)).tmod 8 = ((i % 8 : Nat) : Int) := by rw [Int.tmod_eq_emod_of_nonneg (by omega)]; omega
    have w3 : IntKind.i64.wrap ((i % 8 : Nat) : Int) = ((i % 8 : Nat) : Int) := wrap_i64 (by omega) (by omega)
    have h8 : i % 8 < 8 := Nat.mod_lt _ (by decide)
    have w4 : IntKind.u64.wrap ((i % 8 : Nat) : Int) = ((i % 8 : Nat) : Int) := wrap_u64 (by omega) (by omega)
    have w5 := shr8 b (i % 8) h8
    simp [hi, wi, w2, w3, w4, -Int.natCast_add, -Int.natCast_emod, -Int.toNat_natCast, w5, and1 b (i % 8) hb]
    have hbn : b / 2 ^ (i % 8) % 2 = bitN b i := rfl
    rw [hbn]
    have hI : DpI n b k (mkT 116 [(1, .int .u8 (b : Int)), (5, .int .i64 (n : Int)), (6, strE.tk 0 (opL b i ++ [opT b i])), (7, .int .i64 ((i + 1 : Nat) : Int))]) [tokE (opL b i ++ [opT b i])] := ⟨i + 1, by omega, rfl, rfl⟩
    have hln := opL_len b i
    have e1 : ∀ x : List UInt8, strE.c x = [.str x] := fun _ => rfl
    have a0 := fun x H ow fid => encApp0 strE (P := Tryz.prog) (H := H) (ow := ow) (fid := fid) elemStr x
    have aN := fun (h0 : opL b i ≠ []) x H ow fid (h : AH.at H 0 = some (.tok (opL b i).length)) => encAppN strE (P := Tryz.prog) (H := H) (ow := ow) (fid := fid) (k := 0) elemStr (opL b i) x h0 h (by omega)
    simp only [e1, e2] at a0 aN
    clear w2 w3 w4 w5 hbn
    rcases bitN_01 b i with hz | hz
    all_goals
      have hx : opT b i = (if bitN b i = 0 then opnT else dpIf) := rfl
      rw [hz] at hx ⊢
      simp only [if_pos, if_neg, Nat.one_ne_zero, not_false_eq_true, if_true, if_false] at hx
      rw [hx] at hI
      generalize opL b i = out at *
      by_cases h0 : out = []
      · subst h0
        simp only [opnT, dpIf, List.nil_append] at *
        simp [hi, wi, aapp_hard softSStr, a0, -Int.natCast_add]
        refine Nxt.mk k (by omega) (Less.mkV 100 (fun i => if i = 0 then 1 else i) 1 (by simp [hB]) (by intro i hi hj h; omega) (by simp [hB]) rfl (by
            intro i hi
            obtain rfl : i = 0 := by omega
            simp [AH.at, tokE, renE]) (by simp [tokE]) (by simp [ren, strE.tk_ren, strE.tk_strip, strE.tk_low])) hI
      · have hte : tokE out = some (.tok out.length) := tokE_ne h0
        have aN := aN h0
        rw [hte]
        simp only [opnT, dpIf] at *
        simp [hi, wi, aapp_hard softSStr, aN, -Int.natCast_add]
        exact Nxt.mk k (by omega) (Less.mkK 1 (by simp [hB]) (by simp [strE.tk_low]) (by simp [tokE]) (by simp [tokE])) hI
  | zero =>
    obtain rfl : i = n := by omega
    have wn : IntKind.i64.wrap ((i : Int) - 1) = (i : Int) - 1 := wrap_i64n (by omega) (by omega)
    have hd0 : dpL b i 0 = opL b i := rfl
    simp [Blk_exit, wn, -Int.natCast_add]
    refine LpD.loopN X hG (by kernel_rfl) (DpJ i b) i (t' := mkT 116 [(1, .int .u8 (b : Int)), (5, .int .i64 (i : Int)), (6, strE.tk 0 (dpL b i 0)), (8, .int .i64 ((i : Int) - 1 - ((0 : Nat) : Int)))]) (H' := [tokE (dpL b i 0)])
      (Less.mkK 1 (by simp [hB]) (by simp [strE.tk_low, hd0]) (by simp [hd0]) (tokE_low 1 _)) ⟨0, by omega, rfl, rfl⟩ ?_
    rintro k t H ⟨q, hqk, rfl, rfl⟩
    have hln := dpL_len b i q
    cases k with
    | succ k =>
      have hj : ((i : Int) - 1 - (q : Int)) = ((i - 1 - q : Nat) : Int) := by omega
      have hI : DpJ i b k (mkT 116 [(1, .int .u8 (b : Int)), (5, .int .i64 (i : Int)), (6, strE.tk 0 (dpL b i q ++ [clT b (i - 1 - q)])), (8, .int .i64 ((i : Int) - 1 - ((q + 1 : Nat) : Int)))]) [tokE (dpL b i q ++ [clT b (i - 1 - q)])] := ⟨q + 1, by omega, rfl, rfl⟩
      have hj2 : ((i : Int) - 1 - ((q + 1 : Nat) : Int)) = ((i - 1 - q : Nat) : Int) - 1 := by omega
      rw [hj2] at hI
      rw [hj]
      generalize i - 1 - q = j at *
      have hjn : (0 : Int) ≤ (j : Int) := by omega
      have wi : IntKind.i64.wrap ((j : Int) - 1) = (j : Int) - 1 := wrap_i64n (by omega) (by omega)
      have w2 : ((j : Int)).tmod 8 = ((j % 8 : Nat) : Int) := by rw [Int.tmod_eq_emod_of_nonneg (by omega)]; omega
      have w3 : IntKind.i64.wrap ((j % 8 : Nat) : Int) = ((j % 8 : Nat) : Int) := wrap_i64 (by omega) (by omega)
      have h8 : j % 8 < 8 := Nat.mod_lt _ (by decide)
      have w4 : IntKind.u64.wrap ((j % 8 : Nat) : Int) = ((j % 8 : Nat) : Int) := wrap_u64 (by omega) (by omega)
      have w5 := shr8 b (j % 8) h8
      simp [hjn, w2, w3, w4, -Int.natCast_add, -Int.natCast_emod, -Int.toNat_natCast, w5, and1 b (j % 8) hb]
      have hbn : b / 2 ^ (j % 8) % 2 = bitN b j := rfl
      rw [hbn]
      have h0 : dpL b i q ≠ [] := fun h => by rw [h] at hln; simp at hln; omega
      have e1 : ∀ x : List UInt8, strE.c x = [.str x] := fun _ => rfl
      have aN := fun x H ow fid (h : AH.at H 0 = some (.tok (dpL b i q).length)) => encAppN strE (P := Tryz.prog) (H := H) (ow := ow) (fid := fid) (k := 0) elemStr (dpL b i q) x h0 h (by omega)
      simp only [e1, e2] at aN
      clear w2 w3 w4 w5 hbn
      rcases bitN_01 b j with hz | hz
      all_goals
        have hx : clT b j = (if bitN b j = 0 then clsT else dpEi) := rfl
        rw [hz] at hx ⊢
        simp only [if_pos, if_neg, Nat.one_ne_zero, not_false_eq_true, if_true, if_false] at hx
        rw [hx] at hI
        generalize dpL b i q = out at *
        have hte : tokE out = some (.tok out.length) := tokE_ne h0
        rw [hte]
        simp only [clsT, dpEi] at *
        simp [hjn, wi, aapp_hard softSStr, aN, -Int.natCast_add]
        exact Nxt.mk k (by omega) (Less.mkK 1 (by simp [hB]) (by simp [strE.tk_low]) (by simp [tokE]) (by simp [tokE])) hI
    | zero =>
      obtain rfl : q = i := by omega
      have hm1 : ((q : Int) - 1 - (q : Int)) = -1 := by omega
      rw [hm1]
      have g1 : ∀ H, O 48 [strE.tk 0 (dpL b q q)] H = some (.tup [ndE.av (ofW (dpL b q q)).1, erI (ofW (dpL b q q)).2], H) := fun H => hO.of (.tok 0) (dpL b q q) H (by omega) (dpL_lines b q q)
      unfold deepB at hp
      have hlow := strE.tk_low (show 0 < 1 by decide) (dpL b q q)
      generalize strE.tk 0 (dpL b q q) = V at *
      generalize ofW (dpL b q q) = T at *
      obtain ⟨T, e⟩ := T
      cases e with
      | some e =>
        simp only at hp g1
        simp at hp
        obtain ⟨⟨h8, rfl⟩, hT⟩ := hp
        subst hT
        have h8' : (8 : Int) < q := by omega
        have a1 := fun H => hO.at_ lineTxt' 8 4 H
        have t1 := fun H => hO.tells lineTxt' 8 4 H (by decide)
        simp only [lineTxt', erI_some, castP, errAV, List.map] at g1 a1 t1
        simp [Blk_exit, g1, a1, t1, h8, h8']
      | none =>
        simp only at hp g1
        simp only [Bool.and_eq_true, decide_eq_true_eq, List.all_eq_true, List.mem_range, Bool.not_eq_true'] at hp
        obtain ⟨⟨⟨h8, hsz⟩, hall⟩, hlast⟩ := hp
        have h8' : ¬ (8 : Int) < q := by omega
        have h8b : ¬ 8 < q := by omega
        have hszb : szL T < 4611686018427387904 := by omega
        have c1 := fun H => hO.count T H hszb
        have d1 := fun n H => hO.find T n H hszb
        rw [hsz] at c1
        have hlN := low_mono (Nat.zero_le 1) _ (ndE.av_low0 T)
        simp [Blk_exit, g1, h8b, h8', c1]
        refine LpD.loopN X hG (by kernel_rfl) (DpK T q) q (t' := mkT 116 [(5, .int .i64 (q : Int)), (9, ndE.av T), (11, .int .i64 ((0 : Nat) : Int))]) (H' := []) (Less.mk0 hB (by simp)) ⟨0, by omega, rfl, rfl⟩ ?_
        rintro k t H ⟨i, hik, rfl, rfl⟩
        cases k with
        | succ k =>
          have hi : (i : Int) < q := by omega
          have wi : IntKind.i64.wrap ((i : Int) + 1) = ((i + 1 : Nat) : Int) := by rw [wrap_i64 (by omega) (by omega)]; omega
          have hI : DpK T q k (mkT 116 [(5, .int .i64 (q : Int)), (9, ndE.av T), (11, .int .i64 ((i + 1 : Nat) : Int))]) [] := ⟨i + 1, by omega, rfl, rfl⟩
          obtain ⟨⟨k1, k2⟩, k3⟩ := hall i (by omega)
          have d1 := fun H => d1 (i : Int) H
          generalize findW T (i : Int) = R at *
          obtain ⟨r, x⟩ := R
          simp only at k1 k2 k3 d1
          subst k1
          have eX := ndC_eq x
          simp only [Sx.c, List.cons_append, List.nil_append] at eX
          simp only [eX, k2, k3] at d1
          have w1 : IntKind.i64.wrap (2 * (q : Int)) = 2 * (q : Int) := wrap_i64 (by omega) (by omega)
          have w2 : IntKind.i64.wrap (2 * (q : Int) - 1) = 2 * (q : Int) - 1 := wrap_i64 (by omega) (by omega)
          have w3 : IntKind.i64.wrap (2 * (q : Int) - 1 - (i : Int)) = ((2 * q - 1 - i : Nat) : Int) := by rw [wrap_i64 (by omega) (by omega)]; omega
          simp [hi, wi, d1, w1, w2, w3, -Int.natCast_add]
          exact Nxt.mk k (by omega) (Less.mk0 hB (by simp)) hI
        | zero =>
          obtain rfl : i = q := by omega
          have d1 := fun H => d1 (i : Int) H
          generalize findW T (i : Int) = R at *
          obtain ⟨r, x⟩ := R
          simp only at hlast d1
          subst hlast
          have eX := ndC_eq x
          simp only [Sx.c, List.cons_append, List.nil_append] at eX
          simp only [eX] at d1
          simp [Blk_exit, d1]
end Go.Proofs.YtejjlojfgcgopaaGreatDoor
