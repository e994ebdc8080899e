/- The reference's number. -/
import Derived.Test.YtpmonaempgjgbaaDoorTrB
set_option linter.unusedSimpArgs false
set_option linter.unusedVariables false
namespace Go.Proofs.YtpmonaempgjgbaaDoor
open Go.RowKit Go.Proofs.Fw
set_option maxRecDepth 100000
set_option maxHeartbeats 4000000

noncomputable def cN : Code := bodyOf Tryd.f22
noncomputable def tailN : Code := tailC 2 cN
noncomputable def loopN : Code := fstC tailN
noncomputable def endN : Code := sndC tailN
noncomputable def forN : Code := sndC loopN
noncomputable def bodyN : Code := inC (inC forN)
def numRes (s : List UInt8) : AV := if numOf s < 9223372036854775808 then .tup [.int .i64 (numOf s), .bool true] else .tup [.int .i64 0, .bool false]

def NumI (s : List UInt8) (k : Nat) (t : List AV) (H : AH) : Prop :=
  ∃ i n, i + k = s.length ∧ t = mkT 29 [(0, .str s), (4, .int .u64 ((n : Nat) : Int)), (5, .int .i64 ((i : Nat) : Int))] ∧ H = [] ∧ n = numOf (s.take i) ∧ n < 9223372036854775808
theorem rnum_cs (s : List UInt8) (hd : allDigits s) (hs : s.length < maxS) (H : AH) : CS Tryd.prog envT 22 [.str s] H (numRes s) H := by
  rw [maxS_eq] at hs
  refine CS.tr0 lowT Tryd.func22 (by kernel_rfl) 0 (by simp [Tryd.f22]) (fun B hB hG => ?_) (by unfold numRes; split <;> rfl) rfl H
  refine Tr.pre cxN hG 2 (R := tailN) rfl (by kernel_rfl) (by kernel_rfl) ?_
  rw [Go_of]
  simp [Tryd.f22]
  refine Tr.seqD (a := loopN) (b := endN) (by kernel_rfl) ?_
  refine Tr.pre cxN hG 1 (R := forN) (by kernel_rfl) (by kernel_rfl) (by kernel_rfl) ?_
  rw [Go_of]
  simp [loopN, tailN, cN, Tryd.f22]
  refine Tr.less (t' := mkT 29 [(0, .str s), (4, .int .u64 ((0 : Nat) : Int)), (5, .int .i64 ((0 : Nat) : Int))]) (H' := []) (Less.mk0 hB ?_) ?_
  · simp
  refine Tr.forD (a := bodyN) (id := 0) (by kernel_rfl) (NumI s) s.length ⟨0, 0, by omega, rfl, rfl, rfl, by omega⟩ ?_
  rintro k t H ⟨i, n, hik, rfl, rfl, hn, hlt⟩
  refine Tr.run cxN hG (by kernel_rfl) ?_
  rw [Go_of]
  cases k with
  | zero =>
    obtain rfl : i = s.length := by omega
    rw [List.take_length] at hn
    have w : IntKind.i64.wrap (n : Int) = (n : Int) := wrap_i64 (by omega) (by omega)
    have hr : numRes s = .tup [.int .i64 n, .bool true] := by rw [numRes, if_pos (by omega), hn]
    simp [bodyN, forN, loopN, tailN, cN, Tryd.f22, Blk_exit]
    refine Tr.run cxN hG (by kernel_rfl) ?_
    rw [Go_of]
    simp [endN, tailN, cN, Tryd.f22, w, hr]
  | succ k =>
    have hi : i < s.length := by omega
    have hi' : (i : Int) < s.length := by omega
    have hc := hd s[i] (List.getElem_mem hi)
    have htk : s.take (i + 1) = s.take i ++ [s[i]] := by rw [List.take_add_one, List.getElem?_eq_getElem hi]; rfl
    have hval : numOf (s.take (i + 1)) = 10 * n + (s[i].toNat - 48) := by rw [htk, numOf_snoc, ← hn]
    have hle : numOf (s.take (i + 1)) ≤ numOf s := by
      have := numOf_mono (s.take (i + 1)) (s.drop (i + 1))
      rwa [List.take_append_drop] at this
    obtain ⟨d, hdd⟩ : ∃ d : Nat, d = s[i].toNat - 48 := ⟨_, rfl⟩
    have w1 : IntKind.u8.wrap ((s[i].toNat : Int) - 48) = (d : Int) := by simp [IntKind.wrap, IntKind.bits, IntKind.signed]; omega
    have w2 : IntKind.u64.wrap (d : Int) = (d : Int) := by simp [IntKind.wrap, IntKind.bits, IntKind.signed]; omega
    have w3 : IntKind.u64.wrap (9223372036854775807 - (d : Int)) = 9223372036854775807 - (d : Int) := by simp [IntKind.wrap, IntKind.bits, IntKind.signed]; omega
    obtain ⟨q, hq⟩ : ∃ q : Nat, q = (9223372036854775807 - d) / 10 := ⟨_, rfl⟩
    have w4 : (9223372036854775807 - (d : Int)).tdiv 10 = (q : Int) := by rw [Int.tdiv_eq_ediv_of_nonneg (by omega)]; omega
    have w5 : IntKind.u64.wrap (q : Int) = (q : Int) := by simp [IntKind.wrap, IntKind.bits, IntKind.signed]; omega
    have w9 : IntKind.i64.wrap ((i : Int) + 1) = (i : Int) + 1 := wrap_i64 (by omega) (by omega)
    simp [bodyN, forN, loopN, tailN, cN, Tryd.f22, hi, hi', w1, w2, w3, w4, w5]
    refine GoD_split (fun he => ?_) (fun he => ?_)
    · have hr : numRes s = .tup [.int .i64 0, .bool false] := by rw [numRes, if_neg (by omega)]
      simp [Blk_ret, hr]
    · have w6 : IntKind.u64.wrap (10 * (n : Int)) = 10 * (n : Int) := by simp [IntKind.wrap, IntKind.bits, IntKind.signed]; omega
      have w7 : IntKind.u64.wrap (10 * (n : Int) + (d : Int)) = 10 * (n : Int) + (d : Int) := by simp [IntKind.wrap, IntKind.bits, IntKind.signed]; omega
      simp [w6, w7, w9]
      refine ⟨k, by omega, _, _, Less.mk0 (l' := [(0, .str s), (4, .int .u64 ((10 * n + d : Nat) : Int)), (5, .int .i64 ((i + 1 : Nat) : Int))]) hB ?_, i + 1, 10 * n + d, by omega, rfl, rfl, by omega, by omega⟩
      simp
end Go.Proofs.YtpmonaempgjgbaaDoor
