/- The reference's IsKey and number. -/
import Derived.Test.YtpmonaempgjgbaaDoorTrA
set_option linter.unusedSimpArgs false
set_option linter.unusedVariables false
namespace Go.Proofs.YtpmonaempgjgbaaDoor
open Go.RowKit Go.Proofs.Fw
set_option maxRecDepth 100000
set_option maxHeartbeats 4000000

noncomputable def cK : Code := bodyOf Tryd.f20
noncomputable def tailK : Code := tailC 2 cK
noncomputable def loopK : Code := fstC tailK
noncomputable def endK : Code := sndC tailK
noncomputable def forK : Code := sndC loopK
noncomputable def bodyK : Code := inC (inC forK)
def keysF : AV := .slice .full 1 8 (keysL.map .str)

theorem rkey_cs (s : List UInt8) (H : AH) : CS Tryd.prog envT 20 [.str s] H (.bool (isKey s)) H := by
  have bs : abuildSlice Tryd.prog 32 8 [(0, .str [105,110,116,101,103,101,114]), (1, .str [100,111]), (2, .str [101,110,100]), (3, .str [105,102]), (4, .str [116,104,101,110]), (5, .str [101,108,115,101]), (6, .str [114,101,97,100]), (7, .str [112,114,105,110,116])] = some keysF := by kernel_rfl
  refine CS.tr0 lowT Tryd.func20 (by kernel_rfl) 0 (by simp [Tryd.f20]) (fun B hB hG => ?_) rfl rfl H
  refine Tr.pre cxN hG 2 (R := tailK) rfl (by kernel_rfl) (by kernel_rfl) ?_
  rw [Go_of]
  simp [Tryd.f20, bs]
  refine Tr.seqD (a := loopK) (b := endK) (by kernel_rfl) ?_
  refine Tr.pre cxN hG 1 (R := forK) (by kernel_rfl) (by kernel_rfl) (by kernel_rfl) ?_
  rw [Go_of]
  simp [loopK, tailK, cK, Tryd.f20]
  refine Tr.less (t' := mkT 18 [(0, .str s), (3, keysF), (4, .int .i64 ((0 : Nat) : Int))]) (H' := []) (Less.mk0 hB ?_) ?_
  · simp [keysF, keysL]
  refine Tr.forD (a := bodyK) (id := 0) (by kernel_rfl) (fun k t H => ∃ i, i + k = 8 ∧ t = mkT 18 [(0, .str s), (3, keysF), (4, .int .i64 ((i : Nat) : Int))] ∧ H = [] ∧ ∀ j < i, keysL[j]? ≠ some s) 8 ⟨0, rfl, rfl, rfl, by simp⟩ ?_
  rintro k t H ⟨i, hik, rfl, rfl, hI⟩
  refine Tr.run cxN hG (by kernel_rfl) ?_
  rw [Go_of]
  cases k with
  | zero =>
    obtain rfl : i = 8 := by omega
    have hno : isKey s = false := by
      unfold isKey
      rw [← Bool.not_eq_true, List.contains_iff_mem]
      intro hm
      obtain ⟨j, hj⟩ := List.mem_iff_getElem?.1 hm
      have : j < 8 := (List.getElem?_eq_some_iff.1 hj).1
      exact hI j this hj
    simp [bodyK, forK, loopK, tailK, cK, Tryd.f20, keysF, Blk_exit]
    refine Tr.run cxN hG (by kernel_rfl) ?_
    rw [Go_of]
    simp [endK, tailK, cK, Tryd.f20, hno]
  | succ k =>
    have h8 : keysL.length = 8 := rfl
    obtain ⟨x, hx⟩ : ∃ x, keysL[i]? = some x := ⟨_, List.getElem?_eq_getElem (by omega)⟩
    have hi : (i : Int) < 8 := by omega
    have w : IntKind.i64.wrap ((i : Int) + 1) = (i : Int) + 1 := wrap_i64 (by omega) (by omega)
    simp [bodyK, forK, loopK, tailK, cK, Tryd.f20, keysF, hi, hx]
    refine GoD_split (fun he => ?_) (fun he => ?_)
    · subst he
      have hyes : isKey x = true := by
        unfold isKey
        rw [List.contains_iff_mem]
        exact List.mem_of_getElem? hx
      simp [Blk_ret, hyes]
    · simp [w]
      refine ⟨k, by omega, _, _, Less.mk0 (l' := [(0, .str s), (3, keysF), (4, .int .i64 ((i + 1 : Nat) : Int))]) hB ?_, i + 1, by omega, rfl, rfl, fun j hj => ?_⟩
      · simp [keysF, keysL]
      · rcases Nat.lt_or_ge j i with h | h
        · exact hI j h
        · obtain rfl : j = i := by omega
          rw [hx]
          intro h
          injection h with h
          exact he h
end Go.Proofs.YtpmonaempgjgbaaDoor
