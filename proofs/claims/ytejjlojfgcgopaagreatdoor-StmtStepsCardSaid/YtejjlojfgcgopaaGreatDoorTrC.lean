/- The reference's small functions on bytes and signs, numbers. The reference's IsKey and number. The reference's number. -/
import Derived.Test.YtejjlojfgcgopaaGreatDoorTkM
set_option linter.unusedSimpArgs false
set_option linter.unusedVariables false
namespace Go.Proofs.YtejjlojfgcgopaaGreatDoor
open Go.RowKit Go.Proofs.Fw
set_option maxRecDepth 100000
set_option maxHeartbeats 4000000
-- 
theorem cxN : Cx oNil Tryz.prog envT := ⟨oNil_sound, methT, mixed⟩

theorem rletter_cs (b : UInt8) (H : AH) : CS Tryz.prog envT 61 [.int .u8 (b.toNat : Int)] H (.bool (isSmall b)) H := by
  refine CS.run0 cxN lowT Tryz.func61 (by kernel_rfl) (by kernel_rfl) 0 (by simp [Tryz.f61]) ?_ rfl rfl H
  by_cases h1 : (97 : Int) ≤ (b.toNat : Int)
  · have h3 : 97 ≤ b.toNat := by omega
    by_cases h2 : (b.toNat : Int) ≤ 122
    · have h4 : b.toNat ≤ 122 := by omega
      simp [Tryz.f61, isSmall, h1, h2, h3, h4]
    · have h4 : ¬ b.toNat ≤ 122 := by omega
      simp [Tryz.f61, isSmall, h1, h2, h3, h4]
  · have h3 : ¬ 97 ≤ b.toNat := by omega
    simp [Tryz.f61, isSmall, h1, h3]
theorem rdigit_cs (b : UInt8) (H : AH) : CS Tryz.prog envT 64 [.int .u8 (b.toNat : Int)] H (.bool (isDigit b)) H := by
  refine CS.run0 cxN lowT Tryz.func64 (by kernel_rfl) (by kernel_rfl) 0 (by simp [Tryz.f64]) ?_ rfl rfl H
  by_cases h1 : (48 : Int) ≤ (b.toNat : Int)
  · have h3 : 48 ≤ b.toNat := by omega
    by_cases h2 : (b.toNat : Int) ≤ 57
    · have h4 : b.toNat ≤ 57 := by omega
      simp [Tryz.f64, isDigit, h1, h2, h3, h4]
    · have h4 : ¬ b.toNat ≤ 57 := by omega
      simp [Tryz.f64, isDigit, h1, h2, h3, h4]
  · have h3 : ¬ 48 ≤ b.toNat := by omega
    simp [Tryz.f64, isDigit, h1, h3]
def oRb : Orc := oTab [(61, callB 61 isSmall), (64, callB 64 isDigit)]
theorem oRb_sound : Sound Tryz.prog envT oRb := oTab_sound fun p hp => by
  simp only [List.mem_cons, List.not_mem_nil, or_false] at hp
  rcases hp with rfl | rfl
  · exact callB_sound rletter_cs
  · exact callB_sound rdigit_cs
theorem oRb_l (b : UInt8) (H : AH) : oRb 61 [.int .u8 (b.toNat : Int)] H = some (.bool (isSmall b), H) := by simp [oRb, oTab, callB_at]
theorem oRb_d (b : UInt8) (H : AH) : oRb 64 [.int .u8 (b.toNat : Int)] H = some (.bool (isDigit b), H) := by simp [oRb, oTab, callB_at]
theorem rbehind_cs (b : UInt8) (H : AH) : CS Tryz.prog envT 62 [.int .u8 (b.toNat : Int)] H (.bool (isInner b)) H := by
  refine CS.run0 ⟨oRb_sound, methT, mixed⟩ lowT Tryz.func62 (by kernel_rfl) (by kernel_rfl) 0 (by simp [Tryz.f62]) ?_ rfl rfl H
  cases h1 : isSmall b
  · cases h2 : isDigit b
    · simp [Tryz.f62, isInner, h1, h2, oRb_l, oRb_d]
      rw [Bool.eq_iff_iff]
      simp only [beq_iff_eq]
      omega
    · simp [Tryz.f62, isInner, h1, h2, oRb_l, oRb_d]
  · simp [Tryz.f62, isInner, h1, oRb_l]

/-- A told Wrong of one part. -/
def wrongAV (w : List UInt8) (p e : Int) : AV := .agg [.slice .unk 2 1 [.str w, .int .i64 p], .int .i64 e]
theorem rat_cs (w : List UInt8) (p e : Int) (H : AH) : CS Tryz.prog envT 24 [.str w, .int .i64 p, .int .i64 e] H (.agg [.slice .full 2 1 [.str w, .int .i64 p], .int .i64 e]) H := by
  have b1 : abuild Tryz.prog 158 [(0, .str w), (1, .int .i64 p)] = some (.agg [.str w, .int .i64 p]) := by kernel_rfl
  have b2 : abuildSlice Tryz.prog 55 1 [(0, .agg [.str w, .int .i64 p])] = some (.slice .full 2 1 [.str w, .int .i64 p]) := by kernel_rfl
  have b3 : abuild Tryz.prog 57 [(0, .slice .full 2 1 [.str w, .int .i64 p]), (1, .int .i64 e)] = some (.agg [.slice .full 2 1 [.str w, .int .i64 p], .int .i64 e]) := by kernel_rfl
  refine CS.run0 cxN lowT Tryz.func24 (by kernel_rfl) (by kernel_rfl) 0 (by simp [Tryz.f24]) ?_ rfl rfl H
  simp [Tryz.f24, b1, b2, b3]


/-- The signs. -/
theorem rsign_cs (s : List UInt8) (i : Nat) (hi : i < s.length) (hs : s.length < maxS) (H : AH) : CS Tryz.prog envT 66 [.str s, .int .i64 i] H (.int .i64 (signLen (s.drop i))) H := by
  rw [maxS_eq] at hs
  refine CS.run0 cxN lowT Tryz.func66 (by kernel_rfl) (by kernel_rfl) 0 (by simp [Tryz.f66]) ?_ rfl rfl H
  have hd : s.drop i = s[i] :: s.drop (i + 1) := List.drop_eq_getElem_cons hi
  have w : IntKind.i64.wrap ((i : Int) + 1) = (i : Int) + 1 := wrap_i64 (by omega) (by omega)
  have ht : ((i : Int) + 1).toNat = i + 1 := by omega
  have h00 : (0 : Int) ≤ (i : Int) + 1 := by omega
  rw [hd]
  generalize hc : s[i] = c
  by_cases h : c.toNat = 60 ∨ c.toNat = 62 ∨ c.toNat = 61 ∨ c.toNat = 47 ∨ c.toNat = 43 ∨ c.toNat = 45 ∨ c.toNat = 42 ∨ c.toNat = 40 ∨ c.toNat = 41 ∨ c.toNat = 44
  · by_cases hl : i + 1 < s.length
    · have hl' : (i : Int) + 1 < s.length := by omega
      have hd2 : s.drop (i + 1) = s[i + 1] :: s.drop (i + 1 + 1) := List.drop_eq_getElem_cons hl
      rw [hd2]
      generalize hd : s[i + 1] = d
      by_cases he : d.toNat = 61
      · rcases h with h | h | h | h | h | h | h | h | h | h <;>
          simp [Tryz.f66, signLen, h, hc, hd, he, hl, hl', w, ht, h00, hi]
      · have he' : ¬ (d.toNat : Int) = 61 := by omega
        rcases h with h | h | h | h | h | h | h | h | h | h <;>
          simp [Tryz.f66, signLen, h, hc, hd, he, he', hl, hl', w, ht, h00, hi]
    · have hl' : ¬ (i : Int) + 1 < s.length := by omega
      have hd2 : s.drop (i + 1) = [] := List.drop_of_length_le (by omega)
      rw [hd2]
      rcases h with h | h | h | h | h | h | h | h | h | h <;>
        simp [Tryz.f66, signLen, h, hc, hl, hl', w, ht, h00, hi]
  · simp only [not_or] at h
    obtain ⟨a0, a1, a2, a3, a4, a5, a6, a7, a8, a9⟩ := h
    have b0 : ¬ (c.toNat : Int) = 60 := by omega
    have b1 : ¬ (c.toNat : Int) = 62 := by omega
    have b2 : ¬ (c.toNat : Int) = 61 := by omega
    have b3 : ¬ (c.toNat : Int) = 47 := by omega
    have b4 : ¬ (c.toNat : Int) = 43 := by omega
    have b5 : ¬ (c.toNat : Int) = 45 := by omega
    have b6 : ¬ (c.toNat : Int) = 42 := by omega
    have b7 : ¬ (c.toNat : Int) = 40 := by omega
    have b8 : ¬ (c.toNat : Int) = 41 := by omega
    have b9 : ¬ (c.toNat : Int) = 44 := by omega
    by_cases hl : i + 1 < s.length
    · have hl' : (i : Int) + 1 < s.length := by omega
      simp [Tryz.f66, signLen, hc, hl, hl', w, ht, h00, hi, a0, a1, a2, a3, a4, a5, a6, a7, a8, a9, b0, b1, b2, b3, b4, b5, b6, b7, b8, b9]
    · have hl' : ¬ (i : Int) + 1 < s.length := by omega
      simp [Tryz.f66, signLen, hc, hl, hl', w, ht, h00, hi, a0, a1, a2, a3, a4, a5, a6, a7, a8, a9, b0, b1, b2, b3, b4, b5, b6, b7, b8, b9]
end Go.Proofs.YtejjlojfgcgopaaGreatDoor

namespace Go.Proofs.YtejjlojfgcgopaaGreatDoor
open Go.RowKit Go.Proofs.Fw
set_option maxRecDepth 100000
set_option maxHeartbeats 4000000

noncomputable def cK : Code := bodyOf Tryz.f63
noncomputable def tailK : Code := tailC 2 cK
noncomputable def loopK : Code := fstC tailK
noncomputable def endK : Code := sndC tailK
noncomputable def forK : Code := sndC loopK
noncomputable def bodyK : Code := inC (inC forK)
def keysF : AV := .slice .full 1 8 (keysL.map .str)

theorem rkey_cs (s : List UInt8) (H : AH) : CS Tryz.prog envT 63 [.str s] H (.bool (isKey s)) H := by
  have bs : abuildSlice Tryz.prog 23 8 [(0, .str [105,110,116,101,103,101,114]), (1, .str [100,111]), (2, .str [101,110,100]), (3, .str [105,102]), (4, .str [116,104,101,110]), (5, .str [101,108,115,101]), (6, .str [114,101,97,100]), (7, .str [112,114,105,110,116])] = some keysF := by kernel_rfl
  refine CS.tr0 lowT Tryz.func63 (by kernel_rfl) 0 (by simp [Tryz.f63]) (fun B hB hG => ?_) rfl rfl H
  refine Tr.pre cxN hG 2 (R := tailK) rfl (by kernel_rfl) (by kernel_rfl) ?_
  rw [Go_of]
  simp [Tryz.f63, bs]
  refine Tr.seqD (a := loopK) (b := endK) (by kernel_rfl) ?_
  refine Tr.pre cxN hG 1 (R := forK) (by kernel_rfl) (by kernel_rfl) (by kernel_rfl) ?_
  rw [Go_of]
  simp [loopK, tailK, cK, Tryz.f63]
  refine Tr.less (t' := mkT 18 [(0, .str s), (3, keysF), (4, .int .i64 ((0 : Nat) : Int))]) (H' := []) (Less.mk0 hB ?_) ?_
  · simp [keysF, keysL]
  refine Tr.forD (a := bodyK) (id := 0) (by kernel_rfl) (fun k t H => ∃ i, i + k = 8 ∧ t = mkT 18 [(0, .str s), (3, keysF), (4, .int .i64 ((i : Nat) : Int))] ∧ H = [] ∧ ∀ j < i, keysL[j]? ≠ some s) 8 ⟨0, rfl, rfl, rfl, by simp⟩ ?_
  rintro k t H ⟨i, hik, rfl, rfl, hI⟩
  refine Tr.run cxN hG (by kernel_rfl) ?_
  rw [Go_of]
  cases k with
  | zero =>
    obtain rfl : i = 8 := by omega
    have hno : isKey s = false := by
      unfold isKey
      rw [← Bool.not_eq_true, List.contains_iff_mem]
      intro hm
      obtain ⟨j, hj⟩ := List.mem_iff_getElem?.1 hm
      have : j < 8 := (List.getElem?_eq_some_iff.1 hj).1
      exact hI j this hj
    simp [bodyK, forK, loopK, tailK, cK, Tryz.f63, keysF, Blk_exit]
    refine Tr.run cxN hG (by kernel_rfl) ?_
    rw [Go_of]
    simp [endK, tailK, cK, Tryz.f63, hno]
  | succ k =>
    have h8 : keysL.length = 8 := rfl
    obtain ⟨x, hx⟩ : ∃ x, keysL[i]? = some x := ⟨_, List.getElem?_eq_getElem (by omega)⟩
    have hi : (i : Int) < 8 := by omega
    have w : IntKind.i64.wrap ((i : Int) + 1) = (i : Int) + 1 := wrap_i64 (by omega) (by omega)
    simp [bodyK, forK, loopK, tailK, cK, Tryz.f63, keysF, hi, hx]
    refine GoD_split (fun he => ?_) (fun he => ?_)
    · subst he
      have hyes : isKey x = true := by
        unfold isKey
        rw [List.contains_iff_mem]
        exact List.mem_of_getElem? hx
      simp [Blk_ret, hyes]
    · simp [w]
      refine ⟨k, by omega, _, _, Less.mk0 (l' := [(0, .str s), (3, keysF), (4, .int .i64 ((i + 1 : Nat) : Int))]) hB ?_, i + 1, by omega, rfl, rfl, fun j hj => ?_⟩
      · simp [keysF, keysL]
      · rcases Nat.lt_or_ge j i with h | h
        · exact hI j h
        · obtain rfl : j = i := by omega
          rw [hx]
          intro h
          injection h with h
          exact he h
end Go.Proofs.YtejjlojfgcgopaaGreatDoor

namespace Go.Proofs.YtejjlojfgcgopaaGreatDoor
open Go.RowKit Go.Proofs.Fw
set_option maxRecDepth 100000
set_option maxHeartbeats 4000000

noncomputable def cN : Code := bodyOf Tryz.f65
noncomputable def tailN : Code := tailC 2 cN
noncomputable def loopN : Code := fstC tailN
noncomputable def endN : Code := sndC tailN
noncomputable def forN : Code := sndC loopN
noncomputable def bodyN : Code := inC (inC forN)
def numRes (s : List UInt8) : AV := if numOf s < 9223372036854775808 then .tup [.int .i64 (numOf s), .bool true] else .tup [.int .i64 0, .bool false]

def NumI (s : List UInt8) (k : Nat) (t : List AV) (H : AH) : Prop :=
  ∃ i n, i + k = s.length ∧ t = mkT 29 [(0, .str s), (4, .int .u64 ((n : Nat) : Int)), (5, .int .i64 ((i : Nat) : Int))] ∧ H = [] ∧ n = numOf (s.take i) ∧ n < 9223372036854775808
theorem rnum_cs (s : List UInt8) (hd : allDigits s) (hs : s.length < maxS) (H : AH) : CS Tryz.prog envT 65 [.str s] H (numRes s) H := by
  rw [maxS_eq] at hs
  refine CS.tr0 lowT Tryz.func65 (by kernel_rfl) 0 (by simp [Tryz.f65]) (fun B hB hG => ?_) (by unfold numRes; split <;> rfl) rfl H
  refine Tr.pre cxN hG 2 (R := tailN) rfl (by kernel_rfl) (by kernel_rfl) ?_
  rw [Go_of]
  simp [Tryz.f65]
  refine Tr.seqD (a := loopN) (b := endN) (by kernel_rfl) ?_
  refine Tr.pre cxN hG 1 (R := forN) (by kernel_rfl) (by kernel_rfl) (by kernel_rfl) ?_
  rw [Go_of]
  simp [loopN, tailN, cN, Tryz.f65]
  refine Tr.less (t' := mkT 29 [(0, .str s), (4, .int .u64 ((0 : Nat) : Int)), (5, .int .i64 ((0 : Nat) : Int))]) (H' := []) (Less.mk0 hB ?_) ?_
  · simp
  refine Tr.forD (a := bodyN) (id := 0) (by kernel_rfl) (NumI s) s.length ⟨0, 0, by omega, rfl, rfl, rfl, by omega⟩ ?_
  rintro k t H ⟨i, n, hik, rfl, rfl, hn, hlt⟩
  refine Tr.run cxN hG (by kernel_rfl) ?_
  rw [Go_of]
  cases k with
  | zero =>
    obtain rfl : i = s.length := by omega
    rw [List.take_length] at hn
    have w : IntKind.i64.wrap (n : Int) = (n : Int) := wrap_i64 (by omega) (by omega)
    have hr : numRes s = .tup [.int .i64 n, .bool true] := by rw [numRes, if_pos (by omega), hn]
    simp [bodyN, forN, loopN, tailN, cN, Tryz.f65, Blk_exit]
    refine Tr.run cxN hG (by kernel_rfl) ?_
    rw [Go_of]
    simp [endN, tailN, cN, Tryz.f65, w, hr]
  | succ k =>
    have hi : i < s.length := by omega
    have hi' : (i : Int) < s.length := by omega
    have hc := hd s[i] (List.getElem_mem hi)
    have htk : s.take (i + 1) = s.take i ++ [s[i]] := by rw [List.take_add_one, List.getElem?_eq_getElem hi]; rfl
    have hval : numOf (s.take (i + 1)) = 10 * n + (s[i].toNat - 48) := by rw [htk, numOf_snoc, ← hn]
    have hle : numOf (s.take (i + 1)) ≤ numOf s := by
      have := numOf_mono (s.take (i + 1)) (s.drop (i + 1))
      rwa [List.take_append_drop] at this
    obtain ⟨d, hdd⟩ : ∃ d : Nat, d = s[i].toNat - 48 := ⟨_, rfl⟩
    have w1 : IntKind.u8.wrap ((s[i].toNat : Int) - 48) = (d : Int) := by simp [IntKind.wrap, IntKind.bits, IntKind.signed]; omega
    have w2 : IntKind.u64.wrap (d : Int) = (d : Int) := by simp [IntKind.wrap, IntKind.bits, IntKind.signed]; omega
    have w3 : IntKind.u64.wrap (9223372036854775807 - (d : Int)) = 9223372036854775807 - (d : Int) := by simp [IntKind.wrap, IntKind.bits, IntKind.signed]; omega
    obtain ⟨q, hq⟩ : ∃ q : Nat, q = (9223372036854775807 - d) / 10 := ⟨_, rfl⟩
    have w4 : (9223372036854775807 - (d : Int)).tdiv 10 = (q : Int) := by rw [Int.tdiv_eq_ediv_of_nonneg (by omega)]; omega
    have w5 : IntKind.u64.wrap (q : Int) = (q : Int) := by simp [IntKind.wrap, IntKind.bits, IntKind.signed]; omega
    have w9 : IntKind.i64.wrap ((i : Int) + 1) = (i : Int) + 1 := wrap_i64 (by omega) (by omega)
    simp [bodyN, forN, loopN, tailN, cN, Tryz.f65, hi, hi', w1, w2, w3, w4, w5]
    refine GoD_split (fun he => ?_) (fun he => ?_)
    · have hr : numRes s = .tup [.int .i64 0, .bool false] := by rw [numRes, if_neg (by omega)]
      simp [Blk_ret, hr]
    · have w6 : IntKind.u64.wrap (10 * (n : Int)) = 10 * (n : Int) := by simp [IntKind.wrap, IntKind.bits, IntKind.signed]; omega
      have w7 : IntKind.u64.wrap (10 * (n : Int) + (d : Int)) = 10 * (n : Int) + (d : Int) := by simp [IntKind.wrap, IntKind.bits, IntKind.signed]; omega
      simp [w6, w7, w9]
      refine ⟨k, by omega, _, _, Less.mk0 (l' := [(0, .str s), (4, .int .u64 ((10 * n + d : Nat) : Int)), (5, .int .i64 ((i + 1 : Nat) : Int))]) hB ?_, i + 1, 10 * n + d, by omega, rfl, rfl, by omega, by omega⟩
      simp
end Go.Proofs.YtejjlojfgcgopaaGreatDoor
