/- The reference's small functions on bytes and signs, numbers. -/
import Derived.Test.YtpmonaempgjgbaaDoorTkL
set_option linter.unusedSimpArgs false
set_option linter.unusedVariables false
namespace Go.Proofs.YtpmonaempgjgbaaDoor
open Go.RowKit Go.Proofs.Fw
set_option maxRecDepth 100000
set_option maxHeartbeats 4000000
-- 
theorem cxN : Cx oNil Tryd.prog envT := ⟨oNil_sound, methT, mixed⟩

theorem rletter_cs (b : UInt8) (H : AH) : CS Tryd.prog envT 18 [.int .u8 (b.toNat : Int)] H (.bool (isSmall b)) H := by
  refine CS.run0 cxN lowT Tryd.func18 (by kernel_rfl) (by kernel_rfl) 0 (by simp [Tryd.f18]) ?_ rfl rfl H
  by_cases h1 : (97 : Int) ≤ (b.toNat : Int)
  · have h3 : 97 ≤ b.toNat := by omega
    by_cases h2 : (b.toNat : Int) ≤ 122
    · have h4 : b.toNat ≤ 122 := by omega
      simp [Tryd.f18, isSmall, h1, h2, h3, h4]
    · have h4 : ¬ b.toNat ≤ 122 := by omega
      simp [Tryd.f18, isSmall, h1, h2, h3, h4]
  · have h3 : ¬ 97 ≤ b.toNat := by omega
    simp [Tryd.f18, isSmall, h1, h3]
theorem rdigit_cs (b : UInt8) (H : AH) : CS Tryd.prog envT 21 [.int .u8 (b.toNat : Int)] H (.bool (isDigit b)) H := by
  refine CS.run0 cxN lowT Tryd.func21 (by kernel_rfl) (by kernel_rfl) 0 (by simp [Tryd.f21]) ?_ rfl rfl H
  by_cases h1 : (48 : Int) ≤ (b.toNat : Int)
  · have h3 : 48 ≤ b.toNat := by omega
    by_cases h2 : (b.toNat : Int) ≤ 57
    · have h4 : b.toNat ≤ 57 := by omega
      simp [Tryd.f21, isDigit, h1, h2, h3, h4]
    · have h4 : ¬ b.toNat ≤ 57 := by omega
      simp [Tryd.f21, isDigit, h1, h2, h3, h4]
  · have h3 : ¬ 48 ≤ b.toNat := by omega
    simp [Tryd.f21, isDigit, h1, h3]
def oRb : Orc := oTab [(18, callB 18 isSmall), (21, callB 21 isDigit)]
theorem oRb_sound : Sound Tryd.prog envT oRb := oTab_sound fun p hp => by
  simp only [List.mem_cons, List.not_mem_nil, or_false] at hp
  rcases hp with rfl | rfl
  · exact callB_sound rletter_cs
  · exact callB_sound rdigit_cs
theorem oRb_l (b : UInt8) (H : AH) : oRb 18 [.int .u8 (b.toNat : Int)] H = some (.bool (isSmall b), H) := by simp [oRb, oTab, callB_at]
theorem oRb_d (b : UInt8) (H : AH) : oRb 21 [.int .u8 (b.toNat : Int)] H = some (.bool (isDigit b), H) := by simp [oRb, oTab, callB_at]
theorem rbehind_cs (b : UInt8) (H : AH) : CS Tryd.prog envT 19 [.int .u8 (b.toNat : Int)] H (.bool (isInner b)) H := by
  refine CS.run0 ⟨oRb_sound, methT, mixed⟩ lowT Tryd.func19 (by kernel_rfl) (by kernel_rfl) 0 (by simp [Tryd.f19]) ?_ rfl rfl H
  cases h1 : isSmall b
  · cases h2 : isDigit b
    · simp [Tryd.f19, isInner, h1, h2, oRb_l, oRb_d]
      rw [Bool.eq_iff_iff]
      simp only [beq_iff_eq]
      omega
    · simp [Tryd.f19, isInner, h1, h2, oRb_l, oRb_d]
  · simp [Tryd.f19, isInner, h1, oRb_l]

/-- A told Wrong of one part. -/
def wrongAV (w : List UInt8) (p e : Int) : AV := .agg [.slice .unk 2 1 [.str w, .int .i64 p], .int .i64 e]
theorem rat_cs (w : List UInt8) (p e : Int) (H : AH) : CS Tryd.prog envT 13 [.str w, .int .i64 p, .int .i64 e] H (.agg [.slice .full 2 1 [.str w, .int .i64 p], .int .i64 e]) H := by
  have b1 : abuild Tryd.prog 64 [(0, .str w), (1, .int .i64 p)] = some (.agg [.str w, .int .i64 p]) := by kernel_rfl
  have b2 : abuildSlice Tryd.prog 27 1 [(0, .agg [.str w, .int .i64 p])] = some (.slice .full 2 1 [.str w, .int .i64 p]) := by kernel_rfl
  have b3 : abuild Tryd.prog 29 [(0, .slice .full 2 1 [.str w, .int .i64 p]), (1, .int .i64 e)] = some (.agg [.slice .full 2 1 [.str w, .int .i64 p], .int .i64 e]) := by kernel_rfl
  refine CS.run0 cxN lowT Tryd.func13 (by kernel_rfl) (by kernel_rfl) 0 (by simp [Tryd.f13]) ?_ rfl rfl H
  simp [Tryd.f13, b1, b2, b3]


/-- The signs. -/
theorem rsign_cs (s : List UInt8) (i : Nat) (hi : i < s.length) (hs : s.length < maxS) (H : AH) : CS Tryd.prog envT 23 [.str s, .int .i64 i] H (.int .i64 (signLen (s.drop i))) H := by
  rw [maxS_eq] at hs
  refine CS.run0 cxN lowT Tryd.func23 (by kernel_rfl) (by kernel_rfl) 0 (by simp [Tryd.f23]) ?_ rfl rfl H
  have hd : s.drop i = s[i] :: s.drop (i + 1) := List.drop_eq_getElem_cons hi
  have w : IntKind.i64.wrap ((i : Int) + 1) = (i : Int) + 1 := wrap_i64 (by omega) (by omega)
  have ht : ((i : Int) + 1).toNat = i + 1 := by omega
  have h00 : (0 : Int) ≤ (i : Int) + 1 := by omega
  rw [hd]
  generalize hc : s[i] = c
  by_cases h : c.toNat = 60 ∨ c.toNat = 62 ∨ c.toNat = 61 ∨ c.toNat = 47 ∨ c.toNat = 43 ∨ c.toNat = 45 ∨ c.toNat = 42 ∨ c.toNat = 40 ∨ c.toNat = 41 ∨ c.toNat = 44
  · by_cases hl : i + 1 < s.length
    · have hl' : (i : Int) + 1 < s.length := by omega
      have hd2 : s.drop (i + 1) = s[i + 1] :: s.drop (i + 1 + 1) := List.drop_eq_getElem_cons hl
      rw [hd2]
      generalize hd : s[i + 1] = d
      by_cases he : d.toNat = 61
      · rcases h with h | h | h | h | h | h | h | h | h | h <;>
          simp [Tryd.f23, signLen, h, hc, hd, he, hl, hl', w, ht, h00, hi]
      · have he' : ¬ (d.toNat : Int) = 61 := by omega
        rcases h with h | h | h | h | h | h | h | h | h | h <;>
          simp [Tryd.f23, signLen, h, hc, hd, he, he', hl, hl', w, ht, h00, hi]
    · have hl' : ¬ (i : Int) + 1 < s.length := by omega
      have hd2 : s.drop (i + 1) = [] := List.drop_of_length_le (by omega)
      rw [hd2]
      rcases h with h | h | h | h | h | h | h | h | h | h <;>
        simp [Tryd.f23, signLen, h, hc, hl, hl', w, ht, h00, hi]
  · simp only [not_or] at h
    obtain ⟨a0, a1, a2, a3, a4, a5, a6, a7, a8, a9⟩ := h
    have b0 : ¬ (c.toNat : Int) = 60 := by omega
    have b1 : ¬ (c.toNat : Int) = 62 := by omega
    have b2 : ¬ (c.toNat : Int) = 61 := by omega
    have b3 : ¬ (c.toNat : Int) = 47 := by omega
    have b4 : ¬ (c.toNat : Int) = 43 := by omega
    have b5 : ¬ (c.toNat : Int) = 45 := by omega
    have b6 : ¬ (c.toNat : Int) = 42 := by omega
    have b7 : ¬ (c.toNat : Int) = 40 := by omega
    have b8 : ¬ (c.toNat : Int) = 41 := by omega
    have b9 : ¬ (c.toNat : Int) = 44 := by omega
    by_cases hl : i + 1 < s.length
    · have hl' : (i : Int) + 1 < s.length := by omega
      simp [Tryd.f23, signLen, hc, hl, hl', w, ht, h00, hi, a0, a1, a2, a3, a4, a5, a6, a7, a8, a9, b0, b1, b2, b3, b4, b5, b6, b7, b8, b9]
    · have hl' : ¬ (i : Int) + 1 < s.length := by omega
      simp [Tryd.f23, signLen, hc, hl, hl', w, ht, h00, hi, a0, a1, a2, a3, a4, a5, a6, a7, a8, a9, b0, b1, b2, b3, b4, b5, b6, b7, b8, b9]
end Go.Proofs.YtpmonaempgjgbaaDoor
