/- TokNumbers: what the law's text returns. -/
import Derived.Test.YtpmonaempgjgbaaDoorTnE
import Derived.Test.YtpmonaempgjgbaaDoorTnF
import Derived.Test.YtpmonaempgjgbaaDoorTrH
set_option linter.unusedSimpArgs false
set_option linter.unusedVariables false
namespace Go.Proofs.YtpmonaempgjgbaaDoor
open Go.RowKit Go.Proofs.Fw
set_option maxRecDepth 100000
set_option maxHeartbeats 4000000
-- 

open Classical in
noncomputable def oTell : Orc := fun f a H =>
  if f = 12 ∧ a = [errAV [(wordTxt, 0)] 5, .agg [.slice .full 2 1 [.str wordTxt, .int .i64 0], .int .i64 5]] then some (.bool true, H) else none
theorem oTell_sound : Sound Tryd.prog envN oTell := by
  intro f a H v H' h
  unfold oTell at h
  split at h
  · rename_i hf
    obtain ⟨rfl, rfl⟩ := hf
    injection h with h
    simp only [Prod.mk.injEq] at h
    obtain ⟨rfl, rfl⟩ := h
    exact ⟨tells_cs [(wordTxt, 0)] 5 (by decide) (by simp) .full (.inr rfl) H, Nat.le_refl _, fun _ _ hj => hj⟩
  · cases h
def oNb0 : Orc := oTab [(7, oKnown), (13, oRat), (11, oLine)]
noncomputable def oNb : Orc := orElse oNb0 oTell
theorem oNb_cx : Cx oNb Tryd.prog envN := ⟨Sound.orElse (Sound.toN (oTab_sound fun p hp => by
  simp only [List.mem_cons, List.not_mem_nil, or_false] at hp
  rcases hp with rfl | rfl | rfl
  · exact oKnown_sound
  · exact oRat_sound
  · exact oLine_sound)) oTell_sound, methNOk, mixed⟩

theorem oNb_line {T : List UInt8} (hT : T.length < maxS) (H : AH) : oNb 11 [.str T] H = some (lineAV (lex (T.length + 1) T 0 false), H) := by
  simp [oNb, orElse, oNb0, oTab, oLine, oPure, hT]
theorem oNb_at (w : List UInt8) (p e : Int) (H : AH) : oNb 13 [.str w, .int .i64 p, .int .i64 e] H = some (.agg [.slice .full 2 1 [.str w, .int .i64 p], .int .i64 e], H) := by
  simp [oNb, orElse, oNb0, oTab, oRat, oPure]
theorem oNb_tells (H : AH) : oNb 12 [errAV [(wordTxt, 0)] 5, .agg [.slice .full 2 1 [.str wordTxt, .int .i64 0], .int .i64 5]] H = some (.bool true, H) := by
  simp [oNb, orElse, oNb0, oTab, oTell]
theorem bsNb (z : Int) : abuildSlice Tryd.prog 25 1 [(0, .int .u8 z)] = some (.slice .full 1 1 [.int .u8 z]) := by kernel_rfl

def TnI (nv qv : AV) (q : Nat) (k : Nat) (t : List AV) (H : AH) : Prop :=
  ∃ i, i + k = q ∧ t = mkT 82 [(0, nv), (1, qv), (5, .str (List.replicate i 48)), (6, .int .i64 ((i : Nat) : Int))] ∧ H = []
def TnJ (nv : AV) (n q : Nat) (k : Nat) (t : List AV) (H : AH) : Prop :=
  ∃ d : List UInt8, k * 10 ^ d.length + numOf d = n ∧ (∀ b ∈ d, isDigit b = true) ∧ (d = [] → k = n) ∧ d.length ≤ 20 ∧ t = mkT 82 [(0, nv), (5, .str (List.replicate q 48)), (7, .str d), (8, .int .u64 ((k : Nat) : Int))] ∧ H = []

theorem numbersLaw_cs (n q : Nat) (hn : n < 18446744073709551616) (hq : q < 256) : CS Tryd.prog envN 6 [.int .u64 (n : Int), .int .u8 (q : Int)] [] (.bool true) [] := by
  refine CS.tr0 lowN Tryd.func6 (by kernel_rfl) 0 (by simp [Tryd.f6]) (fun B hB hG => ?_) rfl (by simp) []
  refine Tr.go oNb_cx hG (by kernel_rfl) ?_
  have h7 : ∀ H, oNb 7 [] H = some (.bool true, H) := fun H => by simp [oNb, orElse, oNb0, oTab, oKnown, call0]
  simp [Tryd.f6, h7]
  obtain ⟨m, hm⟩ : ∃ m : Nat, m = q % 5 := ⟨_, rfl⟩
  have hm5 : m < 5 := by omega
  have g1 : ((q : Nat) : Int).tmod 5 = (m : Int) := by rw [Int.tmod_eq_emod_of_nonneg (by omega)]; omega
  have g2 : IntKind.i64.wrap (m : Int) = (m : Int) := wrap_i64 (by omega) (by omega)
  refine LpT.loopN oNb_cx hG (by kernel_rfl) (TnI (.int .u64 (n : Int)) (.int .u8 (q : Int)) m) m (t' := mkT 82 [(0, .int .u64 (n : Int)), (1, .int .u8 (q : Int)), (5, .str (List.replicate 0 48)), (6, .int .i64 ((0 : Nat) : Int))]) (H' := []) (Less.mk0 hB (by simp)) ⟨0, by omega, rfl, rfl⟩ ?_
  rintro k t H ⟨i, hik, rfl, rfl⟩
  cases k with
  | succ k =>
    have e1 : (i : Int) < (m : Int) := by omega
    have w1 : IntKind.i64.wrap ((i : Int) + 1) = (i : Int) + 1 := wrap_i64 (by omega) (by omega)
    have f1 : i + 1 ≤ 9223372036854775807 := by omega
    simp [g1, g2, e1, w1, f1]
    exact Nxt.mk k (by omega) (Less.mk0 (l' := [(0, .int .u64 (n : Int)), (1, .int .u8 (q : Int)), (5, .str (List.replicate (i + 1) 48)), (6, .int .i64 ((i + 1 : Nat) : Int))]) hB (by simp [List.replicate_succ'])) ⟨i + 1, by omega, rfl, rfl⟩
  | zero =>
    obtain rfl : i = m := by omega
    simp [g1, g2, Blk_exit]
    refine LpT.loopN oNb_cx hG (by kernel_rfl) (TnJ (.int .u64 (n : Int)) n i) n (t' := mkT 82 [(0, .int .u64 (n : Int)), (5, .str (List.replicate i 48)), (7, .str []), (8, .int .u64 ((n : Nat) : Int))]) (H' := []) (Less.mk0 hB (by simp)) ⟨[], by simp [numOf], by simp, fun _ => rfl, by simp, rfl, rfl⟩ ?_
    rintro x t H ⟨d, hd1, hd2, hd3, hd4, rfl, rfl⟩
    by_cases hx : x = 0
    · subst hx
      have fin : ∀ d' : List UInt8, d' ≠ [] → (∀ b ∈ d', isDigit b = true) → numOf d' = n → d'.length ≤ 20 → ∀ H, oNb 11 [.str (List.replicate i 48 ++ d')] H =
          some (if n < 9223372036854775808 then .tup [wdsAV [⟨2, List.replicate i 48 ++ d', 0, n⟩], .nilIface] else .tup [.nilSlice, errAV [(wordTxt, 0)] 5], H) := by
        intro d' h1 h2 h3 h4 H
        have hT : List.replicate i 48 ++ d' ≠ [] := by simp [h1]
        have hall : ∀ b ∈ List.replicate i (48 : UInt8) ++ d', isDigit b = true := by
          intro b hb
          rcases List.mem_append.1 hb with hb | hb
          · rw [List.eq_of_mem_replicate hb]; rfl
          · exact h2 b hb
        have hl := lex_digits hT hall
        rw [numOf_noughts, h3] at hl
        have hm : (List.replicate i (48 : UInt8) ++ d').length < maxS := by rw [maxS_eq]; simp; omega
        rw [oNb_line hm, hl]
        by_cases hn : n < 9223372036854775808
        · rw [if_pos hn, if_pos hn]; rfl
        · rw [if_neg hn, if_neg hn]; rfl
      by_cases hn0 : n = 0
      · have h11 := fin [48] (by simp) (by simp; rfl) (by rw [hn0]; rfl) (by simp)
        subst hn0
        have fl : i + 1 ≤ 9223372036854775807 := by omega
        simp only [Nat.zero_lt_succ, if_true, show (0 : Nat) < 9223372036854775808 from by decide] at h11
        have w0 : IntKind.u64.wrap 0 = 0 := rfl
        simp [Blk_exit, h11, wdsAV, wdsCells, wdCells, fl, w0]
      · have hdn : d ≠ [] := fun h => hn0 (hd3 h).symm
        have h11 := fin d hdn hd2 (by omega) hd4
        have fl : i + d.length ≤ 9223372036854775807 := by omega
        by_cases hb : n < 9223372036854775808
        · have hb1 : ¬ (9223372036854775807 : Int) < n := by omega
          have hb2 : ¬ 9223372036854775807 < n := by omega
          rw [if_pos hb] at h11
          have w0 : IntKind.u64.wrap (n : Int) = (n : Int) := by simp [IntKind.wrap, IntKind.bits, IntKind.signed]; omega
          simp [Blk_exit, hn0, h11, wdsAV, wdsCells, wdCells, fl, hb1, hb2, w0]
        · have hb1 : (9223372036854775807 : Int) < n := by omega
          have hb2 : 9223372036854775807 < n := by omega
          rw [if_neg hb] at h11
          have tl : ∀ H, oNb 12 [errAV [(wordTxt, 0)] 5, .agg [.slice .full 2 1 [.str [119, 111, 114, 100], .int .i64 0], .int .i64 5]] H = some (.bool true, H) := oNb_tells
          simp [Blk_exit, hn0, h11, fl, hb1, hb2, oNb_at, tl]
    · have e1 : (0 : Int) < (x : Int) := by omega
      obtain ⟨r, hr⟩ : ∃ r : Nat, r = x % 10 := ⟨_, rfl⟩
      obtain ⟨y, hy⟩ : ∃ y : Nat, y = x / 10 := ⟨_, rfl⟩
      have k1 : ((x : Nat) : Int).tmod 10 = (r : Int) := by rw [Int.tmod_eq_emod_of_nonneg (by omega)]; omega
      have k2 : ((x : Nat) : Int).tdiv 10 = (y : Int) := by rw [Int.tdiv_eq_ediv_of_nonneg (by omega)]; omega
      have hxn : x ≤ n := by
        have h1 : 1 ≤ 10 ^ d.length := Nat.one_le_pow _ _ (by omega)
        have := Nat.mul_le_mul_left x h1
        omega
      have k3 : IntKind.u64.wrap (48 + (r : Int)) = 48 + (r : Int) := by simp [IntKind.wrap, IntKind.bits, IntKind.signed]; omega
      have k4 : IntKind.u8.wrap (48 + (r : Int)) = 48 + (r : Int) := by simp [IntKind.wrap, IntKind.bits, IntKind.signed]; omega
      have k5 : IntKind.u64.wrap (y : Int) = (y : Int) := by simp [IntKind.wrap, IntKind.bits, IntKind.signed]; omega
      have f1 : d.length + 1 ≤ 9223372036854775807 := by omega
      have e2 : 0 < x := by omega
      have f2 : 1 + d.length ≤ 9223372036854775807 := by omega
      have hd5 : d.length ≤ 19 := by
        rcases Nat.lt_or_ge d.length 20 with h | h
        · omega
        · have h1 : 10 ^ 20 ≤ 10 ^ d.length := Nat.pow_le_pow_right (by omega) h
          have h2 := Nat.mul_le_mul_right (10 ^ d.length) e2
          omega
      have k6 : (48 + (r : Int)).toNat = 48 + r := by omega
      obtain ⟨bb, hb0⟩ : ∃ bb, bb = UInt8.ofNat (48 + r) := ⟨_, rfl⟩
      have k7 : 48 + UInt8.ofNat r = bb := by rw [hb0]; simp
      have hb : bb.toNat = 48 + r := by rw [hb0, UInt8.toNat_ofNat']; omega
      have hbd : isDigit (bb) = true := by
        simp only [isDigit, Bool.and_eq_true, decide_eq_true_eq, hb]
        omega
      simp [e1, e2, k1, k2, k3, k4, k5, k6, k7, f1, f2, bsNb, bytesAV]
      have hval : y * 10 ^ (d.length + 1) + numOf (bb :: d) = n := by
        rw [numOf_cons, hb, Nat.pow_succ, show 48 + r - 48 = r by omega, ← hd1]
        have h1 : x = 10 * y + r := by omega
        rw [h1, Nat.add_mul]
        have h2 : y * (10 ^ d.length * 10) = 10 * y * 10 ^ d.length := by rw [Nat.mul_comm (10 ^ d.length) 10, ← Nat.mul_assoc, Nat.mul_comm y 10]
        omega
      exact Nxt.mk y (by omega) (Less.mk0 (l' := [(0, .int .u64 (n : Int)), (5, .str (List.replicate i 48)), (7, .str (bb :: d)), (8, .int .u64 ((y : Nat) : Int))]) hB (by simp)) ⟨bb :: d, hval, fun b hb' => by
        rcases List.mem_cons.1 hb' with rfl | hb'
        · exact hbd
        · exact hd2 b hb', (fun h => by cases h), by simp; omega, rfl, rfl⟩
end Go.Proofs.YtpmonaempgjgbaaDoor
