/- internal/strconv.ParseUint at digits. -/
import Derived.Test.YtpmonaempgjgbaaGreatDoorTkB
import Derived.Test.YtpmonaempgjgbaaGreatDoorFwG3
set_option linter.unusedSimpArgs false
set_option linter.unusedVariables false
namespace Go.Proofs.YtpmonaempgjgbaaGreatDoor
open Go.RowKit Go.Proofs.Fw
set_option maxRecDepth 100000
set_option maxHeartbeats 4000000

noncomputable def t55 : Code := sndC (sndC (sndC (sndC (sndC (sndC (sndC (sndC (sndC (sndC (sndC (bodyOf Tryz.f167)))))))))))
noncomputable def L55 : Code := inC (inC (sndC (fstC t55)))
theorem sz5 : szOf Tryz.prog 5 = some 1 := by kernel_rfl
theorem ag5 : aggB Tryz.prog 5 = some false := by kernel_rfl

/-- The number that digits tell. -/
def numOf (s : List UInt8) : Nat := s.foldl (fun n b => 10 * n + (b.toNat - 48)) 0

theorem pu_more (O : Orc) (s : List UInt8) (i n : Nat) (b : UInt8) (t : List AV) (H : AH) (N : Nat) (hl : t.length = 172) (h1 : t[1]? = some (.int .i64 10)) (h8 : t[8]? = some (.bool false)) (h10 : t[10]? = some (.int .u64 1844674407370955162))
    (h11 : t[11]? = some (.int .u64 18446744073709551615)) (h13 : t[13]? = some (.int .u64 n)) (h101 : t[101]? = some (.int .i64 i)) (h99 : t[99]? = some (.slice .unk 1 s.length (strCells s))) (h100 : t[100]? = some (.int .i64 s.length))
    (hi : i < s.length) (hs : s.length < 9223372036854775807) (hb : (strCells s)[i]? = some (.int .u8 (b.toNat : Int))) (hd1 : (48 : Int) ≤ (b.toNat : Int)) (hd2 : (b.toNat : Int) ≤ 57) (hn : (n : Int) < 1844674407370955162) (hm : 10 * n + (b.toNat - 48) < 18446744073709551616)
    (Q : AEx → List AV → AH → Prop) (hQ : ∀ t' : List AV, t'.length = 172 → t'[1]? = some (.int .i64 10) → t'[8]? = some (.bool false) → t'[10]? = some (.int .u64 1844674407370955162) → t'[11]? = some (.int .u64 18446744073709551615) →
      t'[12]? = t[12]? → t'[13]? = some (.int .u64 ((10 * n + (b.toNat - 48) : Nat) : Int)) → t'[101]? = some (.int .i64 ((i + 1 : Nat) : Int)) → t'[99]? = some (.slice .unk 1 s.length (strCells s)) → t'[100]? = some (.int .i64 s.length) → Q .normal t' H) :
    EndsIn (evCode O Tryz.prog envT N L55 t H) Q := by
  have hi' : (i : Int) < s.length := by omega
  have e95 : ((b.toNat : Int) == 95) = false := by simp only [beq_eq_false_iff_ne]; omega
  have w1 : IntKind.u8.wrap ((b.toNat : Int) - 48) = ((b.toNat - 48 : Nat) : Int) := by simp [IntKind.wrap, IntKind.bits, IntKind.signed]; omega
  have w2 : IntKind.u8.wrap 10 = 10 := by decide
  have d9 : ¬ ((10 : Int) ≤ ((b.toNat - 48 : Nat) : Int)) := by omega
  have nc : ¬ ((1844674407370955162 : Int) ≤ (n : Int)) := by omega
  have w3 : IntKind.u64.wrap 10 = 10 := by decide
  have w4 : IntKind.u64.wrap ((n : Int) * 10) = 10 * (n : Int) := by simp [IntKind.wrap, IntKind.bits, IntKind.signed]; omega
  have w5 : IntKind.u64.wrap ((b.toNat - 48 : Nat) : Int) = ((b.toNat - 48 : Nat) : Int) := by simp [IntKind.wrap, IntKind.bits, IntKind.signed]; omega
  have w6 : IntKind.u64.wrap (10 * (n : Int) + ((b.toNat - 48 : Nat) : Int)) = 10 * (n : Int) + ((b.toNat - 48 : Nat) : Int) := by simp [IntKind.wrap, IntKind.bits, IntKind.signed]; omega
  have l1 : ¬ (10 * (n : Int) + ((b.toNat - 48 : Nat) : Int) < 10 * (n : Int)) := by omega
  have l2 : ¬ ((18446744073709551615 : Int) < 10 * (n : Int) + ((b.toNat - 48 : Nat) : Int)) := by omega
  have w7 : IntKind.i64.wrap ((i : Int) + 1) = (i : Int) + 1 := wrap_i64 (by omega) (by omega)
  obtain ⟨_, g1⟩ := List.getElem?_eq_some_iff.1 h1
  obtain ⟨_, g8⟩ := List.getElem?_eq_some_iff.1 h8
  obtain ⟨_, g10⟩ := List.getElem?_eq_some_iff.1 h10
  obtain ⟨_, g11⟩ := List.getElem?_eq_some_iff.1 h11
  obtain ⟨_, g13⟩ := List.getElem?_eq_some_iff.1 h13
  obtain ⟨_, g101⟩ := List.getElem?_eq_some_iff.1 h101
  obtain ⟨_, g99⟩ := List.getElem?_eq_some_iff.1 h99
  obtain ⟨_, g100⟩ := List.getElem?_eq_some_iff.1 h100
  simp [L55, t55, bodyOf, Tryz.f167, inC, fstC, sndC, evFunc, evCode, evRegion, withIds, needsId, idCount, grow, evOps, wantedA, stepO, callee, aop, putT, aeval, ofValC, ofVal, ofVals, applyUps, evResults, oneOrTup, alen, abin, abinInt, abinStr, aun, aindex, aslice, optInt, aextract, anilCheck, aconvert, aindexAddr, afieldAddr, afield, aload, ldAt, isConstO, aeq, EndsIn, hl, g1, g8, g10, g11, g13, g101, g99, g100, hi, hi', sz5, ag5, Tryz.underlying75, hb, e95, hd1, hd2, w1, w2, d9, nc, w3, w4, w5, w6, l1, l2, w7]
  refine hQ _ ?_ ?_ ?_ ?_ ?_ ?_ ?_ ?_ ?_ ?_ <;> simp [hl, g1, g8, g10, g11, g99, g100]

theorem pu_cut (O : Orc) (s : List UInt8) (i n : Nat) (b : UInt8) (t : List AV) (H : AH) (N : Nat) (hl : t.length = 172) (h1 : t[1]? = some (.int .i64 10)) (h8 : t[8]? = some (.bool false)) (h10 : t[10]? = some (.int .u64 1844674407370955162))
    (h11 : t[11]? = some (.int .u64 18446744073709551615)) (h13 : t[13]? = some (.int .u64 n)) (h101 : t[101]? = some (.int .i64 i)) (h99 : t[99]? = some (.slice .unk 1 s.length (strCells s))) (h100 : t[100]? = some (.int .i64 s.length))
    (hi : i < s.length) (hb : (strCells s)[i]? = some (.int .u8 (b.toNat : Int))) (hd1 : (48 : Int) ≤ (b.toNat : Int)) (hd2 : (b.toNat : Int) ≤ 57) (hn : ¬ (n : Int) < 1844674407370955162)
    (Q : AEx → List AV → AH → Prop) (hQ : ∀ t' : List AV, t'.length = 172 → t'[6]? = some (.int .u64 18446744073709551615) → t'[7]? = some (.iface 273 (.int .i64 1)) → Q .ret t' H) :
    EndsIn (evCode O Tryz.prog envT N L55 t H) Q := by
  have hi' : (i : Int) < s.length := by omega
  have e95 : ((b.toNat : Int) == 95) = false := by simp only [beq_eq_false_iff_ne]; omega
  have w1 : IntKind.u8.wrap ((b.toNat : Int) - 48) = ((b.toNat - 48 : Nat) : Int) := by simp [IntKind.wrap, IntKind.bits, IntKind.signed]; omega
  have w2 : IntKind.u8.wrap 10 = 10 := by decide
  have d9 : ¬ ((10 : Int) ≤ ((b.toNat - 48 : Nat) : Int)) := by omega
  have nc : (1844674407370955162 : Int) ≤ (n : Int) := by omega
  obtain ⟨_, g1⟩ := List.getElem?_eq_some_iff.1 h1
  obtain ⟨_, g8⟩ := List.getElem?_eq_some_iff.1 h8
  obtain ⟨_, g10⟩ := List.getElem?_eq_some_iff.1 h10
  obtain ⟨_, g11⟩ := List.getElem?_eq_some_iff.1 h11
  obtain ⟨_, g13⟩ := List.getElem?_eq_some_iff.1 h13
  obtain ⟨_, g101⟩ := List.getElem?_eq_some_iff.1 h101
  obtain ⟨_, g99⟩ := List.getElem?_eq_some_iff.1 h99
  obtain ⟨_, g100⟩ := List.getElem?_eq_some_iff.1 h100
  simp [L55, t55, bodyOf, Tryz.f167, inC, fstC, sndC, evFunc, evCode, evRegion, withIds, needsId, idCount, grow, evOps, wantedA, stepO, callee, aop, putT, aeval, ofValC, ofVal, ofVals, applyUps, evResults, oneOrTup, alen, abin, abinInt, abinStr, aun, aindex, aslice, optInt, aextract, anilCheck, aconvert, aindexAddr, afieldAddr, afield, aload, ldAt, isConstO, aeq, EndsIn, hl, g1, g8, g10, g11, g13, g101, g99, g100, hi, hi', sz5, ag5, Tryz.underlying75, Tryz.underlying273, hb, e95, hd1, hd2, w1, w2, d9, nc]
  refine hQ _ ?_ ?_ ?_ <;> simp [hl]

theorem pu_over (O : Orc) (s : List UInt8) (i n : Nat) (b : UInt8) (t : List AV) (H : AH) (N : Nat) (hl : t.length = 172) (h1 : t[1]? = some (.int .i64 10)) (h8 : t[8]? = some (.bool false)) (h10 : t[10]? = some (.int .u64 1844674407370955162))
    (h11 : t[11]? = some (.int .u64 18446744073709551615)) (h13 : t[13]? = some (.int .u64 n)) (h101 : t[101]? = some (.int .i64 i)) (h99 : t[99]? = some (.slice .unk 1 s.length (strCells s))) (h100 : t[100]? = some (.int .i64 s.length))
    (hi : i < s.length) (hb : (strCells s)[i]? = some (.int .u8 (b.toNat : Int))) (hd1 : (48 : Int) ≤ (b.toNat : Int)) (hd2 : (b.toNat : Int) ≤ 57) (hn : (n : Int) < 1844674407370955162) (hm : ¬ 10 * n + (b.toNat - 48) < 18446744073709551616)
    (Q : AEx → List AV → AH → Prop) (hQ : ∀ t' : List AV, t'.length = 172 → t'[6]? = some (.int .u64 18446744073709551615) → t'[7]? = some (.iface 273 (.int .i64 1)) → Q .ret t' H) :
    EndsIn (evCode O Tryz.prog envT N L55 t H) Q := by
  have hi' : (i : Int) < s.length := by omega
  have e95 : ((b.toNat : Int) == 95) = false := by simp only [beq_eq_false_iff_ne]; omega
  have w1 : IntKind.u8.wrap ((b.toNat : Int) - 48) = ((b.toNat - 48 : Nat) : Int) := by simp [IntKind.wrap, IntKind.bits, IntKind.signed]; omega
  have w2 : IntKind.u8.wrap 10 = 10 := by decide
  have d9 : ¬ ((10 : Int) ≤ ((b.toNat - 48 : Nat) : Int)) := by omega
  have nc : ¬ ((1844674407370955162 : Int) ≤ (n : Int)) := by omega
  have w3 : IntKind.u64.wrap 10 = 10 := by decide
  have w4 : IntKind.u64.wrap ((n : Int) * 10) = 10 * (n : Int) := by simp [IntKind.wrap, IntKind.bits, IntKind.signed]; omega
  have w5 : IntKind.u64.wrap ((b.toNat - 48 : Nat) : Int) = ((b.toNat - 48 : Nat) : Int) := by simp [IntKind.wrap, IntKind.bits, IntKind.signed]; omega
  have w6 : IntKind.u64.wrap (10 * (n : Int) + ((b.toNat - 48 : Nat) : Int)) = 10 * (n : Int) + ((b.toNat - 48 : Nat) : Int) - 18446744073709551616 := by simp [IntKind.wrap, IntKind.bits, IntKind.signed]; omega
  have l1 : 10 * (n : Int) + ((b.toNat - 48 : Nat) : Int) - 18446744073709551616 < 10 * (n : Int) := by omega
  obtain ⟨_, g1⟩ := List.getElem?_eq_some_iff.1 h1
  obtain ⟨_, g8⟩ := List.getElem?_eq_some_iff.1 h8
  obtain ⟨_, g10⟩ := List.getElem?_eq_some_iff.1 h10
  obtain ⟨_, g11⟩ := List.getElem?_eq_some_iff.1 h11
  obtain ⟨_, g13⟩ := List.getElem?_eq_some_iff.1 h13
  obtain ⟨_, g101⟩ := List.getElem?_eq_some_iff.1 h101
  obtain ⟨_, g99⟩ := List.getElem?_eq_some_iff.1 h99
  obtain ⟨_, g100⟩ := List.getElem?_eq_some_iff.1 h100
  simp [L55, t55, bodyOf, Tryz.f167, inC, fstC, sndC, evFunc, evCode, evRegion, withIds, needsId, idCount, grow, evOps, wantedA, stepO, callee, aop, putT, aeval, ofValC, ofVal, ofVals, applyUps, evResults, oneOrTup, alen, abin, abinInt, abinStr, aun, aindex, aslice, optInt, aextract, anilCheck, aconvert, aindexAddr, afieldAddr, afield, aload, ldAt, isConstO, aeq, EndsIn, hl, g1, g8, g10, g11, g13, g101, g99, g100, hi, hi', sz5, ag5, Tryz.underlying75, Tryz.underlying273, hb, e95, hd1, hd2, w1, w2, d9, nc, w3, w4, w5, w6, l1]
  refine hQ _ ?_ ?_ ?_ <;> simp [hl]

theorem pu_stop (O : Orc) (s : List UInt8) (t : List AV) (H : AH) (N : Nat) (hl : t.length = 172) (h101 : t[101]? = some (.int .i64 s.length)) (h100 : t[100]? = some (.int .i64 s.length))
    (Q : AEx → List AV → AH → Prop) (hQ : Q (.exit 3) (t.set 102 (.bool false)) H) : EndsIn (evCode O Tryz.prog envT N L55 t H) Q := by
  obtain ⟨_, g101⟩ := List.getElem?_eq_some_iff.1 h101
  obtain ⟨_, g100⟩ := List.getElem?_eq_some_iff.1 h100
  simp [L55, t55, bodyOf, Tryz.f167, inC, fstC, sndC, evFunc, evCode, evRegion, withIds, needsId, idCount, grow, evOps, wantedA, stepO, callee, aop, putT, aeval, ofValC, ofVal, ofVals, applyUps, evResults, oneOrTup, alen, abin, abinInt, abinStr, aun, aindex, aslice, optInt, aextract, anilCheck, aconvert, aindexAddr, afieldAddr, afield, aload, ldAt, isConstO, aeq, EndsIn, hl, g101, g100]
  exact hQ

theorem pu_pre (O : Orc) (s : List UInt8) (t : List AV) (H : AH) (N : Nat) (hl : t.length = 172) (h0 : t[0]? = some (.str s)) (h1 : t[1]? = some (.int .i64 10)) (h2 : t[2]? = some (.int .i64 64)) (hne : s ≠ [])
    (Q : AEx → List AV → AH → Prop) (hQ : ∀ t' : List AV, t'.length = 172 → t'[0]? = some (.str s) → t'[1]? = some (.int .i64 10) → t'[8]? = some (.bool false) → t'[10]? = some (.int .u64 1844674407370955162) → t'[11]? = some (.int .u64 18446744073709551615) →
      t'[12]? = some (.bool false) → t'[13]? = some (.int .u64 0) → Q .normal t' H) :
    EndsIn (evCode O Tryz.prog envT N (headC 11 (bodyOf Tryz.f167)) t H) Q := by
  obtain ⟨_, g0⟩ := List.getElem?_eq_some_iff.1 h0
  obtain ⟨_, g1⟩ := List.getElem?_eq_some_iff.1 h1
  obtain ⟨_, g2⟩ := List.getElem?_eq_some_iff.1 h2
  have hn : (s == []) = false := by cases s <;> simp_all
  have w1 : IntKind.u64.wrap (18446744073709551616) = 0 := by decide
  have w2 : IntKind.u64.wrap (-1) = 18446744073709551615 := by decide
  have w3 : IntKind.u64.wrap 64 = 64 := by decide
  have w4 : IntKind.u64.bits = 64 := rfl
  simp [bodyOf, Tryz.f167, headC, evFunc, evCode, evRegion, withIds, needsId, idCount, grow, evOps, wantedA, stepO, callee, aop, putT, aeval, ofValC, ofVal, ofVals, applyUps, evResults, oneOrTup, alen, abin, abinInt, abinStr, aun, aindex, aslice, optInt, aextract, anilCheck, aconvert, aindexAddr, afieldAddr, afield, aload, ldAt, isConstO, aeq, EndsIn, hl, g0, g1, g2, hn, hne, Tryz.underlying3, Tryz.underlying82, w1, w2, w3, w4]
  refine hQ _ ?_ ?_ ?_ ?_ ?_ ?_ ?_ ?_ <;> simp [hl, g0, g1]

/-- Digits alone. -/
def allDigits (s : List UInt8) : Prop := ∀ b ∈ s, 48 ≤ b.toNat ∧ b.toNat ≤ 57

theorem numOf_snoc (s : List UInt8) (b : UInt8) : numOf (s ++ [b]) = 10 * numOf s + (b.toNat - 48) := by simp [numOf]
theorem numOf_mono (s r : List UInt8) : numOf s ≤ numOf (s ++ r) := by
  induction r generalizing s with
  | nil => simp
  | cons b r ih =>
    have h1 := ih (s ++ [b])
    rw [List.append_assoc] at h1
    have h2 := numOf_snoc s b
    simp only [List.singleton_append] at h1
    omega

/-- What holds at the head of ParseUint's loop. -/
def PuI (s : List UInt8) (H : AH) (k : Nat) (t : List AV) (H' : AH) : Prop :=
  H' = H ∧ t.length = 172 ∧ t[1]? = some (.int .i64 10) ∧ t[8]? = some (.bool false) ∧ t[10]? = some (.int .u64 1844674407370955162) ∧ t[11]? = some (.int .u64 18446744073709551615) ∧ t[12]? = some (.bool false) ∧
    t[99]? = some (.slice .unk 1 s.length (strCells s)) ∧ t[100]? = some (.int .i64 s.length) ∧
    ∃ i, i + k = s.length ∧ t[101]? = some (.int .i64 i) ∧ t[13]? = some (.int .u64 (numOf (s.take i))) ∧ numOf (s.take i) < 18446744073709551616

theorem pu_loop (O : Orc) (s : List UInt8) (hd : allDigits s) (hs : s.length < 9223372036854775807) (N : Nat) (H : AH) (Q : AEx → List AV → AH → Prop)
    (hQ1 : ∀ t', t'.length = 172 → t'[12]? = some (.bool false) → t'[13]? = some (.int .u64 (numOf s)) → numOf s < 18446744073709551616 → Q (.exit 3) t' H)
    (hQ2 : ∀ t', t'.length = 172 → t'[6]? = some (.int .u64 18446744073709551615) → t'[7]? = some (.iface 273 (.int .i64 1)) → ¬ numOf s < 18446744073709551616 → Q .ret t' H) (k : Nat) (t : List AV) (hk : k < N) (hI : PuI s H k t H) :
    EndsIn (iter (evCode O Tryz.prog envT N L55) N t H) Q := by
  refine EndsIn.iter (PuI s H) (fun k t H' hI => ?_) N k hk hI
  obtain ⟨rfl, hl, h1, h8, h10, h11, h12, h99, h100, i, hik, h101, h13, hn⟩ := hI
  cases k with
  | zero =>
    obtain rfl : i = s.length := by omega
    rw [List.take_length] at h13 hn
    refine pu_stop O s t H' N hl h101 h100 _ ?_
    refine hQ1 _ (by simp [hl]) ?_ ?_ hn
    · rw [List.getElem?_set_ne (by omega)]; exact h12
    · rw [List.getElem?_set_ne (by omega)]; exact h13
  | succ k =>
    have hi : i < s.length := by omega
    have hb : (strCells s)[i]? = some (.int .u8 (s[i].toNat : Int)) := by simp [strCells, hi]
    obtain ⟨d1, d2⟩ := hd s[i] (List.getElem_mem hi)
    have htk : s.take (i + 1) = s.take i ++ [s[i]] := by rw [List.take_add_one, List.getElem?_eq_getElem hi]; rfl
    have hval : numOf (s.take (i + 1)) = 10 * numOf (s.take i) + (s[i].toNat - 48) := by rw [htk, numOf_snoc]
    have hle : numOf (s.take (i + 1)) ≤ numOf s := by
      have := numOf_mono (s.take (i + 1)) (s.drop (i + 1))
      rwa [List.take_append_drop] at this
    by_cases hc : (numOf (s.take i) : Int) < 1844674407370955162
    · by_cases hm : 10 * numOf (s.take i) + (s[i].toNat - 48) < 18446744073709551616
      · refine pu_more O s i _ s[i] t H' N hl h1 h8 h10 h11 h13 h101 h99 h100 hi hs hb (by omega) (by omega) hc hm _ ?_
        intro t' a b c d e f g h j l
        refine ⟨k, by omega, rfl, a, b, c, d, e, f.trans h12, j, l, i + 1, by omega, h, ?_, ?_⟩
        · rw [hval]; exact g
        · rw [hval]; exact hm
      · refine pu_over O s i _ s[i] t H' N hl h1 h8 h10 h11 h13 h101 h99 h100 hi hb (by omega) (by omega) hc hm _ ?_
        intro t' a b c
        exact hQ2 t' a b c (by omega)
    · refine pu_cut O s i _ s[i] t H' N hl h1 h8 h10 h11 h13 h101 h99 h100 hi hb (by omega) (by omega) hc _ ?_
      intro t' a b c
      exact hQ2 t' a b c (by omega)
end Go.Proofs.YtpmonaempgjgbaaGreatDoor
