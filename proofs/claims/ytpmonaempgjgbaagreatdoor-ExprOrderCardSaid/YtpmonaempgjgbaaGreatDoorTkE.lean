/- internal/strconv.ParseInt at digits. -/
import Derived.Test.YtpmonaempgjgbaaGreatDoorTkD
set_option linter.unusedSimpArgs false
set_option linter.unusedVariables false
namespace Go.Proofs.YtpmonaempgjgbaaGreatDoor
open Go.RowKit Go.Proofs.Fw
set_option maxRecDepth 100000
set_option maxHeartbeats 4000000

/-- What ParseInt tells of digits. -/
def piRes (s : List UInt8) : AV := if numOf s < 9223372036854775808 then .tup [.int .i64 (numOf s), .nilIface] else .tup [.int .i64 9223372036854775807, .iface 273 (.int .i64 1)]

theorem go55 : goFn Tryz.prog 167 = true := by kernel_rfl
theorem cmp117 : (Tryz.prog.info? 273).map (·.comparable) = some true := by kernel_rfl

theorem pi_small (O : Orc) (c : UInt8) (r : List UInt8) (t : List AV) (H : AH) (N : Nat) (hl : t.length = 73) (h0 : t[0]? = some (.str (c :: r))) (h1 : t[1]? = some (.int .i64 10)) (h2 : t[2]? = some (.int .i64 64)) (hd : 48 ≤ c.toNat)
    (hn : numOf (c :: r) < 9223372036854775808) (ho : O 167 [.str (c :: r), .int .i64 10, .int .i64 64] H = some (.tup [.int .u64 (numOf (c :: r)), .nilIface], H))
    (Q : AEx → List AV → AH → Prop) (hQ : ∀ t' : List AV, t'.length = 73 → t'[6]? = some (.int .i64 (numOf (c :: r))) → t'[7]? = some .nilIface → Q .ret t' H) :
    EndsIn (evCode O Tryz.prog envT N (bodyOf Tryz.f145) t H) Q := by
  obtain ⟨_, g0⟩ := List.getElem?_eq_some_iff.1 h0
  obtain ⟨_, g1⟩ := List.getElem?_eq_some_iff.1 h1
  obtain ⟨_, g2⟩ := List.getElem?_eq_some_iff.1 h2
  generalize numOf (c :: r) = m at hn ho hQ
  have e43 : ((c.toNat : Int) == 43) = false := by simp only [beq_eq_false_iff_ne]; omega
  have e45 : ((c.toNat : Int) == 45) = false := by simp only [beq_eq_false_iff_ne]; omega
  have w1 : IntKind.i64.wrap 63 = 63 := by decide
  have w2 : IntKind.u64.wrap 63 = 63 := by decide
  have w3 : IntKind.u64.wrap 9223372036854775808 = 9223372036854775808 := by decide
  have w4 : IntKind.u64.bits = 64 := rfl
  have l1 : ¬ ((9223372036854775808 : Int) ≤ (m : Int)) := by omega
  have w5 : IntKind.i64.wrap (m : Int) = (m : Int) := wrap_i64 (by omega) (by omega)
  simp [bodyOf, Tryz.f145, evFunc, evCode, evRegion, withIds, needsId, idCount, grow, evOps, wantedA, stepO, callee, aop, putT, aeval, ofValC, ofVal, ofVals, applyUps, evResults, oneOrTup, alen, abin, abinInt, abinStr, aun, aindex, aslice, optInt, aextract, anilCheck, aconvert, aindexAddr, afieldAddr, afield, aload, ldAt, isConstO, aeq, EndsIn, hl, g0, g1, g2, e43, e45, go55, ho, w1, w2, w3, w4, w5, l1, Tryz.underlying50, Tryz.underlying82, Tryz.underlying169, Tryz.underlying2, Tryz.underlying3, Tryz.underlying273]
  refine hQ _ ?_ ?_ ?_ <;> simp [hl]

theorem pi_big (O : Orc) (c : UInt8) (r : List UInt8) (t : List AV) (H : AH) (N : Nat) (hl : t.length = 73) (h0 : t[0]? = some (.str (c :: r))) (h1 : t[1]? = some (.int .i64 10)) (h2 : t[2]? = some (.int .i64 64)) (hd : 48 ≤ c.toNat)
    (u : Int) (e : AV) (hu : 9223372036854775808 ≤ u) (he : e = .nilIface ∨ e = .iface 273 (.int .i64 1)) (ho : O 167 [.str (c :: r), .int .i64 10, .int .i64 64] H = some (.tup [.int .u64 u, e], H))
    (Q : AEx → List AV → AH → Prop) (hQ : ∀ t' : List AV, t'.length = 73 → t'[6]? = some (.int .i64 9223372036854775807) → t'[7]? = some (.iface 273 (.int .i64 1)) → Q .ret t' H) :
    EndsIn (evCode O Tryz.prog envT N (bodyOf Tryz.f145) t H) Q := by
  obtain ⟨_, g0⟩ := List.getElem?_eq_some_iff.1 h0
  obtain ⟨_, g1⟩ := List.getElem?_eq_some_iff.1 h1
  obtain ⟨_, g2⟩ := List.getElem?_eq_some_iff.1 h2
  obtain ⟨j, hj, hcmp⟩ := Option.map_eq_some_iff.1 cmp117
  have e43 : ((c.toNat : Int) == 43) = false := by simp only [beq_eq_false_iff_ne]; omega
  have e45 : ((c.toNat : Int) == 45) = false := by simp only [beq_eq_false_iff_ne]; omega
  have w1 : IntKind.i64.wrap 63 = 63 := by decide
  have w2 : IntKind.u64.wrap 63 = 63 := by decide
  have w3 : IntKind.u64.wrap 9223372036854775808 = 9223372036854775808 := by decide
  have w4 : IntKind.u64.bits = 64 := rfl
  have w5 : IntKind.u64.wrap 9223372036854775807 = 9223372036854775807 := by decide
  have w6 : IntKind.i64.wrap 9223372036854775807 = 9223372036854775807 := by decide
  rcases he with rfl | rfl
  · simp [bodyOf, Tryz.f145, evFunc, evCode, evRegion, withIds, needsId, idCount, grow, evOps, wantedA, stepO, callee, aop, putT, aeval, ofValC, ofVal, ofVals, applyUps, evResults, oneOrTup, alen, abin, abinInt, abinStr, aun, aindex, aslice, optInt, aextract, anilCheck, aconvert, aindexAddr, afieldAddr, afield, aload, ldAt, isConstO, aeq, EndsIn, hl, g0, g1, g2, e43, e45, go55, ho, w1, w2, w3, w4, w5, w6, hu, Tryz.underlying50, Tryz.underlying82, Tryz.underlying169, Tryz.underlying2, Tryz.underlying3, Tryz.underlying273]
    refine hQ _ ?_ ?_ ?_ <;> simp [hl]
  · simp [bodyOf, Tryz.f145, evFunc, evCode, evRegion, withIds, needsId, idCount, grow, evOps, wantedA, stepO, callee, aop, putT, aeval, ofValC, ofVal, ofVals, applyUps, evResults, oneOrTup, alen, abin, abinInt, abinStr, aun, aindex, aslice, optInt, aextract, anilCheck, aconvert, aindexAddr, afieldAddr, afield, aload, ldAt, isConstO, aeq, EndsIn, hl, g0, g1, g2, e43, e45, go55, ho, w1, w2, w3, w4, w5, w6, hu, hj, hcmp, Tryz.underlying50, Tryz.underlying82, Tryz.underlying169, Tryz.underlying2, Tryz.underlying3, Tryz.underlying273]
    refine hQ _ ?_ ?_ ?_ <;> simp [hl]

theorem fin48 (t : List AV) (H : AH) (x y : AV) (h6 : t[6]? = some x) (h7 : t[7]? = some y) : fin Tryz.prog Tryz.f145 (some (.ret, t, H)) = some (.tup [x, y], H) := by
  simp [fin, Tryz.f145, evResults, h6, h7, oneOrTup]

theorem pi_ev (O : Orc) (s : List UInt8) (hne : s ≠ []) (hd : allDigits s) (H : AH) (ho : O 167 [.str s, .int .i64 10, .int .i64 64] H = some (puRes s, H)) :
    evFunc O Tryz.prog envT 1 145 [.str s, .int .i64 10, .int .i64 64] H = some (piRes s, H) := by
  obtain ⟨c, r, rfl⟩ := List.exists_cons_of_ne_nil hne
  have hc := (hd c (by simp)).1
  refine evFunc_of (c := bodyOf Tryz.f145) Tryz.func145 (by kernel_rfl) ?_
  unfold puRes at ho
  by_cases h1 : numOf (c :: r) < 9223372036854775808
  · rw [if_pos (by omega)] at ho
    refine pi_small O c r _ H _ (by simp [Tryz.f145]) (by rfl) (by rfl) (by rfl) hc h1 ho _ ?_
    intro t hl k6 k7
    show fin Tryz.prog Tryz.f145 (some (.ret, t, H)) = some (piRes (c :: r), H)
    rw [fin48 t H _ _ k6 k7, piRes, if_pos h1]
  · have fin2 : ∀ t : List AV, t.length = 73 → t[6]? = some (.int .i64 9223372036854775807) → t[7]? = some (.iface 273 (.int .i64 1)) → fin Tryz.prog Tryz.f145 (some (.ret, t, H)) = some (piRes (c :: r), H) := by
      intro t hl k6 k7
      rw [fin48 t H _ _ k6 k7, piRes, if_neg h1]
    by_cases h2 : numOf (c :: r) < 18446744073709551616
    · rw [if_pos h2] at ho
      exact pi_big O c r _ H _ (by simp [Tryz.f145]) (by rfl) (by rfl) (by rfl) hc _ _ (by omega) (.inl rfl) ho _ fin2
    · rw [if_neg h2] at ho
      exact pi_big O c r _ H _ (by simp [Tryz.f145]) (by rfl) (by rfl) (by rfl) hc _ _ (by omega) (.inr rfl) ho _ fin2
end Go.Proofs.YtpmonaempgjgbaaGreatDoor
