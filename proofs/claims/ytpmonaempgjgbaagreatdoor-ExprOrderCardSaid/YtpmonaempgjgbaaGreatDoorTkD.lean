/- internal/strconv.ParseUint at digits, whole. -/
import Derived.Test.YtpmonaempgjgbaaGreatDoorTkC
set_option linter.unusedSimpArgs false
set_option linter.unusedVariables false
namespace Go.Proofs.YtpmonaempgjgbaaGreatDoor
open Go.RowKit Go.Proofs.Fw
set_option maxRecDepth 100000
set_option maxHeartbeats 4000000

theorem pu_35 (O : Orc) (s : List UInt8) (t : List AV) (H : AH) (N : Nat) (hl : t.length = 172) (h0 : t[0]? = some (.str s)) (hs : s.length < 9223372036854775807)
    (Q : AEx → List AV → AH → Prop) (hQ : ∀ t' : List AV, t'.length = 172 → (∀ k, k < 98 → t'[k]? = t[k]?) → t'[99]? = some (.slice .unk 1 s.length (strCells s)) → t'[100]? = some (.int .i64 s.length) → t'[101]? = some (.int .i64 0) → Q .normal t' H) :
    EndsIn (evCode O Tryz.prog envT N (fstC (fstC t55)) t H) Q := by
  obtain ⟨_, g0⟩ := List.getElem?_eq_some_iff.1 h0
  have hs' : s.length ≤ 9223372036854775807 := by omega
  simp [t55, bodyOf, Tryz.f167, fstC, sndC, evFunc, evCode, evRegion, withIds, needsId, idCount, grow, evOps, wantedA, stepO, callee, aop, putT, aeval, ofValC, ofVal, ofVals, applyUps, evResults, oneOrTup, alen, abin, abinInt, abinStr, aun, aindex, aslice, optInt, aextract, anilCheck, aconvert, aindexAddr, afieldAddr, afield, aload, ldAt, isConstO, aeq, EndsIn, hl, g0, hs', Tryz.underlying9, Tryz.underlying75, Tryz.underlying5]
  refine hQ _ ?_ ?_ ?_ ?_ ?_
  · simp [hl]
  · intro k hk
    simp only [List.getElem?_set]
    repeat rw [if_neg (by omega)]
  · simp [hl]
  · simp [hl]
  · simp [hl]

theorem pu_end (O : Orc) (t : List AV) (H : AH) (N : Nat) (m : Int) (hl : t.length = 172) (h12 : t[12]? = some (.bool false)) (h13 : t[13]? = some (.int .u64 m))
    (Q : AEx → List AV → AH → Prop) (hQ : ∀ t' : List AV, t'.length = 172 → t'[6]? = some (.int .u64 m) → t'[7]? = some .nilIface → Q .ret t' H) :
    EndsIn (evCode O Tryz.prog envT N (sndC t55) t H) Q := by
  obtain ⟨_, g12⟩ := List.getElem?_eq_some_iff.1 h12
  obtain ⟨_, g13⟩ := List.getElem?_eq_some_iff.1 h13
  simp [t55, bodyOf, Tryz.f167, fstC, sndC, evFunc, evCode, evRegion, withIds, needsId, idCount, grow, evOps, wantedA, stepO, callee, aop, putT, aeval, ofValC, ofVal, ofVals, applyUps, evResults, oneOrTup, alen, abin, abinInt, abinStr, aun, aindex, aslice, optInt, aextract, anilCheck, aconvert, aindexAddr, afieldAddr, afield, aload, ldAt, isConstO, aeq, EndsIn, hl, g12, g13]
  refine hQ _ ?_ ?_ ?_ <;> simp [hl]

theorem tail55 : tailC 11 (bodyOf Tryz.f167) = t55 := by kernel_rfl
theorem fin55 (t : List AV) (H : AH) (x y : AV) (h6 : t[6]? = some x) (h7 : t[7]? = some y) : fin Tryz.prog Tryz.f167 (some (.ret, t, H)) = some (.tup [x, y], H) := by
  simp [fin, Tryz.f167, evResults, h6, h7, oneOrTup]

/-- What ParseUint tells of digits. -/
def puRes (s : List UInt8) : AV := if numOf s < 18446744073709551616 then .tup [.int .u64 (numOf s), .nilIface] else .tup [.int .u64 18446744073709551615, .iface 273 (.int .i64 1)]

theorem pu_ev (O : Orc) (s : List UInt8) (hne : s ≠ []) (hd : allDigits s) (hs : s.length < 9223372036854775807) (H : AH) :
    evFunc O Tryz.prog envT (s.length + 1) 167 [.str s, .int .i64 10, .int .i64 64] H = some (puRes s, H) := by
  refine evFunc_of (c := bodyOf Tryz.f167) Tryz.func167 (by kernel_rfl) ?_
  refine EndsIn.split 11 _ ?_
  refine pu_pre O s _ H _ (by simp [Tryz.f167]) (by rfl) (by rfl) (by rfl) hne _ ?_
  intro t hl h0 h1 h8 h10 h11 h12 h13
  show EndsIn (evCode O Tryz.prog envT (s.length + 1) (tailC 11 (bodyOf Tryz.f167)) t H) _
  rw [tail55]
  refine EndsIn.seq (A := fstC t55) (B := sndC t55) (by kernel_rfl) ?_
  refine EndsIn.seq (A := fstC (fstC t55)) (B := sndC (fstC t55)) (by kernel_rfl) ?_
  refine pu_35 O s t H _ hl h0 hs _ ?_
  intro t2 hl2 hk h99 h100 h101
  show EndsIn (evCode O Tryz.prog envT (s.length + 1) (sndC (fstC t55)) t2 H) _
  refine EndsIn.block (A := .loop L55) (id := 3) (by kernel_rfl) ?_
  simp only [evCode]
  refine pu_loop O s hd hs _ H _ ?_ ?_ s.length t2 (by omega) ⟨rfl, hl2, (hk 1 (by omega)).trans h1, (hk 8 (by omega)).trans h8, (hk 10 (by omega)).trans h10, (hk 11 (by omega)).trans h11, (hk 12 (by omega)).trans h12, h99, h100, 0, by omega, h101, (hk 13 (by omega)).trans h13, by simp [numOf]⟩
  · intro t3 hl3 k12 k13 hn
    show EndsIn (evCode O Tryz.prog envT (s.length + 1) (sndC t55) t3 H) _
    refine pu_end O t3 H _ _ hl3 k12 k13 _ ?_
    intro t4 hl4 k6 k7
    show fin Tryz.prog Tryz.f167 (some (.ret, t4, H)) = some (puRes s, H)
    rw [fin55 t4 H _ _ k6 k7, puRes, if_pos hn]
  · intro t3 hl3 k6 k7 hn
    show fin Tryz.prog Tryz.f167 (some (.ret, t3, H)) = some (puRes s, H)
    rw [fin55 t3 H _ _ k6 k7, puRes, if_neg hn]
end Go.Proofs.YtpmonaempgjgbaaGreatDoor
