/- line.Part: a line's body, its note, its end. -/
import Derived.Test.YtpmonaempgjgbaaGreatDoorTkA
import Derived.Test.YtpmonaempgjgbaaGreatDoorFwG3
set_option linter.unusedSimpArgs false
set_option linter.unusedVariables false
namespace Go.Proofs.YtpmonaempgjgbaaGreatDoor
open Go.RowKit Go.Proofs.Fw
set_option maxRecDepth 100000
set_option maxHeartbeats 4000000

/-- Whether a text ends a line. -/
def hasNl (s : List UInt8) : Bool := decide (1 ≤ s.length) && (s.drop (s.length - 1) == [10])
def cutNl (s : List UInt8) : List UInt8 := if hasNl s then s.take (s.length - 1) else s

theorem suffix_ev (O : Orc) (s : List UInt8) (N : Nat) (H : AH) (hs : s.length < 9223372036854775807) : evFunc O Tryz.prog envT N 172 [.str s, .str [10]] H = some (.bool (hasNl s), H) := by
  by_cases h : 1 ≤ s.length
  · have h1 : (1 : Int) ≤ (s.length : Int) := by omega
    have w : IntKind.i64.wrap ((s.length : Int) - 1) = ((s.length - 1 : Nat) : Int) := by
      rw [wrap_i64 (by omega) (by omega)]; omega
    have k1 : ((s.length - 1 : Nat) : Int) ≤ (s.length : Int) := by omega
    simp [Tryz.func172, Tryz.f172, evFunc, evCode, evRegion, withIds, needsId, idCount, grow, evOps, wantedA, stepO, callee, aop, putT, aeval, ofValC, ofVal, ofVals, applyUps, evResults, oneOrTup, alen, abin, abinInt, abinStr, aun, aindex, aslice, optInt, aextract, anilCheck, aconvert, aindexAddr, afieldAddr, afield, aload, ldAt, isConstO, aeq, hasNl, h, h1, w, k1, Tryz.underlying9]
  · have h1 : ¬ (1 : Int) ≤ (s.length : Int) := by omega
    simp [Tryz.func172, Tryz.f172, evFunc, evCode, evRegion, withIds, needsId, idCount, grow, evOps, wantedA, stepO, callee, aop, putT, aeval, ofValC, ofVal, ofVals, applyUps, evResults, oneOrTup, alen, abin, abinInt, abinStr, aun, aindex, aslice, optInt, aextract, anilCheck, aconvert, aindexAddr, afieldAddr, afield, aload, ldAt, isConstO, aeq, hasNl, h, h1]

theorem go53 : goFn Tryz.prog 172 = true := goFn_all _ (by simp)
theorem go46 : goFn Tryz.prog 154 = true := goFn_all _ (by simp)
theorem go32 : goFn Tryz.prog 126 = true := goFn_all _ (by simp)
theorem go33 : goFn Tryz.prog 127 = true := goFn_all _ (by simp)
theorem go47 : goFn Tryz.prog 155 = true := goFn_all _ (by simp)

theorem cut46_ev (O : Orc) (s : List UInt8) (N : Nat) (H : AH) (hs : s.length < 9223372036854775807) (ho : O 172 [.str s, .str [10]] H = some (.bool (hasNl s), H)) :
    evFunc O Tryz.prog envT N 154 [.str s, .str [10]] H = some (.tup [.str (cutNl s), .bool (hasNl s)], H) := by
  unfold cutNl
  cases h : hasNl s
  · rw [h] at ho
    simp [Tryz.func154, Tryz.f154, evFunc, evCode, evRegion, withIds, needsId, idCount, grow, evOps, wantedA, stepO, callee, aop, putT, aeval, ofValC, ofVal, ofVals, applyUps, evResults, oneOrTup, alen, abin, abinInt, abinStr, aun, aindex, aslice, optInt, aextract, anilCheck, aconvert, aindexAddr, afieldAddr, afield, aload, ldAt, isConstO, aeq, go53, ho]
  · rw [h] at ho
    have h1 : 1 ≤ s.length := by
      unfold hasNl at h
      simp only [Bool.and_eq_true, decide_eq_true_eq] at h
      exact h.1
    have w : IntKind.i64.wrap ((s.length : Int) - 1) = ((s.length - 1 : Nat) : Int) := by
      rw [wrap_i64 (by omega) (by omega)]; omega
    have k1 : ((s.length - 1 : Nat) : Int) ≤ (s.length : Int) := by omega
    simp [Tryz.func154, Tryz.f154, evFunc, evCode, evRegion, withIds, needsId, idCount, grow, evOps, wantedA, stepO, callee, aop, putT, aeval, ofValC, ofVal, ofVals, applyUps, evResults, oneOrTup, alen, abin, abinInt, abinStr, aun, aindex, aslice, optInt, aextract, anilCheck, aconvert, aindexAddr, afieldAddr, afield, aload, ldAt, isConstO, aeq, go53, ho, w, k1, Tryz.underlying9]

theorem cut32_ev (O : Orc) (s : List UInt8) (N : Nat) (H : AH) (ho : O 154 [.str s, .str [10]] H = some (.tup [.str (cutNl s), .bool (hasNl s)], H)) :
    evFunc O Tryz.prog envT N 126 [.str s, .str [10]] H = some (.tup [.str (cutNl s), .bool (hasNl s)], H) := by
  simp [Tryz.func126, Tryz.f126, evFunc, evCode, evRegion, withIds, needsId, idCount, grow, evOps, wantedA, stepO, callee, aop, putT, aeval, ofValC, ofVal, ofVals, applyUps, evResults, oneOrTup, alen, abin, abinInt, abinStr, aun, aindex, aslice, optInt, aextract, anilCheck, aconvert, aindexAddr, afieldAddr, afield, aload, ldAt, isConstO, aeq, go46, ho]

theorem idx33_ev (O : Orc) (s : List UInt8) (c m : Int) (N : Nat) (H : AH) (ho : O 155 [.str s, .int .u8 c] H = some (.int .i64 m, H)) : evFunc O Tryz.prog envT N 127 [.str s, .int .u8 c] H = some (.int .i64 m, H) := by
  simp [Tryz.func127, Tryz.f127, evFunc, evCode, evRegion, withIds, needsId, idCount, grow, evOps, wantedA, stepO, callee, aop, putT, aeval, ofValC, ofVal, ofVals, applyUps, evResults, oneOrTup, alen, abin, abinInt, abinStr, aun, aindex, aslice, optInt, aextract, anilCheck, aconvert, aindexAddr, afieldAddr, afield, aload, ldAt, isConstO, aeq, go47, ho]

def nlOf (s : List UInt8) : List UInt8 := if hasNl s then [10] else []
theorem part_plain (O : Orc) (s : List UInt8) (m : Int) (N : Nat) (H : AH) (h32 : O 126 [.str s, .str [10]] H = some (.tup [.str (cutNl s), .bool (hasNl s)], H)) (h33 : O 127 [.str (cutNl s), .int .u8 33] H = some (.int .i64 m, H)) (hm : m < 0) :
    evFunc O Tryz.prog envT N 104 [.str s] H = some (.tup [.str (cutNl s), .str [], .str (nlOf s)], H) := by
  have hm' : ¬ (0 : Int) ≤ m := by omega
  unfold nlOf
  cases h : hasNl s <;> rw [h] at h32 <;>
    simp [Tryz.func104, Tryz.f104, evFunc, evCode, evRegion, withIds, needsId, idCount, grow, evOps, wantedA, stepO, callee, aop, putT, aeval, ofValC, ofVal, ofVals, applyUps, evResults, oneOrTup, alen, abin, abinInt, abinStr, aun, aindex, aslice, optInt, aextract, anilCheck, aconvert, aindexAddr, afieldAddr, afield, aload, ldAt, isConstO, aeq, go32, go33, h32, h33, hm']

noncomputable def P16 : Code := sndC (sndC (fstC (sndC (sndC (sndC (bodyOf Tryz.f104))))))
noncomputable def R16 : Code := yesC P16
theorem p16 : P16 = .cond (.tmp 16) (.region 6 (opsOf R16) true) .skip := by kernel_rfl
theorem r16_syn : idCount envT (opsOf R16).toList = 0 := by kernel_rfl
theorem r16_chk (n : Nat) : chkSyn (opsOf R16) (synItems 0 (masksFrom [] (opsOf R16).toList) (withIds envT (opsOf R16).toList n)) = true := by kernel_rfl
theorem r16_back : backOnly 0 (opsOf R16).toList = true := by kernel_rfl

theorem r16_ev (O : Orc) (b : List UInt8) (m : Nat) (t : List AV) (H : AH) (hl : t.length = 26) (h2 : t[2]? = some (.str b)) (h6 : t[6]? = some (.int .i64 m)) (hm : m ≤ b.length) (Q : List AV → Prop)
    (hQ : ∀ t' : List AV, t'.length = 26 → t'[2]? = some (.str (b.take m)) → t'[3]? = some (.str (b.drop m)) → t'[4]? = t[4]? → Q t') :
    ∃ t', evDraw O Tryz.prog envT (opsOf R16) t H = some (t', H) ∧ Q t' := by
  obtain ⟨_, g2⟩ := List.getElem?_eq_some_iff.1 h2
  obtain ⟨_, g6⟩ := List.getElem?_eq_some_iff.1 h6
  have k1 : (m : Int) ≤ (b.length : Int) := by omega
  have key : ∃ t', evP O Tryz.prog envT (opsOf R16) (withIds envT (opsOf R16).toList H.length) t H = some t' ∧ Q t' := by
    simp [evP, dstep, stepU, visIds, R16, P16, bodyOf, Tryz.f104, yesC, fstC, sndC, opsOf, evFunc, evCode, evRegion, withIds, needsId, idCount, grow, evOps, wantedA, stepO, callee, aop, putT, aeval, ofValC, ofVal, ofVals, applyUps, evResults, oneOrTup, alen, abin, abinInt, abinStr, aun, aindex, aslice, optInt, aextract, anilCheck, aconvert, aindexAddr, afieldAddr, afield, aload, ldAt, isConstO, aeq, opIds, hl, g2, g6, k1, Tryz.underlying9]
    refine hQ _ ?_ ?_ ?_ ?_ <;> simp [hl]
  obtain ⟨t', h1, h2⟩ := key
  exact ⟨t', evDraw_pure r16_syn h1 r16_chk r16_back, h2⟩

theorem part_pre (O : Orc) (s : List UInt8) (t : List AV) (N : Nat) (H : AH) (hl : t.length = 26) (h0 : t[0]? = some (.str s)) (h32 : O 126 [.str s, .str [10]] H = some (.tup [.str (cutNl s), .bool (hasNl s)], H)) (Q : AEx → List AV → AH → Prop)
    (hQ : ∀ t' : List AV, t'.length = 26 → t'[2]? = some (.str (cutNl s)) → t'[4]? = some (.str (nlOf s)) → Q .normal t' H) : EndsIn (evCode O Tryz.prog envT N (headC 3 (bodyOf Tryz.f104)) t H) Q := by
  obtain ⟨_, g0⟩ := List.getElem?_eq_some_iff.1 h0
  unfold nlOf at hQ
  cases h : hasNl s <;> rw [h] at h32 hQ <;>
    simp [bodyOf, Tryz.f104, headC, evFunc, evCode, evRegion, withIds, needsId, idCount, grow, evOps, wantedA, stepO, callee, aop, putT, aeval, ofValC, ofVal, ofVals, applyUps, evResults, oneOrTup, alen, abin, abinInt, abinStr, aun, aindex, aslice, optInt, aextract, anilCheck, aconvert, aindexAddr, afieldAddr, afield, aload, ldAt, isConstO, aeq, EndsIn, hl, g0, go32, h32] <;>
    (refine hQ _ ?_ ?_ ?_ <;> simp [hl])

noncomputable def t16 : Code := sndC (sndC (sndC (bodyOf Tryz.f104)))
theorem tail16 : tailC 3 (bodyOf Tryz.f104) = t16 := by kernel_rfl
noncomputable def x16 : Code := fstC t16

theorem part_mid (O : Orc) (b : List UInt8) (m : Nat) (t : List AV) (N : Nat) (H : AH) (hl : t.length = 26) (h2 : t[2]? = some (.str b)) (h33 : O 127 [.str b, .int .u8 33] H = some (.int .i64 m, H)) (Q : AEx → List AV → AH → Prop)
    (hQ : ∀ t' : List AV, t'.length = 26 → t'[2]? = t[2]? → t'[4]? = t[4]? → t'[6]? = some (.int .i64 m) → t'[16]? = some (.bool true) → Q .normal t' H) : EndsIn (evCode O Tryz.prog envT N (headC 2 x16) t H) Q := by
  obtain ⟨_, g2⟩ := List.getElem?_eq_some_iff.1 h2
  simp [x16, t16, bodyOf, Tryz.f104, headC, fstC, sndC, evFunc, evCode, evRegion, withIds, needsId, idCount, grow, evOps, wantedA, stepO, callee, aop, putT, aeval, ofValC, ofVal, ofVals, applyUps, evResults, oneOrTup, alen, abin, abinInt, abinStr, aun, aindex, aslice, optInt, aextract, anilCheck, aconvert, aindexAddr, afieldAddr, afield, aload, ldAt, isConstO, aeq, EndsIn, hl, g2, go33, h33]
  refine hQ _ ?_ ?_ ?_ ?_ ?_ <;> simp [hl, g2]

theorem tailx16 : tailC 2 x16 = P16 := by kernel_rfl

theorem part_end (O : Orc) (x y z : AV) (t : List AV) (N : Nat) (H : AH) (hl : t.length = 26) (h2 : t[2]? = some x) (h3 : t[3]? = some y) (h4 : t[4]? = some z) (Q : AEx → List AV → AH → Prop)
    (hQ : ∀ t' : List AV, t'.length = 26 → t'[2]? = some x → t'[3]? = some y → t'[4]? = some z → Q .ret t' H) : EndsIn (evCode O Tryz.prog envT N (sndC t16) t H) Q := by
  obtain ⟨_, g2⟩ := List.getElem?_eq_some_iff.1 h2
  obtain ⟨_, g3⟩ := List.getElem?_eq_some_iff.1 h3
  obtain ⟨_, g4⟩ := List.getElem?_eq_some_iff.1 h4
  simp [t16, bodyOf, Tryz.f104, sndC, evFunc, evCode, evRegion, withIds, needsId, idCount, grow, evOps, wantedA, stepO, callee, aop, putT, aeval, ofValC, ofVal, ofVals, applyUps, evResults, oneOrTup, alen, abin, abinInt, abinStr, aun, aindex, aslice, optInt, aextract, anilCheck, aconvert, aindexAddr, afieldAddr, afield, aload, ldAt, isConstO, aeq, EndsIn, hl, g2, g3, g4]
  refine hQ _ ?_ ?_ ?_ ?_ <;> simp [hl]

theorem fin16 (t : List AV) (H : AH) (x y z : AV) (h2 : t[2]? = some x) (h3 : t[3]? = some y) (h4 : t[4]? = some z) : fin Tryz.prog Tryz.f104 (some (.ret, t, H)) = some (.tup [x, y, z], H) := by
  simp [fin, Tryz.f104, evResults, h2, h3, h4, oneOrTup]

theorem part_note (O : Orc) (s : List UInt8) (m : Nat) (N : Nat) (H : AH) (h32 : O 126 [.str s, .str [10]] H = some (.tup [.str (cutNl s), .bool (hasNl s)], H)) (h33 : O 127 [.str (cutNl s), .int .u8 33] H = some (.int .i64 m, H)) (hm : m ≤ (cutNl s).length) :
    evFunc O Tryz.prog envT N 104 [.str s] H = some (.tup [.str ((cutNl s).take m), .str ((cutNl s).drop m), .str (nlOf s)], H) := by
  refine evFunc_of (c := bodyOf Tryz.f104) Tryz.func104 (by kernel_rfl) ?_
  refine EndsIn.split 3 _ ?_
  refine part_pre O s _ _ H (by simp [Tryz.f104]) (by rfl) h32 _ ?_
  intro t hl k2 k4
  show EndsIn (evCode O Tryz.prog envT N (tailC 3 (bodyOf Tryz.f104)) t H) _
  rw [tail16]
  refine EndsIn.seq (A := x16) (B := sndC t16) (by kernel_rfl) ?_
  refine EndsIn.split 2 _ ?_
  refine part_mid O _ m t _ H hl k2 h33 _ ?_
  intro t2 hl2 j2 j4 j6 j16
  show EndsIn (evCode O Tryz.prog envT N (tailC 2 x16) t2 H) _
  rw [tailx16, p16]
  obtain ⟨t3, e3, hl3, i2, i3, i4⟩ := r16_ev O (cutNl s) m t2 H hl2 (j2.trans k2) j6 hm (fun t' => t'.length = 26 ∧ t'[2]? = some (.str ((cutNl s).take m)) ∧ t'[3]? = some (.str ((cutNl s).drop m)) ∧ t'[4]? = t2[4]?) (fun t' a b c d => ⟨a, b, c, d⟩)
  have hc : aeval envT t2 (.tmp 16) = .bool true := by simp [aeval, j16]
  simp only [evCode, hc, if_true, e3]
  refine EndsIn.some_iff.2 ?_
  show EndsIn (evCode O Tryz.prog envT N (sndC t16) t3 H) (fun e t H' => fin Tryz.prog Tryz.f104 (some (e, t, H')) = some (.tup [.str ((cutNl s).take m), .str ((cutNl s).drop m), .str (nlOf s)], H))
  refine part_end O _ _ _ t3 _ H hl3 i2 i3 (i4.trans (j4.trans k4)) _ ?_
  intro t4 hl4 a b c
  show fin Tryz.prog Tryz.f104 (some (.ret, t4, H)) = _
  rw [fin16 t4 H _ _ _ a b c]
end Go.Proofs.YtpmonaempgjgbaaGreatDoor
