/- What tok's small functions tell: bytes that are letters, digits, inner ones; how many bytes of a kind a text begins with. -/
import Derived.Test.YtpmonaempgjgbaaGreatDoorTjB
import Derived.Test.YtpmonaempgjgbaaGreatDoorFwG3
set_option linter.unusedSimpArgs false
set_option linter.unusedVariables false
namespace Go.Proofs.YtpmonaempgjgbaaGreatDoor
open Go.RowKit Go.Proofs.Fw
set_option maxRecDepth 100000

def isSmall (b : UInt8) : Bool := decide (97 ≤ b.toNat) && decide (b.toNat ≤ 122)
def isDigit (b : UInt8) : Bool := decide (48 ≤ b.toNat) && decide (b.toNat ≤ 57)
def isInner (b : UInt8) : Bool := isSmall b || isDigit b || b.toNat == 95

theorem small_ev (O : Orc) (b : UInt8) (H : AH) : evFunc O Tryz.prog envT 1 77 [.int .u8 (b.toNat : Int)] H = some (.bool (isSmall b), H) := by
  by_cases h1 : (97 : Int) ≤ (b.toNat : Int)
  · by_cases h2 : (b.toNat : Int) ≤ 122
    · simp [Tryz.func77, Tryz.f77, evFunc, evCode, evRegion, withIds, needsId, idCount, grow, evOps, wantedA, stepO, callee, aop, putT, aeval, ofValC, ofVal, ofVals, applyUps, evResults, oneOrTup, alen, abin, abinInt, abinStr, aun, aindex, aslice, optInt, aextract, anilCheck, aconvert, aindexAddr, afieldAddr, afield, aload, ldAt, isConstO, aeq, isSmall, h1, h2]
      omega
    · simp [Tryz.func77, Tryz.f77, evFunc, evCode, evRegion, withIds, needsId, idCount, grow, evOps, wantedA, stepO, callee, aop, putT, aeval, ofValC, ofVal, ofVals, applyUps, evResults, oneOrTup, alen, abin, abinInt, abinStr, aun, aindex, aslice, optInt, aextract, anilCheck, aconvert, aindexAddr, afieldAddr, afield, aload, ldAt, isConstO, aeq, isSmall, h1, h2]
      omega
  · simp [Tryz.func77, Tryz.f77, evFunc, evCode, evRegion, withIds, needsId, idCount, grow, evOps, wantedA, stepO, callee, aop, putT, aeval, ofValC, ofVal, ofVals, applyUps, evResults, oneOrTup, alen, abin, abinInt, abinStr, aun, aindex, aslice, optInt, aextract, anilCheck, aconvert, aindexAddr, afieldAddr, afield, aload, ldAt, isConstO, aeq, isSmall, h1]
    omega
theorem digit_ev (O : Orc) (b : UInt8) (H : AH) : evFunc O Tryz.prog envT 1 114 [.int .u8 (b.toNat : Int)] H = some (.bool (isDigit b), H) := by
  by_cases h1 : (48 : Int) ≤ (b.toNat : Int)
  · by_cases h2 : (b.toNat : Int) ≤ 57
    · simp [Tryz.func114, Tryz.f114, evFunc, evCode, evRegion, withIds, needsId, idCount, grow, evOps, wantedA, stepO, callee, aop, putT, aeval, ofValC, ofVal, ofVals, applyUps, evResults, oneOrTup, alen, abin, abinInt, abinStr, aun, aindex, aslice, optInt, aextract, anilCheck, aconvert, aindexAddr, afieldAddr, afield, aload, ldAt, isConstO, aeq, isDigit, h1, h2]
      omega
    · simp [Tryz.func114, Tryz.f114, evFunc, evCode, evRegion, withIds, needsId, idCount, grow, evOps, wantedA, stepO, callee, aop, putT, aeval, ofValC, ofVal, ofVals, applyUps, evResults, oneOrTup, alen, abin, abinInt, abinStr, aun, aindex, aslice, optInt, aextract, anilCheck, aconvert, aindexAddr, afieldAddr, afield, aload, ldAt, isConstO, aeq, isDigit, h1, h2]
      omega
  · simp [Tryz.func114, Tryz.f114, evFunc, evCode, evRegion, withIds, needsId, idCount, grow, evOps, wantedA, stepO, callee, aop, putT, aeval, ofValC, ofVal, ofVals, applyUps, evResults, oneOrTup, alen, abin, abinInt, abinStr, aun, aindex, aslice, optInt, aextract, anilCheck, aconvert, aindexAddr, afieldAddr, afield, aload, ldAt, isConstO, aeq, isDigit, h1]
    omega

def oBytes1 : Orc := orElse (callB 77 isSmall) (callB 114 isDigit)
theorem oBytes1_sound : Sound Tryz.prog envT oBytes1 :=
  Sound.orElse (callB_sound fun b H => evFunc_ok oIdx_sound methT mixed (small_ev oIdx b H)) (callB_sound fun b H => evFunc_ok oIdx_sound methT mixed (digit_ev oIdx b H))
theorem oBytes1_25 (b : UInt8) (H : AH) : oBytes1 77 [.int .u8 (b.toNat : Int)] H = some (.bool (isSmall b), H) := by
  simp only [oBytes1, orElse, callB_at]
theorem oBytes1_34 (b : UInt8) (H : AH) : oBytes1 114 [.int .u8 (b.toNat : Int)] H = some (.bool (isDigit b), H) := by
  have : callB 77 isSmall 114 [.int .u8 (b.toNat : Int)] H = none := rfl
  simp only [oBytes1, orElse, this, callB_at]

theorem goFn_all : ∀ f, f ∈ [77, 114, 79, 78, 118, 80, 42, 83, 115, 87, 45, 73, 104, 117, 126, 127, 154, 155, 172] → goFn Tryz.prog f = true := by
  intro f hf
  simp only [List.mem_cons, List.not_mem_nil, or_false] at hf
  rcases hf with rfl | rfl | rfl | rfl | rfl | rfl | rfl | rfl | rfl | rfl | rfl | rfl | rfl | rfl | rfl | rfl | rfl | rfl | rfl <;> kernel_rfl
theorem go25 : goFn Tryz.prog 77 = true := goFn_all _ (by simp)
theorem go34 : goFn Tryz.prog 114 = true := goFn_all _ (by simp)
theorem go31 : goFn Tryz.prog 79 = true := goFn_all _ (by simp)

theorem inner_ev (b : UInt8) (H : AH) : evFunc oBytes1 Tryz.prog envT 1 79 [.int .u8 (b.toNat : Int)] H = some (.bool (isInner b), H) := by
  cases h1 : isSmall b
  · cases h2 : isDigit b
    · simp [Tryz.func79, Tryz.f79, evFunc, evCode, evRegion, withIds, needsId, idCount, grow, evOps, wantedA, stepO, callee, aop, putT, aeval, ofValC, ofVal, ofVals, applyUps, evResults, oneOrTup, alen, abin, abinInt, abinStr, aun, aindex, aslice, optInt, aextract, anilCheck, aconvert, aindexAddr, afieldAddr, afield, aload, ldAt, isConstO, aeq, isInner, h1, h2, go25, go34, oBytes1_25, oBytes1_34]
      rw [Bool.eq_iff_iff]
      simp only [beq_iff_eq]
      omega
    · simp [Tryz.func79, Tryz.f79, evFunc, evCode, evRegion, withIds, needsId, idCount, grow, evOps, wantedA, stepO, callee, aop, putT, aeval, ofValC, ofVal, ofVals, applyUps, evResults, oneOrTup, alen, abin, abinInt, abinStr, aun, aindex, aslice, optInt, aextract, anilCheck, aconvert, aindexAddr, afieldAddr, afield, aload, ldAt, isConstO, aeq, isInner, h1, h2, go25, go34, oBytes1_25, oBytes1_34]
  · simp [Tryz.func79, Tryz.f79, evFunc, evCode, evRegion, withIds, needsId, idCount, grow, evOps, wantedA, stepO, callee, aop, putT, aeval, ofValC, ofVal, ofVals, applyUps, evResults, oneOrTup, alen, abin, abinInt, abinStr, aun, aindex, aslice, optInt, aextract, anilCheck, aconvert, aindexAddr, afieldAddr, afield, aload, ldAt, isConstO, aeq, isInner, h1, go25, go34, oBytes1_25, oBytes1_34]

def oBytes : Orc := orElse (callB 79 isInner) oBytes1
theorem oBytes_sound : Sound Tryz.prog envT oBytes :=
  Sound.orElse (callB_sound fun b H => evFunc_ok oBytes1_sound methT mixed (inner_ev b H)) oBytes1_sound
theorem oBytes_31 (b : UInt8) (H : AH) : oBytes 79 [.int .u8 (b.toNat : Int)] H = some (.bool (isInner b), H) := by
  simp only [oBytes, orElse, callB_at]
theorem oBytes_25 (b : UInt8) (H : AH) : oBytes 77 [.int .u8 (b.toNat : Int)] H = some (.bool (isSmall b), H) := by
  have : callB 79 isInner 77 [.int .u8 (b.toNat : Int)] H = none := rfl
  simp only [oBytes, orElse, this]
  exact oBytes1_25 b H
theorem oBytes_34 (b : UInt8) (H : AH) : oBytes 114 [.int .u8 (b.toNat : Int)] H = some (.bool (isDigit b), H) := by
  have : callB 79 isInner 114 [.int .u8 (b.toNat : Int)] H = none := rfl
  simp only [oBytes, orElse, this]
  exact oBytes1_34 b H

noncomputable def b30 : Code := (Tryz.f78.body).getD .skip
noncomputable def loop30 : Code := inC (inC (fstC (sndC (sndC b30))))

theorem front_go (O : Orc) (s : List UInt8) (f : FuncId) (p : UInt8 → Bool) (hg : goFn Tryz.prog f = true) (ho : ∀ (b : UInt8) H, O f [.int .u8 (b.toNat : Int)] H = some (.bool (p b), H))
    (i : Nat) (hi : i < s.length) (hp : p s[i] = true) (hs : s.length < 9223372036854775807) (n : Nat) (v2 v3 v6 v7 v8 v9 v10 v11 v12 v13 v14 v15 v16 v17 v18 v19 : AV) (H : AH) :
    evCode O Tryz.prog envT n loop30 [.str s, .func (.func f) [] [], v2, v3, .int .i64 0, .int .i64 i, v6, v7, v8, v9, v10, v11, v12, v13, v14, v15, v16, v17, v18, v19] H =
      some (.normal, [.str s, .func (.func f) [] [], v2, v3, .int .i64 0, .int .i64 ((i + 1 : Nat) : Int), .int .i64 i, .str s, .int .i64 s.length, .bool true, .bool true, .func (.func f) [] [], .str s, .int .i64 i, .int .u8 (s[i].toNat : Int), .bool true, .bool true, .int .i64 i, .int .i64 ((i + 1 : Nat) : Int), v19], H) := by
  have h1 : (i : Int) < s.length := by omega
  have hw : IntKind.i64.wrap ((i : Int) + 1) = (i : Int) + 1 := wrap_i64 (by omega) (by omega)
  simp [loop30, b30, Tryz.f78, inC, fstC, sndC, evFunc, evCode, evRegion, withIds, needsId, idCount, grow, evOps, wantedA, stepO, callee, aop, putT, aeval, ofValC, ofVal, ofVals, applyUps, evResults, oneOrTup, alen, abin, abinInt, abinStr, aun, aindex, aslice, optInt, aextract, anilCheck, aconvert, aindexAddr, afieldAddr, afield, aload, ldAt, isConstO, aeq, h1, hi, hp, hg, ho, hw]

theorem front_stop (O : Orc) (s : List UInt8) (f : FuncId) (p : UInt8 → Bool) (hg : goFn Tryz.prog f = true) (ho : ∀ (b : UInt8) H, O f [.int .u8 (b.toNat : Int)] H = some (.bool (p b), H))
    (i : Nat) (hi : ∀ h : i < s.length, p s[i] = false) (n : Nat) (v2 v3 v6 v7 v8 v9 v10 v11 v12 v13 v14 v15 v16 v17 v18 v19 : AV) (H : AH) :
    ∃ w6 w7 w8 w9 w10 w11 w12 w13 w14 w15 w16 w17 w18 w19, evCode O Tryz.prog envT n loop30 [.str s, .func (.func f) [] [], v2, v3, .int .i64 0, .int .i64 i, v6, v7, v8, v9, v10, v11, v12, v13, v14, v15, v16, v17, v18, v19] H =
      some (.exit 0, [.str s, .func (.func f) [] [], v2, v3, .int .i64 0, .int .i64 i, w6, w7, w8, w9, w10, w11, w12, w13, w14, w15, w16, w17, w18, w19], H) := by
  by_cases hl : i < s.length
  · have h1 : (i : Int) < s.length := by omega
    have hp := hi hl
    simp [loop30, b30, Tryz.f78, inC, fstC, sndC, evFunc, evCode, evRegion, withIds, needsId, idCount, grow, evOps, wantedA, stepO, callee, aop, putT, aeval, ofValC, ofVal, ofVals, applyUps, evResults, oneOrTup, alen, abin, abinInt, abinStr, aun, aindex, aslice, optInt, aextract, anilCheck, aconvert, aindexAddr, afieldAddr, afield, aload, ldAt, isConstO, aeq, h1, hl, hp, hg, ho]
  · have h1 : ¬ (i : Int) < s.length := by omega
    simp [loop30, b30, Tryz.f78, inC, fstC, sndC, evFunc, evCode, evRegion, withIds, needsId, idCount, grow, evOps, wantedA, stepO, callee, aop, putT, aeval, ofValC, ofVal, ofVals, applyUps, evResults, oneOrTup, alen, abin, abinInt, abinStr, aun, aindex, aslice, optInt, aextract, anilCheck, aconvert, aindexAddr, afieldAddr, afield, aload, ldAt, isConstO, aeq, h1]

theorem front_iter (O : Orc) (s : List UInt8) (f : FuncId) (p : UInt8 → Bool) (hg : goFn Tryz.prog f = true) (ho : ∀ (b : UInt8) H, O f [.int .u8 (b.toNat : Int)] H = some (.bool (p b), H)) (hs : s.length < 9223372036854775807) (n : Nat) (v2 v3 : AV) (H : AH) :
    ∀ (m i : Nat), i ≤ frontLen p s → frontLen p s - i < m → ∀ v6 v7 v8 v9 v10 v11 v12 v13 v14 v15 v16 v17 v18 v19 : AV,
    ∃ w6 w7 w8 w9 w10 w11 w12 w13 w14 w15 w16 w17 w18 w19, iter (evCode O Tryz.prog envT n loop30) m [.str s, .func (.func f) [] [], v2, v3, .int .i64 0, .int .i64 i, v6, v7, v8, v9, v10, v11, v12, v13, v14, v15, v16, v17, v18, v19] H =
      some (.exit 0, [.str s, .func (.func f) [] [], v2, v3, .int .i64 0, .int .i64 (frontLen p s), w6, w7, w8, w9, w10, w11, w12, w13, w14, w15, w16, w17, w18, w19], H) := by
  intro m
  induction m with
  | zero => intro i _ h; omega
  | succ m ih =>
    intro i hi hm v6 v7 v8 v9 v10 v11 v12 v13 v14 v15 v16 v17 v18 v19
    by_cases he : i < frontLen p s
    · obtain ⟨h1, h2⟩ := frontLen_in p s i he
      rw [iter_step (front_go O s f p hg ho i h1 h2 hs n v2 v3 v6 v7 v8 v9 v10 v11 v12 v13 v14 v15 v16 v17 v18 v19 H)]
      exact ih (i + 1) he (by omega) _ _ _ _ _ _ _ _ _ _ _ _ _ _
    · have hie : i = frontLen p s := by omega
      subst hie
      obtain ⟨w6, w7, w8, w9, w10, w11, w12, w13, w14, w15, w16, w17, w18, w19, h⟩ := front_stop O s f p hg ho (frontLen p s) (frontLen_out p s) n v2 v3 v6 v7 v8 v9 v10 v11 v12 v13 v14 v15 v16 v17 v18 v19 H
      exact ⟨w6, w7, w8, w9, w10, w11, w12, w13, w14, w15, w16, w17, w18, w19, iter_exit h⟩

theorem front_ev (O : Orc) (s : List UInt8) (f : FuncId) (p : UInt8 → Bool) (hg : goFn Tryz.prog f = true) (ho : ∀ (b : UInt8) H, O f [.int .u8 (b.toNat : Int)] H = some (.bool (p b), H)) (hs : s.length < 9223372036854775807) (H : AH) :
    evFunc O Tryz.prog envT (s.length + 1) 78 [.str s, .func (.func f) [] []] H = some (.int .i64 (frontLen p s), H) := by
  obtain ⟨w6, w7, w8, w9, w10, w11, w12, w13, w14, w15, w16, w17, w18, w19, h⟩ := front_iter O s f p hg ho hs (s.length + 1) .nothing .nothing H (s.length + 1) 0 (Nat.zero_le _) (by have := frontLen_le p s; omega) .nothing .nothing .nothing .nothing .nothing .nothing .nothing .nothing .nothing .nothing .nothing .nothing .nothing .nothing
  rw [evFunc_fin (c := b30) Tryz.func78 (by kernel_rfl)]
  have e1 : evCode O Tryz.prog envT (s.length + 1) (fstC b30) ([.str s, .func (.func f) [] []] ++ List.replicate (Tryz.f78.ntmps - [AV.str s, .func (.func f) [] []].length) .nothing) H = some (.normal, [.str s, .func (.func f) [] [], .nothing, .nothing, .int .i64 0, .nothing, .nothing, .nothing, .nothing, .nothing, .nothing, .nothing, .nothing, .nothing, .nothing, .nothing, .nothing, .nothing, .nothing, .nothing], H) := by
    kernel_rfl
  have e2 : evCode O Tryz.prog envT (s.length + 1) (fstC (sndC b30)) [.str s, .func (.func f) [] [], .nothing, .nothing, .int .i64 0, .nothing, .nothing, .nothing, .nothing, .nothing, .nothing, .nothing, .nothing, .nothing, .nothing, .nothing, .nothing, .nothing, .nothing, .nothing] H = some (.normal, [.str s, .func (.func f) [] [], .nothing, .nothing, .int .i64 0, .int .i64 (0 : Nat), .nothing, .nothing, .nothing, .nothing, .nothing, .nothing, .nothing, .nothing, .nothing, .nothing, .nothing, .nothing, .nothing, .nothing], H) := by
    kernel_rfl
  rw [evCode_seq (B := sndC b30) (by kernel_rfl) e1, evCode_seq (B := sndC (sndC b30)) (by kernel_rfl) e2]
  rw [evCode_seq (A := fstC (sndC (sndC b30))) (B := sndC (sndC (sndC b30))) (by kernel_rfl) (evCode_loop (L := loop30) (by kernel_rfl) h)]
  show (_ : Option (AV × AH)) = _
  kernel_rfl
end Go.Proofs.YtpmonaempgjgbaaGreatDoor
