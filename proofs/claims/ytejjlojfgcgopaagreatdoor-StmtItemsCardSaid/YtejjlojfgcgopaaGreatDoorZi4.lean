/- What tok's small functions tell: bytes that are letters, dig .. errors.Is and errors.As at faults and error numbers, as cont -/
import Derived.Test.YtejjlojfgcgopaaGreatDoorZi3
import Derived.Test.YtejjlojfgcgopaaGreatDoorChecked
import Derived.KernelRfl
import Derived.WalkKit
import Derived.LaidEql
import Derived.Stop.Asserts
import Derived.RowKitTokens
set_option linter.unusedSimpArgs false
set_option linter.unusedVariables false
namespace Go.Proofs.YtejjlojfgcgopaaGreatDoor
open Go.RowKit Go.Proofs.Fw
set_option maxRecDepth 100000
def isSmall (b : UInt8) : Bool := decide (97 ≤ b.toNat) && decide (b.toNat ≤ 122)
def isDigit (b : UInt8) : Bool := decide (48 ≤ b.toNat) && decide (b.toNat ≤ 57)
def isInner (b : UInt8) : Bool := isSmall b || isDigit b || b.toNat == 95
theorem small_ev (O : Orc) (b : UInt8) (H : AH) : evFunc O Tryz.prog envT 1 88 [.int .u8 (b.toNat : Int)] H = some (.bool (isSmall b), H) := by
  by_cases h1 : (97 : Int) ≤ (b.toNat : Int)
  · by_cases h2 : (b.toNat : Int) ≤ 122
    · simp [Tryz.func88, Tryz.f88, evFunc, evCode, evRegion, withIds, needsId, idCount, grow, evOps, wantedA, stepO, callee, aop, putT, aeval, ofValC, ofVal, ofVals, applyUps, evResults, oneOrTup, alen, abin, abinInt, abinStr, aun, aindex, aslice, optInt, aextract, anilCheck, aconvert, aindexAddr, afieldAddr, afield, aload, ldAt, isConstO, aeq, isSmall, h1, h2]
      omega
    · simp [Tryz.func88, Tryz.f88, evFunc, evCode, evRegion, withIds, needsId, idCount, grow, evOps, wantedA, stepO, callee, aop, putT, aeval, ofValC, ofVal, ofVals, applyUps, evResults, oneOrTup, alen, abin, abinInt, abinStr, aun, aindex, aslice, optInt, aextract, anilCheck, aconvert, aindexAddr, afieldAddr, afield, aload, ldAt, isConstO, aeq, isSmall, h1, h2]
      omega
  · simp [Tryz.func88, Tryz.f88, evFunc, evCode, evRegion, withIds, needsId, idCount, grow, evOps, wantedA, stepO, callee, aop, putT, aeval, ofValC, ofVal, ofVals, applyUps, evResults, oneOrTup, alen, abin, abinInt, abinStr, aun, aindex, aslice, optInt, aextract, anilCheck, aconvert, aindexAddr, afieldAddr, afield, aload, ldAt, isConstO, aeq, isSmall, h1]
    omega
theorem digit_ev (O : Orc) (b : UInt8) (H : AH) : evFunc O Tryz.prog envT 1 134 [.int .u8 (b.toNat : Int)] H = some (.bool (isDigit b), H) := by
  by_cases h1 : (48 : Int) ≤ (b.toNat : Int)
  · by_cases h2 : (b.toNat : Int) ≤ 57
    · simp [Tryz.func134, Tryz.f134, evFunc, evCode, evRegion, withIds, needsId, idCount, grow, evOps, wantedA, stepO, callee, aop, putT, aeval, ofValC, ofVal, ofVals, applyUps, evResults, oneOrTup, alen, abin, abinInt, abinStr, aun, aindex, aslice, optInt, aextract, anilCheck, aconvert, aindexAddr, afieldAddr, afield, aload, ldAt, isConstO, aeq, isDigit, h1, h2]
      omega
    · simp [Tryz.func134, Tryz.f134, evFunc, evCode, evRegion, withIds, needsId, idCount, grow, evOps, wantedA, stepO, callee, aop, putT, aeval, ofValC, ofVal, ofVals, applyUps, evResults, oneOrTup, alen, abin, abinInt, abinStr, aun, aindex, aslice, optInt, aextract, anilCheck, aconvert, aindexAddr, afieldAddr, afield, aload, ldAt, isConstO, aeq, isDigit, h1, h2]
      omega
  · simp [Tryz.func134, Tryz.f134, evFunc, evCode, evRegion, withIds, needsId, idCount, grow, evOps, wantedA, stepO, callee, aop, putT, aeval, ofValC, ofVal, ofVals, applyUps, evResults, oneOrTup, alen, abin, abinInt, abinStr, aun, aindex, aslice, optInt, aextract, anilCheck, aconvert, aindexAddr, afieldAddr, afield, aload, ldAt, isConstO, aeq, isDigit, h1]
    omega
def oBytes1 : Orc := orElse (callB 88 isSmall) (callB 134 isDigit)
theorem oBytes1_sound : Sound Tryz.prog envT oBytes1 :=
  Sound.orElse (callB_sound fun b H => evFunc_ok oIdx_sound methT mixed (small_ev oIdx b H)) (callB_sound fun b H => evFunc_ok oIdx_sound methT mixed (digit_ev oIdx b H))
theorem oBytes1_25 (b : UInt8) (H : AH) : oBytes1 88 [.int .u8 (b.toNat : Int)] H = some (.bool (isSmall b), H) := by
  simp only [oBytes1, orElse, callB_at]
theorem oBytes1_34 (b : UInt8) (H : AH) : oBytes1 134 [.int .u8 (b.toNat : Int)] H = some (.bool (isDigit b), H) := by
  have : callB 88 isSmall 134 [.int .u8 (b.toNat : Int)] H = none := rfl
  simp only [oBytes1, orElse, this, callB_at]
theorem goFn_all : ∀ f, f ∈ [88, 134, 132, 131, 136, 133, 173, 201, 174, 87, 51, 50, 135, 85, 86, 129, 130, 171] → goFn Tryz.prog f = true := by
  intro f hf
  simp only [List.mem_cons, List.not_mem_nil, or_false] at hf
  rcases hf with rfl | rfl | rfl | rfl | rfl | rfl | rfl | rfl | rfl | rfl | rfl | rfl | rfl | rfl | rfl | rfl | rfl | rfl | rfl <;> kernel_rfl
theorem go25 : goFn Tryz.prog 88 = true := goFn_all _ (by simp)
theorem go34 : goFn Tryz.prog 134 = true := goFn_all _ (by simp)
theorem inner_ev (b : UInt8) (H : AH) : evFunc oBytes1 Tryz.prog envT 1 132 [.int .u8 (b.toNat : Int)] H = some (.bool (isInner b), H) := by
  cases h1 : isSmall b
  · cases h2 : isDigit b
    · simp [Tryz.func132, Tryz.f132, evFunc, evCode, evRegion, withIds, needsId, idCount, grow, evOps, wantedA, stepO, callee, aop, putT, aeval, ofValC, ofVal, ofVals, applyUps, evResults, oneOrTup, alen, abin, abinInt, abinStr, aun, aindex, aslice, optInt, aextract, anilCheck, aconvert, aindexAddr, afieldAddr, afield, aload, ldAt, isConstO, aeq, isInner, h1, h2, go25, go34, oBytes1_25, oBytes1_34]
      rw [Bool.eq_iff_iff]
      simp only [beq_iff_eq]
      omega
    · simp [Tryz.func132, Tryz.f132, evFunc, evCode, evRegion, withIds, needsId, idCount, grow, evOps, wantedA, stepO, callee, aop, putT, aeval, ofValC, ofVal, ofVals, applyUps, evResults, oneOrTup, alen, abin, abinInt, abinStr, aun, aindex, aslice, optInt, aextract, anilCheck, aconvert, aindexAddr, afieldAddr, afield, aload, ldAt, isConstO, aeq, isInner, h1, h2, go25, go34, oBytes1_25, oBytes1_34]
  · simp [Tryz.func132, Tryz.f132, evFunc, evCode, evRegion, withIds, needsId, idCount, grow, evOps, wantedA, stepO, callee, aop, putT, aeval, ofValC, ofVal, ofVals, applyUps, evResults, oneOrTup, alen, abin, abinInt, abinStr, aun, aindex, aslice, optInt, aextract, anilCheck, aconvert, aindexAddr, afieldAddr, afield, aload, ldAt, isConstO, aeq, isInner, h1, go25, go34, oBytes1_25, oBytes1_34]
def oBytes : Orc := orElse (callB 132 isInner) oBytes1
theorem oBytes_sound : Sound Tryz.prog envT oBytes :=
  Sound.orElse (callB_sound fun b H => evFunc_ok oBytes1_sound methT mixed (inner_ev b H)) oBytes1_sound
theorem oBytes_31 (b : UInt8) (H : AH) : oBytes 132 [.int .u8 (b.toNat : Int)] H = some (.bool (isInner b), H) := by
  simp only [oBytes, orElse, callB_at]
theorem oBytes_25 (b : UInt8) (H : AH) : oBytes 88 [.int .u8 (b.toNat : Int)] H = some (.bool (isSmall b), H) := by
  have : callB 132 isInner 88 [.int .u8 (b.toNat : Int)] H = none := rfl
  simp only [oBytes, orElse, this]
  exact oBytes1_25 b H
theorem oBytes_34 (b : UInt8) (H : AH) : oBytes 134 [.int .u8 (b.toNat : Int)] H = some (.bool (isDigit b), H) := by
  have : callB 132 isInner 134 [.int .u8 (b.toNat : Int)] H = none := rfl
  simp only [oBytes, orElse, this]
  exact oBytes1_34 b H
noncomputable def b30 : Code := (Tryz.f131.body).getD .skip
noncomputable def loop30 : Code := inC (inC (fstC (sndC (sndC b30))))
theorem front_go (O : Orc) (s : List UInt8) (f : FuncId) (p : UInt8 → Bool) (hg : goFn Tryz.prog f = true) (ho : ∀ (b : UInt8) H, O f [.int .u8 (b.toNat : Int)] H = some (.bool (p b), H))
    (i : Nat) (hi : i < s.length) (hp : p s[i] = true) (hs : s.length < 9223372036854775807) (n : Nat) (v2 v3 v6 v7 v8 v9 v10 v11 v12 v13 v14 v15 v16 v17 v18 v19 : AV) (H : AH) :
    evCode O Tryz.prog envT n loop30 [.str s, .func (.func f) [] [], v2, v3, .int .i64 0, .int .i64 i, v6, v7, v8, v9, v10, v11, v12, v13, v14, v15, v16, v17, v18, v19] H =
      some (.normal, [.str s, .func (.func f) [] [], v2, v3, .int .i64 0, .int .i64 ((i + 1 : Nat) : Int), .int .i64 i, .str s, .int .i64 s.length, .bool true, .bool true, .func (.func f) [] [], .str s, .int .i64 i, .int .u8 (s[i].toNat : Int), .bool true, .bool true, .int .i64 i, .int .i64 ((i + 1 : Nat) : Int), v19], H) := by
  have h1 : (i : Int) < s.length := by omega
  have hw : IntKind.i64.wrap ((i : Int) + 1) = (i : Int) + 1 := wrap_i64 (by omega) (by omega)
  simp [loop30, b30, Tryz.f131, inC, fstC, sndC, evFunc, evCode, evRegion, withIds, needsId, idCount, grow, evOps, wantedA, stepO, callee, aop, putT, aeval, ofValC, ofVal, ofVals, applyUps, evResults, oneOrTup, alen, abin, abinInt, abinStr, aun, aindex, aslice, optInt, aextract, anilCheck, aconvert, aindexAddr, afieldAddr, afield, aload, ldAt, isConstO, aeq, h1, hi, hp, hg, ho, hw]
theorem front_stop (O : Orc) (s : List UInt8) (f : FuncId) (p : UInt8 → Bool) (hg : goFn Tryz.prog f = true) (ho : ∀ (b : UInt8) H, O f [.int .u8 (b.toNat : Int)] H = some (.bool (p b), H))
    (i : Nat) (hi : ∀ h : i < s.length, p s[i] = false) (n : Nat) (v2 v3 v6 v7 v8 v9 v10 v11 v12 v13 v14 v15 v16 v17 v18 v19 : AV) (H : AH) :
    ∃ w6 w7 w8 w9 w10 w11 w12 w13 w14 w15 w16 w17 w18 w19, evCode O Tryz.prog envT n loop30 [.str s, .func (.func f) [] [], v2, v3, .int .i64 0, .int .i64 i, v6, v7, v8, v9, v10, v11, v12, v13, v14, v15, v16, v17, v18, v19] H =
      some (.exit 0, [.str s, .func (.func f) [] [], v2, v3, .int .i64 0, .int .i64 i, w6, w7, w8, w9, w10, w11, w12, w13, w14, w15, w16, w17, w18, w19], H) := by
  by_cases hl : i < s.length
  · have h1 : (i : Int) < s.length := by omega
    have hp := hi hl
    simp [loop30, b30, Tryz.f131, inC, fstC, sndC, evFunc, evCode, evRegion, withIds, needsId, idCount, grow, evOps, wantedA, stepO, callee, aop, putT, aeval, ofValC, ofVal, ofVals, applyUps, evResults, oneOrTup, alen, abin, abinInt, abinStr, aun, aindex, aslice, optInt, aextract, anilCheck, aconvert, aindexAddr, afieldAddr, afield, aload, ldAt, isConstO, aeq, h1, hl, hp, hg, ho]
  · have h1 : ¬ (i : Int) < s.length := by omega
    simp [loop30, b30, Tryz.f131, inC, fstC, sndC, evFunc, evCode, evRegion, withIds, needsId, idCount, grow, evOps, wantedA, stepO, callee, aop, putT, aeval, ofValC, ofVal, ofVals, applyUps, evResults, oneOrTup, alen, abin, abinInt, abinStr, aun, aindex, aslice, optInt, aextract, anilCheck, aconvert, aindexAddr, afieldAddr, afield, aload, ldAt, isConstO, aeq, h1]
theorem front_iter (O : Orc) (s : List UInt8) (f : FuncId) (p : UInt8 → Bool) (hg : goFn Tryz.prog f = true) (ho : ∀ (b : UInt8) H, O f [.int .u8 (b.toNat : Int)] H = some (.bool (p b), H)) (hs : s.length < 9223372036854775807) (n : Nat) (v2 v3 : AV) (H : AH) :
    ∀ (m i : Nat), i ≤ frontLen p s → frontLen p s - i < m → ∀ v6 v7 v8 v9 v10 v11 v12 v13 v14 v15 v16 v17 v18 v19 : AV,
    ∃ w6 w7 w8 w9 w10 w11 w12 w13 w14 w15 w16 w17 w18 w19, iter (evCode O Tryz.prog envT n loop30) m [.str s, .func (.func f) [] [], v2, v3, .int .i64 0, .int .i64 i, v6, v7, v8, v9, v10, v11, v12, v13, v14, v15, v16, v17, v18, v19] H =
      some (.exit 0, [.str s, .func (.func f) [] [], v2, v3, .int .i64 0, .int .i64 (frontLen p s), w6, w7, w8, w9, w10, w11, w12, w13, w14, w15, w16, w17, w18, w19], H) := by
  intro m
  induction m with
  | zero => intro i _ h; omega
  | succ m ih =>
    intro i hi hm v6 v7 v8 v9 v10 v11 v12 v13 v14 v15 v16 v17 v18 v19
    by_cases he : i < frontLen p s
    · obtain ⟨h1, h2⟩ := frontLen_in p s i he
      rw [iter_step (front_go O s f p hg ho i h1 h2 hs n v2 v3 v6 v7 v8 v9 v10 v11 v12 v13 v14 v15 v16 v17 v18 v19 H)]
      exact ih (i + 1) he (by omega) _ _ _ _ _ _ _ _ _ _ _ _ _ _
    · have hie : i = frontLen p s := by omega
      subst hie
      obtain ⟨w6, w7, w8, w9, w10, w11, w12, w13, w14, w15, w16, w17, w18, w19, h⟩ := front_stop O s f p hg ho (frontLen p s) (frontLen_out p s) n v2 v3 v6 v7 v8 v9 v10 v11 v12 v13 v14 v15 v16 v17 v18 v19 H
      exact ⟨w6, w7, w8, w9, w10, w11, w12, w13, w14, w15, w16, w17, w18, w19, iter_exit h⟩
theorem front_ev (O : Orc) (s : List UInt8) (f : FuncId) (p : UInt8 → Bool) (hg : goFn Tryz.prog f = true) (ho : ∀ (b : UInt8) H, O f [.int .u8 (b.toNat : Int)] H = some (.bool (p b), H)) (hs : s.length < 9223372036854775807) (H : AH) :
    evFunc O Tryz.prog envT (s.length + 1) 131 [.str s, .func (.func f) [] []] H = some (.int .i64 (frontLen p s), H) := by
  obtain ⟨w6, w7, w8, w9, w10, w11, w12, w13, w14, w15, w16, w17, w18, w19, h⟩ := front_iter O s f p hg ho hs (s.length + 1) .nothing .nothing H (s.length + 1) 0 (Nat.zero_le _) (by have := frontLen_le p s; omega) .nothing .nothing .nothing .nothing .nothing .nothing .nothing .nothing .nothing .nothing .nothing .nothing .nothing .nothing
  rw [evFunc_fin (c := b30) Tryz.func131 (by kernel_rfl)]
  have e1 : evCode O Tryz.prog envT (s.length + 1) (fstC b30) ([.str s, .func (.func f) [] []] ++ List.replicate (Tryz.f131.ntmps - [AV.str s, .func (.func f) [] []].length) .nothing) H = some (.normal, [.str s, .func (.func f) [] [], .nothing, .nothing, .int .i64 0, .nothing, .nothing, .nothing, .nothing, .nothing, .nothing, .nothing, .nothing, .nothing, .nothing, .nothing, .nothing, .nothing, .nothing, .nothing], H) := by
    kernel_rfl
  have e2 : evCode O Tryz.prog envT (s.length + 1) (fstC (sndC b30)) [.str s, .func (.func f) [] [], .nothing, .nothing, .int .i64 0, .nothing, .nothing, .nothing, .nothing, .nothing, .nothing, .nothing, .nothing, .nothing, .nothing, .nothing, .nothing, .nothing, .nothing, .nothing] H = some (.normal, [.str s, .func (.func f) [] [], .nothing, .nothing, .int .i64 0, .int .i64 (0 : Nat), .nothing, .nothing, .nothing, .nothing, .nothing, .nothing, .nothing, .nothing, .nothing, .nothing, .nothing, .nothing, .nothing, .nothing], H) := by
    kernel_rfl
  rw [evCode_seq (B := sndC b30) (by kernel_rfl) e1, evCode_seq (B := sndC (sndC b30)) (by kernel_rfl) e2]
  rw [evCode_seq (A := fstC (sndC (sndC b30))) (B := sndC (sndC (sndC b30))) (by kernel_rfl) (evCode_loop (L := loop30) (by kernel_rfl) h)]
  show (_ : Option (AV × AH)) = _
  kernel_rfl
end Go.Proofs.YtejjlojfgcgopaaGreatDoor
namespace Go.Proofs.YtejjlojfgcgopaaGreatDoor
open Go.RowKit Go.Proofs.Fw
set_option maxRecDepth 100000
set_option maxHeartbeats 4000000
def signLen : List UInt8 → Nat
  | [] => 0
  | c :: r => if c.toNat = 60 ∨ c.toNat = 62 ∨ c.toNat = 61 ∨ c.toNat = 47 then (match r with
      | d :: _ => if d.toNat = 61 then 2 else 1
      | [] => 1)
    else if c.toNat = 43 ∨ c.toNat = 45 ∨ c.toNat = 42 ∨ c.toNat = 40 ∨ c.toNat = 41 ∨ c.toNat = 44 then 1 else 0
theorem sz9 : szOf Tryz.prog 9 = some 1 := by kernel_rfl
theorem ag9 : aggB Tryz.prog 9 = some false := by kernel_rfl
theorem index_none (O : Orc) (s : List UInt8) (H : AH) (h0 : (s == [105,110,116,101,103,101,114]) = false) (h1 : (s == [100,111]) = false) (h2 : (s == [101,110,100]) = false) (h3 : (s == [105,102]) = false)
    (h4 : (s == [116,104,101,110]) = false) (h5 : (s == [101,108,115,101]) = false) (h6 : (s == [114,101,97,100]) = false) (h7 : (s == [112,114,105,110,116]) = false) :
    evFunc O Tryz.prog envT 9 201 [keysAV, .str s] H = some (.int .i64 (-1), H) := by
  simp [Tryz.func201, Tryz.f201, evFunc, evCode, evRegion, withIds, needsId, idCount, grow, evOps, wantedA, stepO, callee, aop, putT, aeval, ofValC, ofVal, ofVals, applyUps, evResults, oneOrTup, alen, abin, abinInt, abinStr, aun, aindex, aslice, optInt, aextract, anilCheck, aconvert, aindexAddr, afieldAddr, afield, aload, ldAt, isConstO, aeq, iter, keysAV, keysL, sz9, ag9, h0, h1, h2, h3, h4, h5, h6, h7, IntKind.wrap, IntKind.bits, IntKind.signed]
theorem key_none (s : List UInt8) (h : keysL.contains s = false) : run fzT base1 Tryz.prog envT 9 3 133 [.str s] [] = some (.bool false, []) := by
  simp only [keysL, List.contains_cons, List.contains_nil, Bool.or_false, Bool.or_eq_false_iff] at h
  obtain ⟨h0, h1, h2, h3, h4, h5, h6, h7⟩ := h
  have b43 : base1 201 [keysAV, .str s] [] = none := rfl
  have b28 : base1 173 [keysAV, .str s] [] = none := rfl
  have b14 : base1 133 [.str s] [] = none := rfl
  have b29 : base1 174 [.str keyTxt] [] = some (keysAV, []) := by kernel_rfl
  have g43 : goFn Tryz.prog 201 = true := goFn_all _ (by simp)
  have g28 : goFn Tryz.prog 173 = true := goFn_all _ (by simp)
  have g29 : goFn Tryz.prog 174 = true := goFn_all _ (by simp)
  have e43 : run fzT base1 Tryz.prog envT 9 1 201 [keysAV, .str s] [] = some (.int .i64 (-1), []) := by
    have := index_none base1 s [] h0 h1 h2 h3 h4 h5 h6 h7
    simp [run, b43, this, tidy, fzT, frz, strip, low, lowH]
  have e28 : run fzT base1 Tryz.prog envT 9 2 173 [keysAV, .str s] [] = some (.bool false, []) := by
    have : evFunc (run fzT base1 Tryz.prog envT 9 1) Tryz.prog envT 9 173 [keysAV, .str s] [] = some (.bool false, []) := by
      simp [Tryz.func173, Tryz.f173, evFunc, evCode, evRegion, withIds, needsId, idCount, grow, evOps, wantedA, stepO, callee, aop, putT, aeval, ofValC, ofVal, ofVals, applyUps, evResults, oneOrTup, alen, abin, abinInt, abinStr, aun, aindex, aslice, optInt, aextract, anilCheck, aconvert, aindexAddr, afieldAddr, afield, aload, ldAt, isConstO, aeq, e43, g43]
    rw [run]
    simp [b28, this, tidy, fzT, frz, strip, low, lowH]
  have e29 : run fzT base1 Tryz.prog envT 9 2 174 [.str keyTxt] [] = some (keysAV, []) := by
    rw [run]
    simp [b29]
  have : evFunc (run fzT base1 Tryz.prog envT 9 2) Tryz.prog envT 9 133 [.str s] [] = some (.bool false, []) := by
    unfold keyTxt at e29
    simp [Tryz.func133, Tryz.f133, evFunc, evCode, evRegion, withIds, needsId, idCount, grow, evOps, wantedA, stepO, callee, aop, putT, aeval, ofValC, ofVal, ofVals, applyUps, evResults, oneOrTup, alen, abin, abinInt, abinStr, aun, aindex, aslice, optInt, aextract, anilCheck, aconvert, aindexAddr, afieldAddr, afield, aload, ldAt, isConstO, aeq, e28, e29, g28, g29]
  rw [run]
  simp [b14, this, tidy, fzT, frz, strip, low, lowH]
theorem key_0 : run fzT base1 Tryz.prog envT 9 3 133 [.str [105,110,116,101,103,101,114]] [] = some (.bool true, []) := by kernel_rfl
theorem key_1 : run fzT base1 Tryz.prog envT 9 3 133 [.str [100,111]] [] = some (.bool true, []) := by kernel_rfl
theorem key_2 : run fzT base1 Tryz.prog envT 9 3 133 [.str [101,110,100]] [] = some (.bool true, []) := by kernel_rfl
theorem key_3 : run fzT base1 Tryz.prog envT 9 3 133 [.str [105,102]] [] = some (.bool true, []) := by kernel_rfl
theorem key_4 : run fzT base1 Tryz.prog envT 9 3 133 [.str [116,104,101,110]] [] = some (.bool true, []) := by kernel_rfl
theorem key_5 : run fzT base1 Tryz.prog envT 9 3 133 [.str [101,108,115,101]] [] = some (.bool true, []) := by kernel_rfl
theorem key_6 : run fzT base1 Tryz.prog envT 9 3 133 [.str [114,101,97,100]] [] = some (.bool true, []) := by kernel_rfl
theorem key_7 : run fzT base1 Tryz.prog envT 9 3 133 [.str [112,114,105,110,116]] [] = some (.bool true, []) := by kernel_rfl
def isKey (s : List UInt8) : Bool := keysL.contains s
theorem key_run' (s : List UInt8) : run fzT base1 Tryz.prog envT 9 3 133 [.str s] [] = some (.bool (isKey s), []) := by
  cases h : isKey s with
  | false => exact key_none s h
  | true =>
    unfold isKey at h
    simp only [keysL, List.contains_cons, List.contains_nil, Bool.or_false, Bool.or_eq_true, beq_iff_eq] at h
    rcases h with rfl | rfl | rfl | rfl | rfl | rfl | rfl | rfl
    · exact key_0
    · exact key_1
    · exact key_2
    · exact key_3
    · exact key_4
    · exact key_5
    · exact key_6
    · exact key_7
def oKeyF : Orc := callS 133 fun s => some (.bool (isKey s))
theorem oKeyF_sound : Sound Tryz.prog envT oKeyF := Sound.callS lowT fun s v h => by
  injection h with h
  subst h
  exact (run_sound base1_sound methT mixed 9 3 _ _ _ _ _ (key_run' s)).1
theorem sign_ev (O : Orc) (c : UInt8) (r : List UInt8) (H : AH) : evFunc O Tryz.prog envT 1 136 [.str (c :: r)] H = some (.int .i64 (signLen (c :: r)), H) := by
  by_cases h : c.toNat = 60 ∨ c.toNat = 62 ∨ c.toNat = 61 ∨ c.toNat = 47 ∨ c.toNat = 43 ∨ c.toNat = 45 ∨ c.toNat = 42 ∨ c.toNat = 40 ∨ c.toNat = 41 ∨ c.toNat = 44
  · cases r with
    | nil =>
      rcases h with h | h | h | h | h | h | h | h | h | h <;>
        simp [Tryz.func136, Tryz.f136, evFunc, evCode, evRegion, withIds, needsId, idCount, grow, evOps, wantedA, stepO, callee, aop, putT, aeval, ofValC, ofVal, ofVals, applyUps, evResults, oneOrTup, alen, abin, abinInt, abinStr, aun, aindex, aslice, optInt, aextract, anilCheck, aconvert, aindexAddr, afieldAddr, afield, aload, ldAt, isConstO, aeq, signLen, h]
    | cons d r =>
      have hl : (1 : Int) < (r.length : Int) + 1 + 1 := by omega
      by_cases hd : d.toNat = 61
      · rcases h with h | h | h | h | h | h | h | h | h | h <;>
          simp [Tryz.func136, Tryz.f136, evFunc, evCode, evRegion, withIds, needsId, idCount, grow, evOps, wantedA, stepO, callee, aop, putT, aeval, ofValC, ofVal, ofVals, applyUps, evResults, oneOrTup, alen, abin, abinInt, abinStr, aun, aindex, aslice, optInt, aextract, anilCheck, aconvert, aindexAddr, afieldAddr, afield, aload, ldAt, isConstO, aeq, signLen, h, hd, hl]
      · have hd' : ((d.toNat : Int) == 61) = false := by simp only [beq_eq_false_iff_ne]; omega
        rcases h with h | h | h | h | h | h | h | h | h | h <;>
          simp [Tryz.func136, Tryz.f136, evFunc, evCode, evRegion, withIds, needsId, idCount, grow, evOps, wantedA, stepO, callee, aop, putT, aeval, ofValC, ofVal, ofVals, applyUps, evResults, oneOrTup, alen, abin, abinInt, abinStr, aun, aindex, aslice, optInt, aextract, anilCheck, aconvert, aindexAddr, afieldAddr, afield, aload, ldAt, isConstO, aeq, signLen, h, hd, hd', hl]
  · simp only [not_or] at h
    obtain ⟨a0, a1, a2, a3, a4, a5, a6, a7, a8, a9⟩ := h
    have b0 : ((c.toNat : Int) == 60) = false := by simp only [beq_eq_false_iff_ne]; omega
    have b1 : ((c.toNat : Int) == 62) = false := by simp only [beq_eq_false_iff_ne]; omega
    have b2 : ((c.toNat : Int) == 61) = false := by simp only [beq_eq_false_iff_ne]; omega
    have b3 : ((c.toNat : Int) == 47) = false := by simp only [beq_eq_false_iff_ne]; omega
    have b4 : ((c.toNat : Int) == 43) = false := by simp only [beq_eq_false_iff_ne]; omega
    have b5 : ((c.toNat : Int) == 45) = false := by simp only [beq_eq_false_iff_ne]; omega
    have b6 : ((c.toNat : Int) == 42) = false := by simp only [beq_eq_false_iff_ne]; omega
    have b7 : ((c.toNat : Int) == 40) = false := by simp only [beq_eq_false_iff_ne]; omega
    have b8 : ((c.toNat : Int) == 41) = false := by simp only [beq_eq_false_iff_ne]; omega
    have b9 : ((c.toNat : Int) == 44) = false := by simp only [beq_eq_false_iff_ne]; omega
    cases r with
    | nil => simp [Tryz.func136, Tryz.f136, evFunc, evCode, evRegion, withIds, needsId, idCount, grow, evOps, wantedA, stepO, callee, aop, putT, aeval, ofValC, ofVal, ofVals, applyUps, evResults, oneOrTup, alen, abin, abinInt, abinStr, aun, aindex, aslice, optInt, aextract, anilCheck, aconvert, aindexAddr, afieldAddr, afield, aload, ldAt, isConstO, aeq, signLen, a0, a1, a2, a3, a4, a5, a6, a7, a8, a9, b0, b1, b2, b3, b4, b5, b6, b7, b8, b9]
    | cons d r =>
      have hl : (1 : Int) < (r.length : Int) + 1 + 1 := by omega
      simp [Tryz.func136, Tryz.f136, evFunc, evCode, evRegion, withIds, needsId, idCount, grow, evOps, wantedA, stepO, callee, aop, putT, aeval, ofValC, ofVal, ofVals, applyUps, evResults, oneOrTup, alen, abin, abinInt, abinStr, aun, aindex, aslice, optInt, aextract, anilCheck, aconvert, aindexAddr, afieldAddr, afield, aload, ldAt, isConstO, aeq, signLen, a0, a1, a2, a3, a4, a5, a6, a7, a8, a9, b0, b1, b2, b3, b4, b5, b6, b7, b8, b9, hl]
end Go.Proofs.YtejjlojfgcgopaaGreatDoor
namespace Go.Proofs.YtejjlojfgcgopaaGreatDoor
open Go.RowKit Go.Proofs.Fw
set_option maxRecDepth 100000
set_option maxHeartbeats 4000000
noncomputable def t55 : Code := sndC (sndC (sndC (sndC (sndC (sndC (sndC (sndC (sndC (sndC (sndC (bodyOf Tryz.f204)))))))))))
noncomputable def L55 : Code := inC (inC (sndC (fstC t55)))
theorem sz5 : szOf Tryz.prog 5 = some 1 := by kernel_rfl
theorem ag5 : aggB Tryz.prog 5 = some false := by kernel_rfl
def numOf (s : List UInt8) : Nat := s.foldl (fun n b => 10 * n + (b.toNat - 48)) 0
theorem pu_more (O : Orc) (s : List UInt8) (i n : Nat) (b : UInt8) (t : List AV) (H : AH) (N : Nat) (hl : t.length = 172) (h1 : t[1]? = some (.int .i64 10)) (h8 : t[8]? = some (.bool false)) (h10 : t[10]? = some (.int .u64 1844674407370955162))
    (h11 : t[11]? = some (.int .u64 18446744073709551615)) (h13 : t[13]? = some (.int .u64 n)) (h101 : t[101]? = some (.int .i64 i)) (h99 : t[99]? = some (.slice .unk 1 s.length (strCells s))) (h100 : t[100]? = some (.int .i64 s.length))
    (hi : i < s.length) (hs : s.length < 9223372036854775807) (hb : (strCells s)[i]? = some (.int .u8 (b.toNat : Int))) (hd1 : (48 : Int) ≤ (b.toNat : Int)) (hd2 : (b.toNat : Int) ≤ 57) (hn : (n : Int) < 1844674407370955162) (hm : 10 * n + (b.toNat - 48) < 18446744073709551616)
    (Q : AEx → List AV → AH → Prop) (hQ : ∀ t' : List AV, t'.length = 172 → t'[1]? = some (.int .i64 10) → t'[8]? = some (.bool false) → t'[10]? = some (.int .u64 1844674407370955162) → t'[11]? = some (.int .u64 18446744073709551615) →
      t'[12]? = t[12]? → t'[13]? = some (.int .u64 ((10 * n + (b.toNat - 48) : Nat) : Int)) → t'[101]? = some (.int .i64 ((i + 1 : Nat) : Int)) → t'[99]? = some (.slice .unk 1 s.length (strCells s)) → t'[100]? = some (.int .i64 s.length) → Q .normal t' H) :
    EndsIn (evCode O Tryz.prog envT N L55 t H) Q := by
  have hi' : (i : Int) < s.length := by omega
  have e95 : ((b.toNat : Int) == 95) = false := by simp only [beq_eq_false_iff_ne]; omega
  have w1 : IntKind.u8.wrap ((b.toNat : Int) - 48) = ((b.toNat - 48 : Nat) : Int) := by simp [IntKind.wrap, IntKind.bits, IntKind.signed]; omega
  have w2 : IntKind.u8.wrap 10 = 10 := by decide
  have d9 : ¬ ((10 : Int) ≤ ((b.toNat - 48 : Nat) : Int)) := by omega
  have nc : ¬ ((1844674407370955162 : Int) ≤ (n : Int)) := by omega
  have w3 : IntKind.u64.wrap 10 = 10 := by decide
  have w4 : IntKind.u64.wrap ((n : Int) * 10) = 10 * (n : Int) := by simp [IntKind.wrap, IntKind.bits, IntKind.signed]; omega
  have w5 : IntKind.u64.wrap ((b.toNat - 48 : Nat) : Int) = ((b.toNat - 48 : Nat) : Int) := by simp [IntKind.wrap, IntKind.bits, IntKind.signed]; omega
  have w6 : IntKind.u64.wrap (10 * (n : Int) + ((b.toNat - 48 : Nat) : Int)) = 10 * (n : Int) + ((b.toNat - 48 : Nat) : Int) := by simp [IntKind.wrap, IntKind.bits, IntKind.signed]; omega
  have l1 : ¬ (10 * (n : Int) + ((b.toNat - 48 : Nat) : Int) < 10 * (n : Int)) := by omega
  have l2 : ¬ ((18446744073709551615 : Int) < 10 * (n : Int) + ((b.toNat - 48 : Nat) : Int)) := by omega
  have w7 : IntKind.i64.wrap ((i : Int) + 1) = (i : Int) + 1 := wrap_i64 (by omega) (by omega)
  obtain ⟨_, g1⟩ := List.getElem?_eq_some_iff.1 h1
  obtain ⟨_, g8⟩ := List.getElem?_eq_some_iff.1 h8
  obtain ⟨_, g10⟩ := List.getElem?_eq_some_iff.1 h10
  obtain ⟨_, g11⟩ := List.getElem?_eq_some_iff.1 h11
  obtain ⟨_, g13⟩ := List.getElem?_eq_some_iff.1 h13
  obtain ⟨_, g101⟩ := List.getElem?_eq_some_iff.1 h101
  obtain ⟨_, g99⟩ := List.getElem?_eq_some_iff.1 h99
  obtain ⟨_, g100⟩ := List.getElem?_eq_some_iff.1 h100
  simp [L55, t55, bodyOf, Tryz.f204, inC, fstC, sndC, evFunc, evCode, evRegion, withIds, needsId, idCount, grow, evOps, wantedA, stepO, callee, aop, putT, aeval, ofValC, ofVal, ofVals, applyUps, evResults, oneOrTup, alen, abin, abinInt, abinStr, aun, aindex, aslice, optInt, aextract, anilCheck, aconvert, aindexAddr, afieldAddr, afield, aload, ldAt, isConstO, aeq, EndsIn, hl, g1, g8, g10, g11, g13, g101, g99, g100, hi, hi', sz5, ag5, Tryz.underlying139, hb, e95, hd1, hd2, w1, w2, d9, nc, w3, w4, w5, w6, l1, l2, w7]
  refine hQ _ ?_ ?_ ?_ ?_ ?_ ?_ ?_ ?_ ?_ ?_ <;> simp [hl, g1, g8, g10, g11, g99, g100]
theorem pu_cut (O : Orc) (s : List UInt8) (i n : Nat) (b : UInt8) (t : List AV) (H : AH) (N : Nat) (hl : t.length = 172) (h1 : t[1]? = some (.int .i64 10)) (h8 : t[8]? = some (.bool false)) (h10 : t[10]? = some (.int .u64 1844674407370955162))
    (h11 : t[11]? = some (.int .u64 18446744073709551615)) (h13 : t[13]? = some (.int .u64 n)) (h101 : t[101]? = some (.int .i64 i)) (h99 : t[99]? = some (.slice .unk 1 s.length (strCells s))) (h100 : t[100]? = some (.int .i64 s.length))
    (hi : i < s.length) (hb : (strCells s)[i]? = some (.int .u8 (b.toNat : Int))) (hd1 : (48 : Int) ≤ (b.toNat : Int)) (hd2 : (b.toNat : Int) ≤ 57) (hn : ¬ (n : Int) < 1844674407370955162)
    (Q : AEx → List AV → AH → Prop) (hQ : ∀ t' : List AV, t'.length = 172 → t'[6]? = some (.int .u64 18446744073709551615) → t'[7]? = some (.iface 323 (.int .i64 1)) → Q .ret t' H) :
    EndsIn (evCode O Tryz.prog envT N L55 t H) Q := by
  have hi' : (i : Int) < s.length := by omega
  have e95 : ((b.toNat : Int) == 95) = false := by simp only [beq_eq_false_iff_ne]; omega
  have w1 : IntKind.u8.wrap ((b.toNat : Int) - 48) = ((b.toNat - 48 : Nat) : Int) := by simp [IntKind.wrap, IntKind.bits, IntKind.signed]; omega
  have w2 : IntKind.u8.wrap 10 = 10 := by decide
  have d9 : ¬ ((10 : Int) ≤ ((b.toNat - 48 : Nat) : Int)) := by omega
  have nc : (1844674407370955162 : Int) ≤ (n : Int) := by omega
  obtain ⟨_, g1⟩ := List.getElem?_eq_some_iff.1 h1
  obtain ⟨_, g8⟩ := List.getElem?_eq_some_iff.1 h8
  obtain ⟨_, g10⟩ := List.getElem?_eq_some_iff.1 h10
  obtain ⟨_, g11⟩ := List.getElem?_eq_some_iff.1 h11
  obtain ⟨_, g13⟩ := List.getElem?_eq_some_iff.1 h13
  obtain ⟨_, g101⟩ := List.getElem?_eq_some_iff.1 h101
  obtain ⟨_, g99⟩ := List.getElem?_eq_some_iff.1 h99
  obtain ⟨_, g100⟩ := List.getElem?_eq_some_iff.1 h100
  simp [L55, t55, bodyOf, Tryz.f204, inC, fstC, sndC, evFunc, evCode, evRegion, withIds, needsId, idCount, grow, evOps, wantedA, stepO, callee, aop, putT, aeval, ofValC, ofVal, ofVals, applyUps, evResults, oneOrTup, alen, abin, abinInt, abinStr, aun, aindex, aslice, optInt, aextract, anilCheck, aconvert, aindexAddr, afieldAddr, afield, aload, ldAt, isConstO, aeq, EndsIn, hl, g1, g8, g10, g11, g13, g101, g99, g100, hi, hi', sz5, ag5, Tryz.underlying139, Tryz.underlying323, hb, e95, hd1, hd2, w1, w2, d9, nc]
  refine hQ _ ?_ ?_ ?_ <;> simp [hl]
theorem pu_over (O : Orc) (s : List UInt8) (i n : Nat) (b : UInt8) (t : List AV) (H : AH) (N : Nat) (hl : t.length = 172) (h1 : t[1]? = some (.int .i64 10)) (h8 : t[8]? = some (.bool false)) (h10 : t[10]? = some (.int .u64 1844674407370955162))
    (h11 : t[11]? = some (.int .u64 18446744073709551615)) (h13 : t[13]? = some (.int .u64 n)) (h101 : t[101]? = some (.int .i64 i)) (h99 : t[99]? = some (.slice .unk 1 s.length (strCells s))) (h100 : t[100]? = some (.int .i64 s.length))
    (hi : i < s.length) (hb : (strCells s)[i]? = some (.int .u8 (b.toNat : Int))) (hd1 : (48 : Int) ≤ (b.toNat : Int)) (hd2 : (b.toNat : Int) ≤ 57) (hn : (n : Int) < 1844674407370955162) (hm : ¬ 10 * n + (b.toNat - 48) < 18446744073709551616)
    (Q : AEx → List AV → AH → Prop) (hQ : ∀ t' : List AV, t'.length = 172 → t'[6]? = some (.int .u64 18446744073709551615) → t'[7]? = some (.iface 323 (.int .i64 1)) → Q .ret t' H) :
    EndsIn (evCode O Tryz.prog envT N L55 t H) Q := by
  have hi' : (i : Int) < s.length := by omega
  have e95 : ((b.toNat : Int) == 95) = false := by simp only [beq_eq_false_iff_ne]; omega
  have w1 : IntKind.u8.wrap ((b.toNat : Int) - 48) = ((b.toNat - 48 : Nat) : Int) := by simp [IntKind.wrap, IntKind.bits, IntKind.signed]; omega
  have w2 : IntKind.u8.wrap 10 = 10 := by decide
  have d9 : ¬ ((10 : Int) ≤ ((b.toNat - 48 : Nat) : Int)) := by omega
  have nc : ¬ ((1844674407370955162 : Int) ≤ (n : Int)) := by omega
  have w3 : IntKind.u64.wrap 10 = 10 := by decide
  have w4 : IntKind.u64.wrap ((n : Int) * 10) = 10 * (n : Int) := by simp [IntKind.wrap, IntKind.bits, IntKind.signed]; omega
  have w5 : IntKind.u64.wrap ((b.toNat - 48 : Nat) : Int) = ((b.toNat - 48 : Nat) : Int) := by simp [IntKind.wrap, IntKind.bits, IntKind.signed]; omega
  have w6 : IntKind.u64.wrap (10 * (n : Int) + ((b.toNat - 48 : Nat) : Int)) = 10 * (n : Int) + ((b.toNat - 48 : Nat) : Int) - 18446744073709551616 := by simp [IntKind.wrap, IntKind.bits, IntKind.signed]; omega
  have l1 : 10 * (n : Int) + ((b.toNat - 48 : Nat) : Int) - 18446744073709551616 < 10 * (n : Int) := by omega
  obtain ⟨_, g1⟩ := List.getElem?_eq_some_iff.1 h1
  obtain ⟨_, g8⟩ := List.getElem?_eq_some_iff.1 h8
  obtain ⟨_, g10⟩ := List.getElem?_eq_some_iff.1 h10
  obtain ⟨_, g11⟩ := List.getElem?_eq_some_iff.1 h11
  obtain ⟨_, g13⟩ := List.getElem?_eq_some_iff.1 h13
  obtain ⟨_, g101⟩ := List.getElem?_eq_some_iff.1 h101
  obtain ⟨_, g99⟩ := List.getElem?_eq_some_iff.1 h99
  obtain ⟨_, g100⟩ := List.getElem?_eq_some_iff.1 h100
  simp [L55, t55, bodyOf, Tryz.f204, inC, fstC, sndC, evFunc, evCode, evRegion, withIds, needsId, idCount, grow, evOps, wantedA, stepO, callee, aop, putT, aeval, ofValC, ofVal, ofVals, applyUps, evResults, oneOrTup, alen, abin, abinInt, abinStr, aun, aindex, aslice, optInt, aextract, anilCheck, aconvert, aindexAddr, afieldAddr, afield, aload, ldAt, isConstO, aeq, EndsIn, hl, g1, g8, g10, g11, g13, g101, g99, g100, hi, hi', sz5, ag5, Tryz.underlying139, Tryz.underlying323, hb, e95, hd1, hd2, w1, w2, d9, nc, w3, w4, w5, w6, l1]
  refine hQ _ ?_ ?_ ?_ <;> simp [hl]
theorem pu_stop (O : Orc) (s : List UInt8) (t : List AV) (H : AH) (N : Nat) (hl : t.length = 172) (h101 : t[101]? = some (.int .i64 s.length)) (h100 : t[100]? = some (.int .i64 s.length))
    (Q : AEx → List AV → AH → Prop) (hQ : Q (.exit 3) (t.set 102 (.bool false)) H) : EndsIn (evCode O Tryz.prog envT N L55 t H) Q := by
  obtain ⟨_, g101⟩ := List.getElem?_eq_some_iff.1 h101
  obtain ⟨_, g100⟩ := List.getElem?_eq_some_iff.1 h100
  simp [L55, t55, bodyOf, Tryz.f204, inC, fstC, sndC, evFunc, evCode, evRegion, withIds, needsId, idCount, grow, evOps, wantedA, stepO, callee, aop, putT, aeval, ofValC, ofVal, ofVals, applyUps, evResults, oneOrTup, alen, abin, abinInt, abinStr, aun, aindex, aslice, optInt, aextract, anilCheck, aconvert, aindexAddr, afieldAddr, afield, aload, ldAt, isConstO, aeq, EndsIn, hl, g101, g100]
  exact hQ
theorem pu_pre (O : Orc) (s : List UInt8) (t : List AV) (H : AH) (N : Nat) (hl : t.length = 172) (h0 : t[0]? = some (.str s)) (h1 : t[1]? = some (.int .i64 10)) (h2 : t[2]? = some (.int .i64 64)) (hne : s ≠ [])
    (Q : AEx → List AV → AH → Prop) (hQ : ∀ t' : List AV, t'.length = 172 → t'[0]? = some (.str s) → t'[1]? = some (.int .i64 10) → t'[8]? = some (.bool false) → t'[10]? = some (.int .u64 1844674407370955162) → t'[11]? = some (.int .u64 18446744073709551615) →
      t'[12]? = some (.bool false) → t'[13]? = some (.int .u64 0) → Q .normal t' H) :
    EndsIn (evCode O Tryz.prog envT N (headC 11 (bodyOf Tryz.f204)) t H) Q := by
  obtain ⟨_, g0⟩ := List.getElem?_eq_some_iff.1 h0
  obtain ⟨_, g1⟩ := List.getElem?_eq_some_iff.1 h1
  obtain ⟨_, g2⟩ := List.getElem?_eq_some_iff.1 h2
  have hn : (s == []) = false := by cases s <;> simp_all
  have w1 : IntKind.u64.wrap (18446744073709551616) = 0 := by decide
  have w2 : IntKind.u64.wrap (-1) = 18446744073709551615 := by decide
  have w3 : IntKind.u64.wrap 64 = 64 := by decide
  have w4 : IntKind.u64.bits = 64 := rfl
  simp [bodyOf, Tryz.f204, headC, evFunc, evCode, evRegion, withIds, needsId, idCount, grow, evOps, wantedA, stepO, callee, aop, putT, aeval, ofValC, ofVal, ofVals, applyUps, evResults, oneOrTup, alen, abin, abinInt, abinStr, aun, aindex, aslice, optInt, aextract, anilCheck, aconvert, aindexAddr, afieldAddr, afield, aload, ldAt, isConstO, aeq, EndsIn, hl, g0, g1, g2, hn, hne, Tryz.underlying3, Tryz.underlying96, w1, w2, w3, w4]
  refine hQ _ ?_ ?_ ?_ ?_ ?_ ?_ ?_ ?_ <;> simp [hl, g0, g1]
def allDigits (s : List UInt8) : Prop := ∀ b ∈ s, 48 ≤ b.toNat ∧ b.toNat ≤ 57
theorem numOf_snoc (s : List UInt8) (b : UInt8) : numOf (s ++ [b]) = 10 * numOf s + (b.toNat - 48) := by simp [numOf]
theorem numOf_mono (s r : List UInt8) : numOf s ≤ numOf (s ++ r) := by
  induction r generalizing s with
  | nil => simp
  | cons b r ih =>
    have h1 := ih (s ++ [b])
    rw [List.append_assoc] at h1
    have h2 := numOf_snoc s b
    simp only [List.singleton_append] at h1
    omega
def PuI (s : List UInt8) (H : AH) (k : Nat) (t : List AV) (H' : AH) : Prop :=
  H' = H ∧ t.length = 172 ∧ t[1]? = some (.int .i64 10) ∧ t[8]? = some (.bool false) ∧ t[10]? = some (.int .u64 1844674407370955162) ∧ t[11]? = some (.int .u64 18446744073709551615) ∧ t[12]? = some (.bool false) ∧
    t[99]? = some (.slice .unk 1 s.length (strCells s)) ∧ t[100]? = some (.int .i64 s.length) ∧
    ∃ i, i + k = s.length ∧ t[101]? = some (.int .i64 i) ∧ t[13]? = some (.int .u64 (numOf (s.take i))) ∧ numOf (s.take i) < 18446744073709551616
theorem pu_loop (O : Orc) (s : List UInt8) (hd : allDigits s) (hs : s.length < 9223372036854775807) (N : Nat) (H : AH) (Q : AEx → List AV → AH → Prop)
    (hQ1 : ∀ t', t'.length = 172 → t'[12]? = some (.bool false) → t'[13]? = some (.int .u64 (numOf s)) → numOf s < 18446744073709551616 → Q (.exit 3) t' H)
    (hQ2 : ∀ t', t'.length = 172 → t'[6]? = some (.int .u64 18446744073709551615) → t'[7]? = some (.iface 323 (.int .i64 1)) → ¬ numOf s < 18446744073709551616 → Q .ret t' H) (k : Nat) (t : List AV) (hk : k < N) (hI : PuI s H k t H) :
    EndsIn (iter (evCode O Tryz.prog envT N L55) N t H) Q := by
  refine EndsIn.iter (PuI s H) (fun k t H' hI => ?_) N k hk hI
  obtain ⟨rfl, hl, h1, h8, h10, h11, h12, h99, h100, i, hik, h101, h13, hn⟩ := hI
  cases k with
  | zero =>
    obtain rfl : i = s.length := by omega
    rw [List.take_length] at h13 hn
    refine pu_stop O s t H' N hl h101 h100 _ ?_
    refine hQ1 _ (by simp [hl]) ?_ ?_ hn
    · rw [List.getElem?_set_ne (by omega)]; exact h12
    · rw [List.getElem?_set_ne (by omega)]; exact h13
  | succ k =>
    have hi : i < s.length := by omega
    have hb : (strCells s)[i]? = some (.int .u8 (s[i].toNat : Int)) := by simp [strCells, hi]
    obtain ⟨d1, d2⟩ := hd s[i] (List.getElem_mem hi)
    have htk : s.take (i + 1) = s.take i ++ [s[i]] := by rw [List.take_add_one, List.getElem?_eq_getElem hi]; rfl
    have hval : numOf (s.take (i + 1)) = 10 * numOf (s.take i) + (s[i].toNat - 48) := by rw [htk, numOf_snoc]
    have hle : numOf (s.take (i + 1)) ≤ numOf s := by
      have := numOf_mono (s.take (i + 1)) (s.drop (i + 1))
      rwa [List.take_append_drop] at this
    by_cases hc : (numOf (s.take i) : Int) < 1844674407370955162
    · by_cases hm : 10 * numOf (s.take i) + (s[i].toNat - 48) < 18446744073709551616
      · refine pu_more O s i _ s[i] t H' N hl h1 h8 h10 h11 h13 h101 h99 h100 hi hs hb (by omega) (by omega) hc hm _ ?_
        intro t' a b c d e f g h j l
        refine ⟨k, by omega, rfl, a, b, c, d, e, f.trans h12, j, l, i + 1, by omega, h, ?_, ?_⟩
        · rw [hval]; exact g
        · rw [hval]; exact hm
      · refine pu_over O s i _ s[i] t H' N hl h1 h8 h10 h11 h13 h101 h99 h100 hi hb (by omega) (by omega) hc hm _ ?_
        intro t' a b c
        exact hQ2 t' a b c (by omega)
    · refine pu_cut O s i _ s[i] t H' N hl h1 h8 h10 h11 h13 h101 h99 h100 hi hb (by omega) (by omega) hc _ ?_
      intro t' a b c
      exact hQ2 t' a b c (by omega)
end Go.Proofs.YtejjlojfgcgopaaGreatDoor
namespace Go.Proofs.YtejjlojfgcgopaaGreatDoor
open Go.RowKit Go.Proofs.Fw
set_option maxRecDepth 100000
set_option maxHeartbeats 4000000
theorem pu_35 (O : Orc) (s : List UInt8) (t : List AV) (H : AH) (N : Nat) (hl : t.length = 172) (h0 : t[0]? = some (.str s)) (hs : s.length < 9223372036854775807)
    (Q : AEx → List AV → AH → Prop) (hQ : ∀ t' : List AV, t'.length = 172 → (∀ k, k < 98 → t'[k]? = t[k]?) → t'[99]? = some (.slice .unk 1 s.length (strCells s)) → t'[100]? = some (.int .i64 s.length) → t'[101]? = some (.int .i64 0) → Q .normal t' H) :
    EndsIn (evCode O Tryz.prog envT N (fstC (fstC t55)) t H) Q := by
  obtain ⟨_, g0⟩ := List.getElem?_eq_some_iff.1 h0
  have hs' : s.length ≤ 9223372036854775807 := by omega
  simp [t55, bodyOf, Tryz.f204, fstC, sndC, evFunc, evCode, evRegion, withIds, needsId, idCount, grow, evOps, wantedA, stepO, callee, aop, putT, aeval, ofValC, ofVal, ofVals, applyUps, evResults, oneOrTup, alen, abin, abinInt, abinStr, aun, aindex, aslice, optInt, aextract, anilCheck, aconvert, aindexAddr, afieldAddr, afield, aload, ldAt, isConstO, aeq, EndsIn, hl, g0, hs', Tryz.underlying9, Tryz.underlying139, Tryz.underlying5]
  refine hQ _ ?_ ?_ ?_ ?_ ?_
  · simp [hl]
  · intro k hk
    simp only [List.getElem?_set]
    repeat rw [if_neg (by omega)]
  · simp [hl]
  · simp [hl]
  · simp [hl]
theorem pu_end (O : Orc) (t : List AV) (H : AH) (N : Nat) (m : Int) (hl : t.length = 172) (h12 : t[12]? = some (.bool false)) (h13 : t[13]? = some (.int .u64 m))
    (Q : AEx → List AV → AH → Prop) (hQ : ∀ t' : List AV, t'.length = 172 → t'[6]? = some (.int .u64 m) → t'[7]? = some .nilIface → Q .ret t' H) :
    EndsIn (evCode O Tryz.prog envT N (sndC t55) t H) Q := by
  obtain ⟨_, g12⟩ := List.getElem?_eq_some_iff.1 h12
  obtain ⟨_, g13⟩ := List.getElem?_eq_some_iff.1 h13
  simp [t55, bodyOf, Tryz.f204, fstC, sndC, evFunc, evCode, evRegion, withIds, needsId, idCount, grow, evOps, wantedA, stepO, callee, aop, putT, aeval, ofValC, ofVal, ofVals, applyUps, evResults, oneOrTup, alen, abin, abinInt, abinStr, aun, aindex, aslice, optInt, aextract, anilCheck, aconvert, aindexAddr, afieldAddr, afield, aload, ldAt, isConstO, aeq, EndsIn, hl, g12, g13]
  refine hQ _ ?_ ?_ ?_ <;> simp [hl]
theorem tail55 : tailC 11 (bodyOf Tryz.f204) = t55 := by kernel_rfl
theorem fin55 (t : List AV) (H : AH) (x y : AV) (h6 : t[6]? = some x) (h7 : t[7]? = some y) : fin Tryz.prog Tryz.f204 (some (.ret, t, H)) = some (.tup [x, y], H) := by
  simp [fin, Tryz.f204, evResults, h6, h7, oneOrTup]
def puRes (s : List UInt8) : AV := if numOf s < 18446744073709551616 then .tup [.int .u64 (numOf s), .nilIface] else .tup [.int .u64 18446744073709551615, .iface 323 (.int .i64 1)]
theorem pu_ev (O : Orc) (s : List UInt8) (hne : s ≠ []) (hd : allDigits s) (hs : s.length < 9223372036854775807) (H : AH) :
    evFunc O Tryz.prog envT (s.length + 1) 204 [.str s, .int .i64 10, .int .i64 64] H = some (puRes s, H) := by
  refine evFunc_of (c := bodyOf Tryz.f204) Tryz.func204 (by kernel_rfl) ?_
  refine EndsIn.split 11 _ ?_
  refine pu_pre O s _ H _ (by simp [Tryz.f204]) (by rfl) (by rfl) (by rfl) hne _ ?_
  intro t hl h0 h1 h8 h10 h11 h12 h13
  show EndsIn (evCode O Tryz.prog envT (s.length + 1) (tailC 11 (bodyOf Tryz.f204)) t H) _
  rw [tail55]
  refine EndsIn.seq (A := fstC t55) (B := sndC t55) (by kernel_rfl) ?_
  refine EndsIn.seq (A := fstC (fstC t55)) (B := sndC (fstC t55)) (by kernel_rfl) ?_
  refine pu_35 O s t H _ hl h0 hs _ ?_
  intro t2 hl2 hk h99 h100 h101
  show EndsIn (evCode O Tryz.prog envT (s.length + 1) (sndC (fstC t55)) t2 H) _
  refine EndsIn.block (A := .loop L55) (id := 3) (by kernel_rfl) ?_
  simp only [evCode]
  refine pu_loop O s hd hs _ H _ ?_ ?_ s.length t2 (by omega) ⟨rfl, hl2, (hk 1 (by omega)).trans h1, (hk 8 (by omega)).trans h8, (hk 10 (by omega)).trans h10, (hk 11 (by omega)).trans h11, (hk 12 (by omega)).trans h12, h99, h100, 0, by omega, h101, (hk 13 (by omega)).trans h13, by simp [numOf]⟩
  · intro t3 hl3 k12 k13 hn
    show EndsIn (evCode O Tryz.prog envT (s.length + 1) (sndC t55) t3 H) _
    refine pu_end O t3 H _ _ hl3 k12 k13 _ ?_
    intro t4 hl4 k6 k7
    show fin Tryz.prog Tryz.f204 (some (.ret, t4, H)) = some (puRes s, H)
    rw [fin55 t4 H _ _ k6 k7, puRes, if_pos hn]
  · intro t3 hl3 k6 k7 hn
    show fin Tryz.prog Tryz.f204 (some (.ret, t3, H)) = some (puRes s, H)
    rw [fin55 t3 H _ _ k6 k7, puRes, if_neg hn]
end Go.Proofs.YtejjlojfgcgopaaGreatDoor
namespace Go.Proofs.YtejjlojfgcgopaaGreatDoor
open Go.RowKit Go.Proofs.Fw
set_option maxRecDepth 100000
set_option maxHeartbeats 4000000
def piRes (s : List UInt8) : AV := if numOf s < 9223372036854775808 then .tup [.int .i64 (numOf s), .nilIface] else .tup [.int .i64 9223372036854775807, .iface 323 (.int .i64 1)]
theorem go55 : goFn Tryz.prog 204 = true := by kernel_rfl
theorem cmp117 : (Tryz.prog.info? 323).map (·.comparable) = some true := by kernel_rfl
theorem pi_small (O : Orc) (c : UInt8) (r : List UInt8) (t : List AV) (H : AH) (N : Nat) (hl : t.length = 73) (h0 : t[0]? = some (.str (c :: r))) (h1 : t[1]? = some (.int .i64 10)) (h2 : t[2]? = some (.int .i64 64)) (hd : 48 ≤ c.toNat)
    (hn : numOf (c :: r) < 9223372036854775808) (ho : O 204 [.str (c :: r), .int .i64 10, .int .i64 64] H = some (.tup [.int .u64 (numOf (c :: r)), .nilIface], H))
    (Q : AEx → List AV → AH → Prop) (hQ : ∀ t' : List AV, t'.length = 73 → t'[6]? = some (.int .i64 (numOf (c :: r))) → t'[7]? = some .nilIface → Q .ret t' H) :
    EndsIn (evCode O Tryz.prog envT N (bodyOf Tryz.f175) t H) Q := by
  obtain ⟨_, g0⟩ := List.getElem?_eq_some_iff.1 h0
  obtain ⟨_, g1⟩ := List.getElem?_eq_some_iff.1 h1
  obtain ⟨_, g2⟩ := List.getElem?_eq_some_iff.1 h2
  generalize numOf (c :: r) = m at hn ho hQ
  have e43 : ((c.toNat : Int) == 43) = false := by simp only [beq_eq_false_iff_ne]; omega
  have e45 : ((c.toNat : Int) == 45) = false := by simp only [beq_eq_false_iff_ne]; omega
  have w1 : IntKind.i64.wrap 63 = 63 := by decide
  have w2 : IntKind.u64.wrap 63 = 63 := by decide
  have w3 : IntKind.u64.wrap 9223372036854775808 = 9223372036854775808 := by decide
  have w4 : IntKind.u64.bits = 64 := rfl
  have l1 : ¬ ((9223372036854775808 : Int) ≤ (m : Int)) := by omega
  have w5 : IntKind.i64.wrap (m : Int) = (m : Int) := wrap_i64 (by omega) (by omega)
  simp [bodyOf, Tryz.f175, evFunc, evCode, evRegion, withIds, needsId, idCount, grow, evOps, wantedA, stepO, callee, aop, putT, aeval, ofValC, ofVal, ofVals, applyUps, evResults, oneOrTup, alen, abin, abinInt, abinStr, aun, aindex, aslice, optInt, aextract, anilCheck, aconvert, aindexAddr, afieldAddr, afield, aload, ldAt, isConstO, aeq, EndsIn, hl, g0, g1, g2, e43, e45, go55, ho, w1, w2, w3, w4, w5, l1, Tryz.underlying33, Tryz.underlying96, Tryz.underlying203, Tryz.underlying2, Tryz.underlying3, Tryz.underlying323]
  refine hQ _ ?_ ?_ ?_ <;> simp [hl]
theorem pi_big (O : Orc) (c : UInt8) (r : List UInt8) (t : List AV) (H : AH) (N : Nat) (hl : t.length = 73) (h0 : t[0]? = some (.str (c :: r))) (h1 : t[1]? = some (.int .i64 10)) (h2 : t[2]? = some (.int .i64 64)) (hd : 48 ≤ c.toNat)
    (u : Int) (e : AV) (hu : 9223372036854775808 ≤ u) (he : e = .nilIface ∨ e = .iface 323 (.int .i64 1)) (ho : O 204 [.str (c :: r), .int .i64 10, .int .i64 64] H = some (.tup [.int .u64 u, e], H))
    (Q : AEx → List AV → AH → Prop) (hQ : ∀ t' : List AV, t'.length = 73 → t'[6]? = some (.int .i64 9223372036854775807) → t'[7]? = some (.iface 323 (.int .i64 1)) → Q .ret t' H) :
    EndsIn (evCode O Tryz.prog envT N (bodyOf Tryz.f175) t H) Q := by
  obtain ⟨_, g0⟩ := List.getElem?_eq_some_iff.1 h0
  obtain ⟨_, g1⟩ := List.getElem?_eq_some_iff.1 h1
  obtain ⟨_, g2⟩ := List.getElem?_eq_some_iff.1 h2
  obtain ⟨j, hj, hcmp⟩ := Option.map_eq_some_iff.1 cmp117
  have e43 : ((c.toNat : Int) == 43) = false := by simp only [beq_eq_false_iff_ne]; omega
  have e45 : ((c.toNat : Int) == 45) = false := by simp only [beq_eq_false_iff_ne]; omega
  have w1 : IntKind.i64.wrap 63 = 63 := by decide
  have w2 : IntKind.u64.wrap 63 = 63 := by decide
  have w3 : IntKind.u64.wrap 9223372036854775808 = 9223372036854775808 := by decide
  have w4 : IntKind.u64.bits = 64 := rfl
  have w5 : IntKind.u64.wrap 9223372036854775807 = 9223372036854775807 := by decide
  have w6 : IntKind.i64.wrap 9223372036854775807 = 9223372036854775807 := by decide
  rcases he with rfl | rfl
  · simp [bodyOf, Tryz.f175, evFunc, evCode, evRegion, withIds, needsId, idCount, grow, evOps, wantedA, stepO, callee, aop, putT, aeval, ofValC, ofVal, ofVals, applyUps, evResults, oneOrTup, alen, abin, abinInt, abinStr, aun, aindex, aslice, optInt, aextract, anilCheck, aconvert, aindexAddr, afieldAddr, afield, aload, ldAt, isConstO, aeq, EndsIn, hl, g0, g1, g2, e43, e45, go55, ho, w1, w2, w3, w4, w5, w6, hu, Tryz.underlying33, Tryz.underlying96, Tryz.underlying203, Tryz.underlying2, Tryz.underlying3, Tryz.underlying323]
    refine hQ _ ?_ ?_ ?_ <;> simp [hl]
  · simp [bodyOf, Tryz.f175, evFunc, evCode, evRegion, withIds, needsId, idCount, grow, evOps, wantedA, stepO, callee, aop, putT, aeval, ofValC, ofVal, ofVals, applyUps, evResults, oneOrTup, alen, abin, abinInt, abinStr, aun, aindex, aslice, optInt, aextract, anilCheck, aconvert, aindexAddr, afieldAddr, afield, aload, ldAt, isConstO, aeq, EndsIn, hl, g0, g1, g2, e43, e45, go55, ho, w1, w2, w3, w4, w5, w6, hu, hj, hcmp, Tryz.underlying33, Tryz.underlying96, Tryz.underlying203, Tryz.underlying2, Tryz.underlying3, Tryz.underlying323]
    refine hQ _ ?_ ?_ ?_ <;> simp [hl]
theorem fin48 (t : List AV) (H : AH) (x y : AV) (h6 : t[6]? = some x) (h7 : t[7]? = some y) : fin Tryz.prog Tryz.f175 (some (.ret, t, H)) = some (.tup [x, y], H) := by
  simp [fin, Tryz.f175, evResults, h6, h7, oneOrTup]
theorem pi_ev (O : Orc) (s : List UInt8) (hne : s ≠ []) (hd : allDigits s) (H : AH) (ho : O 204 [.str s, .int .i64 10, .int .i64 64] H = some (puRes s, H)) :
    evFunc O Tryz.prog envT 1 175 [.str s, .int .i64 10, .int .i64 64] H = some (piRes s, H) := by
  obtain ⟨c, r, rfl⟩ := List.exists_cons_of_ne_nil hne
  have hc := (hd c (by simp)).1
  refine evFunc_of (c := bodyOf Tryz.f175) Tryz.func175 (by kernel_rfl) ?_
  unfold puRes at ho
  by_cases h1 : numOf (c :: r) < 9223372036854775808
  · rw [if_pos (by omega)] at ho
    refine pi_small O c r _ H _ (by simp [Tryz.f175]) (by rfl) (by rfl) (by rfl) hc h1 ho _ ?_
    intro t hl k6 k7
    show fin Tryz.prog Tryz.f175 (some (.ret, t, H)) = some (piRes (c :: r), H)
    rw [fin48 t H _ _ k6 k7, piRes, if_pos h1]
  · have fin2 : ∀ t : List AV, t.length = 73 → t[6]? = some (.int .i64 9223372036854775807) → t[7]? = some (.iface 323 (.int .i64 1)) → fin Tryz.prog Tryz.f175 (some (.ret, t, H)) = some (piRes (c :: r), H) := by
      intro t hl k6 k7
      rw [fin48 t H _ _ k6 k7, piRes, if_neg h1]
    by_cases h2 : numOf (c :: r) < 18446744073709551616
    · rw [if_pos h2] at ho
      exact pi_big O c r _ H _ (by simp [Tryz.f175]) (by rfl) (by rfl) (by rfl) hc _ _ (by omega) (.inl rfl) ho _ fin2
    · rw [if_neg h2] at ho
      exact pi_big O c r _ H _ (by simp [Tryz.f175]) (by rfl) (by rfl) (by rfl) hc _ _ (by omega) (.inr rfl) ho _ fin2
end Go.Proofs.YtejjlojfgcgopaaGreatDoor
namespace Go.Proofs.YtejjlojfgcgopaaGreatDoor
open Go.RowKit Go.Proofs.Fw
set_option maxRecDepth 100000
set_option maxHeartbeats 4000000
def tokAV (k : Int) (s : List UInt8) (a n : Int) : AV := .agg [.int .i64 k, .str s, .int .i64 a, .int .i64 n]
theorem z40 : zeroAV Tryz.prog 192 = some (.agg [.int .i64 0, .str [], .int .i64 0, .int .i64 0]) := by kernel_rfl
theorem build40 (k : IntKind) (m : Int) (s : List UInt8) : abuild Tryz.prog 192 [(0, .int k m), (1, .str s)] = some (.agg [.int k m, .str s, .int .i64 0, .int .i64 0]) := by kernel_rfl
theorem build40n : abuild Tryz.prog 192 [] = some (.agg [.int .i64 0, .str [], .int .i64 0, .int .i64 0]) := by kernel_rfl
theorem sz40 : szOf Tryz.prog 192 = some 4 := by kernel_rfl
theorem ag40 : aggB Tryz.prog 192 = some true := by kernel_rfl
theorem sz3 : szOf Tryz.prog 3 = some 1 := by kernel_rfl
theorem ag3 : aggB Tryz.prog 3 = some false := by kernel_rfl
theorem sz2 : szOf Tryz.prog 2 = some 1 := by kernel_rfl
theorem ag2 : aggB Tryz.prog 2 = some false := by kernel_rfl
theorem fa40_0 (id : Nat) : afieldAddr Tryz.prog 192 (.ptr id 0) 0 = some (.ptr id 0) := by kernel_rfl
theorem fa40_1 (id : Nat) : afieldAddr Tryz.prog 192 (.ptr id 0) 1 = some (.ptr id 1) := by kernel_rfl
theorem fa40_2 (id : Nat) : afieldAddr Tryz.prog 192 (.ptr id 0) 2 = some (.ptr id 2) := by kernel_rfl
theorem fa40_3 (id : Nat) : afieldAddr Tryz.prog 192 (.ptr id 0) 3 = some (.ptr id 3) := by kernel_rfl
theorem word_name (O : Orc) (c : UInt8) (r : List UInt8) (key : Bool) (N : Nat) (h25 : ∀ H, O 88 [.int .u8 (c.toNat : Int)] H = some (.bool true, H))
    (h30 : ∀ H, O 131 [.str (c :: r), .func (.func 132) [] []] H = some (.int .i64 (frontLen isInner (c :: r)), H)) (h14 : ∀ H, O 133 [.str ((c :: r).take (frontLen isInner (c :: r)))] H = some (.bool key, H))
    (hlen : (frontLen isInner (c :: r) : Int) ≤ (r.length : Int) + 1) (hmin : min (frontLen isInner (c :: r)) (r.length + 1) = frontLen isInner (c :: r)) :
    ∃ H', evFunc O Tryz.prog envT N 87 [.str (c :: r)] [] = some (.tup [tokAV (if key then 4 else 1) ((c :: r).take (frontLen isInner (c :: r))) 0 0, .int .i64 (if frontLen isInner (c :: r) > 31 then 4 else 0)], H') := by
  generalize frontLen isInner (c :: r) = m at h30 h14 hlen hmin
  have g30 : goFn Tryz.prog 131 = true := goFn_all _ (by simp)
  have g14 : goFn Tryz.prog 133 = true := goFn_all _ (by simp)
  cases key
  · by_cases hm : m > 31
    · have hm' : (31 : Int) < (m : Int) := by omega
      simp [Tryz.func87, Tryz.f87, evFunc, evCode, evRegion, withIds, needsId, idCount, grow, evOps, wantedA, stepO, callee, aop, putT, aeval, ofValC, ofVal, ofVals, applyUps, evResults, oneOrTup, alen, abin, abinInt, abinStr, aun, aindex, aslice, optInt, aextract, anilCheck, aconvert, aindexAddr, afieldAddr, afield, aload, ldAt, isConstO, aeq, z40, build40, build40n, sz40, ag40, sz3, ag3, sz9, ag9, sz2, ag2, fa40_0, fa40_1, fa40_2, fa40_3, cellsAV, astore, putAt, AV.known, AV.one, AH.at, h25, h30, h14, go25, g30, g14, hm, hm', hlen, hmin, tokAV]
    · have hm' : ¬ (31 : Int) < (m : Int) := by omega
      simp [Tryz.func87, Tryz.f87, evFunc, evCode, evRegion, withIds, needsId, idCount, grow, evOps, wantedA, stepO, callee, aop, putT, aeval, ofValC, ofVal, ofVals, applyUps, evResults, oneOrTup, alen, abin, abinInt, abinStr, aun, aindex, aslice, optInt, aextract, anilCheck, aconvert, aindexAddr, afieldAddr, afield, aload, ldAt, isConstO, aeq, z40, build40, build40n, sz40, ag40, sz3, ag3, sz9, ag9, sz2, ag2, fa40_0, fa40_1, fa40_2, fa40_3, cellsAV, astore, putAt, AV.known, AV.one, AH.at, h25, h30, h14, go25, g30, g14, hm, hm', hlen, hmin, tokAV]
  · by_cases hm : m > 31
    · have hm' : (31 : Int) < (m : Int) := by omega
      simp [Tryz.func87, Tryz.f87, evFunc, evCode, evRegion, withIds, needsId, idCount, grow, evOps, wantedA, stepO, callee, aop, putT, aeval, ofValC, ofVal, ofVals, applyUps, evResults, oneOrTup, alen, abin, abinInt, abinStr, aun, aindex, aslice, optInt, aextract, anilCheck, aconvert, aindexAddr, afieldAddr, afield, aload, ldAt, isConstO, aeq, z40, build40, build40n, sz40, ag40, sz3, ag3, sz9, ag9, sz2, ag2, fa40_0, fa40_1, fa40_2, fa40_3, cellsAV, astore, putAt, AV.known, AV.one, AH.at, h25, h30, h14, go25, g30, g14, hm, hm', hlen, hmin, tokAV]
    · have hm' : ¬ (31 : Int) < (m : Int) := by omega
      simp [Tryz.func87, Tryz.f87, evFunc, evCode, evRegion, withIds, needsId, idCount, grow, evOps, wantedA, stepO, callee, aop, putT, aeval, ofValC, ofVal, ofVals, applyUps, evResults, oneOrTup, alen, abin, abinInt, abinStr, aun, aindex, aslice, optInt, aextract, anilCheck, aconvert, aindexAddr, afieldAddr, afield, aload, ldAt, isConstO, aeq, z40, build40, build40n, sz40, ag40, sz3, ag3, sz9, ag9, sz2, ag2, fa40_0, fa40_1, fa40_2, fa40_3, cellsAV, astore, putAt, AV.known, AV.one, AH.at, h25, h30, h14, go25, g30, g14, hm, hm', hlen, hmin, tokAV]
theorem word_number (O : Orc) (c : UInt8) (r : List UInt8) (n : Int) (e : AV) (ov : Bool) (he : if ov then ∃ t v, e = .iface t v else e = .nilIface) (N : Nat) (h25 : ∀ H, O 88 [.int .u8 (c.toNat : Int)] H = some (.bool false, H)) (h34 : ∀ H, O 134 [.int .u8 (c.toNat : Int)] H = some (.bool true, H))
    (h30 : ∀ H, O 131 [.str (c :: r), .func (.func 134) [] []] H = some (.int .i64 (frontLen isDigit (c :: r)), H)) (h35 : ∀ H, O 135 [.str ((c :: r).take (frontLen isDigit (c :: r))), .int .i64 10, .int .i64 64] H = some (.tup [.int .i64 n, e], H))
    (hlen : (frontLen isDigit (c :: r) : Int) ≤ (r.length : Int) + 1) (hmin : min (frontLen isDigit (c :: r)) (r.length + 1) = frontLen isDigit (c :: r)) :
    ∃ H', evFunc O Tryz.prog envT N 87 [.str (c :: r)] [] = some (.tup [tokAV 2 ((c :: r).take (frontLen isDigit (c :: r))) 0 (if ov then 0 else n), .int .i64 (if ov then 5 else 0)], H') := by
  generalize frontLen isDigit (c :: r) = m at h30 h35 hlen hmin
  have g30 : goFn Tryz.prog 131 = true := goFn_all _ (by simp)
  have g35 : goFn Tryz.prog 135 = true := goFn_all _ (by simp)
  cases ov
  · simp only [Bool.false_eq_true, if_false] at he
    subst he
    simp [Tryz.func87, Tryz.f87, evFunc, evCode, evRegion, withIds, needsId, idCount, grow, evOps, wantedA, stepO, callee, aop, putT, aeval, ofValC, ofVal, ofVals, applyUps, evResults, oneOrTup, alen, abin, abinInt, abinStr, aun, aindex, aslice, optInt, aextract, anilCheck, aconvert, aindexAddr, afieldAddr, afield, aload, ldAt, isConstO, aeq, z40, build40, build40n, sz40, ag40, sz3, ag3, sz9, ag9, sz2, ag2, fa40_0, fa40_1, fa40_2, fa40_3, cellsAV, astore, putAt, AV.known, AV.one, AH.at, h25, h34, h30, h35, go25, go34, g30, g35, hlen, hmin, Tryz.underlying33, tokAV]
  · simp only [if_true] at he
    obtain ⟨te, ve, rfl⟩ := he
    simp [Tryz.func87, Tryz.f87, evFunc, evCode, evRegion, withIds, needsId, idCount, grow, evOps, wantedA, stepO, callee, aop, putT, aeval, ofValC, ofVal, ofVals, applyUps, evResults, oneOrTup, alen, abin, abinInt, abinStr, aun, aindex, aslice, optInt, aextract, anilCheck, aconvert, aindexAddr, afieldAddr, afield, aload, ldAt, isConstO, aeq, z40, build40, build40n, sz40, ag40, sz3, ag3, sz9, ag9, sz2, ag2, fa40_0, fa40_1, fa40_2, fa40_3, cellsAV, astore, putAt, AV.known, AV.one, AH.at, h25, h34, h30, h35, go25, go34, g30, g35, hlen, hmin, Tryz.underlying33, tokAV]
theorem word_sign (O : Orc) (c : UInt8) (r : List UInt8) (N : Nat) (h25 : ∀ H, O 88 [.int .u8 (c.toNat : Int)] H = some (.bool false, H)) (h34 : ∀ H, O 134 [.int .u8 (c.toNat : Int)] H = some (.bool false, H))
    (h36 : ∀ H, O 136 [.str (c :: r)] H = some (.int .i64 (signLen (c :: r)), H)) (hlen : (signLen (c :: r) : Int) ≤ (r.length : Int) + 1) :
    ∃ H', evFunc O Tryz.prog envT N 87 [.str (c :: r)] [] = some (if signLen (c :: r) = 0 then .tup [tokAV 0 [] 0 0, .int .i64 3] else .tup [tokAV 3 ((c :: r).take (signLen (c :: r))) 0 0, .int .i64 0], H') := by
  generalize signLen (c :: r) = m at h36 hlen
  have g36 : goFn Tryz.prog 136 = true := goFn_all _ (by simp)
  by_cases hm : m = 0
  · subst hm
    simp [Tryz.func87, Tryz.f87, evFunc, evCode, evRegion, withIds, needsId, idCount, grow, evOps, wantedA, stepO, callee, aop, putT, aeval, ofValC, ofVal, ofVals, applyUps, evResults, oneOrTup, alen, abin, abinInt, abinStr, aun, aindex, aslice, optInt, aextract, anilCheck, aconvert, aindexAddr, afieldAddr, afield, aload, ldAt, isConstO, aeq, z40, build40, build40n, sz40, ag40, sz3, ag3, sz9, ag9, sz2, ag2, fa40_0, fa40_1, fa40_2, fa40_3, cellsAV, astore, putAt, AV.known, AV.one, AH.at, h25, h34, h36, go25, go34, g36, hlen, tokAV]
  · have hm' : ((m : Int) == 0) = false := by simp only [beq_eq_false_iff_ne]; omega
    simp [Tryz.func87, Tryz.f87, evFunc, evCode, evRegion, withIds, needsId, idCount, grow, evOps, wantedA, stepO, callee, aop, putT, aeval, ofValC, ofVal, ofVals, applyUps, evResults, oneOrTup, alen, abin, abinInt, abinStr, aun, aindex, aslice, optInt, aextract, anilCheck, aconvert, aindexAddr, afieldAddr, afield, aload, ldAt, isConstO, aeq, z40, build40, build40n, sz40, ag40, sz3, ag3, sz9, ag9, sz2, ag2, fa40_0, fa40_1, fa40_2, fa40_3, cellsAV, astore, putAt, AV.known, AV.one, AH.at, h25, h34, h36, go25, go34, g36, hlen, hm, hm', tokAV]
end Go.Proofs.YtejjlojfgcgopaaGreatDoor
namespace Go.Proofs.YtejjlojfgcgopaaGreatDoor
open Go.RowKit Go.Proofs.Fw
set_option maxRecDepth 100000
set_option maxHeartbeats 4000000
theorem go48 : goFn Tryz.prog 175 = true := by kernel_rfl
end Go.Proofs.YtejjlojfgcgopaaGreatDoor

namespace Go.Proofs.YtejjlojfgcgopaaGreatDoor
open Go.RowKit Go.Proofs.Fw
set_option maxRecDepth 100000
set_option maxHeartbeats 4000000
structure Wd where
  kind : Nat
  text : List UInt8
  at_ : Nat
  n : Nat
  deriving DecidableEq
def wordOf (s : List UInt8) : (Nat × List UInt8 × Nat) × Nat :=
  match s with
  | [] => ((0, [], 0), 3)
  | c :: _ =>
    if isSmall c then ((if isKey (s.take (frontLen isInner s)) then 4 else 1, s.take (frontLen isInner s), 0), if 31 < frontLen isInner s then 4 else 0)
    else if isDigit c then (if numOf (s.take (frontLen isDigit s)) < 9223372036854775808 then ((2, s.take (frontLen isDigit s), numOf (s.take (frontLen isDigit s))), 0) else ((2, s.take (frontLen isDigit s), 0), 5))
    else if signLen s = 0 then ((0, [], 0), 3) else ((3, s.take (signLen s), 0), 0)
def isBlank (c : UInt8) : Bool := c.toNat == 32 || c.toNat == 9
def lex : Nat → List UInt8 → Nat → Bool → Except (Nat × Nat) (List Wd)
  | 0, _, _, _ => .ok []
  | _ + 1, [], _, _ => .ok []
  | n + 1, c :: r, p, num =>
    if isBlank c then lex n r (p + 1) false
    else
      let w := wordOf (c :: r)
      let e := if num && isSmall c then 3 else w.2
      if e ≠ 0 then .error (p, e)
      else match lex n ((c :: r).drop w.1.2.1.length) (p + w.1.2.1.length) (w.1.1 == 2) with
        | .ok l => .ok (⟨w.1.1, w.1.2.1, p, w.1.2.2⟩ :: l)
        | .error x => .error x
def wdCells (t : Wd) : List AV := [.int .i64 t.kind, .str t.text, .int .i64 t.at_, .int .i64 t.n]
def wdsCells (l : List Wd) : List AV := l.flatMap wdCells
def wdsAV (l : List Wd) : AV := if l = [] then .nilSlice else .slice .unk 4 l.length (wdsCells l)
def faultAV (w : List UInt8) (p e : Nat) : AV := .iface 152 (.vptr [.str w, .int .i64 p, .iface 134 (.int .i64 e)] 0)
def wordTxt : List UInt8 := [119, 111, 114, 100]
def lineAV : Except (Nat × Nat) (List Wd) → AV
  | .ok l => .tup [wdsAV l, .nilIface]
  | .error (p, e) => .tup [.nilSlice, faultAV wordTxt p e]
theorem wdCells_low (t : Wd) : lowL 0 (wdCells t) = true := rfl
theorem wdsCells_low (l : List Wd) : lowL 0 (wdsCells l) = true := lowL_flatMap 0 wdCells wdCells_low l
theorem wdsCells_length : ∀ l : List Wd, (wdsCells l).length = l.length * 4
  | [] => rfl
  | t :: l => by
    have := wdsCells_length l
    simp only [wdsCells, List.flatMap_cons, List.length_append, List.length_cons] at this ⊢
    rw [this]
    simp [wdCells]
    omega
noncomputable def c11 : Code := bodyOf Tryz.f51
def wordAV (s : List UInt8) : AV := .tup [.agg [.int .i64 (wordOf s).1.1, .str (wordOf s).1.2.1, .int .i64 0, .int .i64 (wordOf s).1.2.2], .int .i64 (wordOf s).2]
def outAV (l : List Wd) : AV := if l = [] then .nilSlice else .slice (.tok 0) 4 l.length (wdsCells l)
def outH (l : List Wd) : AH := if l = [] then [] else [some (.tok l.length)]
def numAt (l : List Wd) (i : Nat) : Bool := match l.getLast? with
  | some t => t.kind == 2 && t.at_ + t.text.length == i
  | none => false
noncomputable def loop11 : Code := fstC (sndC (sndC c11))
noncomputable def body11 : Code := inC (inC (sndC loop11))
theorem draws11 : okDraws envT body11 = true := by kernel_rfl
theorem bsTok (a : Nat) (b : List UInt8) (c d : Nat) : abuildSlice Tryz.prog 125 1 [(0, .agg [.int .i64 a, .str b, .int .i64 c, .int .i64 d])] = some (.slice .full 4 1 [.int .i64 a, .str b, .int .i64 c, .int .i64 d]) := by kernel_rfl
theorem buFault (w : List UInt8) (p e : Int) : abuild Tryz.prog 156 [(0, .str w), (1, .int .i64 p), (2, .iface 134 (.int .i64 e))] = some (.agg [.str w, .int .i64 p, .iface 134 (.int .i64 e)]) := by kernel_rfl
theorem imm_T : envT.imm 156 = true := rfl
theorem line_bl (B : Bs) (hB : B.H = []) (O : Orc) (s : List UInt8) (i : Nat) (v4 : AV) (H : AH) (hi : i < s.length) (hs : s.length < 9223372036854775807) (hb : s[i].toNat = 32 ∨ s[i].toNat = 9) (Q : AEx → List AV → AH → Prop)
    (hQ : ∀ t : List AV, Less B t H (mkT 89 [(0, .str s), (4, v4), (5, .int .i64 ((i + 1 : Nat) : Int))]) H → Q .normal t H) (hl : low H.length v4 = true) (hH : lowH H.length H = true) :
    Wx O Tryz.prog envT body11 (mkT 89 [(0, .str s), (4, v4), (5, .int .i64 i)]) H Q := by
  have hi' : (i : Int) < s.length := by omega
  have w7 : IntKind.i64.wrap ((i : Int) + 1) = (i : Int) + 1 := wrap_i64 (by omega) (by omega)
  rw [Go_of]
  rcases hb with hb | hb <;>
    simp [body11, loop11, c11, Tryz.f51, hi, hi', hb, w7]
  all_goals
    refine hQ _ ?_
    refine Less.mkT H.length (by simp [hB]) ?_ (by simp) hH
    simp
    exact ⟨.same rfl rfl, .same rfl hl, .same rfl rfl⟩
theorem line_w0 (B : Bs) (hB : B.H = []) (O : Orc) (s : List UInt8) (i : Nat) (K : Nat) (T : List UInt8) (M e : Nat) (hi : i < s.length) (hs : s.length < 9223372036854775807) (hb1 : ((s[i].toNat : Int) == 32) = false) (hb2 : ((s[i].toNat : Int) == 9) = false)
    (h24 : ∀ H, O 87 [.str (s.drop i)] H = some (.tup [.agg [.int .i64 K, .str T, .int .i64 0, .int .i64 M], .int .i64 e], H)) (hT : i + T.length < 9223372036854775807) (Q : AEx → List AV → AH → Prop)
    (hN : e = 0 → ∀ t H, Less B t H (mkT 89 [(0, .str s), (4, outAV [⟨K, T, i, M⟩]), (5, .int .i64 ((i + T.length : Nat) : Int))]) (outH [⟨K, T, i, M⟩]) → Q .normal t H)
    (hE : e ≠ 0 → ∀ t H, Fin Tryz.prog Tryz.f51 0 4 (lineAV (.error (i, e))) [] .ret t H → Q .ret t H) :
    Wx O Tryz.prog envT body11 (mkT 89 [(0, .str s), (4, .nilSlice), (5, .int .i64 i)]) [] Q := by
  have hi' : (i : Int) < s.length := by omega
  have hi'' : (i : Int) ≤ s.length := by omega
  have w7 : IntKind.i64.wrap ((i : Int) + (T.length : Int)) = (i : Int) + (T.length : Int) := wrap_i64 (by omega) (by omega)
  rw [Go_of]
  simp [body11, loop11, c11, Tryz.f51, hi, hi', hi'', hb1, hb2, h24]
  refine GoD_split (fun he => ?_) (fun he => ?_)
  · simp [buFault, imm_T]
    refine hE he _ _ ?_
    rw [Fin_ret]
    simp [lineAV, faultAV, wordTxt, Tryz.f51]
  · simp [bsTok, aappend_nil (Ty.ec125), w7]
    refine hN (by simpa using he) _ _ ?_
    refine Less.view (fun _ => 1) 1 (by simp [hB]) (by omega) (by simp [hB]) (by simp [outH]) ?_ (by simp [outH]) (WkVL.mkT ?_)
    · intro j hj
      obtain rfl : j = 0 := by omega
      simp [outH, renE]
    · simp [outAV, wdsCells, wdCells]
      exact ⟨.same rfl rfl, .view 9 _ _ (by simp) (by simp [ren, renL]), .same rfl rfl⟩
theorem line_w1 (B : Bs) (hB : B.H = []) (O : Orc) (s : List UInt8) (i m : Nat) (cs : List AV) (kd pl : Nat) (tx : List UInt8) (sm : Bool) (K : Nat) (T : List UInt8) (M e : Nat) (hi : i < s.length) (hs : s.length < 137438953472)
    (hb1 : ((s[i].toNat : Int) == 32) = false) (hb2 : ((s[i].toNat : Int) == 9) = false)
    (c0 : cs[m * 4]? = some (.int .i64 kd)) (c1 : cs[m * 4 + 1]? = some (.str tx)) (c2 : cs[m * 4 + 2]? = some (.int .i64 pl)) (hcs : lowL 0 cs = true) (hm : m < 137438953470) (hpl : pl + tx.length ≤ s.length)
    (h25 : ∀ H, O 88 [.int .u8 (s[i].toNat : Int)] H = some (.bool sm, H))
    (h24 : ∀ H, O 87 [.str (s.drop i)] H = some (.tup [.agg [.int .i64 K, .str T, .int .i64 0, .int .i64 M], .int .i64 e], H)) (hT : i + T.length < 9223372036854775807) (Q : AEx → List AV → AH → Prop) (e' : Nat) (he' : e' = if sm = true ∧ kd = 2 ∧ pl + tx.length = i then 3 else e)
    (hN : e' = 0 → ∀ t H, Less B t H (mkT 89 [(0, .str s), (4, .slice (.tok 0) 4 (m + 2) (cs ++ wdCells ⟨K, T, i, M⟩)), (5, .int .i64 ((i + T.length : Nat) : Int))]) [some (.tok (m + 2))] → Q .normal t H)
    (hE : e' ≠ 0 → ∀ t H, Fin Tryz.prog Tryz.f51 0 4 (lineAV (.error (i, e'))) [] .ret t H → Q .ret t H) :
    Wx O Tryz.prog envT body11 (mkT 89 [(0, .str s), (4, .slice (.tok 0) 4 (m + 1) cs), (5, .int .i64 i)]) [some (.tok (m + 1))] Q := by
  have hi' : (i : Int) < s.length := by omega
  have hi'' : (i : Int) ≤ s.length := by omega
  have w7 : IntKind.i64.wrap ((i : Int) + (T.length : Int)) = (i : Int) + (T.length : Int) := wrap_i64 (by omega) (by omega)
  have w8 : IntKind.i64.wrap (m : Int) = (m : Int) := wrap_i64 (by omega) (by omega)
  have w9 : IntKind.i64.wrap ((pl : Int) + (tx.length : Int)) = (pl : Int) + (tx.length : Int) := wrap_i64 (by omega) (by omega)
  have p1 : (0 : Int) < (m : Int) + 1 := by omega
  have w10 : IntKind.i64.wrap (i : Int) = (i : Int) := wrap_i64 (by omega) (by omega)
  have p2 : (m : Int) < (m : Int) + 1 := by omega
  have hlow : lowL 1 cs = true := lowL_mono (Nat.zero_le 1) cs hcs
  have hb : m + 1 + 1 ≤ 137438953472 := by omega
  rw [Go_of]
  have done : ∀ (t : List AV) (l : List (Nat × AV)) (H : AH), t = mkT 89 l → e' = 0 → l.lookup 0 = some (.str s) → l.lookup 4 = some (.slice (.tok 0) 4 (m + 1 + 1) (cs ++ [.int .i64 K, .str T, .int .i64 i, .int .i64 M])) →
      l.lookup 5 = some (.int .i64 ((i : Int) + T.length)) → H.take 1 = [some (.tok (m + 1 + 1))] → Q .normal t H := by
    rintro t l H rfl h0 h1 h2 h3 h4
    refine hN h0 _ _ ?_
    refine Less.mkT 1 (by simp [hB]) ?_ h4 (by simp)
    simp [h1, h2, h3, wdCells]
    exact ⟨.same rfl rfl, .same rfl (by simp [hlow]), .same rfl rfl⟩
  cases sm
  · simp at he'
    subst he'
    simp [body11, loop11, c11, Tryz.f51, hi, hi', hi'', hb1, hb2, h24, h25, c0, c1, c2, w8, w9, w10, p1, p2]
    refine GoD_split (fun he => ?_) (fun he => ?_)
    · simp [buFault, imm_T]
      refine hE he _ _ ?_
      rw [Fin_ret]
      simp [lineAV, faultAV, wordTxt, Tryz.f51]
    · simp [bsTok, aappend_tok (Ty.ec125), w7, hb]
      refine done _ _ _ rfl (by simpa using he) ?_ ?_ ?_ ?_ <;> simp
  · by_cases hk : (kd : Int) = 2
    · by_cases ha : (pl : Int) + (tx.length : Int) = (i : Int)
      · rw [if_pos ⟨rfl, by omega, by omega⟩] at he'
        subst he'
        simp [body11, loop11, c11, Tryz.f51, hi, hi', hi'', hb1, hb2, h24, h25, c0, c1, c2, w8, w9, w10, p1, p2, hk, ha, buFault, imm_T]
        refine hE (by decide) _ _ ?_
        rw [Fin_ret]
        simp [lineAV, faultAV, wordTxt, Tryz.f51]
      · rw [if_neg (fun h => ha (by omega))] at he'
        subst he'
        simp [body11, loop11, c11, Tryz.f51, hi, hi', hi'', hb1, hb2, h24, h25, c0, c1, c2, w8, w9, w10, p1, p2, hk, ha]
        refine GoD_split (fun he => ?_) (fun he => ?_)
        · simp [buFault, imm_T]
          refine hE he _ _ ?_
          rw [Fin_ret]
          simp [lineAV, faultAV, wordTxt, Tryz.f51]
        · simp [bsTok, aappend_tok (Ty.ec125), w7, hb]
          refine done _ _ _ rfl (by simpa using he) ?_ ?_ ?_ ?_ <;> simp
    · rw [if_neg (fun h => hk (by omega))] at he'
      subst he'
      simp [body11, loop11, c11, Tryz.f51, hi, hi', hi'', hb1, hb2, h24, h25, c0, c1, c2, w8, w9, w10, p1, p2, hk]
      refine GoD_split (fun he => ?_) (fun he => ?_)
      · simp [buFault, imm_T]
        refine hE he _ _ ?_
        rw [Fin_ret]
        simp [lineAV, faultAV, wordTxt, Tryz.f51]
      · simp [bsTok, aappend_tok (Ty.ec125), w7, hb]
        refine done _ _ _ rfl (by simpa using he) ?_ ?_ ?_ ?_ <;> simp
end Go.Proofs.YtejjlojfgcgopaaGreatDoor

namespace Go.Proofs.YtejjlojfgcgopaaGreatDoor
set_option maxHeartbeats 1000000
inductive Ex where
  | none
  | num (n : Nat)
  | var (s : List UInt8)
  | elem (s : List UInt8) (a : List Ex)
  | neg (e : Ex)
  | bin (k : Nat) (a b : Ex)
  deriving Inhabited
structure St where
  at_ : Nat
  deep : Nat
  err : Option (Nat × Nat)
def isS (ts : List Wd) (i : Nat) (s : List UInt8) : Bool := match ts[i]? with
  | some t => t.kind == 3 && t.text == s
  | none => false
def St.fail (r : St) (p e : Nat) : St := match r.err with
  | none => ⟨r.at_, r.deep, some (p, e)⟩
  | some _ => r
def St.step (r : St) : St := ⟨r.at_ + 1, r.deep, r.err⟩
def nextB (ts : List Wd) (r : St) (s : List UInt8) : Bool := r.err.isNone && isS ts r.at_ s
def mustS (ts : List Wd) (r : St) (s : List UInt8) : St := if nextB ts r s then r.step else r.fail r.at_ 2
abbrev Rd := St → Ex × St
def rowL (ts : List Wd) (of : Rd) (f : List UInt8) (one : Nat) (s : List UInt8) (two : Nat) : Nat → Ex → Rd
  | 0, e, r => (e, r)
  | n + 1, e, r =>
    if r.err.isSome then (.none, r)
    else if nextB ts r s then rowL ts of f one s two n (.bin two e (of r.step).1) (of r.step).2
    else if nextB ts r f then rowL ts of f one s two n (.bin one e (of r.step).1) (of r.step).2
    else (e, r)
def rowF (ts : List Wd) (of : Rd) (f : List UInt8) (one : Nat) (s : List UInt8) (two : Nat) : Rd := fun r =>
  rowL ts of f one s two (ts.length + 1) (of r).1 (of r).2
def plusT : List UInt8 := [43]
def minusT : List UInt8 := [45]
def starT : List UInt8 := [42]
def slashT : List UInt8 := [47]
def openT : List UInt8 := [40]
def shutT : List UInt8 := [41]
def commaT : List UInt8 := [44]
def termF (ts : List Wd) (fac : Rd) : Rd := rowF ts fac starT 7 slashT 8
def sumF (ts : List Wd) (fac : Rd) : Rd := rowF ts (termF ts fac) plusT 5 minusT 6
def inF (p : Nat) (of : Rd) : Rd := fun r =>
  let r2 := if r.deep + 1 > 20 then (⟨r.at_, r.deep + 1, r.err⟩ : St).fail p 4 else ⟨r.at_, r.deep + 1, r.err⟩
  if r2.err.isNone then ((of r2).1, ⟨(of r2).2.at_, (of r2).2.deep - 1, (of r2).2.err⟩) else (.none, ⟨r2.at_, r2.deep - 1, r2.err⟩)
def subL (ts : List Wd) (sum : Rd) : Nat → List Ex → St → List Ex × St
  | 0, a, r => (a, r)
  | n + 1, a, r =>
    if nextB ts (sum r).2 commaT then
      subL ts sum n (a ++ [(sum r).1]) (if a.length + 1 == 4 then (sum r).2.fail (sum r).2.at_ 4 else (sum r).2).step
    else (a ++ [(sum r).1], (sum r).2)
def nameF (ts : List Wd) (sum : Rd) (s : List UInt8) : Rd := fun r =>
  if nextB ts r.step openT then
    (.elem s (subL ts sum 6 [] r.step.step).1, mustS ts (subL ts sum 6 [] r.step.step).2 shutT)
  else (.var s, r.step)
def facF (ts : List Wd) (sum fac : Rd) : Rd := fun r =>
  match r.err, ts[r.at_]? with
  | none, some t =>
    if t.kind == 2 then (.num t.n, r.step)
    else if t.kind == 1 then nameF ts sum t.text r
    else if isS ts r.at_ minusT then (.neg (inF r.at_ fac r.step).1, (inF r.at_ fac r.step).2)
    else if isS ts r.at_ openT then ((inF r.at_ sum r.step).1, mustS ts (inF r.at_ sum r.step).2 shutT)
    else (.none, r.fail r.at_ 2)
  | _, _ => (.none, r.fail r.at_ 2)
def fac (ts : List Wd) : Nat → Rd
  | 0 => fun r => (.none, r)
  | n + 1 => facF ts (sumF ts (fac ts n)) (fac ts n)
def sumAt (ts : List Wd) (r : St) : Ex × St := sumF ts (fac ts (ts.length + 1)) r
def parseX (ts : List Wd) : Ex × Nat × Option (Nat × Nat) :=
  match (sumAt ts ⟨0, 0, none⟩).2.err with
  | none => ((sumAt ts ⟨0, 0, none⟩).1, (sumAt ts ⟨0, 0, none⟩).2.at_, none)
  | some x => (.none, 0, some x)
def relTs : List (List UInt8) := [[60], [60, 61], [62], [62, 61], [61, 61], [47, 61]]
def relB (s : List UInt8) : Bool := relTs.contains s
def condMid (ts : List Wd) (r : St) : List UInt8 × St :=
  match r.err with
  | some _ => ([], r)
  | none => (match ts[r.at_]? with
    | some t => if t.kind == 3 && relB t.text then (t.text, r.step) else ([], r.fail r.at_ 2)
    | none => ([], r.fail r.at_ 2))
def parseC (ts : List Wd) : (List UInt8 × Ex × Ex) × Nat × Option (Nat × Nat) :=
  let a := sumAt ts ⟨0, 0, none⟩
  let m := condMid ts a.2
  let b := sumAt ts m.2
  match b.2.err with
  | none => ((m.1, a.1, b.1), b.2.at_, none)
  | some x => (([], .none, .none), 0, some x)
end Go.Proofs.YtejjlojfgcgopaaGreatDoor
namespace Go.Proofs.YtejjlojfgcgopaaGreatDoor
set_option maxHeartbeats 1000000
def rrowL (ts : List Wd) (of : Rd) (f : List UInt8) (one : Nat) (s : List UInt8) (two : Nat) : Nat → Ex → Rd
  | 0, e, r => (e, r)
  | n + 1, e, r =>
    if nextB ts r f then rrowL ts of f one s two n (.bin one e (of r.step).1) (of r.step).2
    else if nextB ts r s then rrowL ts of f one s two n (.bin two e (of r.step).1) (of r.step).2
    else (e, r)
def rrowF (ts : List Wd) (of : Rd) (f : List UInt8) (one : Nat) (s : List UInt8) (two : Nat) : Rd := fun r =>
  rrowL ts of f one s two (ts.length + 1) (of r).1 (of r).2
def rtermF (ts : List Wd) (fac : Rd) : Rd := rrowF ts fac starT 7 slashT 8
def rsumF (ts : List Wd) (fac : Rd) : Rd := rrowF ts (rtermF ts fac) plusT 5 minusT 6
def rdeep (of : Rd) : Rd := fun r => ((of ⟨r.at_, r.deep + 1, r.err⟩).1, ⟨(of ⟨r.at_, r.deep + 1, r.err⟩).2.at_, r.deep, (of ⟨r.at_, r.deep + 1, r.err⟩).2.err⟩)
def rsubL (ts : List Wd) (sum : Rd) : Nat → List Ex → St → List Ex × St
  | 0, a, r => (a, r)
  | n + 1, a, r =>
    if nextB ts r commaT then
      (if 4 ≤ a.length then (a, r.fail r.at_ 4) else rsubL ts sum n (a ++ [(sum r.step).1]) (sum r.step).2)
    else (a, mustS ts r shutT)
def rsubs (ts : List Wd) (sum : Rd) (r : St) : List Ex × St := rsubL ts sum 5 [(sum r).1] (sum r).2
def rfacF (ts : List Wd) (sum fac : Rd) : Rd := fun r =>
  match r.err, ts[r.at_]? with
  | none, some t =>
    if t.kind == 2 then (.num t.n, r.step)
    else if t.kind == 1 then
      (if nextB ts r.step openT then (.elem t.text (rsubs ts sum r.step.step).1, (rsubs ts sum r.step.step).2) else (.var t.text, r.step))
    else if isS ts r.at_ minusT || isS ts r.at_ openT then
      (if 20 ≤ r.deep then (.none, r.fail r.at_ 4)
      else if isS ts r.at_ minusT then (.neg (rdeep fac r.step).1, (rdeep fac r.step).2)
      else ((rdeep sum r.step).1, mustS ts (rdeep sum r.step).2 shutT))
    else (.none, r.fail r.at_ 2)
  | _, _ => (.none, r.fail r.at_ 2)
def rfac (ts : List Wd) : Nat → Rd
  | 0 => fun r => (.none, r)
  | n + 1 => rfacF ts (rsumF ts (rfac ts n)) (rfac ts n)
def okS (a b : St) : Prop := a.err = b.err ∧ (a.err = none → a = b)
def okX (x y : Ex × St) : Prop := okS x.2 y.2 ∧ (x.2.err = none → x.1 = y.1)
def keepsE (of : Rd) : Prop := ∀ r x, r.err = some x → (of r).2.err = some x
def okR (f g : Rd) : Prop := (∀ r, okX (f r) (g r)) ∧ keepsE f ∧ keepsE g ∧ (∀ r, (f r).2.deep = r.deep) ∧ (∀ r, (g r).2.deep = r.deep)
theorem okX.run {f g : Rd} (h : okR f g) {a b : St} (hs : okS a b) : okX (f a) (g b) := by
  obtain ⟨h1, h2, h3, _, _⟩ := h
  cases he : a.err with
  | none =>
    obtain rfl := hs.2 he
    exact h1 a
  | some x =>
    have hb : b.err = some x := by rw [← hs.1, he]
    have e1 := h2 a x he
    have e2 := h3 b x hb
    exact ⟨⟨by rw [e1, e2], fun h => by rw [e1] at h; cases h⟩, fun h => by rw [e1] at h; cases h⟩
theorem fail_err (r : St) (p e : Nat) : (r.fail p e).err = some (r.err.getD (p, e)) := by
  unfold St.fail; split <;> simp_all
theorem fail_some {r : St} {x : Nat × Nat} (h : r.err = some x) (p e : Nat) : r.fail p e = r := by
  unfold St.fail; simp [h]
theorem fail_deep (r : St) (p e : Nat) : (r.fail p e).deep = r.deep := by unfold St.fail; split <;> rfl
theorem nextB_err {ts : List Wd} {r : St} {x : Nat × Nat} (h : r.err = some x) (s : List UInt8) : nextB ts r s = false := by simp [nextB, h]
theorem mustS_err {ts : List Wd} {r : St} {x : Nat × Nat} (h : r.err = some x) (s : List UInt8) : mustS ts r s = r := by simp [mustS, nextB_err h, fail_some h]
theorem mustS_deep (ts : List Wd) (r : St) (s : List UInt8) : (mustS ts r s).deep = r.deep := by unfold mustS; split <;> simp [St.step, fail_deep]
theorem okS.must {ts : List Wd} {a b : St} (h : okS a b) (s : List UInt8) : okS (mustS ts a s) (mustS ts b s) := by
  cases he : a.err with
  | none => obtain rfl := h.2 he; exact ⟨rfl, fun _ => rfl⟩
  | some x =>
    have hb : b.err = some x := by rw [← h.1, he]
    rw [mustS_err he, mustS_err hb]; exact h
theorem two_signs {ts : List Wd} {i : Nat} {f s : List UInt8} (hne : f ≠ s) (h1 : isS ts i f = true) : isS ts i s = false := by
  unfold isS at h1 ⊢
  split at h1
  · simp at h1 ⊢; intro _; rw [h1.2]; exact hne
  · cases h1
theorem rowL_ok {ts : List Wd} {of og : Rd} (ho : okR of og) {f s : List UInt8} (hne : f ≠ s) (one two : Nat) : ∀ (n : Nat) {e1 e2 : Ex} {a b : St}, okX (e1, a) (e2, b) →
    okX (rowL ts of f one s two n e1 a) (rrowL ts og f one s two n e2 b)
  | 0, _, _, _, _, h => h
  | n + 1, e1, e2, a, b, h => by
    cases he : a.err with
    | some x =>
      have hb : b.err = some x := by rw [← h.1.1, he]
      simp only [rowL, rrowL, he, Option.isSome_some, if_true, nextB_err hb, Bool.false_eq_true, if_false]
      exact ⟨⟨by rw [he, hb], fun h => by rw [he] at h; cases h⟩, fun h => by rw [he] at h; cases h⟩
    | none =>
      obtain rfl := h.1.2 he
      obtain rfl := h.2 he
      have key := okX.run ho (a := a.step) (b := a.step) ⟨rfl, fun _ => rfl⟩
      simp only [rowL, rrowL, he, Option.isSome_none, Bool.false_eq_true, if_false]
      by_cases h1 : nextB ts a f = true
      · have h2 : nextB ts a s = false := by
          simp only [nextB, he, Option.isNone_none, Bool.true_and] at h1 ⊢
          exact two_signs hne h1
        rw [h1, h2]
        simp only [Bool.false_eq_true, if_false, if_true]
        exact rowL_ok ho hne one two n ⟨key.1, fun h => by rw [key.2 h]⟩
      · rw [Bool.not_eq_true] at h1
        rw [h1]
        simp only [Bool.false_eq_true, if_false]
        split
        · exact rowL_ok ho hne one two n ⟨key.1, fun h => by rw [key.2 h]⟩
        · exact ⟨⟨rfl, fun _ => rfl⟩, fun _ => rfl⟩
theorem rowL_keeps {ts : List Wd} {of : Rd} {f s : List UInt8} {one two : Nat} (n : Nat) (e : Ex) {r : St} {x : Nat × Nat} (h : r.err = some x) : (rowL ts of f one s two n e r).2.err = some x := by
  cases n with
  | zero => exact h
  | succ n => simp [rowL, h]
theorem rrowL_keeps {ts : List Wd} {of : Rd} {f s : List UInt8} {one two : Nat} (n : Nat) (e : Ex) {r : St} {x : Nat × Nat} (h : r.err = some x) : (rrowL ts of f one s two n e r).2.err = some x := by
  cases n with
  | zero => exact h
  | succ n => simp [rrowL, nextB_err h, h]
theorem rowL_deep {ts : List Wd} {of : Rd} (ho : ∀ r, (of r).2.deep = r.deep) {f s : List UInt8} {one two : Nat} : ∀ (n : Nat) (e : Ex) (r : St), (rowL ts of f one s two n e r).2.deep = r.deep
  | 0, _, _ => rfl
  | n + 1, e, r => by
    simp only [rowL]
    split
    · rfl
    · split
      · rw [rowL_deep ho n, ho]; rfl
      · split
        · rw [rowL_deep ho n, ho]; rfl
        · rfl
theorem rrowL_deep {ts : List Wd} {of : Rd} (ho : ∀ r, (of r).2.deep = r.deep) {f s : List UInt8} {one two : Nat} : ∀ (n : Nat) (e : Ex) (r : St), (rrowL ts of f one s two n e r).2.deep = r.deep
  | 0, _, _ => rfl
  | n + 1, e, r => by
    simp only [rrowL]
    split
    · rw [rrowL_deep ho n, ho]; rfl
    · split
      · rw [rrowL_deep ho n, ho]; rfl
      · rfl
theorem rowF_ok {ts : List Wd} {of og : Rd} (ho : okR of og) {f s : List UInt8} (hne : f ≠ s) (one two : Nat) : okR (rowF ts of f one s two) (rrowF ts og f one s two) :=
  ⟨fun r => rowL_ok ho hne one two _ (ho.1 r), fun r x h => rowL_keeps _ _ (ho.2.1 r x h), fun r x h => rrowL_keeps _ _ (ho.2.2.1 r x h),
    fun r => by rw [rowF, rowL_deep ho.2.2.2.1]; exact ho.2.2.2.1 r, fun r => by rw [rrowF, rrowL_deep ho.2.2.2.2]; exact ho.2.2.2.2 r⟩
theorem sumF_ok {ts : List Wd} {f g : Rd} (h : okR f g) : okR (sumF ts f) (rsumF ts g) :=
  rowF_ok (rowF_ok h (by decide) 7 8) (by decide) 5 6
theorem inF_ok {f g : Rd} (h : okR f g) (p : Nat) (r : St) (hd : ¬ 20 ≤ r.deep) : okX (inF p f r) (rdeep g r) := by
  have h1 : ¬ r.deep + 1 > 20 := by omega
  have key := okX.run h (a := ⟨r.at_, r.deep + 1, r.err⟩) (b := ⟨r.at_, r.deep + 1, r.err⟩) ⟨rfl, fun _ => rfl⟩
  have d1 := h.2.2.2.1 ⟨r.at_, r.deep + 1, r.err⟩
  have d2 := h.2.2.2.2 ⟨r.at_, r.deep + 1, r.err⟩
  simp only [inF, if_neg h1, rdeep]
  cases he : r.err with
  | none =>
    rw [he] at key d1 d2
    simp only [Option.isNone_none, if_true]
    refine ⟨⟨key.1.1, fun h => ?_⟩, fun h => key.2 h⟩
    have := key.1.2 h
    simp only at d1
    simp [this, d2]
  | some x =>
    rw [he] at key
    have e2 := h.2.2.1 ⟨r.at_, r.deep + 1, some x⟩ x rfl
    simp only [Option.isNone_some, Bool.false_eq_true, if_false]
    exact ⟨⟨by simp [e2], fun h => by cases h⟩, fun h => by cases h⟩
theorem inF_deep (p : Nat) {f : Rd} (hf : ∀ r, (f r).2.deep = r.deep) (r : St) : (inF p f r).2.deep = r.deep := by
  by_cases hd : r.deep + 1 > 20
  · cases h : r.err with
    | none => simp [inF, hd, h, St.fail]
    | some x => simp [inF, hd, h, St.fail]
  · cases h : r.err with
    | none => simp [inF, hd, h, hf]
    | some x => simp [inF, hd, h]
theorem inF_over (p : Nat) (f : Rd) (r : St) (hd : 20 ≤ r.deep) (he : r.err = none) : (inF p f r).2.err = some (p, 4) := by
  have h1 : r.deep + 1 > 20 := by omega
  simp [inF, h1, St.fail, he]
theorem subL_ok {ts : List Wd} {f g : Rd} (h : okR f g) : ∀ (n : Nat) (a1 a2 : List Ex) (r q : St), okS r q → (r.err = none → a1 = a2) → a1.length = a2.length → a1.length < 4 → n + a1.length = 5 →
    okS (mustS ts (subL ts f (n + 1) a1 r).2 shutT) (rsubL ts g n (a2 ++ [(g q).1]) (g q).2).2 ∧
    ((mustS ts (subL ts f (n + 1) a1 r).2 shutT).err = none → (subL ts f (n + 1) a1 r).1 = (rsubL ts g n (a2 ++ [(g q).1]) (g q).2).1)
  | 0, a1, _, _, _, _, _, _, h4, h5 => by omega
  | n + 1, a1, a2, r, q, hs, ha, hl, h4, h5 => by
    have key := okX.run h hs
    cases he : (f r).2.err with
    | some x =>
      have hb : (g q).2.err = some x := by rw [← key.1.1, he]
      simp only [subL, rsubL, nextB_err he, nextB_err hb, Bool.false_eq_true, if_false, mustS_err he, mustS_err hb]
      exact ⟨key.1, fun hh => by rw [he] at hh; cases hh⟩
    | none =>
      have er : r.err = none := by
        cases hr : r.err with
        | none => rfl
        | some x => rw [h.2.1 r x hr] at he; cases he
      obtain rfl := ha er
      have e1 := key.2 he
      have e2 := key.1.2 he
      rw [← e1, ← e2]
      generalize hst : (f r).2 = st
      generalize hex : (f r).1 = e
      rw [hst] at he
      simp only [subL, rsubL, hst, hex]
      by_cases hc : nextB ts st commaT = true
      · simp only [hc, if_true]
        by_cases h3 : a1.length + 1 = 4
        · have h3' : (a1.length + 1 == 4) = true := by simp [h3]
          have h3'' : 4 ≤ (a1 ++ [e]).length := by simp; omega
          simp only [h3', if_true, h3'']
          have e3 : (st.fail st.at_ 4).step.err = some (st.at_, 4) := by simp [St.step, fail_err, he]
          have e4 := h.2.1 _ _ e3
          simp only [subL, nextB_err e4, Bool.false_eq_true, if_false, mustS_err e4]
          exact ⟨⟨by simp [e4, fail_err, he], fun hh => by rw [e4] at hh; cases hh⟩, fun hh => by rw [e4] at hh; cases hh⟩
        · have h3' : (a1.length + 1 == 4) = false := by rw [beq_eq_false_iff_ne]; exact h3
          have h3'' : ¬ 4 ≤ (a1 ++ [e]).length := by simp; omega
          simp only [h3', if_neg h3'', Bool.false_eq_true, if_false]
          refine subL_ok h n (a1 ++ [e]) (a1 ++ [e]) st.step st.step ⟨rfl, fun _ => rfl⟩ (fun _ => rfl) rfl ?_ ?_
          · rw [List.length_append]; simp only [List.length_cons, List.length_nil]; omega
          · rw [List.length_append]; simp only [List.length_cons, List.length_nil]; omega
      · rw [Bool.not_eq_true] at hc
        simp only [hc, Bool.false_eq_true, if_false]
        exact ⟨⟨rfl, fun _ => rfl⟩, by simp⟩
theorem subL_deep {ts : List Wd} {f : Rd} (h : ∀ r, (f r).2.deep = r.deep) : ∀ (n : Nat) (a : List Ex) (r : St), (subL ts f n a r).2.deep = r.deep
  | 0, _, _ => rfl
  | n + 1, a, r => by
    simp only [subL]
    split
    · rw [subL_deep h n]
      split
      · simp [St.step, fail_deep, h]
      · simp [St.step, h]
    · exact h r
theorem rsubL_deep {ts : List Wd} {f : Rd} (h : ∀ r, (f r).2.deep = r.deep) : ∀ (n : Nat) (a : List Ex) (r : St), (rsubL ts f n a r).2.deep = r.deep
  | 0, _, _ => rfl
  | n + 1, a, r => by
    simp only [rsubL]
    split
    · split
      · simp [fail_deep]
      · rw [rsubL_deep h n, h]; rfl
    · simp [mustS_deep]
theorem facF_ok {ts : List Wd} {f g sf sg : Rd} (h : okR f g) (hs : okR sf sg) : okR (facF ts sf f) (rfacF ts sg g) := by
  refine ⟨fun r => ?_, fun r x he => ?_, fun r x he => ?_, fun r => ?_, fun r => ?_⟩
  · have same : ∀ x : Ex × St, okX x x := fun x => ⟨⟨rfl, fun _ => rfl⟩, fun _ => rfl⟩
    have odd : ∀ x, r.err = some x ∨ ts[r.at_]? = Option.none → okX (facF ts sf f r) (rfacF ts sg g r) := by
      intro x hx
      have e1 : facF ts sf f r = (.none, r.fail r.at_ 2) := by
        unfold facF; split
        · rcases hx with hx | hx <;> simp_all
        · rfl
      have e2 : rfacF ts sg g r = (.none, r.fail r.at_ 2) := by
        unfold rfacF; split
        · rcases hx with hx | hx <;> simp_all
        · rfl
      rw [e1, e2]; exact same _
    cases he : r.err with
    | some x => exact odd x (.inl he)
    | none =>
    cases ht : ts[r.at_]? with
    | none => exact odd (0, 0) (.inr ht)
    | some t =>
      simp only [facF, rfacF, he, ht]
      split
      · exact same _
      · split
        · unfold nameF
          split
          · have key := subL_ok (ts := ts) hs 5 [] [] r.step.step r.step.step ⟨rfl, fun _ => rfl⟩ (fun _ => rfl) rfl (by decide) rfl
            exact ⟨key.1, fun hh => by rw [key.2 hh]; rfl⟩
          · exact same _
        · by_cases hm : isS ts r.at_ minusT = true
          · simp only [hm, Bool.true_or, if_true]
            by_cases hd : 20 ≤ r.deep
            · have e1 := inF_over r.at_ f r.step hd (by simpa [St.step] using he)
              simp only [if_pos hd]
              exact ⟨⟨by simp [e1, fail_err, he], fun hh => by rw [e1] at hh; cases hh⟩, fun hh => by rw [e1] at hh; cases hh⟩
            · simp only [if_neg hd]
              have key := inF_ok h r.at_ r.step hd
              exact ⟨key.1, fun hh => by rw [key.2 hh]⟩
          · rw [Bool.not_eq_true] at hm
            simp only [hm, Bool.false_or, Bool.false_eq_true, if_false]
            split
            · by_cases hd : 20 ≤ r.deep
              · have e1 := inF_over r.at_ sf r.step hd (by simpa [St.step] using he)
                simp only [if_pos hd, mustS_err e1]
                exact ⟨⟨by simp [e1, fail_err, he], fun hh => by rw [e1] at hh; cases hh⟩, fun hh => by rw [e1] at hh; cases hh⟩
              · simp only [if_neg hd]
                have key := inF_ok hs r.at_ r.step hd
                refine ⟨key.1.must _, fun hh => key.2 ?_⟩
                cases hx : (inF r.at_ sf r.step).2.err with
                | none => rfl
                | some x => rw [mustS_err hx, hx] at hh; cases hh
            · exact same _
  · simp only [facF, he, fail_some he]
  · simp only [rfacF, he, fail_some he]
  · unfold facF
    split
    · split
      · rfl
      · split
        · unfold nameF
          split
          · simp [mustS_deep, subL_deep hs.2.2.2.1, St.step]
          · rfl
        · split
          · simp [inF_deep _ h.2.2.2.1, St.step]
          · split
            · simp [mustS_deep, inF_deep _ hs.2.2.2.1, St.step]
            · simp [fail_deep]
    · simp [fail_deep]
  · unfold rfacF
    split
    · split
      · rfl
      · split
        · split
          · simp [rsubs, rsubL_deep hs.2.2.2.2, hs.2.2.2.2, St.step]
          · rfl
        · split
          · split
            · simp [fail_deep]
            · split
              · simp [rdeep, St.step]
              · simp [mustS_deep, rdeep, St.step]
          · simp [fail_deep]
    · simp [fail_deep]
theorem fac_ok (ts : List Wd) : ∀ n, okR (fac ts n) (rfac ts n)
  | 0 => ⟨fun _ => ⟨⟨rfl, fun _ => rfl⟩, fun _ => rfl⟩, fun _ _ h => h, fun _ _ h => h, fun _ => rfl, fun _ => rfl⟩
  | n + 1 => facF_ok (fac_ok ts n) (sumF_ok (fac_ok ts n))
end Go.Proofs.YtejjlojfgcgopaaGreatDoor

namespace Go.Proofs.YtejjlojfgcgopaaGreatDoor
set_option maxHeartbeats 1000000
abbrev Er := Option (List (List UInt8 × Nat) × Nat)
def stmtTxt : List UInt8 := [115, 116, 109, 116]
def exprTx : List UInt8 := [101, 120, 112, 114]
def wordTx : List UInt8 := [119, 111, 114, 100]
structure Sr where
  at_ : Nat
  err : Er
  deriving DecidableEq
def Sr.fail (r : Sr) (p e : Nat) : Sr := ⟨r.at_, some (r.err.getD ([(stmtTxt, p)], e))⟩
def Sr.step (r : Sr) : Sr := ⟨r.at_ + 1, r.err⟩
def isK (ts : List Wd) (i : Nat) (k : Nat) (s : List UInt8) : Bool := match ts[i]? with
  | some w => w.kind == k && (s == [] || w.text == s)
  | none => false
def isW (ts : List Wd) (r : Sr) (k : Nat) (s : List UInt8) : Bool := r.err.isNone && isK ts r.at_ k s
def takesW (ts : List Wd) (r : Sr) (k : Nat) (s : List UInt8) : Sr := if isW ts r k s then r.step else r
def wd0 : Wd := ⟨0, [], 0, 0⟩
def mustW (ts : List Wd) (r : Sr) (k : Nat) (s : List UInt8) : Wd × Sr := if isW ts r k s then ((ts[r.at_]?).getD wd0, r.step) else (wd0, r.fail r.at_ 2)
def withinW {α : Type} (ts : List Wd) (none_ : α) (of : List Wd → α × Nat × Option (Nat × Nat)) (r : Sr) : α × Sr :=
  match r.err with
  | some _ => (none_, r)
  | none => (match (of (ts.drop r.at_)).2.2 with
    | some (p, c) => (none_, ⟨r.at_, some ([(stmtTxt, r.at_ + p), (exprTx, p)], c)⟩)
    | none => ((of (ts.drop r.at_)).1, ⟨r.at_ + (of (ts.drop r.at_)).2.1, none⟩))
def exprW (ts : List Wd) (r : Sr) : Ex × Sr := withinW ts .none parseX r
def condW (ts : List Wd) (r : Sr) : (List UInt8 × Ex × Ex) × Sr := withinW ts ([], .none, .none) parseC r
def closeN : List Wd → Nat → Nat
  | [], _ => 0
  | w :: l, d =>
    if w.kind = 3 then
      (if (if w.text = openT then d + 1 else if w.text = shutT then d - 1 else d) = 0 then 1
       else 1 + closeN l (if w.text = openT then d + 1 else if w.text = shutT then d - 1 else d))
    else 1 + closeN l d
def endW (ts : List Wd) (i : Nat) : Nat := if isK ts (i + 1) 3 openT then i + 1 + closeN (ts.drop (i + 1)) 0 else i + 1
def toW (ts : List Wd) (r : Sr) : Ex × Sr :=
  if isW ts r 1 [] then withinW ts .none (fun l => parseX (l.take (endW ts r.at_ - r.at_))) r
  else (.none, r.fail r.at_ 2)
structure It where
  name : List UInt8
  dims : List Int
  deriving DecidableEq
def dimL (ts : List Wd) : Nat → List Int → Sr → List Int × Sr
  | 0, d, r => (d, r)
  | n + 1, d, r =>
    match r.err with
    | some _ => (d, r)
    | none =>
      let m := mustW ts r 2 []
      let r1 := if m.1.n = 0 then m.2.fail r.at_ 1 else m.2
      let d1 := d ++ [(m.1.n : Int)]
      if isW ts r1 3 commaT then dimL ts n d1 (if d1.length = 4 then r1.fail r1.at_ 4 else r1).step else (d1, r1)
def itemW (ts : List Wd) (r : Sr) : It × Sr :=
  let m := mustW ts r 1 []
  if isW ts m.2 3 openT then
    (⟨m.1.text, (dimL ts 5 [] m.2.step).1⟩, (mustW ts (dimL ts 5 [] m.2.step).2 3 shutT).2)
  else (⟨m.1.text, []⟩, m.2)
def itemL (ts : List Wd) : Nat → List It → Sr → List It × Sr
  | 0, l, r => (l, r)
  | n + 1, l, r => if isW ts r 3 commaT then itemL ts n (l ++ [(itemW ts r.step).1]) (itemW ts r.step).2 else (l, r)
def itemsW (ts : List Wd) (r : Sr) : List It × Sr := itemL ts (ts.length + 1) [(itemW ts r).1] (itemW ts r).2
def negW (n : Nat) : Int := IntKind.i64.wrap (0 - (n : Int))
def stepW (ts : List Wd) (r : Sr) : Int × Sr :=
  if isW ts r 3 commaT then
    (if isW ts r.step 3 minusT then (negW (mustW ts r.step.step 2 []).1.n, (mustW ts r.step.step 2 []).2)
     else (((mustW ts r.step 2 []).1.n : Int), (mustW ts r.step 2 []).2))
  else (1, r)
structure Sm where
  kind : Nat := 0
  items : List It := []
  to : Ex := .none
  e : Ex := .none
  op : List UInt8 := []
  ca : Ex := .none
  cb : Ex := .none
  name : List UInt8 := []
  lo : Ex := .none
  hi : Ex := .none
  step : Int := 0
  deriving Inhabited
def integerT : List UInt8 := [105, 110, 116, 101, 103, 101, 114]
def doT : List UInt8 := [100, 111]
def endT : List UInt8 := [101, 110, 100]
def ifT : List UInt8 := [105, 102]
def thenT : List UInt8 := [116, 104, 101, 110]
def elseT : List UInt8 := [101, 108, 115, 101]
def readT : List UInt8 := [114, 101, 97, 100]
def printT : List UInt8 := [112, 114, 105, 110, 116]
def isT : List UInt8 := [61]
def doW (ts : List Wd) (r : Sr) : Sm × Sr :=
  let m := mustW ts r 1 []
  let a := exprW ts (mustW ts m.2 3 isT).2
  let b := exprW ts (mustW ts a.2 3 commaT).2
  let s := stepW ts b.2
  ({ kind := 3, name := m.1.text, lo := a.1, hi := b.1, step := s.1 }, s.2)
def ifW (ts : List Wd) (r : Sr) : Sm × Sr :=
  let c := condW ts (mustW ts r 3 openT).2
  ({ kind := 5, op := c.1.1, ca := c.1.2.1, cb := c.1.2.2 }, (mustW ts (mustW ts c.2 3 shutT).2 4 thenT).2)
def keyW (ts : List Wd) (word : List UInt8) (r : Sr) : Sm × Sr :=
  if word = integerT then ({ kind := 1, items := (itemsW ts r).1 }, (itemsW ts r).2)
  else if word = doT then doW ts r
  else if word = endT then (if isW ts r 4 ifT then ({ kind := 7 }, r.step) else ({ kind := 4 }, (mustW ts r 4 doT).2))
  else if word = ifT then ifW ts r
  else if word = elseT then ({ kind := 6 }, r)
  else if word = readT then ({ kind := 8, to := (toW ts r).1 }, (toW ts r).2)
  else if word = printT then ({ kind := 9, e := (exprW ts r).1 }, (exprW ts r).2)
  else ({}, r.fail 0 2)
def setW (ts : List Wd) (r : Sr) : Sm × Sr :=
  let a := toW ts r
  let b := exprW ts (mustW ts a.2 3 isT).2
  ({ kind := 2, to := a.1, e := b.1 }, b.2)
def stmtW (ts : List Wd) : Sm × Sr :=
  match ts[0]? with
  | none => ({}, ⟨0, none⟩)
  | some w => if w.kind = 4 then keyW ts w.text ⟨1, none⟩ else if w.kind = 1 then setW ts ⟨0, none⟩ else ({}, ⟨0, some ([(stmtTxt, 0)], 2)⟩)
def parseW (ts : List Wd) : Sm × Er :=
  if ts = [] then ({}, none)
  else
    let r := if (stmtW ts).2.at_ < ts.length then (stmtW ts).2.fail (stmtW ts).2.at_ 2 else (stmtW ts).2
    match r.err with
    | some x => ({}, some x)
    | none => ((stmtW ts).1, none)
def parseS (body : List UInt8) : Sm × Er := match lex (body.length + 1) body 0 false with
  | .error (p, e) => ({}, some ([(stmtTxt, 0), (wordTx, p)], e))
  | .ok ts => parseW ts
end Go.Proofs.YtejjlojfgcgopaaGreatDoor

namespace Go.Proofs.YtejjlojfgcgopaaGreatDoor.As
open Go.RowKit Go.Extern.Stop Go.Stop Go.Extern
set_option maxRecDepth 100000
theorem methodKind (h : Value) (w : World) : (Go.method 491 266 (.agg #[h]) "Kind").run Tryz.prog w = .ok (251, h) w := by kernel_rfl
theorem methodElem (h : Value) (w : World) : (Go.method 491 266 (.agg #[h]) "Elem").run Tryz.prog w = .ok (264, .agg #[h]) w := by kernel_rfl
theorem methodImplements (h : Value) (w : World) : (Go.method 491 266 (.agg #[h]) "Implements").run Tryz.prog w = .ok (265, .agg #[h]) w := by kernel_rfl
theorem methodAssignableTo (h : Value) (w : World) : (Go.method 491 266 (.agg #[h]) "AssignableTo").run Tryz.prog w = .ok (262, .agg #[h]) w := by kernel_rfl
theorem methodComparable (h : Value) (w : World) : (Go.method 491 266 (.agg #[h]) "Comparable").run Tryz.prog w = .ok (263, .agg #[h]) w := by kernel_rfl
theorem rlm (z : Sem Value) (f : TypeId → Addr → Nat → Nat → Sem Value) (v : Value) :
    ReflectliteValue.method z f #[v] = (do match ← ReflectliteValue.parts v with | none => z | some (t, a, fl) => f t a fl (fl % 32)) := rfl
theorem rls (v x : Value) : ReflectliteValue.set #[v, x] = (do
    let (some (dst, a, fl), some (src, b, _)) := (← ReflectliteValue.parts v, ← ReflectliteValue.parts x)
      | unsupported (.noEntry "extern/(internal/reflectlite.Value).Set.zeroValue")
    if fl / ReflectliteValue.flagAddr % 2 == 0 then unsupported (.noEntry "extern/(internal/reflectlite.Value).Set.unaddressable")
    let val ← loadVar src b
    if ← Rtype.directlyAssignable dst src then storeVar dst a val
    else if ← Rtype.implements dst src then
      if (← Rtype.kind src) == 20 then
        match val with
        | .nilIface => unsupported (.noEntry "extern/reflectlite: a nil value of one interface type handed on as a value of another")
        | _ => storeVar dst a val
      else storeVar dst a (.iface src val)
    else panicString ("reflectlite.Set: value of type " ++ (← Rtype.spelt src) ++ " is not assignable to type " ++ (← Rtype.spelt dst))
    pure (.tuple #[])) := rfl
theorem valueOfPF (t : Addr) (w : World) : (ReflectliteValue.unpack (.iface 154 (.pointer (some t)))).run Tryz.prog w
    = .ok (.agg #[.pointer (some ⟨12, 154, none⟩), .pointer (some ⟨w.heap.size, 0, none⟩), .int .u64 150]) (w.alloc (.cells #[.pointer (some t)] 154)) := by kernel_rfl
theorem typePF (a : Addr) (w : World) : (ReflectliteValue.methodAny (ReflectliteValue.valueError "reflectlite.Value.Type" 0) (fun t _ _ _ => ReflectliteType.toType t) #[.agg #[.pointer (some ⟨12, 154, none⟩), .pointer (some a), .int .u64 150]]).run Tryz.prog w
    = .ok (.iface 266 (.agg #[.pointer (some ⟨12, 154, none⟩)])) w := by kernel_rfl
theorem kindPF (w : World) : ((ReflectliteType.abiMethod fun t => (fun a : Nat => Value.int IntKind.u8 (a : Int)) <$> Rtype.kind t) #[.pointer (some ⟨12, 154, none⟩)]).run Tryz.prog w = .ok (.int .u8 22) w := by kernel_rfl
theorem kindEF (w : World) : ((ReflectliteType.abiMethod fun t => (fun a : Nat => Value.int IntKind.u8 (a : Int)) <$> Rtype.kind t) #[.pointer (some ⟨12, 152, none⟩)]).run Tryz.prog w = .ok (.int .u8 22) w := by kernel_rfl
theorem partsPF (a : Addr) (w : World) : (ReflectliteValue.parts (.agg #[.pointer (some ⟨12, 154, none⟩), .pointer (some a), .int .u64 150])).run Tryz.prog w = .ok (some (154, a, 150)) w := by kernel_rfl
theorem isNilPF (a p : Addr) (W : World) (ha : W.cell? a = some (.pointer (some p))) :
    (ReflectliteValue.method (ReflectliteValue.valueError "reflectlite.Value.IsNil" 0) ReflectliteValue.isNil #[.agg #[.pointer (some ⟨12, 154, none⟩), .pointer (some a), .int .u64 150]]).run Tryz.prog W = .ok (.bool false) W := by
  rw [rlm]
  simp only [Sem.run_bind, partsPF, Result.andThen]
  simp [ReflectliteValue.isNil, loadVar, isAgg, underlying, Tryz.underlying154, ha, Result.andThen]
theorem elemPF (w : World) : (ReflectliteType.method ReflectliteType.elem #[.agg #[.pointer (some ⟨12, 154, none⟩)]]).run Tryz.prog w = .ok (.iface 266 (.agg #[.pointer (some ⟨12, 152, none⟩)])) w := by kernel_rfl
theorem implementsEF (w : World) : (ReflectliteType.relation "Implements" ReflectliteType.implements_ #[.agg #[.pointer (some ⟨12, 152, none⟩)], .iface 266 (.agg #[.pointer (some ⟨12, 33, none⟩)])]).run Tryz.prog w = .ok (.bool true) w := by kernel_rfl
theorem typeOfEF (v : Value) (w : World) : (ReflectliteType.typeOf #[.iface 152 v]).run Tryz.prog w = .ok (.iface 266 (.agg #[.pointer (some ⟨12, 152, none⟩)])) w := by kernel_rfl
theorem assignableEF (w : World) : (ReflectliteType.relation "AssignableTo" ReflectliteType.assignableTo #[.agg #[.pointer (some ⟨12, 152, none⟩)], .iface 266 (.agg #[.pointer (some ⟨12, 152, none⟩)])]).run Tryz.prog w = .ok (.bool true) w := by kernel_rfl
theorem valueOfEF (e : Addr) (w : World) : (ReflectliteValue.unpack (.iface 152 (.pointer (some e)))).run Tryz.prog w
    = .ok (.agg #[.pointer (some ⟨12, 152, none⟩), .pointer (some ⟨w.heap.size, 0, none⟩), .int .u64 150]) (w.alloc (.cells #[.pointer (some e)] 152)) := by kernel_rfl
theorem elemOfPF (w : World) : (Rtype.elem? 154).run Tryz.prog w = .ok (some 152) w := by kernel_rfl
theorem mkEF (p : Addr) (w : World) : (ReflectliteValue.mk 152 p ReflectliteValue.flagAddr).run Tryz.prog w = .ok (.agg #[.pointer (some ⟨12, 152, none⟩), .pointer (some p), .int .u64 406]) w := by kernel_rfl
theorem elemVPF (a p : Addr) (W : World) (ha : W.cell? a = some (.pointer (some p))) :
    (ReflectliteValue.method (ReflectliteValue.valueError "reflectlite.Value.Elem" 0) ReflectliteValue.elem #[.agg #[.pointer (some ⟨12, 154, none⟩), .pointer (some a), .int .u64 150]]).run Tryz.prog W
      = .ok (.agg #[.pointer (some ⟨12, 152, none⟩), .pointer (some p), .int .u64 406]) W := by
  rw [rlm]
  simp only [Sem.run_bind, partsPF, Result.andThen]
  simp [ReflectliteValue.elem, loadVar, isAgg, underlying, Tryz.underlying154, ha, Result.andThen, elemOfPF, mkEF]
theorem partsAF (a : Addr) (w : World) : (ReflectliteValue.parts (.agg #[.pointer (some ⟨12, 152, none⟩), .pointer (some a), .int .u64 406])).run Tryz.prog w = .ok (some (152, a, 406)) w := by kernel_rfl
theorem partsEF (a : Addr) (w : World) : (ReflectliteValue.parts (.agg #[.pointer (some ⟨12, 152, none⟩), .pointer (some a), .int .u64 150])).run Tryz.prog w = .ok (some (152, a, 150)) w := by kernel_rfl
theorem directEF (w : World) : (Rtype.directlyAssignable 152 152).run Tryz.prog w = .ok true w := by kernel_rfl
theorem setEF (ta b : Addr) (e : Addr) (old : Value) (W : World) (hb : W.cell? b = some (.pointer (some e))) (ht : W.cell? ta = some old) (hf : W.frozen? ta = false) :
    (ReflectliteValue.set #[.agg #[.pointer (some ⟨12, 152, none⟩), .pointer (some ta), .int .u64 406], .agg #[.pointer (some ⟨12, 152, none⟩), .pointer (some b), .int .u64 150]]).run Tryz.prog W
      = .ok (.tuple #[]) (W.setCell ta (.pointer (some e))) := by
  rw [rls]
  simp only [Sem.run_bind, partsAF, partsEF, Result.andThen]
  simp [ReflectliteValue.flagAddr, loadVar, isAgg, underlying, Tryz.underlying152, hb, Result.andThen, directEF, storeVar, Value.cells, storeCells, Addr.add]
  rw [run_store Tryz.prog W ta _ _ (by rfl)]
  simp [ht, hf]
theorem valueOfPN (t : Addr) (w : World) : (ReflectliteValue.unpack (.iface 159 (.pointer (some t)))).run Tryz.prog w
    = .ok (.agg #[.pointer (some ⟨12, 159, none⟩), .pointer (some ⟨w.heap.size, 0, none⟩), .int .u64 150]) (w.alloc (.cells #[.pointer (some t)] 159)) := by kernel_rfl
theorem typePN (a : Addr) (w : World) : (ReflectliteValue.methodAny (ReflectliteValue.valueError "reflectlite.Value.Type" 0) (fun t _ _ _ => ReflectliteType.toType t) #[.agg #[.pointer (some ⟨12, 159, none⟩), .pointer (some a), .int .u64 150]]).run Tryz.prog w
    = .ok (.iface 266 (.agg #[.pointer (some ⟨12, 159, none⟩)])) w := by kernel_rfl
theorem kindPN (w : World) : ((ReflectliteType.abiMethod fun t => (fun a : Nat => Value.int IntKind.u8 (a : Int)) <$> Rtype.kind t) #[.pointer (some ⟨12, 159, none⟩)]).run Tryz.prog w = .ok (.int .u8 22) w := by kernel_rfl
theorem kindEN (w : World) : ((ReflectliteType.abiMethod fun t => (fun a : Nat => Value.int IntKind.u8 (a : Int)) <$> Rtype.kind t) #[.pointer (some ⟨12, 134, none⟩)]).run Tryz.prog w = .ok (.int .u8 2) w := by kernel_rfl
theorem partsPN (a : Addr) (w : World) : (ReflectliteValue.parts (.agg #[.pointer (some ⟨12, 159, none⟩), .pointer (some a), .int .u64 150])).run Tryz.prog w = .ok (some (159, a, 150)) w := by kernel_rfl
theorem isNilPN (a p : Addr) (W : World) (ha : W.cell? a = some (.pointer (some p))) :
    (ReflectliteValue.method (ReflectliteValue.valueError "reflectlite.Value.IsNil" 0) ReflectliteValue.isNil #[.agg #[.pointer (some ⟨12, 159, none⟩), .pointer (some a), .int .u64 150]]).run Tryz.prog W = .ok (.bool false) W := by
  rw [rlm]
  simp only [Sem.run_bind, partsPN, Result.andThen]
  simp [ReflectliteValue.isNil, loadVar, isAgg, underlying, Tryz.underlying159, ha, Result.andThen]
theorem elemPN (w : World) : (ReflectliteType.method ReflectliteType.elem #[.agg #[.pointer (some ⟨12, 159, none⟩)]]).run Tryz.prog w = .ok (.iface 266 (.agg #[.pointer (some ⟨12, 134, none⟩)])) w := by kernel_rfl
theorem implementsEN (w : World) : (ReflectliteType.relation "Implements" ReflectliteType.implements_ #[.agg #[.pointer (some ⟨12, 134, none⟩)], .iface 266 (.agg #[.pointer (some ⟨12, 33, none⟩)])]).run Tryz.prog w = .ok (.bool true) w := by kernel_rfl
theorem typeOfEN (v : Value) (w : World) : (ReflectliteType.typeOf #[.iface 134 v]).run Tryz.prog w = .ok (.iface 266 (.agg #[.pointer (some ⟨12, 134, none⟩)])) w := by kernel_rfl
theorem assignableEN (w : World) : (ReflectliteType.relation "AssignableTo" ReflectliteType.assignableTo #[.agg #[.pointer (some ⟨12, 134, none⟩)], .iface 266 (.agg #[.pointer (some ⟨12, 134, none⟩)])]).run Tryz.prog w = .ok (.bool true) w := by kernel_rfl
theorem valueOfEN (n : Int) (w : World) : (ReflectliteValue.unpack (.iface 134 (.int .i64 n))).run Tryz.prog w
    = .ok (.agg #[.pointer (some ⟨12, 134, none⟩), .pointer (some ⟨w.heap.size, 0, none⟩), .int .u64 130]) (w.alloc (.cells #[.int .i64 n] 134)) := by kernel_rfl
theorem elemOfPN (w : World) : (Rtype.elem? 159).run Tryz.prog w = .ok (some 134) w := by kernel_rfl
theorem mkEN (p : Addr) (w : World) : (ReflectliteValue.mk 134 p ReflectliteValue.flagAddr).run Tryz.prog w = .ok (.agg #[.pointer (some ⟨12, 134, none⟩), .pointer (some p), .int .u64 386]) w := by kernel_rfl
theorem elemVPN (a p : Addr) (W : World) (ha : W.cell? a = some (.pointer (some p))) :
    (ReflectliteValue.method (ReflectliteValue.valueError "reflectlite.Value.Elem" 0) ReflectliteValue.elem #[.agg #[.pointer (some ⟨12, 159, none⟩), .pointer (some a), .int .u64 150]]).run Tryz.prog W
      = .ok (.agg #[.pointer (some ⟨12, 134, none⟩), .pointer (some p), .int .u64 386]) W := by
  rw [rlm]
  simp only [Sem.run_bind, partsPN, Result.andThen]
  simp [ReflectliteValue.elem, loadVar, isAgg, underlying, Tryz.underlying159, ha, Result.andThen, elemOfPN, mkEN]
theorem partsAN (a : Addr) (w : World) : (ReflectliteValue.parts (.agg #[.pointer (some ⟨12, 134, none⟩), .pointer (some a), .int .u64 386])).run Tryz.prog w = .ok (some (134, a, 386)) w := by kernel_rfl
theorem partsEN (a : Addr) (w : World) : (ReflectliteValue.parts (.agg #[.pointer (some ⟨12, 134, none⟩), .pointer (some a), .int .u64 130])).run Tryz.prog w = .ok (some (134, a, 130)) w := by kernel_rfl
theorem directEN (w : World) : (Rtype.directlyAssignable 134 134).run Tryz.prog w = .ok true w := by kernel_rfl
theorem setEN (ta b : Addr) (n : Int) (old : Value) (W : World) (hb : W.cell? b = some (.int .i64 n)) (ht : W.cell? ta = some old) (hf : W.frozen? ta = false) :
    (ReflectliteValue.set #[.agg #[.pointer (some ⟨12, 134, none⟩), .pointer (some ta), .int .u64 386], .agg #[.pointer (some ⟨12, 134, none⟩), .pointer (some b), .int .u64 130]]).run Tryz.prog W
      = .ok (.tuple #[]) (W.setCell ta (.int .i64 n)) := by
  rw [rls]
  simp only [Sem.run_bind, partsAN, partsEN, Result.andThen]
  simp [ReflectliteValue.flagAddr, loadVar, isAgg, underlying, Tryz.underlying134, hb, Result.andThen, directEN, storeVar, Value.cells, storeCells, Addr.add]
  rw [run_store Tryz.prog W ta _ _ (by rfl)]
  simp [ht, hf]
set_option maxHeartbeats 4000000 in
theorem hitF (e : Addr) (t : Addr) (old : Value) (w : World) (hg : w.cell? ⟨0, 0, none⟩ = some (.iface 266 (.agg #[.pointer (some ⟨12, 33, none⟩)]))) (ht0 : w.cell? t = some old) (hf0 : w.frozen? t = false) :
    Calls Tryz.prog 71 #[.iface 152 (.pointer (some e)), .iface 154 (.pointer (some t))] w fun ev w' => ev = .returned (.bool true) ∧ w' = ((((w.alloc (.cells #[.pointer (some t)] 154)).alloc (.cells #[.pointer (some ⟨12, 154, none⟩), .pointer (some ⟨w.heap.size, 0, none⟩), .int .u64 150] 211)).alloc (.cells #[.pointer (some ⟨12, 154, none⟩), .pointer (some ⟨w.heap.size, 0, none⟩), .int .u64 150] 211)).alloc (.cells #[.pointer (some e)] 152)).setCell t (.pointer (some e)) := by
  have hVal := @run_callFunc_extern Tryz.prog 103 _ (fun args => ReflectliteValue.unpack (args.getD 0 (.tuple #[]))) Tryz.func103 (by kernel_rfl) (by kernel_rfl) (by kernel_rfl) (by kernel_rfl)
  have hTyp := @run_callFunc_extern Tryz.prog 104 _ (ReflectliteValue.methodAny (ReflectliteValue.valueError "reflectlite.Value.Type" 0) (fun t _ _ _ => ReflectliteType.toType t)) Tryz.func104 (by kernel_rfl) (by kernel_rfl) (by kernel_rfl) (by kernel_rfl)
  have hNil := @run_callFunc_extern Tryz.prog 105 _ (ReflectliteValue.method (ReflectliteValue.valueError "reflectlite.Value.IsNil" 0) ReflectliteValue.isNil) Tryz.func105 (by kernel_rfl) (by kernel_rfl) (by kernel_rfl) (by kernel_rfl)
  have hKnd := @run_callFunc_extern Tryz.prog 251 _ (ReflectliteType.abiMethod fun t => do pure (.int .u8 (← Rtype.kind t))) Tryz.func251 (by kernel_rfl) (by kernel_rfl) (by kernel_rfl) (by kernel_rfl)
  have hElt := @run_callFunc_extern Tryz.prog 264 _ (ReflectliteType.method ReflectliteType.elem) Tryz.func264 (by kernel_rfl) (by kernel_rfl) (by kernel_rfl) (by kernel_rfl)
  have hImp := @run_callFunc_extern Tryz.prog 265 _ (ReflectliteType.relation "Implements" ReflectliteType.implements_) Tryz.func265 (by kernel_rfl) (by kernel_rfl) (by kernel_rfl) (by kernel_rfl)
  have hTOf := @run_callFunc_extern Tryz.prog 101 _ ReflectliteType.typeOf Tryz.func101 (by kernel_rfl) (by kernel_rfl) (by kernel_rfl) (by kernel_rfl)
  have hAss := @run_callFunc_extern Tryz.prog 262 _ (ReflectliteType.relation "AssignableTo" ReflectliteType.assignableTo) Tryz.func262 (by kernel_rfl) (by kernel_rfl) (by kernel_rfl) (by kernel_rfl)
  have hElm := @run_callFunc_extern Tryz.prog 153 _ (ReflectliteValue.method (ReflectliteValue.valueError "reflectlite.Value.Elem" 0) ReflectliteValue.elem) Tryz.func153 (by kernel_rfl) (by kernel_rfl) (by kernel_rfl) (by kernel_rfl)
  have hSet := @run_callFunc_extern Tryz.prog 154 _ ReflectliteValue.set Tryz.func154 (by kernel_rfl) (by kernel_rfl) (by kernel_rfl) (by kernel_rfl)
  have mK := methodKind
  have mE := methodElem
  have mI := methodImplements
  have mA := methodAssignableTo
  have f6 := valueOfPF
  have f7 := typePF
  have k27 := kindPF
  have k25 := kindEF
  have e27 := elemPF
  have i25 := implementsEF
  have n8 := isNilPF ⟨w.heap.size, 0, none⟩ t ((w.alloc (.cells #[.pointer (some t)] 154)).alloc (.cells #[.pointer (some ⟨12, 154, none⟩), .pointer (some ⟨w.heap.size, 0, none⟩), .int .u64 150] 211)) (by simp)
  have hlt : 0 < w.heap.size := by
    rcases Nat.lt_or_ge 0 w.heap.size with h | h
    · exact h
    · simp [World.cell?, Array.getElem?_eq_none h] at hg
  have hg2 : ((w.alloc (.cells #[.pointer (some t)] 154)).alloc (.cells #[.pointer (some ⟨12, 154, none⟩), .pointer (some ⟨w.heap.size, 0, none⟩), .int .u64 150] 211)).cell? ⟨0, 0, none⟩ = some (.iface 266 (.agg #[.pointer (some ⟨12, 33, none⟩)])) := by
    rw [World.cell?_alloc_lt _ _ ⟨0, 0, none⟩ (by simp <;> omega), World.cell?_alloc_lt _ _ ⟨0, 0, none⟩ hlt]; exact hg
  have tO := typeOfEF
  have a25 := assignableEF
  have v25 := valueOfEF
  have htl : t.block < w.heap.size := by
    rcases Nat.lt_or_ge t.block w.heap.size with h | h
    · exact h
    · simp [World.cell?, Array.getElem?_eq_none h] at ht0
  have el := elemVPF ⟨w.heap.size, 0, none⟩ t (((w.alloc (.cells #[.pointer (some t)] 154)).alloc (.cells #[.pointer (some ⟨12, 154, none⟩), .pointer (some ⟨w.heap.size, 0, none⟩), .int .u64 150] 211)).alloc (.cells #[.pointer (some ⟨12, 154, none⟩), .pointer (some ⟨w.heap.size, 0, none⟩), .int .u64 150] 211)) (by rw [World.cell?_alloc_lt _ _ ⟨w.heap.size, 0, none⟩ (by simp; omega)]; simp)
  have st := setEF t ⟨w.heap.size + 1 + 1 + 1, 0, none⟩ e old ((((w.alloc (.cells #[.pointer (some t)] 154)).alloc (.cells #[.pointer (some ⟨12, 154, none⟩), .pointer (some ⟨w.heap.size, 0, none⟩), .int .u64 150] 211)).alloc (.cells #[.pointer (some ⟨12, 154, none⟩), .pointer (some ⟨w.heap.size, 0, none⟩), .int .u64 150] 211)).alloc (.cells #[.pointer (some e)] 152))
    (by rw [World.cell?_alloc_at _ _ _ _ (by simp)]; rfl)
    (by rw [World.cell?_alloc_lt _ _ t (by simp; omega), World.cell?_alloc_lt _ _ t (by simp; omega), World.cell?_alloc_lt _ _ t (by simp; omega), World.cell?_alloc_lt _ _ t htl]; exact ht0)
    (by rw [World.frozen?_alloc_old _ _ t (by simp; omega), World.frozen?_alloc_old _ _ t (by simp; omega), World.frozen?_alloc_old _ _ t (by simp; omega), World.frozen?_alloc_old _ _ t (Nat.ne_of_lt htl)]; exact hf0)
  go_enter Tryz.func71, Tryz.ntmps71
  go_wp2
  refine wp_loop_rounds 1 ?_
  rw [rounds_succ]
  go_wp2
  go_ret
  exact ⟨rfl, rfl⟩
set_option maxHeartbeats 4000000 in
theorem hitN (n : Int) (t : Addr) (old : Value) (w : World) (hg : w.cell? ⟨0, 0, none⟩ = some (.iface 266 (.agg #[.pointer (some ⟨12, 33, none⟩)]))) (ht0 : w.cell? t = some old) (hf0 : w.frozen? t = false) :
    Calls Tryz.prog 71 #[.iface 134 (.int .i64 n), .iface 159 (.pointer (some t))] w fun ev w' => ev = .returned (.bool true) ∧ w' = ((((w.alloc (.cells #[.pointer (some t)] 159)).alloc (.cells #[.pointer (some ⟨12, 159, none⟩), .pointer (some ⟨w.heap.size, 0, none⟩), .int .u64 150] 211)).alloc (.cells #[.pointer (some ⟨12, 159, none⟩), .pointer (some ⟨w.heap.size, 0, none⟩), .int .u64 150] 211)).alloc (.cells #[.int .i64 n] 134)).setCell t (.int .i64 n) := by
  have hVal := @run_callFunc_extern Tryz.prog 103 _ (fun args => ReflectliteValue.unpack (args.getD 0 (.tuple #[]))) Tryz.func103 (by kernel_rfl) (by kernel_rfl) (by kernel_rfl) (by kernel_rfl)
  have hTyp := @run_callFunc_extern Tryz.prog 104 _ (ReflectliteValue.methodAny (ReflectliteValue.valueError "reflectlite.Value.Type" 0) (fun t _ _ _ => ReflectliteType.toType t)) Tryz.func104 (by kernel_rfl) (by kernel_rfl) (by kernel_rfl) (by kernel_rfl)
  have hNil := @run_callFunc_extern Tryz.prog 105 _ (ReflectliteValue.method (ReflectliteValue.valueError "reflectlite.Value.IsNil" 0) ReflectliteValue.isNil) Tryz.func105 (by kernel_rfl) (by kernel_rfl) (by kernel_rfl) (by kernel_rfl)
  have hKnd := @run_callFunc_extern Tryz.prog 251 _ (ReflectliteType.abiMethod fun t => do pure (.int .u8 (← Rtype.kind t))) Tryz.func251 (by kernel_rfl) (by kernel_rfl) (by kernel_rfl) (by kernel_rfl)
  have hElt := @run_callFunc_extern Tryz.prog 264 _ (ReflectliteType.method ReflectliteType.elem) Tryz.func264 (by kernel_rfl) (by kernel_rfl) (by kernel_rfl) (by kernel_rfl)
  have hImp := @run_callFunc_extern Tryz.prog 265 _ (ReflectliteType.relation "Implements" ReflectliteType.implements_) Tryz.func265 (by kernel_rfl) (by kernel_rfl) (by kernel_rfl) (by kernel_rfl)
  have hTOf := @run_callFunc_extern Tryz.prog 101 _ ReflectliteType.typeOf Tryz.func101 (by kernel_rfl) (by kernel_rfl) (by kernel_rfl) (by kernel_rfl)
  have hAss := @run_callFunc_extern Tryz.prog 262 _ (ReflectliteType.relation "AssignableTo" ReflectliteType.assignableTo) Tryz.func262 (by kernel_rfl) (by kernel_rfl) (by kernel_rfl) (by kernel_rfl)
  have hElm := @run_callFunc_extern Tryz.prog 153 _ (ReflectliteValue.method (ReflectliteValue.valueError "reflectlite.Value.Elem" 0) ReflectliteValue.elem) Tryz.func153 (by kernel_rfl) (by kernel_rfl) (by kernel_rfl) (by kernel_rfl)
  have hSet := @run_callFunc_extern Tryz.prog 154 _ ReflectliteValue.set Tryz.func154 (by kernel_rfl) (by kernel_rfl) (by kernel_rfl) (by kernel_rfl)
  have mK := methodKind
  have mE := methodElem
  have mI := methodImplements
  have mA := methodAssignableTo
  have f6 := valueOfPN
  have f7 := typePN
  have k27 := kindPN
  have k25 := kindEN
  have e27 := elemPN
  have i25 := implementsEN
  have n8 := isNilPN ⟨w.heap.size, 0, none⟩ t ((w.alloc (.cells #[.pointer (some t)] 159)).alloc (.cells #[.pointer (some ⟨12, 159, none⟩), .pointer (some ⟨w.heap.size, 0, none⟩), .int .u64 150] 211)) (by simp)
  have hlt : 0 < w.heap.size := by
    rcases Nat.lt_or_ge 0 w.heap.size with h | h
    · exact h
    · simp [World.cell?, Array.getElem?_eq_none h] at hg
  have hg2 : ((w.alloc (.cells #[.pointer (some t)] 159)).alloc (.cells #[.pointer (some ⟨12, 159, none⟩), .pointer (some ⟨w.heap.size, 0, none⟩), .int .u64 150] 211)).cell? ⟨0, 0, none⟩ = some (.iface 266 (.agg #[.pointer (some ⟨12, 33, none⟩)])) := by
    rw [World.cell?_alloc_lt _ _ ⟨0, 0, none⟩ (by simp <;> omega), World.cell?_alloc_lt _ _ ⟨0, 0, none⟩ hlt]; exact hg
  have tO := typeOfEN
  have a25 := assignableEN
  have v25 := valueOfEN
  have htl : t.block < w.heap.size := by
    rcases Nat.lt_or_ge t.block w.heap.size with h | h
    · exact h
    · simp [World.cell?, Array.getElem?_eq_none h] at ht0
  have el := elemVPN ⟨w.heap.size, 0, none⟩ t (((w.alloc (.cells #[.pointer (some t)] 159)).alloc (.cells #[.pointer (some ⟨12, 159, none⟩), .pointer (some ⟨w.heap.size, 0, none⟩), .int .u64 150] 211)).alloc (.cells #[.pointer (some ⟨12, 159, none⟩), .pointer (some ⟨w.heap.size, 0, none⟩), .int .u64 150] 211)) (by rw [World.cell?_alloc_lt _ _ ⟨w.heap.size, 0, none⟩ (by simp; omega)]; simp)
  have st := setEN t ⟨w.heap.size + 1 + 1 + 1, 0, none⟩ n old ((((w.alloc (.cells #[.pointer (some t)] 159)).alloc (.cells #[.pointer (some ⟨12, 159, none⟩), .pointer (some ⟨w.heap.size, 0, none⟩), .int .u64 150] 211)).alloc (.cells #[.pointer (some ⟨12, 159, none⟩), .pointer (some ⟨w.heap.size, 0, none⟩), .int .u64 150] 211)).alloc (.cells #[.int .i64 n] 134))
    (by rw [World.cell?_alloc_at _ _ _ _ (by simp)]; rfl)
    (by rw [World.cell?_alloc_lt _ _ t (by simp; omega), World.cell?_alloc_lt _ _ t (by simp; omega), World.cell?_alloc_lt _ _ t (by simp; omega), World.cell?_alloc_lt _ _ t htl]; exact ht0)
    (by rw [World.frozen?_alloc_old _ _ t (by simp; omega), World.frozen?_alloc_old _ _ t (by simp; omega), World.frozen?_alloc_old _ _ t (by simp; omega), World.frozen?_alloc_old _ _ t (Nat.ne_of_lt htl)]; exact hf0)
  go_enter Tryz.func71, Tryz.ntmps71
  go_wp2
  refine wp_loop_rounds 1 ?_
  rw [rounds_succ]
  go_wp2
  go_ret
  exact ⟨rfl, rfl⟩
theorem assignableX (w : World) : (ReflectliteType.relation "AssignableTo" ReflectliteType.assignableTo #[.agg #[.pointer (some ⟨12, 134, none⟩)], .iface 266 (.agg #[.pointer (some ⟨12, 152, none⟩)])]).run Tryz.prog w = .ok (.bool false) w := by kernel_rfl
theorem noAs (v : Value) (xT : TypeId) (w : World) : (Instr.typeAssert (.iface 134 v) xT 278 true).run Tryz.prog w = .ok (.tuple #[.nilIface, .bool false]) w := run_typeAssert_lacksB Tryz.underlying278 (by kernel_rfl) (by kernel_rfl) v xT w
theorem noUn (v : Value) (xT : TypeId) (w : World) : (Instr.typeAssert (.iface 134 v) xT 271 true).run Tryz.prog w = .ok (.tuple #[.nilIface, .bool false]) w := run_typeAssert_lacksB Tryz.underlying271 (by kernel_rfl) (by kernel_rfl) v xT w
theorem noUs (v : Value) (xT : TypeId) (w : World) : (Instr.typeAssert (.iface 134 v) xT 273 true).run Tryz.prog w = .ok (.tuple #[.nilIface, .bool false]) w := run_typeAssert_lacksB Tryz.underlying273 (by kernel_rfl) (by kernel_rfl) v xT w
set_option maxHeartbeats 4000000 in
theorem missF (n : Int) (t : Addr) (w : World) (hg : w.cell? ⟨0, 0, none⟩ = some (.iface 266 (.agg #[.pointer (some ⟨12, 33, none⟩)]))) :
    Calls Tryz.prog 71 #[.iface 134 (.int .i64 n), .iface 154 (.pointer (some t))] w fun ev w' => ev = .returned (.bool false) ∧ w' = (((w.alloc (.cells #[.pointer (some t)] 154)).alloc (.cells #[.pointer (some ⟨12, 154, none⟩), .pointer (some ⟨w.heap.size, 0, none⟩), .int .u64 150] 211)).alloc (.cells #[.pointer (some ⟨12, 154, none⟩), .pointer (some ⟨w.heap.size, 0, none⟩), .int .u64 150] 211)) := by
  have hVal := @run_callFunc_extern Tryz.prog 103 _ (fun args => ReflectliteValue.unpack (args.getD 0 (.tuple #[]))) Tryz.func103 (by kernel_rfl) (by kernel_rfl) (by kernel_rfl) (by kernel_rfl)
  have hTyp := @run_callFunc_extern Tryz.prog 104 _ (ReflectliteValue.methodAny (ReflectliteValue.valueError "reflectlite.Value.Type" 0) (fun t _ _ _ => ReflectliteType.toType t)) Tryz.func104 (by kernel_rfl) (by kernel_rfl) (by kernel_rfl) (by kernel_rfl)
  have hNil := @run_callFunc_extern Tryz.prog 105 _ (ReflectliteValue.method (ReflectliteValue.valueError "reflectlite.Value.IsNil" 0) ReflectliteValue.isNil) Tryz.func105 (by kernel_rfl) (by kernel_rfl) (by kernel_rfl) (by kernel_rfl)
  have hKnd := @run_callFunc_extern Tryz.prog 251 _ (ReflectliteType.abiMethod fun t => do pure (.int .u8 (← Rtype.kind t))) Tryz.func251 (by kernel_rfl) (by kernel_rfl) (by kernel_rfl) (by kernel_rfl)
  have hElt := @run_callFunc_extern Tryz.prog 264 _ (ReflectliteType.method ReflectliteType.elem) Tryz.func264 (by kernel_rfl) (by kernel_rfl) (by kernel_rfl) (by kernel_rfl)
  have hImp := @run_callFunc_extern Tryz.prog 265 _ (ReflectliteType.relation "Implements" ReflectliteType.implements_) Tryz.func265 (by kernel_rfl) (by kernel_rfl) (by kernel_rfl) (by kernel_rfl)
  have hTOf := @run_callFunc_extern Tryz.prog 101 _ ReflectliteType.typeOf Tryz.func101 (by kernel_rfl) (by kernel_rfl) (by kernel_rfl) (by kernel_rfl)
  have hAss := @run_callFunc_extern Tryz.prog 262 _ (ReflectliteType.relation "AssignableTo" ReflectliteType.assignableTo) Tryz.func262 (by kernel_rfl) (by kernel_rfl) (by kernel_rfl) (by kernel_rfl)
  have hElm := @run_callFunc_extern Tryz.prog 153 _ (ReflectliteValue.method (ReflectliteValue.valueError "reflectlite.Value.Elem" 0) ReflectliteValue.elem) Tryz.func153 (by kernel_rfl) (by kernel_rfl) (by kernel_rfl) (by kernel_rfl)
  have hSet := @run_callFunc_extern Tryz.prog 154 _ ReflectliteValue.set Tryz.func154 (by kernel_rfl) (by kernel_rfl) (by kernel_rfl) (by kernel_rfl)
  have mK := methodKind
  have mE := methodElem
  have mI := methodImplements
  have mA := methodAssignableTo
  have f6 := valueOfPF
  have f7 := typePF
  have k27 := kindPF
  have k25 := kindEF
  have e27 := elemPF
  have i25 := implementsEF
  have n8 := isNilPF ⟨w.heap.size, 0, none⟩ t ((w.alloc (.cells #[.pointer (some t)] 154)).alloc (.cells #[.pointer (some ⟨12, 154, none⟩), .pointer (some ⟨w.heap.size, 0, none⟩), .int .u64 150] 211)) (by simp)
  have hlt : 0 < w.heap.size := by
    rcases Nat.lt_or_ge 0 w.heap.size with h | h
    · exact h
    · simp [World.cell?, Array.getElem?_eq_none h] at hg
  have hg2 : ((w.alloc (.cells #[.pointer (some t)] 154)).alloc (.cells #[.pointer (some ⟨12, 154, none⟩), .pointer (some ⟨w.heap.size, 0, none⟩), .int .u64 150] 211)).cell? ⟨0, 0, none⟩ = some (.iface 266 (.agg #[.pointer (some ⟨12, 33, none⟩)])) := by
    rw [World.cell?_alloc_lt _ _ ⟨0, 0, none⟩ (by simp <;> omega), World.cell?_alloc_lt _ _ ⟨0, 0, none⟩ hlt]; exact hg
  have tO := typeOfEN
  have a25 := assignableX
  have b1 := noAs
  have b2 := noUn
  have b3 := noUs
  go_enter Tryz.func71, Tryz.ntmps71
  go_wp2
  refine wp_loop_rounds 1 ?_
  rw [rounds_succ]
  go_wp2
  go_ret
  exact ⟨rfl, rfl⟩
end Go.Proofs.YtejjlojfgcgopaaGreatDoor.As

namespace Go.Proofs.YtejjlojfgcgopaaGreatDoor
open Go.RowKit Go.Proofs.Fw Go.Stop Go.Extern
set_option maxRecDepth 100000
set_option maxHeartbeats 4000000
def globN : List (Nat × AV) := (0, .vptr [.iface 266 (.agg [.adr 12 33])] 0) :: globT
def methN (t : TypeId) (n : String) : Option FuncId := if t = 152 ∧ n = "Unwrap" then some 256 else none
def envN : Env := ⟨globOf globN, methN, fun t => t == 156 || t == 341 || t == 57, fun _ => false, fun _ => false⟩
@[simp] theorem envN_soft (t : TypeId) : envN.soft t = false := nrfl rfl
@[simp] theorem immW : envN.imm 57 = true := by decide
theorem methNOk : MethOk Tryz.prog envN := by
  intro t name f h v w
  simp only [envN, methN] at h
  split at h
  · rename_i hh
    obtain ⟨rfl, rfl⟩ := hh
    injection h with h
    subst h
    kernel_rfl
  · cases h
@[simp] theorem methU : envN.meth 152 "Unwrap" = some 256 := rfl
theorem lowN : ∀ i, low 0 (envN.glob i) = true := low_globOf (by
  intro x hx
  simp only [globN, globT, List.mem_cons, List.not_mem_nil, or_false] at hx
  rcases hx with rfl | rfl | rfl
  · rfl
  · show lowL 0 spaceCells = true
    kernel_rfl
  · rfl)
theorem globN_T {g : Gh} (h : GlobOk envN g) : GlobOk envT g := by
  intro i
  by_cases hi : i = 0
  · subst hi
    have : envT.glob 0 = .undef := by rfl
    rw [this]
    trivial
  · have : envT.glob i = envN.glob i := by
      simp only [envT, envN, globOf, globN, List.find?_cons]
      rw [show ((0 : Nat) == i) = false by simp; omega]
    rw [this]
    exact h i
theorem CS.toN {f : FuncId} {args : List AV} {H H' : AH} {v : AV} (h : CS Tryz.prog envT f args H v H') : CS Tryz.prog envN f args H v H' := fun g w cargs R hG hA => h g w cargs R (globN_T hG) hA
theorem Sound.toN {O : Orc} (h : Sound Tryz.prog envT O) : Sound Tryz.prog envN O := fun f args H v H' ho => by
  obtain ⟨h1, h2, h3⟩ := h f args H v H' ho
  exact ⟨CS.toN h1, h2, h3⟩
def errAV : List (List UInt8 × Int) → Int → AV
  | [], c => .iface 134 (.int .i64 c)
  | (w, p) :: r, c => .iface 152 (.vptr [.str w, .int .i64 p, errAV r c] 0)
theorem errAV_low : ∀ (l : List (List UInt8 × Int)) (c : Int), low 0 (errAV l c) = true
  | [], c => rfl
  | (w, p) :: r, c => by simp [errAV, errAV_low r c]
section
variable {P : Program}
theorem atype_lacks {t I : TypeId} {z : AV} {want : Array (String × TypeId)} (hu : P.underlying I = some (.interface want)) (h : (P.info? t).map (fun i => (lacking want i.methods).isEmpty) = some false) (hz : zeroAV P I = some z) (v : AV) :
    atypeAssert P (.iface t v) I true = some (.tup [z, .bool false]) := by
  obtain ⟨i, hi, hl⟩ := Option.map_eq_some_iff.1 h
  obtain ⟨m, hm⟩ := missingMethod_some (want := want) (got := i.methods) (fun e => by rw [e] at hl; cases hl)
  simp [atypeAssert, hu, hi, hm, hz]
theorem atype_has {t I : TypeId} {want : Array (String × TypeId)} (hu : P.underlying I = some (.interface want)) (h : (P.info? t).map (fun i => (lacking want i.methods).isEmpty) = some true) (v : AV) :
    atypeAssert P (.iface t v) I true = some (.tup [.iface t v, .bool true]) := by
  obtain ⟨i, hi, hl⟩ := Option.map_eq_some_iff.1 h
  have hm := missingMethod_none (want := want) (got := i.methods) (List.isEmpty_iff.1 hl)
  simp [atypeAssert, hu, hi, hm]
end
@[simp high] theorem fIs (v : AV) : atypeAssert Tryz.prog (.iface 152 v) 268 true = some (.tup [.nilIface, .bool false]) := atype_lacks Tryz.underlying268 (by kernel_rfl) (by kernel_rfl) v
@[simp high] theorem fUn (v : AV) : atypeAssert Tryz.prog (.iface 152 v) 271 true = some (.tup [.iface 152 v, .bool true]) := atype_has Tryz.underlying271 (by kernel_rfl) v
@[simp high] theorem eIs (v : AV) : atypeAssert Tryz.prog (.iface 134 v) 268 true = some (.tup [.nilIface, .bool false]) := atype_lacks Tryz.underlying268 (by kernel_rfl) (by kernel_rfl) v
@[simp high] theorem eUn (v : AV) : atypeAssert Tryz.prog (.iface 134 v) 271 true = some (.tup [.nilIface, .bool false]) := atype_lacks Tryz.underlying271 (by kernel_rfl) (by kernel_rfl) v
@[simp high] theorem eUs (v : AV) : atypeAssert Tryz.prog (.iface 134 v) 273 true = some (.tup [.nilIface, .bool false]) := atype_lacks Tryz.underlying273 (by kernel_rfl) (by kernel_rfl) v
@[simp high] theorem eqEE (a b : Int) : aeq Tryz.prog 33 (.iface 134 (.int .i64 a)) (.iface 134 (.int .i64 b)) = some (a == b) := by
  obtain ⟨i, hi, hc⟩ := Option.map_eq_some_iff.1 (show (Tryz.prog.info? 134).map (·.comparable) = some true by kernel_rfl)
  simp [aeq, hi, hc]
@[simp high] theorem eqFE (v : AV) (b : Int) : aeq Tryz.prog 33 (.iface 152 v) (.iface 134 (.int .i64 b)) = some false := by
  simp [aeq]
def oUw : Orc := fun f args H => if f = 256 then (match args with
  | [.vptr [a, b, e] 0] => if low 0 a = true ∧ low 0 b = true ∧ low 0 e = true then some (e, H) else none
  | _ => none) else none
theorem uwAny_cs (a b e : AV) (ha : low 0 a = true) (hb : low 0 b = true) (he : low 0 e = true) (H : AH) : CS Tryz.prog envN 256 [.vptr [a, b, e] 0] H e H := by
  refine CS.run0 (O := oNil) ⟨oNil_sound, methNOk, mixed⟩ lowN Tryz.func256 (by kernel_rfl) (by kernel_rfl) 0 (by simp [Tryz.f256]) ?_ he (by simp [ha, hb, he]) H
  simp [Tryz.f256, strip_low _ _ he]
theorem oUw_sound : Sound Tryz.prog envN oUw := Sound.pure fun f args H v H' h => by
  unfold oUw at h
  split at h
  · rename_i hf
    subst hf
    split at h
    · split at h
      · rename_i hl
        injection h with h
        simp only [Prod.mk.injEq] at h
        obtain ⟨rfl, rfl⟩ := h
        exact ⟨rfl, uwAny_cs _ _ _ hl.1 hl.2.1 hl.2.2 _⟩
      · cases h
    · cases h
  · cases h
@[simp high] theorem oUw_at (w : List UInt8) (p : Int) (l : List (List UInt8 × Int)) (c : Int) (H : AH) : oUw 256 [.vptr [.str w, .int .i64 p, errAV l c] 0] H = some (errAV l c, H) := by
  simp [oUw, errAV_low]
theorem oUw_cx : Cx oUw Tryz.prog envN := ⟨oUw_sound, methNOk, mixed⟩
@[simp high] theorem errNil (l : List (List UInt8 × Int)) (c : Int) : aeq Tryz.prog 33 (errAV l c) .nilIface = some false := by
  cases l <;> simp [errAV, aeq]
@[simp high] theorem errEql (l : List (List UInt8 × Int)) (c : Int) (k : Bool) : abin Tryz.prog .eql 33 k (errAV l c) .nilIface = some (.bool false) := by
  cases l <;> simp [errAV]
@[simp high] theorem errNeq (l : List (List UInt8 × Int)) (c : Int) (k : Bool) : abin Tryz.prog .neq 33 k (errAV l c) .nilIface = some (.bool true) := by
  cases l <;> simp [errAV]
def TiI (c n : Int) (k : Nat) (t : List AV) (H : AH) : Prop :=
  ∃ r : List (List UInt8 × Int), r.length = k ∧ t = mkT 54 [(0, errAV r c), (1, .iface 134 (.int .i64 n)), (2, .bool true)] ∧ H = []
theorem is_cs (l : List (List UInt8 × Int)) (c n : Int) (H : AH) : CS Tryz.prog envN 102 [errAV l c, .iface 134 (.int .i64 n), .bool true] H (.bool (c == n)) H := by
  refine CS.tr0 lowN Tryz.func102 (by kernel_rfl) 0 (by simp [Tryz.f102]) (fun B hB hG => ?_) rfl (by simp [errAV_low]) H
  refine Tr.go oUw_cx hG (by kernel_rfl) ?_
  simp [Tryz.f102]
  refine LpT.loopN oUw_cx hG (by kernel_rfl) (TiI c n) l.length (t' := mkT 54 [(0, errAV l c), (1, .iface 134 (.int .i64 n)), (2, .bool true)]) (H' := []) (Less.mk0 hB (by simp [errAV_low])) ⟨l, rfl, rfl, rfl⟩ ?_
  rintro k t H ⟨r, hk, rfl, rfl⟩
  cases r with
  | nil =>
    by_cases h : c = n
    · subst h
      simp [errAV, Blk_exit, Blk_ret]
    · have h2 : (c == n) = false := by simp [h]
      simp [errAV, h, h2, Blk_exit, Blk_ret]
  | cons x r =>
    obtain ⟨w, p⟩ := x
    subst hk
    simp [errAV, callI]
    exact Nxt.mk r.length (by simp) (Less.mk0 (l' := [(0, errAV r c), (1, .iface 134 (.int .i64 n)), (2, .bool true)]) hB (by simp [errAV_low])) ⟨r, rfl, rfl, rfl⟩
end Go.Proofs.YtejjlojfgcgopaaGreatDoor
namespace Go.Proofs.YtejjlojfgcgopaaGreatDoor
open Go.RowKit Go.Proofs.Fw Go.Stop Go.Extern
set_option maxRecDepth 100000
set_option maxHeartbeats 4000000
theorem comparableE (w : World) : (Go.Extern.ReflectliteType.method (fun t => do Go.Extern.Rtype.noPackHeld "Comparable" t; (fun a : TypeInfo => Value.bool a.comparable) <$> typeInfo t) #[.agg #[.pointer (some ⟨12, 134, none⟩)]]).run Tryz.prog w = .ok (.bool true) w := by kernel_rfl
theorem Is_cs (l : List (List UInt8 × Int)) (c n : Int) (H : AH) : CS Tryz.prog envN 70 [errAV l c, .iface 134 (.int .i64 n)] H (.bool (c == n)) H := by
  refine CS.frame ?_ lowN (by simp [errAV_low]) H
  intro g w cargs R hG hA
  have hA' := hA
  simp only [RepL] at hA
  obtain ⟨v0, ws0, rfl, h0, v1, ws1, rfl, h1, rfl⟩ := hA
  simp only [RepV] at h1
  obtain ⟨y1, rfl, rfl⟩ := h1
  have h38 := is_cs l c n [] g w [v0, .iface 134 (.int .i64 n), .bool true] R hG (by
    simp only [RepL]
    exact ⟨_, _, rfl, h0, _, _, rfl, by simp [RepV], _, _, rfl, by simp [RepV], rfl⟩)
  have tO := As.typeOfEN
  have mC := As.methodComparable
  have cE := comparableE
  have x1 := @run_callFunc_extern Tryz.prog 263 _ (Go.Extern.ReflectliteType.method (fun t => do Go.Extern.Rtype.noPackHeld "Comparable" t; pure (.bool (← typeInfo t).comparable))) Tryz.func263 (by kernel_rfl) (by kernel_rfl) (by kernel_rfl) (by kernel_rfl)
  have x2 := @run_callFunc_extern Tryz.prog 101 _ Go.Extern.ReflectliteType.typeOf Tryz.func101 (by kernel_rfl) (by kernel_rfl) (by kernel_rfl) (by kernel_rfl)
  cases l with
  | nil =>
    simp only [errAV, RepV] at h0
    obtain ⟨y0, rfl, rfl⟩ := h0
    go_enter Tryz.func70, Tryz.ntmps70
    go_wp2_with (go_at_call 102; refine h38.mono ?_; rintro e w' ⟨g', cv, rfl, R', p, hr⟩)
    go_ret
    exact ⟨g', _, rfl, R', p, hr⟩
  | cons x r =>
    obtain ⟨wd, p⟩ := x
    simp only [errAV, RepV] at h0
    obtain ⟨y0, rfl, hy⟩ := h0
    go_enter Tryz.func70, Tryz.ntmps70
    go_wp2_with (go_at_call 102; refine h38.mono ?_; rintro e w' ⟨g', cv, rfl, R', p, hr⟩)
    go_ret
    exact ⟨g', _, rfl, R', p, hr⟩
end Go.Proofs.YtejjlojfgcgopaaGreatDoor
namespace Go.Proofs.YtejjlojfgcgopaaGreatDoor
open Go.RowKit Go.Proofs.Fw
set_option maxRecDepth 100000
set_option maxHeartbeats 4000000
theorem write_after {g : Gh} {H : AH} {w W4 : World} (R : Rel g H w) {id b : Nat} {x a : AV} {el : TypeId} {ov v : Value} (hH : H.at id = some (.box [x])) (hM : g.M id = some (.box b)) (h1 : w.heap[b]? = some (.cells #[ov] el (0, 0)))
    (hb : Below w.heap.size w W4) (hr : RepV g a v) :
    Rel g (H.set id (some (.box [a]))) (W4.setCell ⟨b, 0, none⟩ v) ∧ Post g H w g (H.set id (some (.box [a]))) (W4.setCell ⟨b, 0, none⟩ v) := by
  obtain ⟨R4, P4⟩ := R.below hb
  have hlt : b < w.heap.size := (Array.getElem?_eq_some_iff.1 h1).1
  have h4 : W4.heap[b]? = some (.cells #[ov] el (0, 0)) := by rw [hb.block b hlt]; exact h1
  have hs : (W4.setCell ⟨b, 0, none⟩ v).heap[b]? = some (.cells (List.toArray [v]) el (0, 0)) := by
    simp [World.setCell, Array.getElem?_modify, h4]
  obtain ⟨R5, P5⟩ := R4.write_box (w' := W4.setCell ⟨b, 0, none⟩ v) (cs := [a]) (vs := [v]) hH hM hs (by simp only [RepL]; exact ⟨_, _, rfl, hr, rfl⟩) (fun k hk => Below.heap_setCell W4 ⟨b, 0, none⟩ v k hk) (by simp [World.setCell]) rfl rfl rfl
  exact ⟨R5, Post.trans R P4 P5⟩
theorem errorHandle {g : Gh} {H : AH} {w : World} (hG : GlobOk envN g) (R : Rel g H w) : w.cell? ⟨0, 0, none⟩ = some (.iface 266 (.agg #[.pointer (some ⟨12, 33, none⟩)])) := by
  have h := hG 0
  rw [show envN.glob 0 = .vptr [.iface 266 (.agg [.adr 12 33])] 0 from rfl] at h
  simp only [RepV, RepL] at h
  obtain ⟨b, o, vs, hv, ⟨v, ws, rfl, ⟨y, rfl, vs2, rfl, v3, ws3, rfl, rfl, rfl⟩, rfl⟩, hh⟩ := h
  simp at hv
  obtain ⟨rfl, rfl⟩ := hv
  exact R.imm _ _ _ (hh 0 _ rfl)
theorem below3 (w : World) (a b c : Obj) : Below w.heap.size w (((w.alloc a).alloc b).alloc c) :=
  (((Below.refl _ w).alloc (Nat.le_refl _) a).alloc (by simp) b).alloc (by simp; omega) c
theorem below4 (w : World) (a b c d : Obj) : Below w.heap.size w ((((w.alloc a).alloc b).alloc c).alloc d) :=
  (below3 w a b c).alloc (by simp; omega) d
theorem asF_cs {cs : List AV} {id : Nat} {x : AV} {H : AH} (hH : H.at id = some (.box [x])) :
    CS Tryz.prog envN 71 [.iface 152 (.vptr cs 0), .iface 154 (.ptr id 0)] H (.bool true) (H.set id (some (.box [.vptr cs 0]))) := by
  intro g w cargs R hG hA
  simp only [RepL, RepV] at hA
  obtain ⟨v0, ws0, rfl, ⟨y0, rfl, b0, o0, vs0, rfl, hr0, hh0⟩, v1, ws1, rfl, ⟨y1, rfl, b, hM, rfl⟩, rfl⟩ := hA
  obtain ⟨vs, el, h1, h2, h3⟩ := box_cells R hH hM
  simp only [RepL] at h2
  obtain ⟨ov, ws, rfl, _, rfl⟩ := h2
  have hc : w.cell? ⟨b, 0, none⟩ = some ov := by simpa using h3 0 ov rfl
  have hf : w.frozen? ⟨b, 0, none⟩ = false := by simp [World.frozen?, h1]
  refine (As.hitF ⟨b0, o0 + 0, none⟩ ⟨b, 0, none⟩ ov w (errorHandle hG R) hc hf).mono ?_
  rintro e w' ⟨rfl, rfl⟩
  have hr := fun W4 hb => write_after (W4 := W4) (a := .vptr cs 0) (v := .pointer (some ⟨b0, o0 + 0, none⟩)) R hH hM h1 hb (by simp only [RepV]; exact ⟨b0, o0, vs0, rfl, hr0, hh0⟩)
  exact ⟨g, _, rfl, (hr _ (below4 w _ _ _ _)).1, (hr _ (below4 w _ _ _ _)).2, by simp [RepV]⟩
theorem asN_cs {c : Int} {id : Nat} {x : AV} {H : AH} (hH : H.at id = some (.box [x])) :
    CS Tryz.prog envN 71 [.iface 134 (.int .i64 c), .iface 159 (.ptr id 0)] H (.bool true) (H.set id (some (.box [.int .i64 c]))) := by
  intro g w cargs R hG hA
  simp only [RepL, RepV] at hA
  obtain ⟨v0, ws0, rfl, ⟨y0, rfl, rfl⟩, v1, ws1, rfl, ⟨y1, rfl, b, hM, rfl⟩, rfl⟩ := hA
  obtain ⟨vs, el, h1, h2, h3⟩ := box_cells R hH hM
  simp only [RepL] at h2
  obtain ⟨ov, ws, rfl, _, rfl⟩ := h2
  have hc : w.cell? ⟨b, 0, none⟩ = some ov := by simpa using h3 0 ov rfl
  have hf : w.frozen? ⟨b, 0, none⟩ = false := by simp [World.frozen?, h1]
  refine (As.hitN c ⟨b, 0, none⟩ ov w (errorHandle hG R) hc hf).mono ?_
  rintro e w' ⟨rfl, rfl⟩
  have hr := fun W4 hb => write_after (W4 := W4) (a := .int .i64 c) (v := .int .i64 c) R hH hM h1 hb (by simp only [RepV])
  exact ⟨g, _, rfl, (hr _ (below4 w _ _ _ _)).1, (hr _ (below4 w _ _ _ _)).2, by simp [RepV]⟩
theorem asX_cs {c : Int} {id : Nat} {H : AH} :
    CS Tryz.prog envN 71 [.iface 134 (.int .i64 c), .iface 154 (.ptr id 0)] H (.bool false) H := by
  intro g w cargs R hG hA
  simp only [RepL, RepV] at hA
  obtain ⟨v0, ws0, rfl, ⟨y0, rfl, rfl⟩, v1, ws1, rfl, ⟨y1, rfl, b, hM, rfl⟩, rfl⟩ := hA
  refine (As.missF c ⟨b, 0, none⟩ w (errorHandle hG R)).mono ?_
  rintro e w' ⟨rfl, rfl⟩
  obtain ⟨R', P'⟩ := R.below (below3 w _ _ _)
  exact ⟨g, _, rfl, R', P', by simp [RepV]⟩
end Go.Proofs.YtejjlojfgcgopaaGreatDoor
