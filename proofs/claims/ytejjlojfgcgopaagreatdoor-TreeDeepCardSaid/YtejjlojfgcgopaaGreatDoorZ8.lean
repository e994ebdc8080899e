/- What tok's small functions tell: bytes that are letters, digits, inner ones; how many bytes of a kind a text begins with. tok.sign; whether a text is a key. internal/strconv.ParseUint at digits. internal/strconv.ParseUint at digits, whole. internal/strconv.ParseInt at digits. tok.word. strconv.ParseInt at digits that fit. -/
import Derived.Test.YtejjlojfgcgopaaGreatDoorZ7
import Derived.Test.YtejjlojfgcgopaaGreatDoorZ3
set_option linter.unusedSimpArgs false
set_option linter.unusedVariables false
namespace Go.Proofs.YtejjlojfgcgopaaGreatDoor
open Go.RowKit Go.Proofs.Fw
set_option maxRecDepth 100000
def isSmall (b : UInt8) : Bool := decide (97 ≤ b.toNat) && decide (b.toNat ≤ 122)
def isDigit (b : UInt8) : Bool := decide (48 ≤ b.toNat) && decide (b.toNat ≤ 57)
def isInner (b : UInt8) : Bool := isSmall b || isDigit b || b.toNat == 95
theorem small_ev (O : Orc) (b : UInt8) (H : AH) : evFunc O Tryz.prog envT 1 88 [.int .u8 (b.toNat : Int)] H = some (.bool (isSmall b), H) := by
  by_cases h1 : (97 : Int) ≤ (b.toNat : Int)
  · by_cases h2 : (b.toNat : Int) ≤ 122
    · simp [Tryz.func88, Tryz.f88, evFunc, evCode, evRegion, withIds, needsId, idCount, grow, evOps, wantedA, stepO, callee, aop, putT, aeval, ofValC, ofVal, ofVals, applyUps, evResults, oneOrTup, alen, abin, abinInt, abinStr, aun, aindex, aslice, optInt, aextract, anilCheck, aconvert, aindexAddr, afieldAddr, afield, aload, ldAt, isConstO, aeq, isSmall, h1, h2]
      omega
    · simp [Tryz.func88, Tryz.f88, evFunc, evCode, evRegion, withIds, needsId, idCount, grow, evOps, wantedA, stepO, callee, aop, putT, aeval, ofValC, ofVal, ofVals, applyUps, evResults, oneOrTup, alen, abin, abinInt, abinStr, aun, aindex, aslice, optInt, aextract, anilCheck, aconvert, aindexAddr, afieldAddr, afield, aload, ldAt, isConstO, aeq, isSmall, h1, h2]
      omega
  · simp [Tryz.func88, Tryz.f88, evFunc, evCode, evRegion, withIds, needsId, idCount, grow, evOps, wantedA, stepO, callee, aop, putT, aeval, ofValC, ofVal, ofVals, applyUps, evResults, oneOrTup, alen, abin, abinInt, abinStr, aun, aindex, aslice, optInt, aextract, anilCheck, aconvert, aindexAddr, afieldAddr, afield, aload, ldAt, isConstO, aeq, isSmall, h1]
    omega
theorem digit_ev (O : Orc) (b : UInt8) (H : AH) : evFunc O Tryz.prog envT 1 134 [.int .u8 (b.toNat : Int)] H = some (.bool (isDigit b), H) := by
  by_cases h1 : (48 : Int) ≤ (b.toNat : Int)
  · by_cases h2 : (b.toNat : Int) ≤ 57
    · simp [Tryz.func134, Tryz.f134, evFunc, evCode, evRegion, withIds, needsId, idCount, grow, evOps, wantedA, stepO, callee, aop, putT, aeval, ofValC, ofVal, ofVals, applyUps, evResults, oneOrTup, alen, abin, abinInt, abinStr, aun, aindex, aslice, optInt, aextract, anilCheck, aconvert, aindexAddr, afieldAddr, afield, aload, ldAt, isConstO, aeq, isDigit, h1, h2]
      omega
    · simp [Tryz.func134, Tryz.f134, evFunc, evCode, evRegion, withIds, needsId, idCount, grow, evOps, wantedA, stepO, callee, aop, putT, aeval, ofValC, ofVal, ofVals, applyUps, evResults, oneOrTup, alen, abin, abinInt, abinStr, aun, aindex, aslice, optInt, aextract, anilCheck, aconvert, aindexAddr, afieldAddr, afield, aload, ldAt, isConstO, aeq, isDigit, h1, h2]
      omega
  · simp [Tryz.func134, Tryz.f134, evFunc, evCode, evRegion, withIds, needsId, idCount, grow, evOps, wantedA, stepO, callee, aop, putT, aeval, ofValC, ofVal, ofVals, applyUps, evResults, oneOrTup, alen, abin, abinInt, abinStr, aun, aindex, aslice, optInt, aextract, anilCheck, aconvert, aindexAddr, afieldAddr, afield, aload, ldAt, isConstO, aeq, isDigit, h1]
    omega
def oBytes1 : Orc := orElse (callB 88 isSmall) (callB 134 isDigit)
theorem oBytes1_sound : Sound Tryz.prog envT oBytes1 :=
  Sound.orElse (callB_sound fun b H => evFunc_ok oIdx_sound methT mixed (small_ev oIdx b H)) (callB_sound fun b H => evFunc_ok oIdx_sound methT mixed (digit_ev oIdx b H))
theorem oBytes1_25 (b : UInt8) (H : AH) : oBytes1 88 [.int .u8 (b.toNat : Int)] H = some (.bool (isSmall b), H) := by
  simp only [oBytes1, orElse, callB_at]
theorem oBytes1_34 (b : UInt8) (H : AH) : oBytes1 134 [.int .u8 (b.toNat : Int)] H = some (.bool (isDigit b), H) := by
  have : callB 88 isSmall 134 [.int .u8 (b.toNat : Int)] H = none := rfl
  simp only [oBytes1, orElse, this, callB_at]
theorem goFn_all : ∀ f, f ∈ [88, 134, 132, 131, 136, 133, 173, 201, 174, 87, 51, 50, 135, 85, 86, 129, 130, 171] → goFn Tryz.prog f = true := by
  intro f hf
  simp only [List.mem_cons, List.not_mem_nil, or_false] at hf
  rcases hf with rfl | rfl | rfl | rfl | rfl | rfl | rfl | rfl | rfl | rfl | rfl | rfl | rfl | rfl | rfl | rfl | rfl | rfl | rfl <;> kernel_rfl
theorem go25 : goFn Tryz.prog 88 = true := goFn_all _ (by simp)
theorem go34 : goFn Tryz.prog 134 = true := goFn_all _ (by simp)
theorem inner_ev (b : UInt8) (H : AH) : evFunc oBytes1 Tryz.prog envT 1 132 [.int .u8 (b.toNat : Int)] H = some (.bool (isInner b), H) := by
  cases h1 : isSmall b
  · cases h2 : isDigit b
    · simp [Tryz.func132, Tryz.f132, evFunc, evCode, evRegion, withIds, needsId, idCount, grow, evOps, wantedA, stepO, callee, aop, putT, aeval, ofValC, ofVal, ofVals, applyUps, evResults, oneOrTup, alen, abin, abinInt, abinStr, aun, aindex, aslice, optInt, aextract, anilCheck, aconvert, aindexAddr, afieldAddr, afield, aload, ldAt, isConstO, aeq, isInner, h1, h2, go25, go34, oBytes1_25, oBytes1_34]
      rw [Bool.eq_iff_iff]
      simp only [beq_iff_eq]
      omega
    · simp [Tryz.func132, Tryz.f132, evFunc, evCode, evRegion, withIds, needsId, idCount, grow, evOps, wantedA, stepO, callee, aop, putT, aeval, ofValC, ofVal, ofVals, applyUps, evResults, oneOrTup, alen, abin, abinInt, abinStr, aun, aindex, aslice, optInt, aextract, anilCheck, aconvert, aindexAddr, afieldAddr, afield, aload, ldAt, isConstO, aeq, isInner, h1, h2, go25, go34, oBytes1_25, oBytes1_34]
  · simp [Tryz.func132, Tryz.f132, evFunc, evCode, evRegion, withIds, needsId, idCount, grow, evOps, wantedA, stepO, callee, aop, putT, aeval, ofValC, ofVal, ofVals, applyUps, evResults, oneOrTup, alen, abin, abinInt, abinStr, aun, aindex, aslice, optInt, aextract, anilCheck, aconvert, aindexAddr, afieldAddr, afield, aload, ldAt, isConstO, aeq, isInner, h1, go25, go34, oBytes1_25, oBytes1_34]
def oBytes : Orc := orElse (callB 132 isInner) oBytes1
theorem oBytes_sound : Sound Tryz.prog envT oBytes :=
  Sound.orElse (callB_sound fun b H => evFunc_ok oBytes1_sound methT mixed (inner_ev b H)) oBytes1_sound
theorem oBytes_31 (b : UInt8) (H : AH) : oBytes 132 [.int .u8 (b.toNat : Int)] H = some (.bool (isInner b), H) := by
  simp only [oBytes, orElse, callB_at]
theorem oBytes_25 (b : UInt8) (H : AH) : oBytes 88 [.int .u8 (b.toNat : Int)] H = some (.bool (isSmall b), H) := by
  have : callB 132 isInner 88 [.int .u8 (b.toNat : Int)] H = none := rfl
  simp only [oBytes, orElse, this]
  exact oBytes1_25 b H
theorem oBytes_34 (b : UInt8) (H : AH) : oBytes 134 [.int .u8 (b.toNat : Int)] H = some (.bool (isDigit b), H) := by
  have : callB 132 isInner 134 [.int .u8 (b.toNat : Int)] H = none := rfl
  simp only [oBytes, orElse, this]
  exact oBytes1_34 b H
noncomputable def b30 : Code := (Tryz.f131.body).getD .skip
noncomputable def loop30 : Code := inC (inC (fstC (sndC (sndC b30))))
theorem front_go (O : Orc) (s : List UInt8) (f : FuncId) (p : UInt8 → Bool) (hg : goFn Tryz.prog f = true) (ho : ∀ (b : UInt8) H, O f [.int .u8 (b.toNat : Int)] H = some (.bool (p b), H))
    (i : Nat) (hi : i < s.length) (hp : p s[i] = true) (hs : s.length < 9223372036854775807) (n : Nat) (v2 v3 v6 v7 v8 v9 v10 v11 v12 v13 v14 v15 v16 v17 v18 v19 : AV) (H : AH) :
    evCode O Tryz.prog envT n loop30 [.str s, .func (.func f) [] [], v2, v3, .int .i64 0, .int .i64 i, v6, v7, v8, v9, v10, v11, v12, v13, v14, v15, v16, v17, v18, v19] H =
      some (.normal, [.str s, .func (.func f) [] [], v2, v3, .int .i64 0, .int .i64 ((i + 1 : Nat) : Int), .int .i64 i, .str s, .int .i64 s.length, .bool true, .bool true, .func (.func f) [] [], .str s, .int .i64 i, .int .u8 (s[i].toNat : Int), .bool true, .bool true, .int .i64 i, .int .i64 ((i + 1 : Nat) : Int), v19], H) := by
  have h1 : (i : Int) < s.length := by omega
  have hw : IntKind.i64.wrap ((i : Int) + 1) = (i : Int) + 1 := wrap_i64 (by omega) (by omega)
  simp [loop30, b30, Tryz.f131, inC, fstC, sndC, evFunc, evCode, evRegion, withIds, needsId, idCount, grow, evOps, wantedA, stepO, callee, aop, putT, aeval, ofValC, ofVal, ofVals, applyUps, evResults, oneOrTup, alen, abin, abinInt, abinStr, aun, aindex, aslice, optInt, aextract, anilCheck, aconvert, aindexAddr, afieldAddr, afield, aload, ldAt, isConstO, aeq, h1, hi, hp, hg, ho, hw]
theorem front_stop (O : Orc) (s : List UInt8) (f : FuncId) (p : UInt8 → Bool) (hg : goFn Tryz.prog f = true) (ho : ∀ (b : UInt8) H, O f [.int .u8 (b.toNat : Int)] H = some (.bool (p b), H))
    (i : Nat) (hi : ∀ h : i < s.length, p s[i] = false) (n : Nat) (v2 v3 v6 v7 v8 v9 v10 v11 v12 v13 v14 v15 v16 v17 v18 v19 : AV) (H : AH) :
    ∃ w6 w7 w8 w9 w10 w11 w12 w13 w14 w15 w16 w17 w18 w19, evCode O Tryz.prog envT n loop30 [.str s, .func (.func f) [] [], v2, v3, .int .i64 0, .int .i64 i, v6, v7, v8, v9, v10, v11, v12, v13, v14, v15, v16, v17, v18, v19] H =
      some (.exit 0, [.str s, .func (.func f) [] [], v2, v3, .int .i64 0, .int .i64 i, w6, w7, w8, w9, w10, w11, w12, w13, w14, w15, w16, w17, w18, w19], H) := by
  by_cases hl : i < s.length
  · have h1 : (i : Int) < s.length := by omega
    have hp := hi hl
    simp [loop30, b30, Tryz.f131, inC, fstC, sndC, evFunc, evCode, evRegion, withIds, needsId, idCount, grow, evOps, wantedA, stepO, callee, aop, putT, aeval, ofValC, ofVal, ofVals, applyUps, evResults, oneOrTup, alen, abin, abinInt, abinStr, aun, aindex, aslice, optInt, aextract, anilCheck, aconvert, aindexAddr, afieldAddr, afield, aload, ldAt, isConstO, aeq, h1, hl, hp, hg, ho]
  · have h1 : ¬ (i : Int) < s.length := by omega
    simp [loop30, b30, Tryz.f131, inC, fstC, sndC, evFunc, evCode, evRegion, withIds, needsId, idCount, grow, evOps, wantedA, stepO, callee, aop, putT, aeval, ofValC, ofVal, ofVals, applyUps, evResults, oneOrTup, alen, abin, abinInt, abinStr, aun, aindex, aslice, optInt, aextract, anilCheck, aconvert, aindexAddr, afieldAddr, afield, aload, ldAt, isConstO, aeq, h1]
theorem front_iter (O : Orc) (s : List UInt8) (f : FuncId) (p : UInt8 → Bool) (hg : goFn Tryz.prog f = true) (ho : ∀ (b : UInt8) H, O f [.int .u8 (b.toNat : Int)] H = some (.bool (p b), H)) (hs : s.length < 9223372036854775807) (n : Nat) (v2 v3 : AV) (H : AH) :
    ∀ (m i : Nat), i ≤ frontLen p s → frontLen p s - i < m → ∀ v6 v7 v8 v9 v10 v11 v12 v13 v14 v15 v16 v17 v18 v19 : AV,
    ∃ w6 w7 w8 w9 w10 w11 w12 w13 w14 w15 w16 w17 w18 w19, iter (evCode O Tryz.prog envT n loop30) m [.str s, .func (.func f) [] [], v2, v3, .int .i64 0, .int .i64 i, v6, v7, v8, v9, v10, v11, v12, v13, v14, v15, v16, v17, v18, v19] H =
      some (.exit 0, [.str s, .func (.func f) [] [], v2, v3, .int .i64 0, .int .i64 (frontLen p s), w6, w7, w8, w9, w10, w11, w12, w13, w14, w15, w16, w17, w18, w19], H) := by
  intro m
  induction m with
  | zero => intro i _ h; omega
  | succ m ih =>
    intro i hi hm v6 v7 v8 v9 v10 v11 v12 v13 v14 v15 v16 v17 v18 v19
    by_cases he : i < frontLen p s
    · obtain ⟨h1, h2⟩ := frontLen_in p s i he
      rw [iter_step (front_go O s f p hg ho i h1 h2 hs n v2 v3 v6 v7 v8 v9 v10 v11 v12 v13 v14 v15 v16 v17 v18 v19 H)]
      exact ih (i + 1) he (by omega) _ _ _ _ _ _ _ _ _ _ _ _ _ _
    · have hie : i = frontLen p s := by omega
      subst hie
      obtain ⟨w6, w7, w8, w9, w10, w11, w12, w13, w14, w15, w16, w17, w18, w19, h⟩ := front_stop O s f p hg ho (frontLen p s) (frontLen_out p s) n v2 v3 v6 v7 v8 v9 v10 v11 v12 v13 v14 v15 v16 v17 v18 v19 H
      exact ⟨w6, w7, w8, w9, w10, w11, w12, w13, w14, w15, w16, w17, w18, w19, iter_exit h⟩
theorem front_ev (O : Orc) (s : List UInt8) (f : FuncId) (p : UInt8 → Bool) (hg : goFn Tryz.prog f = true) (ho : ∀ (b : UInt8) H, O f [.int .u8 (b.toNat : Int)] H = some (.bool (p b), H)) (hs : s.length < 9223372036854775807) (H : AH) :
    evFunc O Tryz.prog envT (s.length + 1) 131 [.str s, .func (.func f) [] []] H = some (.int .i64 (frontLen p s), H) := by
  obtain ⟨w6, w7, w8, w9, w10, w11, w12, w13, w14, w15, w16, w17, w18, w19, h⟩ := front_iter O s f p hg ho hs (s.length + 1) .nothing .nothing H (s.length + 1) 0 (Nat.zero_le _) (by have := frontLen_le p s; omega) .nothing .nothing .nothing .nothing .nothing .nothing .nothing .nothing .nothing .nothing .nothing .nothing .nothing .nothing
  rw [evFunc_fin (c := b30) Tryz.func131 (by kernel_rfl)]
  have e1 : evCode O Tryz.prog envT (s.length + 1) (fstC b30) ([.str s, .func (.func f) [] []] ++ List.replicate (Tryz.f131.ntmps - [AV.str s, .func (.func f) [] []].length) .nothing) H = some (.normal, [.str s, .func (.func f) [] [], .nothing, .nothing, .int .i64 0, .nothing, .nothing, .nothing, .nothing, .nothing, .nothing, .nothing, .nothing, .nothing, .nothing, .nothing, .nothing, .nothing, .nothing, .nothing], H) := by
    kernel_rfl
  have e2 : evCode O Tryz.prog envT (s.length + 1) (fstC (sndC b30)) [.str s, .func (.func f) [] [], .nothing, .nothing, .int .i64 0, .nothing, .nothing, .nothing, .nothing, .nothing, .nothing, .nothing, .nothing, .nothing, .nothing, .nothing, .nothing, .nothing, .nothing, .nothing] H = some (.normal, [.str s, .func (.func f) [] [], .nothing, .nothing, .int .i64 0, .int .i64 (0 : Nat), .nothing, .nothing, .nothing, .nothing, .nothing, .nothing, .nothing, .nothing, .nothing, .nothing, .nothing, .nothing, .nothing, .nothing], H) := by
    kernel_rfl
  rw [evCode_seq (B := sndC b30) (by kernel_rfl) e1, evCode_seq (B := sndC (sndC b30)) (by kernel_rfl) e2]
  rw [evCode_seq (A := fstC (sndC (sndC b30))) (B := sndC (sndC (sndC b30))) (by kernel_rfl) (evCode_loop (L := loop30) (by kernel_rfl) h)]
  show (_ : Option (AV × AH)) = _
  kernel_rfl
end Go.Proofs.YtejjlojfgcgopaaGreatDoor
namespace Go.Proofs.YtejjlojfgcgopaaGreatDoor
open Go.RowKit Go.Proofs.Fw
set_option maxRecDepth 100000
set_option maxHeartbeats 4000000
def signLen : List UInt8 → Nat
  | [] => 0
  | c :: r => if c.toNat = 60 ∨ c.toNat = 62 ∨ c.toNat = 61 ∨ c.toNat = 47 then (match r with
      | d :: _ => if d.toNat = 61 then 2 else 1
      | [] => 1)
    else if c.toNat = 43 ∨ c.toNat = 45 ∨ c.toNat = 42 ∨ c.toNat = 40 ∨ c.toNat = 41 ∨ c.toNat = 44 then 1 else 0
theorem sz9 : szOf Tryz.prog 9 = some 1 := by kernel_rfl
theorem ag9 : aggB Tryz.prog 9 = some false := by kernel_rfl
theorem index_none (O : Orc) (s : List UInt8) (H : AH) (h0 : (s == [105,110,116,101,103,101,114]) = false) (h1 : (s == [100,111]) = false) (h2 : (s == [101,110,100]) = false) (h3 : (s == [105,102]) = false)
    (h4 : (s == [116,104,101,110]) = false) (h5 : (s == [101,108,115,101]) = false) (h6 : (s == [114,101,97,100]) = false) (h7 : (s == [112,114,105,110,116]) = false) :
    evFunc O Tryz.prog envT 9 201 [keysAV, .str s] H = some (.int .i64 (-1), H) := by
  simp [Tryz.func201, Tryz.f201, evFunc, evCode, evRegion, withIds, needsId, idCount, grow, evOps, wantedA, stepO, callee, aop, putT, aeval, ofValC, ofVal, ofVals, applyUps, evResults, oneOrTup, alen, abin, abinInt, abinStr, aun, aindex, aslice, optInt, aextract, anilCheck, aconvert, aindexAddr, afieldAddr, afield, aload, ldAt, isConstO, aeq, iter, keysAV, keysL, sz9, ag9, h0, h1, h2, h3, h4, h5, h6, h7, IntKind.wrap, IntKind.bits, IntKind.signed]
theorem key_none (s : List UInt8) (h : keysL.contains s = false) : run fzT base1 Tryz.prog envT 9 3 133 [.str s] [] = some (.bool false, []) := by
  simp only [keysL, List.contains_cons, List.contains_nil, Bool.or_false, Bool.or_eq_false_iff] at h
  obtain ⟨h0, h1, h2, h3, h4, h5, h6, h7⟩ := h
  have b43 : base1 201 [keysAV, .str s] [] = none := rfl
  have b28 : base1 173 [keysAV, .str s] [] = none := rfl
  have b14 : base1 133 [.str s] [] = none := rfl
  have b29 : base1 174 [.str keyTxt] [] = some (keysAV, []) := by kernel_rfl
  have g43 : goFn Tryz.prog 201 = true := goFn_all _ (by simp)
  have g28 : goFn Tryz.prog 173 = true := goFn_all _ (by simp)
  have g29 : goFn Tryz.prog 174 = true := goFn_all _ (by simp)
  have e43 : run fzT base1 Tryz.prog envT 9 1 201 [keysAV, .str s] [] = some (.int .i64 (-1), []) := by
    have := index_none base1 s [] h0 h1 h2 h3 h4 h5 h6 h7
    simp [run, b43, this, tidy, fzT, frz, strip, low, lowH]
  have e28 : run fzT base1 Tryz.prog envT 9 2 173 [keysAV, .str s] [] = some (.bool false, []) := by
    have : evFunc (run fzT base1 Tryz.prog envT 9 1) Tryz.prog envT 9 173 [keysAV, .str s] [] = some (.bool false, []) := by
      simp [Tryz.func173, Tryz.f173, evFunc, evCode, evRegion, withIds, needsId, idCount, grow, evOps, wantedA, stepO, callee, aop, putT, aeval, ofValC, ofVal, ofVals, applyUps, evResults, oneOrTup, alen, abin, abinInt, abinStr, aun, aindex, aslice, optInt, aextract, anilCheck, aconvert, aindexAddr, afieldAddr, afield, aload, ldAt, isConstO, aeq, e43, g43]
    rw [run]
    simp [b28, this, tidy, fzT, frz, strip, low, lowH]
  have e29 : run fzT base1 Tryz.prog envT 9 2 174 [.str keyTxt] [] = some (keysAV, []) := by
    rw [run]
    simp [b29]
  have : evFunc (run fzT base1 Tryz.prog envT 9 2) Tryz.prog envT 9 133 [.str s] [] = some (.bool false, []) := by
    unfold keyTxt at e29
    simp [Tryz.func133, Tryz.f133, evFunc, evCode, evRegion, withIds, needsId, idCount, grow, evOps, wantedA, stepO, callee, aop, putT, aeval, ofValC, ofVal, ofVals, applyUps, evResults, oneOrTup, alen, abin, abinInt, abinStr, aun, aindex, aslice, optInt, aextract, anilCheck, aconvert, aindexAddr, afieldAddr, afield, aload, ldAt, isConstO, aeq, e28, e29, g28, g29]
  rw [run]
  simp [b14, this, tidy, fzT, frz, strip, low, lowH]
theorem key_0 : run fzT base1 Tryz.prog envT 9 3 133 [.str [105,110,116,101,103,101,114]] [] = some (.bool true, []) := by kernel_rfl
theorem key_1 : run fzT base1 Tryz.prog envT 9 3 133 [.str [100,111]] [] = some (.bool true, []) := by kernel_rfl
theorem key_2 : run fzT base1 Tryz.prog envT 9 3 133 [.str [101,110,100]] [] = some (.bool true, []) := by kernel_rfl
theorem key_3 : run fzT base1 Tryz.prog envT 9 3 133 [.str [105,102]] [] = some (.bool true, []) := by kernel_rfl
theorem key_4 : run fzT base1 Tryz.prog envT 9 3 133 [.str [116,104,101,110]] [] = some (.bool true, []) := by kernel_rfl
theorem key_5 : run fzT base1 Tryz.prog envT 9 3 133 [.str [101,108,115,101]] [] = some (.bool true, []) := by kernel_rfl
theorem key_6 : run fzT base1 Tryz.prog envT 9 3 133 [.str [114,101,97,100]] [] = some (.bool true, []) := by kernel_rfl
theorem key_7 : run fzT base1 Tryz.prog envT 9 3 133 [.str [112,114,105,110,116]] [] = some (.bool true, []) := by kernel_rfl
def isKey (s : List UInt8) : Bool := keysL.contains s
theorem key_run' (s : List UInt8) : run fzT base1 Tryz.prog envT 9 3 133 [.str s] [] = some (.bool (isKey s), []) := by
  cases h : isKey s with
  | false => exact key_none s h
  | true =>
    unfold isKey at h
    simp only [keysL, List.contains_cons, List.contains_nil, Bool.or_false, Bool.or_eq_true, beq_iff_eq] at h
    rcases h with rfl | rfl | rfl | rfl | rfl | rfl | rfl | rfl
    · exact key_0
    · exact key_1
    · exact key_2
    · exact key_3
    · exact key_4
    · exact key_5
    · exact key_6
    · exact key_7
def oKeyF : Orc := callS 133 fun s => some (.bool (isKey s))
theorem oKeyF_sound : Sound Tryz.prog envT oKeyF := Sound.callS lowT fun s v h => by
  injection h with h
  subst h
  exact (run_sound base1_sound methT mixed 9 3 _ _ _ _ _ (key_run' s)).1
theorem sign_ev (O : Orc) (c : UInt8) (r : List UInt8) (H : AH) : evFunc O Tryz.prog envT 1 136 [.str (c :: r)] H = some (.int .i64 (signLen (c :: r)), H) := by
  by_cases h : c.toNat = 60 ∨ c.toNat = 62 ∨ c.toNat = 61 ∨ c.toNat = 47 ∨ c.toNat = 43 ∨ c.toNat = 45 ∨ c.toNat = 42 ∨ c.toNat = 40 ∨ c.toNat = 41 ∨ c.toNat = 44
  · cases r with
    | nil =>
      rcases h with h | h | h | h | h | h | h | h | h | h <;>
        simp [Tryz.func136, Tryz.f136, evFunc, evCode, evRegion, withIds, needsId, idCount, grow, evOps, wantedA, stepO, callee, aop, putT, aeval, ofValC, ofVal, ofVals, applyUps, evResults, oneOrTup, alen, abin, abinInt, abinStr, aun, aindex, aslice, optInt, aextract, anilCheck, aconvert, aindexAddr, afieldAddr, afield, aload, ldAt, isConstO, aeq, signLen, h]
    | cons d r =>
      have hl : (1 : Int) < (r.length : Int) + 1 + 1 := by omega
      by_cases hd : d.toNat = 61
      · rcases h with h | h | h | h | h | h | h | h | h | h <;>
          simp [Tryz.func136, Tryz.f136, evFunc, evCode, evRegion, withIds, needsId, idCount, grow, evOps, wantedA, stepO, callee, aop, putT, aeval, ofValC, ofVal, ofVals, applyUps, evResults, oneOrTup, alen, abin, abinInt, abinStr, aun, aindex, aslice, optInt, aextract, anilCheck, aconvert, aindexAddr, afieldAddr, afield, aload, ldAt, isConstO, aeq, signLen, h, hd, hl]
      · have hd' : ((d.toNat : Int) == 61) = false := by simp only [beq_eq_false_iff_ne]; omega
        rcases h with h | h | h | h | h | h | h | h | h | h <;>
          simp [Tryz.func136, Tryz.f136, evFunc, evCode, evRegion, withIds, needsId, idCount, grow, evOps, wantedA, stepO, callee, aop, putT, aeval, ofValC, ofVal, ofVals, applyUps, evResults, oneOrTup, alen, abin, abinInt, abinStr, aun, aindex, aslice, optInt, aextract, anilCheck, aconvert, aindexAddr, afieldAddr, afield, aload, ldAt, isConstO, aeq, signLen, h, hd, hd', hl]
  · simp only [not_or] at h
    obtain ⟨a0, a1, a2, a3, a4, a5, a6, a7, a8, a9⟩ := h
    have b0 : ((c.toNat : Int) == 60) = false := by simp only [beq_eq_false_iff_ne]; omega
    have b1 : ((c.toNat : Int) == 62) = false := by simp only [beq_eq_false_iff_ne]; omega
    have b2 : ((c.toNat : Int) == 61) = false := by simp only [beq_eq_false_iff_ne]; omega
    have b3 : ((c.toNat : Int) == 47) = false := by simp only [beq_eq_false_iff_ne]; omega
    have b4 : ((c.toNat : Int) == 43) = false := by simp only [beq_eq_false_iff_ne]; omega
    have b5 : ((c.toNat : Int) == 45) = false := by simp only [beq_eq_false_iff_ne]; omega
    have b6 : ((c.toNat : Int) == 42) = false := by simp only [beq_eq_false_iff_ne]; omega
    have b7 : ((c.toNat : Int) == 40) = false := by simp only [beq_eq_false_iff_ne]; omega
    have b8 : ((c.toNat : Int) == 41) = false := by simp only [beq_eq_false_iff_ne]; omega
    have b9 : ((c.toNat : Int) == 44) = false := by simp only [beq_eq_false_iff_ne]; omega
    cases r with
    | nil => simp [Tryz.func136, Tryz.f136, evFunc, evCode, evRegion, withIds, needsId, idCount, grow, evOps, wantedA, stepO, callee, aop, putT, aeval, ofValC, ofVal, ofVals, applyUps, evResults, oneOrTup, alen, abin, abinInt, abinStr, aun, aindex, aslice, optInt, aextract, anilCheck, aconvert, aindexAddr, afieldAddr, afield, aload, ldAt, isConstO, aeq, signLen, a0, a1, a2, a3, a4, a5, a6, a7, a8, a9, b0, b1, b2, b3, b4, b5, b6, b7, b8, b9]
    | cons d r =>
      have hl : (1 : Int) < (r.length : Int) + 1 + 1 := by omega
      simp [Tryz.func136, Tryz.f136, evFunc, evCode, evRegion, withIds, needsId, idCount, grow, evOps, wantedA, stepO, callee, aop, putT, aeval, ofValC, ofVal, ofVals, applyUps, evResults, oneOrTup, alen, abin, abinInt, abinStr, aun, aindex, aslice, optInt, aextract, anilCheck, aconvert, aindexAddr, afieldAddr, afield, aload, ldAt, isConstO, aeq, signLen, a0, a1, a2, a3, a4, a5, a6, a7, a8, a9, b0, b1, b2, b3, b4, b5, b6, b7, b8, b9, hl]
end Go.Proofs.YtejjlojfgcgopaaGreatDoor
namespace Go.Proofs.YtejjlojfgcgopaaGreatDoor
open Go.RowKit Go.Proofs.Fw
set_option maxRecDepth 100000
set_option maxHeartbeats 4000000
noncomputable def t55 : Code := sndC (sndC (sndC (sndC (sndC (sndC (sndC (sndC (sndC (sndC (sndC (bodyOf Tryz.f204)))))))))))
noncomputable def L55 : Code := inC (inC (sndC (fstC t55)))
theorem sz5 : szOf Tryz.prog 5 = some 1 := by kernel_rfl
theorem ag5 : aggB Tryz.prog 5 = some false := by kernel_rfl
def numOf (s : List UInt8) : Nat := s.foldl (fun n b => 10 * n + (b.toNat - 48)) 0
theorem pu_more (O : Orc) (s : List UInt8) (i n : Nat) (b : UInt8) (t : List AV) (H : AH) (N : Nat) (hl : t.length = 172) (h1 : t[1]? = some (.int .i64 10)) (h8 : t[8]? = some (.bool false)) (h10 : t[10]? = some (.int .u64 1844674407370955162))
    (h11 : t[11]? = some (.int .u64 18446744073709551615)) (h13 : t[13]? = some (.int .u64 n)) (h101 : t[101]? = some (.int .i64 i)) (h99 : t[99]? = some (.slice .unk 1 s.length (strCells s))) (h100 : t[100]? = some (.int .i64 s.length))
    (hi : i < s.length) (hs : s.length < 9223372036854775807) (hb : (strCells s)[i]? = some (.int .u8 (b.toNat : Int))) (hd1 : (48 : Int) ≤ (b.toNat : Int)) (hd2 : (b.toNat : Int) ≤ 57) (hn : (n : Int) < 1844674407370955162) (hm : 10 * n + (b.toNat - 48) < 18446744073709551616)
    (Q : AEx → List AV → AH → Prop) (hQ : ∀ t' : List AV, t'.length = 172 → t'[1]? = some (.int .i64 10) → t'[8]? = some (.bool false) → t'[10]? = some (.int .u64 1844674407370955162) → t'[11]? = some (.int .u64 18446744073709551615) →
      t'[12]? = t[12]? → t'[13]? = some (.int .u64 ((10 * n + (b.toNat - 48) : Nat) : Int)) → t'[101]? = some (.int .i64 ((i + 1 : Nat) : Int)) → t'[99]? = some (.slice .unk 1 s.length (strCells s)) → t'[100]? = some (.int .i64 s.length) → Q .normal t' H) :
    EndsIn (evCode O Tryz.prog envT N L55 t H) Q := by
  have hi' : (i : Int) < s.length := by omega
  have e95 : ((b.toNat : Int) == 95) = false := by simp only [beq_eq_false_iff_ne]; omega
  have w1 : IntKind.u8.wrap ((b.toNat : Int) - 48) = ((b.toNat - 48 : Nat) : Int) := by simp [IntKind.wrap, IntKind.bits, IntKind.signed]; omega
  have w2 : IntKind.u8.wrap 10 = 10 := by decide
  have d9 : ¬ ((10 : Int) ≤ ((b.toNat - 48 : Nat) : Int)) := by omega
  have nc : ¬ ((1844674407370955162 : Int) ≤ (n : Int)) := by omega
  have w3 : IntKind.u64.wrap 10 = 10 := by decide
  have w4 : IntKind.u64.wrap ((n : Int) * 10) = 10 * (n : Int) := by simp [IntKind.wrap, IntKind.bits, IntKind.signed]; omega
  have w5 : IntKind.u64.wrap ((b.toNat - 48 : Nat) : Int) = ((b.toNat - 48 : Nat) : Int) := by simp [IntKind.wrap, IntKind.bits, IntKind.signed]; omega
  have w6 : IntKind.u64.wrap (10 * (n : Int) + ((b.toNat - 48 : Nat) : Int)) = 10 * (n : Int) + ((b.toNat - 48 : Nat) : Int) := by simp [IntKind.wrap, IntKind.bits, IntKind.signed]; omega
  have l1 : ¬ (10 * (n : Int) + ((b.toNat - 48 : Nat) : Int) < 10 * (n : Int)) := by omega
  have l2 : ¬ ((18446744073709551615 : Int) < 10 * (n : Int) + ((b.toNat - 48 : Nat) : Int)) := by omega
  have w7 : IntKind.i64.wrap ((i : Int) + 1) = (i : Int) + 1 := wrap_i64 (by omega) (by omega)
  obtain ⟨_, g1⟩ := List.getElem?_eq_some_iff.1 h1
  obtain ⟨_, g8⟩ := List.getElem?_eq_some_iff.1 h8
  obtain ⟨_, g10⟩ := List.getElem?_eq_some_iff.1 h10
  obtain ⟨_, g11⟩ := List.getElem?_eq_some_iff.1 h11
  obtain ⟨_, g13⟩ := List.getElem?_eq_some_iff.1 h13
  obtain ⟨_, g101⟩ := List.getElem?_eq_some_iff.1 h101
  obtain ⟨_, g99⟩ := List.getElem?_eq_some_iff.1 h99
  obtain ⟨_, g100⟩ := List.getElem?_eq_some_iff.1 h100
  simp [L55, t55, bodyOf, Tryz.f204, inC, fstC, sndC, evFunc, evCode, evRegion, withIds, needsId, idCount, grow, evOps, wantedA, stepO, callee, aop, putT, aeval, ofValC, ofVal, ofVals, applyUps, evResults, oneOrTup, alen, abin, abinInt, abinStr, aun, aindex, aslice, optInt, aextract, anilCheck, aconvert, aindexAddr, afieldAddr, afield, aload, ldAt, isConstO, aeq, EndsIn, hl, g1, g8, g10, g11, g13, g101, g99, g100, hi, hi', sz5, ag5, Tryz.underlying139, hb, e95, hd1, hd2, w1, w2, d9, nc, w3, w4, w5, w6, l1, l2, w7]
  refine hQ _ ?_ ?_ ?_ ?_ ?_ ?_ ?_ ?_ ?_ ?_ <;> simp [hl, g1, g8, g10, g11, g99, g100]
theorem pu_cut (O : Orc) (s : List UInt8) (i n : Nat) (b : UInt8) (t : List AV) (H : AH) (N : Nat) (hl : t.length = 172) (h1 : t[1]? = some (.int .i64 10)) (h8 : t[8]? = some (.bool false)) (h10 : t[10]? = some (.int .u64 1844674407370955162))
    (h11 : t[11]? = some (.int .u64 18446744073709551615)) (h13 : t[13]? = some (.int .u64 n)) (h101 : t[101]? = some (.int .i64 i)) (h99 : t[99]? = some (.slice .unk 1 s.length (strCells s))) (h100 : t[100]? = some (.int .i64 s.length))
    (hi : i < s.length) (hb : (strCells s)[i]? = some (.int .u8 (b.toNat : Int))) (hd1 : (48 : Int) ≤ (b.toNat : Int)) (hd2 : (b.toNat : Int) ≤ 57) (hn : ¬ (n : Int) < 1844674407370955162)
    (Q : AEx → List AV → AH → Prop) (hQ : ∀ t' : List AV, t'.length = 172 → t'[6]? = some (.int .u64 18446744073709551615) → t'[7]? = some (.iface 323 (.int .i64 1)) → Q .ret t' H) :
    EndsIn (evCode O Tryz.prog envT N L55 t H) Q := by
  have hi' : (i : Int) < s.length := by omega
  have e95 : ((b.toNat : Int) == 95) = false := by simp only [beq_eq_false_iff_ne]; omega
  have w1 : IntKind.u8.wrap ((b.toNat : Int) - 48) = ((b.toNat - 48 : Nat) : Int) := by simp [IntKind.wrap, IntKind.bits, IntKind.signed]; omega
  have w2 : IntKind.u8.wrap 10 = 10 := by decide
  have d9 : ¬ ((10 : Int) ≤ ((b.toNat - 48 : Nat) : Int)) := by omega
  have nc : (1844674407370955162 : Int) ≤ (n : Int) := by omega
  obtain ⟨_, g1⟩ := List.getElem?_eq_some_iff.1 h1
  obtain ⟨_, g8⟩ := List.getElem?_eq_some_iff.1 h8
  obtain ⟨_, g10⟩ := List.getElem?_eq_some_iff.1 h10
  obtain ⟨_, g11⟩ := List.getElem?_eq_some_iff.1 h11
  obtain ⟨_, g13⟩ := List.getElem?_eq_some_iff.1 h13
  obtain ⟨_, g101⟩ := List.getElem?_eq_some_iff.1 h101
  obtain ⟨_, g99⟩ := List.getElem?_eq_some_iff.1 h99
  obtain ⟨_, g100⟩ := List.getElem?_eq_some_iff.1 h100
  simp [L55, t55, bodyOf, Tryz.f204, inC, fstC, sndC, evFunc, evCode, evRegion, withIds, needsId, idCount, grow, evOps, wantedA, stepO, callee, aop, putT, aeval, ofValC, ofVal, ofVals, applyUps, evResults, oneOrTup, alen, abin, abinInt, abinStr, aun, aindex, aslice, optInt, aextract, anilCheck, aconvert, aindexAddr, afieldAddr, afield, aload, ldAt, isConstO, aeq, EndsIn, hl, g1, g8, g10, g11, g13, g101, g99, g100, hi, hi', sz5, ag5, Tryz.underlying139, Tryz.underlying323, hb, e95, hd1, hd2, w1, w2, d9, nc]
  refine hQ _ ?_ ?_ ?_ <;> simp [hl]
theorem pu_over (O : Orc) (s : List UInt8) (i n : Nat) (b : UInt8) (t : List AV) (H : AH) (N : Nat) (hl : t.length = 172) (h1 : t[1]? = some (.int .i64 10)) (h8 : t[8]? = some (.bool false)) (h10 : t[10]? = some (.int .u64 1844674407370955162))
    (h11 : t[11]? = some (.int .u64 18446744073709551615)) (h13 : t[13]? = some (.int .u64 n)) (h101 : t[101]? = some (.int .i64 i)) (h99 : t[99]? = some (.slice .unk 1 s.length (strCells s))) (h100 : t[100]? = some (.int .i64 s.length))
    (hi : i < s.length) (hb : (strCells s)[i]? = some (.int .u8 (b.toNat : Int))) (hd1 : (48 : Int) ≤ (b.toNat : Int)) (hd2 : (b.toNat : Int) ≤ 57) (hn : (n : Int) < 1844674407370955162) (hm : ¬ 10 * n + (b.toNat - 48) < 18446744073709551616)
    (Q : AEx → List AV → AH → Prop) (hQ : ∀ t' : List AV, t'.length = 172 → t'[6]? = some (.int .u64 18446744073709551615) → t'[7]? = some (.iface 323 (.int .i64 1)) → Q .ret t' H) :
    EndsIn (evCode O Tryz.prog envT N L55 t H) Q := by
  have hi' : (i : Int) < s.length := by omega
  have e95 : ((b.toNat : Int) == 95) = false := by simp only [beq_eq_false_iff_ne]; omega
  have w1 : IntKind.u8.wrap ((b.toNat : Int) - 48) = ((b.toNat - 48 : Nat) : Int) := by simp [IntKind.wrap, IntKind.bits, IntKind.signed]; omega
  have w2 : IntKind.u8.wrap 10 = 10 := by decide
  have d9 : ¬ ((10 : Int) ≤ ((b.toNat - 48 : Nat) : Int)) := by omega
  have nc : ¬ ((1844674407370955162 : Int) ≤ (n : Int)) := by omega
  have w3 : IntKind.u64.wrap 10 = 10 := by decide
  have w4 : IntKind.u64.wrap ((n : Int) * 10) = 10 * (n : Int) := by simp [IntKind.wrap, IntKind.bits, IntKind.signed]; omega
  have w5 : IntKind.u64.wrap ((b.toNat - 48 : Nat) : Int) = ((b.toNat - 48 : Nat) : Int) := by simp [IntKind.wrap, IntKind.bits, IntKind.signed]; omega
  have w6 : IntKind.u64.wrap (10 * (n : Int) + ((b.toNat - 48 : Nat) : Int)) = 10 * (n : Int) + ((b.toNat - 48 : Nat) : Int) - 18446744073709551616 := by simp [IntKind.wrap, IntKind.bits, IntKind.signed]; omega
  have l1 : 10 * (n : Int) + ((b.toNat - 48 : Nat) : Int) - 18446744073709551616 < 10 * (n : Int) := by omega
  obtain ⟨_, g1⟩ := List.getElem?_eq_some_iff.1 h1
  obtain ⟨_, g8⟩ := List.getElem?_eq_some_iff.1 h8
  obtain ⟨_, g10⟩ := List.getElem?_eq_some_iff.1 h10
  obtain ⟨_, g11⟩ := List.getElem?_eq_some_iff.1 h11
  obtain ⟨_, g13⟩ := List.getElem?_eq_some_iff.1 h13
  obtain ⟨_, g101⟩ := List.getElem?_eq_some_iff.1 h101
  obtain ⟨_, g99⟩ := List.getElem?_eq_some_iff.1 h99
  obtain ⟨_, g100⟩ := List.getElem?_eq_some_iff.1 h100
  simp [L55, t55, bodyOf, Tryz.f204, inC, fstC, sndC, evFunc, evCode, evRegion, withIds, needsId, idCount, grow, evOps, wantedA, stepO, callee, aop, putT, aeval, ofValC, ofVal, ofVals, applyUps, evResults, oneOrTup, alen, abin, abinInt, abinStr, aun, aindex, aslice, optInt, aextract, anilCheck, aconvert, aindexAddr, afieldAddr, afield, aload, ldAt, isConstO, aeq, EndsIn, hl, g1, g8, g10, g11, g13, g101, g99, g100, hi, hi', sz5, ag5, Tryz.underlying139, Tryz.underlying323, hb, e95, hd1, hd2, w1, w2, d9, nc, w3, w4, w5, w6, l1]
  refine hQ _ ?_ ?_ ?_ <;> simp [hl]
theorem pu_stop (O : Orc) (s : List UInt8) (t : List AV) (H : AH) (N : Nat) (hl : t.length = 172) (h101 : t[101]? = some (.int .i64 s.length)) (h100 : t[100]? = some (.int .i64 s.length))
    (Q : AEx → List AV → AH → Prop) (hQ : Q (.exit 3) (t.set 102 (.bool false)) H) : EndsIn (evCode O Tryz.prog envT N L55 t H) Q := by
  obtain ⟨_, g101⟩ := List.getElem?_eq_some_iff.1 h101
  obtain ⟨_, g100⟩ := List.getElem?_eq_some_iff.1 h100
  simp [L55, t55, bodyOf, Tryz.f204, inC, fstC, sndC, evFunc, evCode, evRegion, withIds, needsId, idCount, grow, evOps, wantedA, stepO, callee, aop, putT, aeval, ofValC, ofVal, ofVals, applyUps, evResults, oneOrTup, alen, abin, abinInt, abinStr, aun, aindex, aslice, optInt, aextract, anilCheck, aconvert, aindexAddr, afieldAddr, afield, aload, ldAt, isConstO, aeq, EndsIn, hl, g101, g100]
  exact hQ
theorem pu_pre (O : Orc) (s : List UInt8) (t : List AV) (H : AH) (N : Nat) (hl : t.length = 172) (h0 : t[0]? = some (.str s)) (h1 : t[1]? = some (.int .i64 10)) (h2 : t[2]? = some (.int .i64 64)) (hne : s ≠ [])
    (Q : AEx → List AV → AH → Prop) (hQ : ∀ t' : List AV, t'.length = 172 → t'[0]? = some (.str s) → t'[1]? = some (.int .i64 10) → t'[8]? = some (.bool false) → t'[10]? = some (.int .u64 1844674407370955162) → t'[11]? = some (.int .u64 18446744073709551615) →
      t'[12]? = some (.bool false) → t'[13]? = some (.int .u64 0) → Q .normal t' H) :
    EndsIn (evCode O Tryz.prog envT N (headC 11 (bodyOf Tryz.f204)) t H) Q := by
  obtain ⟨_, g0⟩ := List.getElem?_eq_some_iff.1 h0
  obtain ⟨_, g1⟩ := List.getElem?_eq_some_iff.1 h1
  obtain ⟨_, g2⟩ := List.getElem?_eq_some_iff.1 h2
  have hn : (s == []) = false := by cases s <;> simp_all
  have w1 : IntKind.u64.wrap (18446744073709551616) = 0 := by decide
  have w2 : IntKind.u64.wrap (-1) = 18446744073709551615 := by decide
  have w3 : IntKind.u64.wrap 64 = 64 := by decide
  have w4 : IntKind.u64.bits = 64 := rfl
  simp [bodyOf, Tryz.f204, headC, evFunc, evCode, evRegion, withIds, needsId, idCount, grow, evOps, wantedA, stepO, callee, aop, putT, aeval, ofValC, ofVal, ofVals, applyUps, evResults, oneOrTup, alen, abin, abinInt, abinStr, aun, aindex, aslice, optInt, aextract, anilCheck, aconvert, aindexAddr, afieldAddr, afield, aload, ldAt, isConstO, aeq, EndsIn, hl, g0, g1, g2, hn, hne, Tryz.underlying3, Tryz.underlying96, w1, w2, w3, w4]
  refine hQ _ ?_ ?_ ?_ ?_ ?_ ?_ ?_ ?_ <;> simp [hl, g0, g1]
def allDigits (s : List UInt8) : Prop := ∀ b ∈ s, 48 ≤ b.toNat ∧ b.toNat ≤ 57
theorem numOf_snoc (s : List UInt8) (b : UInt8) : numOf (s ++ [b]) = 10 * numOf s + (b.toNat - 48) := by simp [numOf]
theorem numOf_mono (s r : List UInt8) : numOf s ≤ numOf (s ++ r) := by
  induction r generalizing s with
  | nil => simp
  | cons b r ih =>
    have h1 := ih (s ++ [b])
    rw [List.append_assoc] at h1
    have h2 := numOf_snoc s b
    simp only [List.singleton_append] at h1
    omega
def PuI (s : List UInt8) (H : AH) (k : Nat) (t : List AV) (H' : AH) : Prop :=
  H' = H ∧ t.length = 172 ∧ t[1]? = some (.int .i64 10) ∧ t[8]? = some (.bool false) ∧ t[10]? = some (.int .u64 1844674407370955162) ∧ t[11]? = some (.int .u64 18446744073709551615) ∧ t[12]? = some (.bool false) ∧
    t[99]? = some (.slice .unk 1 s.length (strCells s)) ∧ t[100]? = some (.int .i64 s.length) ∧
    ∃ i, i + k = s.length ∧ t[101]? = some (.int .i64 i) ∧ t[13]? = some (.int .u64 (numOf (s.take i))) ∧ numOf (s.take i) < 18446744073709551616
theorem pu_loop (O : Orc) (s : List UInt8) (hd : allDigits s) (hs : s.length < 9223372036854775807) (N : Nat) (H : AH) (Q : AEx → List AV → AH → Prop)
    (hQ1 : ∀ t', t'.length = 172 → t'[12]? = some (.bool false) → t'[13]? = some (.int .u64 (numOf s)) → numOf s < 18446744073709551616 → Q (.exit 3) t' H)
    (hQ2 : ∀ t', t'.length = 172 → t'[6]? = some (.int .u64 18446744073709551615) → t'[7]? = some (.iface 323 (.int .i64 1)) → ¬ numOf s < 18446744073709551616 → Q .ret t' H) (k : Nat) (t : List AV) (hk : k < N) (hI : PuI s H k t H) :
    EndsIn (iter (evCode O Tryz.prog envT N L55) N t H) Q := by
  refine EndsIn.iter (PuI s H) (fun k t H' hI => ?_) N k hk hI
  obtain ⟨rfl, hl, h1, h8, h10, h11, h12, h99, h100, i, hik, h101, h13, hn⟩ := hI
  cases k with
  | zero =>
    obtain rfl : i = s.length := by omega
    rw [List.take_length] at h13 hn
    refine pu_stop O s t H' N hl h101 h100 _ ?_
    refine hQ1 _ (by simp [hl]) ?_ ?_ hn
    · rw [List.getElem?_set_ne (by omega)]; exact h12
    · rw [List.getElem?_set_ne (by omega)]; exact h13
  | succ k =>
    have hi : i < s.length := by omega
    have hb : (strCells s)[i]? = some (.int .u8 (s[i].toNat : Int)) := by simp [strCells, hi]
    obtain ⟨d1, d2⟩ := hd s[i] (List.getElem_mem hi)
    have htk : s.take (i + 1) = s.take i ++ [s[i]] := by rw [List.take_add_one, List.getElem?_eq_getElem hi]; rfl
    have hval : numOf (s.take (i + 1)) = 10 * numOf (s.take i) + (s[i].toNat - 48) := by rw [htk, numOf_snoc]
    have hle : numOf (s.take (i + 1)) ≤ numOf s := by
      have := numOf_mono (s.take (i + 1)) (s.drop (i + 1))
      rwa [List.take_append_drop] at this
    by_cases hc : (numOf (s.take i) : Int) < 1844674407370955162
    · by_cases hm : 10 * numOf (s.take i) + (s[i].toNat - 48) < 18446744073709551616
      · refine pu_more O s i _ s[i] t H' N hl h1 h8 h10 h11 h13 h101 h99 h100 hi hs hb (by omega) (by omega) hc hm _ ?_
        intro t' a b c d e f g h j l
        refine ⟨k, by omega, rfl, a, b, c, d, e, f.trans h12, j, l, i + 1, by omega, h, ?_, ?_⟩
        · rw [hval]; exact g
        · rw [hval]; exact hm
      · refine pu_over O s i _ s[i] t H' N hl h1 h8 h10 h11 h13 h101 h99 h100 hi hb (by omega) (by omega) hc hm _ ?_
        intro t' a b c
        exact hQ2 t' a b c (by omega)
    · refine pu_cut O s i _ s[i] t H' N hl h1 h8 h10 h11 h13 h101 h99 h100 hi hb (by omega) (by omega) hc _ ?_
      intro t' a b c
      exact hQ2 t' a b c (by omega)
end Go.Proofs.YtejjlojfgcgopaaGreatDoor
namespace Go.Proofs.YtejjlojfgcgopaaGreatDoor
open Go.RowKit Go.Proofs.Fw
set_option maxRecDepth 100000
set_option maxHeartbeats 4000000
theorem pu_35 (O : Orc) (s : List UInt8) (t : List AV) (H : AH) (N : Nat) (hl : t.length = 172) (h0 : t[0]? = some (.str s)) (hs : s.length < 9223372036854775807)
    (Q : AEx → List AV → AH → Prop) (hQ : ∀ t' : List AV, t'.length = 172 → (∀ k, k < 98 → t'[k]? = t[k]?) → t'[99]? = some (.slice .unk 1 s.length (strCells s)) → t'[100]? = some (.int .i64 s.length) → t'[101]? = some (.int .i64 0) → Q .normal t' H) :
    EndsIn (evCode O Tryz.prog envT N (fstC (fstC t55)) t H) Q := by
  obtain ⟨_, g0⟩ := List.getElem?_eq_some_iff.1 h0
  have hs' : s.length ≤ 9223372036854775807 := by omega
  simp [t55, bodyOf, Tryz.f204, fstC, sndC, evFunc, evCode, evRegion, withIds, needsId, idCount, grow, evOps, wantedA, stepO, callee, aop, putT, aeval, ofValC, ofVal, ofVals, applyUps, evResults, oneOrTup, alen, abin, abinInt, abinStr, aun, aindex, aslice, optInt, aextract, anilCheck, aconvert, aindexAddr, afieldAddr, afield, aload, ldAt, isConstO, aeq, EndsIn, hl, g0, hs', Tryz.underlying9, Tryz.underlying139, Tryz.underlying5]
  refine hQ _ ?_ ?_ ?_ ?_ ?_
  · simp [hl]
  · intro k hk
    simp only [List.getElem?_set]
    repeat rw [if_neg (by omega)]
  · simp [hl]
  · simp [hl]
  · simp [hl]
theorem pu_end (O : Orc) (t : List AV) (H : AH) (N : Nat) (m : Int) (hl : t.length = 172) (h12 : t[12]? = some (.bool false)) (h13 : t[13]? = some (.int .u64 m))
    (Q : AEx → List AV → AH → Prop) (hQ : ∀ t' : List AV, t'.length = 172 → t'[6]? = some (.int .u64 m) → t'[7]? = some .nilIface → Q .ret t' H) :
    EndsIn (evCode O Tryz.prog envT N (sndC t55) t H) Q := by
  obtain ⟨_, g12⟩ := List.getElem?_eq_some_iff.1 h12
  obtain ⟨_, g13⟩ := List.getElem?_eq_some_iff.1 h13
  simp [t55, bodyOf, Tryz.f204, fstC, sndC, evFunc, evCode, evRegion, withIds, needsId, idCount, grow, evOps, wantedA, stepO, callee, aop, putT, aeval, ofValC, ofVal, ofVals, applyUps, evResults, oneOrTup, alen, abin, abinInt, abinStr, aun, aindex, aslice, optInt, aextract, anilCheck, aconvert, aindexAddr, afieldAddr, afield, aload, ldAt, isConstO, aeq, EndsIn, hl, g12, g13]
  refine hQ _ ?_ ?_ ?_ <;> simp [hl]
theorem tail55 : tailC 11 (bodyOf Tryz.f204) = t55 := by kernel_rfl
theorem fin55 (t : List AV) (H : AH) (x y : AV) (h6 : t[6]? = some x) (h7 : t[7]? = some y) : fin Tryz.prog Tryz.f204 (some (.ret, t, H)) = some (.tup [x, y], H) := by
  simp [fin, Tryz.f204, evResults, h6, h7, oneOrTup]
def puRes (s : List UInt8) : AV := if numOf s < 18446744073709551616 then .tup [.int .u64 (numOf s), .nilIface] else .tup [.int .u64 18446744073709551615, .iface 323 (.int .i64 1)]
theorem pu_ev (O : Orc) (s : List UInt8) (hne : s ≠ []) (hd : allDigits s) (hs : s.length < 9223372036854775807) (H : AH) :
    evFunc O Tryz.prog envT (s.length + 1) 204 [.str s, .int .i64 10, .int .i64 64] H = some (puRes s, H) := by
  refine evFunc_of (c := bodyOf Tryz.f204) Tryz.func204 (by kernel_rfl) ?_
  refine EndsIn.split 11 _ ?_
  refine pu_pre O s _ H _ (by simp [Tryz.f204]) (by rfl) (by rfl) (by rfl) hne _ ?_
  intro t hl h0 h1 h8 h10 h11 h12 h13
  show EndsIn (evCode O Tryz.prog envT (s.length + 1) (tailC 11 (bodyOf Tryz.f204)) t H) _
  rw [tail55]
  refine EndsIn.seq (A := fstC t55) (B := sndC t55) (by kernel_rfl) ?_
  refine EndsIn.seq (A := fstC (fstC t55)) (B := sndC (fstC t55)) (by kernel_rfl) ?_
  refine pu_35 O s t H _ hl h0 hs _ ?_
  intro t2 hl2 hk h99 h100 h101
  show EndsIn (evCode O Tryz.prog envT (s.length + 1) (sndC (fstC t55)) t2 H) _
  refine EndsIn.block (A := .loop L55) (id := 3) (by kernel_rfl) ?_
  simp only [evCode]
  refine pu_loop O s hd hs _ H _ ?_ ?_ s.length t2 (by omega) ⟨rfl, hl2, (hk 1 (by omega)).trans h1, (hk 8 (by omega)).trans h8, (hk 10 (by omega)).trans h10, (hk 11 (by omega)).trans h11, (hk 12 (by omega)).trans h12, h99, h100, 0, by omega, h101, (hk 13 (by omega)).trans h13, by simp [numOf]⟩
  · intro t3 hl3 k12 k13 hn
    show EndsIn (evCode O Tryz.prog envT (s.length + 1) (sndC t55) t3 H) _
    refine pu_end O t3 H _ _ hl3 k12 k13 _ ?_
    intro t4 hl4 k6 k7
    show fin Tryz.prog Tryz.f204 (some (.ret, t4, H)) = some (puRes s, H)
    rw [fin55 t4 H _ _ k6 k7, puRes, if_pos hn]
  · intro t3 hl3 k6 k7 hn
    show fin Tryz.prog Tryz.f204 (some (.ret, t3, H)) = some (puRes s, H)
    rw [fin55 t3 H _ _ k6 k7, puRes, if_neg hn]
end Go.Proofs.YtejjlojfgcgopaaGreatDoor
namespace Go.Proofs.YtejjlojfgcgopaaGreatDoor
open Go.RowKit Go.Proofs.Fw
set_option maxRecDepth 100000
set_option maxHeartbeats 4000000
def piRes (s : List UInt8) : AV := if numOf s < 9223372036854775808 then .tup [.int .i64 (numOf s), .nilIface] else .tup [.int .i64 9223372036854775807, .iface 323 (.int .i64 1)]
theorem go55 : goFn Tryz.prog 204 = true := by kernel_rfl
theorem cmp117 : (Tryz.prog.info? 323).map (·.comparable) = some true := by kernel_rfl
theorem pi_small (O : Orc) (c : UInt8) (r : List UInt8) (t : List AV) (H : AH) (N : Nat) (hl : t.length = 73) (h0 : t[0]? = some (.str (c :: r))) (h1 : t[1]? = some (.int .i64 10)) (h2 : t[2]? = some (.int .i64 64)) (hd : 48 ≤ c.toNat)
    (hn : numOf (c :: r) < 9223372036854775808) (ho : O 204 [.str (c :: r), .int .i64 10, .int .i64 64] H = some (.tup [.int .u64 (numOf (c :: r)), .nilIface], H))
    (Q : AEx → List AV → AH → Prop) (hQ : ∀ t' : List AV, t'.length = 73 → t'[6]? = some (.int .i64 (numOf (c :: r))) → t'[7]? = some .nilIface → Q .ret t' H) :
    EndsIn (evCode O Tryz.prog envT N (bodyOf Tryz.f175) t H) Q := by
  obtain ⟨_, g0⟩ := List.getElem?_eq_some_iff.1 h0
  obtain ⟨_, g1⟩ := List.getElem?_eq_some_iff.1 h1
  obtain ⟨_, g2⟩ := List.getElem?_eq_some_iff.1 h2
  generalize numOf (c :: r) = m at hn ho hQ
  have e43 : ((c.toNat : Int) == 43) = false := by simp only [beq_eq_false_iff_ne]; omega
  have e45 : ((c.toNat : Int) == 45) = false := by simp only [beq_eq_false_iff_ne]; omega
  have w1 : IntKind.i64.wrap 63 = 63 := by decide
  have w2 : IntKind.u64.wrap 63 = 63 := by decide
  have w3 : IntKind.u64.wrap 9223372036854775808 = 9223372036854775808 := by decide
  have w4 : IntKind.u64.bits = 64 := rfl
  have l1 : ¬ ((9223372036854775808 : Int) ≤ (m : Int)) := by omega
  have w5 : IntKind.i64.wrap (m : Int) = (m : Int) := wrap_i64 (by omega) (by omega)
  simp [bodyOf, Tryz.f175, evFunc, evCode, evRegion, withIds, needsId, idCount, grow, evOps, wantedA, stepO, callee, aop, putT, aeval, ofValC, ofVal, ofVals, applyUps, evResults, oneOrTup, alen, abin, abinInt, abinStr, aun, aindex, aslice, optInt, aextract, anilCheck, aconvert, aindexAddr, afieldAddr, afield, aload, ldAt, isConstO, aeq, EndsIn, hl, g0, g1, g2, e43, e45, go55, ho, w1, w2, w3, w4, w5, l1, Tryz.underlying33, Tryz.underlying96, Tryz.underlying203, Tryz.underlying2, Tryz.underlying3, Tryz.underlying323]
  refine hQ _ ?_ ?_ ?_ <;> simp [hl]
theorem pi_big (O : Orc) (c : UInt8) (r : List UInt8) (t : List AV) (H : AH) (N : Nat) (hl : t.length = 73) (h0 : t[0]? = some (.str (c :: r))) (h1 : t[1]? = some (.int .i64 10)) (h2 : t[2]? = some (.int .i64 64)) (hd : 48 ≤ c.toNat)
    (u : Int) (e : AV) (hu : 9223372036854775808 ≤ u) (he : e = .nilIface ∨ e = .iface 323 (.int .i64 1)) (ho : O 204 [.str (c :: r), .int .i64 10, .int .i64 64] H = some (.tup [.int .u64 u, e], H))
    (Q : AEx → List AV → AH → Prop) (hQ : ∀ t' : List AV, t'.length = 73 → t'[6]? = some (.int .i64 9223372036854775807) → t'[7]? = some (.iface 323 (.int .i64 1)) → Q .ret t' H) :
    EndsIn (evCode O Tryz.prog envT N (bodyOf Tryz.f175) t H) Q := by
  obtain ⟨_, g0⟩ := List.getElem?_eq_some_iff.1 h0
  obtain ⟨_, g1⟩ := List.getElem?_eq_some_iff.1 h1
  obtain ⟨_, g2⟩ := List.getElem?_eq_some_iff.1 h2
  obtain ⟨j, hj, hcmp⟩ := Option.map_eq_some_iff.1 cmp117
  have e43 : ((c.toNat : Int) == 43) = false := by simp only [beq_eq_false_iff_ne]; omega
  have e45 : ((c.toNat : Int) == 45) = false := by simp only [beq_eq_false_iff_ne]; omega
  have w1 : IntKind.i64.wrap 63 = 63 := by decide
  have w2 : IntKind.u64.wrap 63 = 63 := by decide
  have w3 : IntKind.u64.wrap 9223372036854775808 = 9223372036854775808 := by decide
  have w4 : IntKind.u64.bits = 64 := rfl
  have w5 : IntKind.u64.wrap 9223372036854775807 = 9223372036854775807 := by decide
  have w6 : IntKind.i64.wrap 9223372036854775807 = 9223372036854775807 := by decide
  rcases he with rfl | rfl
  · simp [bodyOf, Tryz.f175, evFunc, evCode, evRegion, withIds, needsId, idCount, grow, evOps, wantedA, stepO, callee, aop, putT, aeval, ofValC, ofVal, ofVals, applyUps, evResults, oneOrTup, alen, abin, abinInt, abinStr, aun, aindex, aslice, optInt, aextract, anilCheck, aconvert, aindexAddr, afieldAddr, afield, aload, ldAt, isConstO, aeq, EndsIn, hl, g0, g1, g2, e43, e45, go55, ho, w1, w2, w3, w4, w5, w6, hu, Tryz.underlying33, Tryz.underlying96, Tryz.underlying203, Tryz.underlying2, Tryz.underlying3, Tryz.underlying323]
    refine hQ _ ?_ ?_ ?_ <;> simp [hl]
  · simp [bodyOf, Tryz.f175, evFunc, evCode, evRegion, withIds, needsId, idCount, grow, evOps, wantedA, stepO, callee, aop, putT, aeval, ofValC, ofVal, ofVals, applyUps, evResults, oneOrTup, alen, abin, abinInt, abinStr, aun, aindex, aslice, optInt, aextract, anilCheck, aconvert, aindexAddr, afieldAddr, afield, aload, ldAt, isConstO, aeq, EndsIn, hl, g0, g1, g2, e43, e45, go55, ho, w1, w2, w3, w4, w5, w6, hu, hj, hcmp, Tryz.underlying33, Tryz.underlying96, Tryz.underlying203, Tryz.underlying2, Tryz.underlying3, Tryz.underlying323]
    refine hQ _ ?_ ?_ ?_ <;> simp [hl]
theorem fin48 (t : List AV) (H : AH) (x y : AV) (h6 : t[6]? = some x) (h7 : t[7]? = some y) : fin Tryz.prog Tryz.f175 (some (.ret, t, H)) = some (.tup [x, y], H) := by
  simp [fin, Tryz.f175, evResults, h6, h7, oneOrTup]
theorem pi_ev (O : Orc) (s : List UInt8) (hne : s ≠ []) (hd : allDigits s) (H : AH) (ho : O 204 [.str s, .int .i64 10, .int .i64 64] H = some (puRes s, H)) :
    evFunc O Tryz.prog envT 1 175 [.str s, .int .i64 10, .int .i64 64] H = some (piRes s, H) := by
  obtain ⟨c, r, rfl⟩ := List.exists_cons_of_ne_nil hne
  have hc := (hd c (by simp)).1
  refine evFunc_of (c := bodyOf Tryz.f175) Tryz.func175 (by kernel_rfl) ?_
  unfold puRes at ho
  by_cases h1 : numOf (c :: r) < 9223372036854775808
  · rw [if_pos (by omega)] at ho
    refine pi_small O c r _ H _ (by simp [Tryz.f175]) (by rfl) (by rfl) (by rfl) hc h1 ho _ ?_
    intro t hl k6 k7
    show fin Tryz.prog Tryz.f175 (some (.ret, t, H)) = some (piRes (c :: r), H)
    rw [fin48 t H _ _ k6 k7, piRes, if_pos h1]
  · have fin2 : ∀ t : List AV, t.length = 73 → t[6]? = some (.int .i64 9223372036854775807) → t[7]? = some (.iface 323 (.int .i64 1)) → fin Tryz.prog Tryz.f175 (some (.ret, t, H)) = some (piRes (c :: r), H) := by
      intro t hl k6 k7
      rw [fin48 t H _ _ k6 k7, piRes, if_neg h1]
    by_cases h2 : numOf (c :: r) < 18446744073709551616
    · rw [if_pos h2] at ho
      exact pi_big O c r _ H _ (by simp [Tryz.f175]) (by rfl) (by rfl) (by rfl) hc _ _ (by omega) (.inl rfl) ho _ fin2
    · rw [if_neg h2] at ho
      exact pi_big O c r _ H _ (by simp [Tryz.f175]) (by rfl) (by rfl) (by rfl) hc _ _ (by omega) (.inr rfl) ho _ fin2
end Go.Proofs.YtejjlojfgcgopaaGreatDoor
namespace Go.Proofs.YtejjlojfgcgopaaGreatDoor
open Go.RowKit Go.Proofs.Fw
set_option maxRecDepth 100000
set_option maxHeartbeats 4000000
def tokAV (k : Int) (s : List UInt8) (a n : Int) : AV := .agg [.int .i64 k, .str s, .int .i64 a, .int .i64 n]
theorem z40 : zeroAV Tryz.prog 192 = some (.agg [.int .i64 0, .str [], .int .i64 0, .int .i64 0]) := by kernel_rfl
theorem build40 (k : IntKind) (m : Int) (s : List UInt8) : abuild Tryz.prog 192 [(0, .int k m), (1, .str s)] = some (.agg [.int k m, .str s, .int .i64 0, .int .i64 0]) := by kernel_rfl
theorem build40n : abuild Tryz.prog 192 [] = some (.agg [.int .i64 0, .str [], .int .i64 0, .int .i64 0]) := by kernel_rfl
theorem sz40 : szOf Tryz.prog 192 = some 4 := by kernel_rfl
theorem ag40 : aggB Tryz.prog 192 = some true := by kernel_rfl
theorem sz3 : szOf Tryz.prog 3 = some 1 := by kernel_rfl
theorem ag3 : aggB Tryz.prog 3 = some false := by kernel_rfl
theorem sz2 : szOf Tryz.prog 2 = some 1 := by kernel_rfl
theorem ag2 : aggB Tryz.prog 2 = some false := by kernel_rfl
theorem fa40_0 (id : Nat) : afieldAddr Tryz.prog 192 (.ptr id 0) 0 = some (.ptr id 0) := by kernel_rfl
theorem fa40_1 (id : Nat) : afieldAddr Tryz.prog 192 (.ptr id 0) 1 = some (.ptr id 1) := by kernel_rfl
theorem fa40_2 (id : Nat) : afieldAddr Tryz.prog 192 (.ptr id 0) 2 = some (.ptr id 2) := by kernel_rfl
theorem fa40_3 (id : Nat) : afieldAddr Tryz.prog 192 (.ptr id 0) 3 = some (.ptr id 3) := by kernel_rfl
theorem word_name (O : Orc) (c : UInt8) (r : List UInt8) (key : Bool) (N : Nat) (h25 : ∀ H, O 88 [.int .u8 (c.toNat : Int)] H = some (.bool true, H))
    (h30 : ∀ H, O 131 [.str (c :: r), .func (.func 132) [] []] H = some (.int .i64 (frontLen isInner (c :: r)), H)) (h14 : ∀ H, O 133 [.str ((c :: r).take (frontLen isInner (c :: r)))] H = some (.bool key, H))
    (hlen : (frontLen isInner (c :: r) : Int) ≤ (r.length : Int) + 1) (hmin : min (frontLen isInner (c :: r)) (r.length + 1) = frontLen isInner (c :: r)) :
    ∃ H', evFunc O Tryz.prog envT N 87 [.str (c :: r)] [] = some (.tup [tokAV (if key then 4 else 1) ((c :: r).take (frontLen isInner (c :: r))) 0 0, .int .i64 (if frontLen isInner (c :: r) > 31 then 4 else 0)], H') := by
  generalize frontLen isInner (c :: r) = m at h30 h14 hlen hmin
  have g30 : goFn Tryz.prog 131 = true := goFn_all _ (by simp)
  have g14 : goFn Tryz.prog 133 = true := goFn_all _ (by simp)
  cases key
  · by_cases hm : m > 31
    · have hm' : (31 : Int) < (m : Int) := by omega
      simp [Tryz.func87, Tryz.f87, evFunc, evCode, evRegion, withIds, needsId, idCount, grow, evOps, wantedA, stepO, callee, aop, putT, aeval, ofValC, ofVal, ofVals, applyUps, evResults, oneOrTup, alen, abin, abinInt, abinStr, aun, aindex, aslice, optInt, aextract, anilCheck, aconvert, aindexAddr, afieldAddr, afield, aload, ldAt, isConstO, aeq, z40, build40, build40n, sz40, ag40, sz3, ag3, sz9, ag9, sz2, ag2, fa40_0, fa40_1, fa40_2, fa40_3, cellsAV, astore, putAt, AV.known, AV.one, AH.at, h25, h30, h14, go25, g30, g14, hm, hm', hlen, hmin, tokAV]
    · have hm' : ¬ (31 : Int) < (m : Int) := by omega
      simp [Tryz.func87, Tryz.f87, evFunc, evCode, evRegion, withIds, needsId, idCount, grow, evOps, wantedA, stepO, callee, aop, putT, aeval, ofValC, ofVal, ofVals, applyUps, evResults, oneOrTup, alen, abin, abinInt, abinStr, aun, aindex, aslice, optInt, aextract, anilCheck, aconvert, aindexAddr, afieldAddr, afield, aload, ldAt, isConstO, aeq, z40, build40, build40n, sz40, ag40, sz3, ag3, sz9, ag9, sz2, ag2, fa40_0, fa40_1, fa40_2, fa40_3, cellsAV, astore, putAt, AV.known, AV.one, AH.at, h25, h30, h14, go25, g30, g14, hm, hm', hlen, hmin, tokAV]
  · by_cases hm : m > 31
    · have hm' : (31 : Int) < (m : Int) := by omega
      simp [Tryz.func87, Tryz.f87, evFunc, evCode, evRegion, withIds, needsId, idCount, grow, evOps, wantedA, stepO, callee, aop, putT, aeval, ofValC, ofVal, ofVals, applyUps, evResults, oneOrTup, alen, abin, abinInt, abinStr, aun, aindex, aslice, optInt, aextract, anilCheck, aconvert, aindexAddr, afieldAddr, afield, aload, ldAt, isConstO, aeq, z40, build40, build40n, sz40, ag40, sz3, ag3, sz9, ag9, sz2, ag2, fa40_0, fa40_1, fa40_2, fa40_3, cellsAV, astore, putAt, AV.known, AV.one, AH.at, h25, h30, h14, go25, g30, g14, hm, hm', hlen, hmin, tokAV]
    · have hm' : ¬ (31 : Int) < (m : Int) := by omega
      simp [Tryz.func87, Tryz.f87, evFunc, evCode, evRegion, withIds, needsId, idCount, grow, evOps, wantedA, stepO, callee, aop, putT, aeval, ofValC, ofVal, ofVals, applyUps, evResults, oneOrTup, alen, abin, abinInt, abinStr, aun, aindex, aslice, optInt, aextract, anilCheck, aconvert, aindexAddr, afieldAddr, afield, aload, ldAt, isConstO, aeq, z40, build40, build40n, sz40, ag40, sz3, ag3, sz9, ag9, sz2, ag2, fa40_0, fa40_1, fa40_2, fa40_3, cellsAV, astore, putAt, AV.known, AV.one, AH.at, h25, h30, h14, go25, g30, g14, hm, hm', hlen, hmin, tokAV]
theorem word_number (O : Orc) (c : UInt8) (r : List UInt8) (n : Int) (e : AV) (ov : Bool) (he : if ov then ∃ t v, e = .iface t v else e = .nilIface) (N : Nat) (h25 : ∀ H, O 88 [.int .u8 (c.toNat : Int)] H = some (.bool false, H)) (h34 : ∀ H, O 134 [.int .u8 (c.toNat : Int)] H = some (.bool true, H))
    (h30 : ∀ H, O 131 [.str (c :: r), .func (.func 134) [] []] H = some (.int .i64 (frontLen isDigit (c :: r)), H)) (h35 : ∀ H, O 135 [.str ((c :: r).take (frontLen isDigit (c :: r))), .int .i64 10, .int .i64 64] H = some (.tup [.int .i64 n, e], H))
    (hlen : (frontLen isDigit (c :: r) : Int) ≤ (r.length : Int) + 1) (hmin : min (frontLen isDigit (c :: r)) (r.length + 1) = frontLen isDigit (c :: r)) :
    ∃ H', evFunc O Tryz.prog envT N 87 [.str (c :: r)] [] = some (.tup [tokAV 2 ((c :: r).take (frontLen isDigit (c :: r))) 0 (if ov then 0 else n), .int .i64 (if ov then 5 else 0)], H') := by
  generalize frontLen isDigit (c :: r) = m at h30 h35 hlen hmin
  have g30 : goFn Tryz.prog 131 = true := goFn_all _ (by simp)
  have g35 : goFn Tryz.prog 135 = true := goFn_all _ (by simp)
  cases ov
  · simp only [Bool.false_eq_true, if_false] at he
    subst he
    simp [Tryz.func87, Tryz.f87, evFunc, evCode, evRegion, withIds, needsId, idCount, grow, evOps, wantedA, stepO, callee, aop, putT, aeval, ofValC, ofVal, ofVals, applyUps, evResults, oneOrTup, alen, abin, abinInt, abinStr, aun, aindex, aslice, optInt, aextract, anilCheck, aconvert, aindexAddr, afieldAddr, afield, aload, ldAt, isConstO, aeq, z40, build40, build40n, sz40, ag40, sz3, ag3, sz9, ag9, sz2, ag2, fa40_0, fa40_1, fa40_2, fa40_3, cellsAV, astore, putAt, AV.known, AV.one, AH.at, h25, h34, h30, h35, go25, go34, g30, g35, hlen, hmin, Tryz.underlying33, tokAV]
  · simp only [if_true] at he
    obtain ⟨te, ve, rfl⟩ := he
    simp [Tryz.func87, Tryz.f87, evFunc, evCode, evRegion, withIds, needsId, idCount, grow, evOps, wantedA, stepO, callee, aop, putT, aeval, ofValC, ofVal, ofVals, applyUps, evResults, oneOrTup, alen, abin, abinInt, abinStr, aun, aindex, aslice, optInt, aextract, anilCheck, aconvert, aindexAddr, afieldAddr, afield, aload, ldAt, isConstO, aeq, z40, build40, build40n, sz40, ag40, sz3, ag3, sz9, ag9, sz2, ag2, fa40_0, fa40_1, fa40_2, fa40_3, cellsAV, astore, putAt, AV.known, AV.one, AH.at, h25, h34, h30, h35, go25, go34, g30, g35, hlen, hmin, Tryz.underlying33, tokAV]
theorem word_sign (O : Orc) (c : UInt8) (r : List UInt8) (N : Nat) (h25 : ∀ H, O 88 [.int .u8 (c.toNat : Int)] H = some (.bool false, H)) (h34 : ∀ H, O 134 [.int .u8 (c.toNat : Int)] H = some (.bool false, H))
    (h36 : ∀ H, O 136 [.str (c :: r)] H = some (.int .i64 (signLen (c :: r)), H)) (hlen : (signLen (c :: r) : Int) ≤ (r.length : Int) + 1) :
    ∃ H', evFunc O Tryz.prog envT N 87 [.str (c :: r)] [] = some (if signLen (c :: r) = 0 then .tup [tokAV 0 [] 0 0, .int .i64 3] else .tup [tokAV 3 ((c :: r).take (signLen (c :: r))) 0 0, .int .i64 0], H') := by
  generalize signLen (c :: r) = m at h36 hlen
  have g36 : goFn Tryz.prog 136 = true := goFn_all _ (by simp)
  by_cases hm : m = 0
  · subst hm
    simp [Tryz.func87, Tryz.f87, evFunc, evCode, evRegion, withIds, needsId, idCount, grow, evOps, wantedA, stepO, callee, aop, putT, aeval, ofValC, ofVal, ofVals, applyUps, evResults, oneOrTup, alen, abin, abinInt, abinStr, aun, aindex, aslice, optInt, aextract, anilCheck, aconvert, aindexAddr, afieldAddr, afield, aload, ldAt, isConstO, aeq, z40, build40, build40n, sz40, ag40, sz3, ag3, sz9, ag9, sz2, ag2, fa40_0, fa40_1, fa40_2, fa40_3, cellsAV, astore, putAt, AV.known, AV.one, AH.at, h25, h34, h36, go25, go34, g36, hlen, tokAV]
  · have hm' : ((m : Int) == 0) = false := by simp only [beq_eq_false_iff_ne]; omega
    simp [Tryz.func87, Tryz.f87, evFunc, evCode, evRegion, withIds, needsId, idCount, grow, evOps, wantedA, stepO, callee, aop, putT, aeval, ofValC, ofVal, ofVals, applyUps, evResults, oneOrTup, alen, abin, abinInt, abinStr, aun, aindex, aslice, optInt, aextract, anilCheck, aconvert, aindexAddr, afieldAddr, afield, aload, ldAt, isConstO, aeq, z40, build40, build40n, sz40, ag40, sz3, ag3, sz9, ag9, sz2, ag2, fa40_0, fa40_1, fa40_2, fa40_3, cellsAV, astore, putAt, AV.known, AV.one, AH.at, h25, h34, h36, go25, go34, g36, hlen, hm, hm', tokAV]
end Go.Proofs.YtejjlojfgcgopaaGreatDoor
namespace Go.Proofs.YtejjlojfgcgopaaGreatDoor
open Go.RowKit Go.Proofs.Fw
set_option maxRecDepth 100000
set_option maxHeartbeats 4000000
theorem go48 : goFn Tryz.prog 175 = true := by kernel_rfl
end Go.Proofs.YtejjlojfgcgopaaGreatDoor
