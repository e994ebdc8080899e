/- internal/stringslite.Clone tells the same bytes (after the s .. The program's reader of expressions: its small methods. -/
import Derived.Test.YtejjlojfgcgopaaGreatDoorZ4
import Derived.Test.YtejjlojfgcgopaaGreatDoorZ9
import Derived.Test.YtejjlojfgcgopaaGreatDoorZ8
import Derived.Test.YtejjlojfgcgopaaGreatDoorZ3
import Derived.Test.YtejjlojfgcgopaaGreatDoorZ10
import Derived.Test.YtejjlojfgcgopaaGreatDoorZ7
import Derived.Test.YtejjlojfgcgopaaGreatDoorZ5
import Derived.Test.YtejjlojfgcgopaaGreatDoorChecked
import Derived.Lib.Strings
import Derived.Lib.Walk
import Derived.Lib.BufferWrite
import Derived.Lib.UnsafeStr
import Derived.Lib.Hide
import Derived.Laws.MakeOwn
import Derived.WalkKit
import Derived.KernelRfl
set_option linter.unusedSimpArgs false
set_option linter.unusedVariables false
namespace Go.Proofs.YtejjlojfgcgopaaGreatDoor
open Go.RowKit Go.Proofs.Fw
set_option maxHeartbeats 4000000 in
set_option maxRecDepth 100000 in
theorem clone_calls (s : ByteArray) (w : World) (hlim : s.size ≤ 281474976710656) :
    Calls Tryz.prog 221 #[.string s] w fun e w' => e = .returned (.string s) ∧ Below w.heap.size w w' := by
  have L37 : Tryz.prog.underlying 139 = some (.slice 5) := by kernel_rfl
  have L127 : Tryz.prog.underlying 306 = some (.pointer 5) := by kernel_rfl
  by_cases h0 : s.size = 0
  · have hs : s = ⟨#[]⟩ := by
      apply ByteArray.ext
      exact Array.eq_empty_of_size_eq_zero h0
    subst hs
    go_enter Tryz.func221, Tryz.ntmps221
    go_wp2
    go_ret
    exact ⟨rfl, Below.refl _ _⟩
  · have i5 : (Tryz.prog.info? 5).map (fun i => (i.zero, i.size, i.bytes)) = some (some (Value.int IntKind.u8 0), 1, 1) := by kernel_rfl
    obtain ⟨i0, hi, hz0, hz1, hz2⟩ := info_parts i5
    have hinfo : (Tryz.prog.info? 5).map (·.size) = some 1 := by rw [hi]; simp [hz1]
    have hco : Tryz.prog.cellsOf 5 = 1 := by simp [Program.cellsOf, hi, hz1]
    obtain ⟨M, hM⟩ : ∃ M, M = madeCells (Value.int .u8 0).cells (((s.size : Nat) : Int).toNat * i0.size) := ⟨_, rfl⟩
    have hMs : M.size = s.size := by rw [hM, size_madeCells, hz1]; simp
    have hmk : ∀ W : World, (Instr.makeSlice 139 (.int .i64 (s.size : Int)) (.int .i64 (s.size : Int))).run Tryz.prog W = .ok (.slice (some ⟨W.heap.size, 0, none⟩) s.size s.size) (W.alloc (.cells M 5)) := fun W => by
      have h := run_make (P := Tryz.prog) W 139 5 i0 (.int .u8 0) L37 hi hz0 .i64 .i64 (s.size : Int) (s.size : Int) (by omega) (by omega) (by rw [hz2]; omega) (by omega)
      rw [← hM] at h
      simpa using h
    clear hM
    have hcp := Lib.run_copy_row_string (P := Tryz.prog) (w.alloc (.cells M 5)) 139 9 3 5 w.heap.size 0 s.size s.size s M 5 L37 hinfo (heap_alloc_new w _) (Nat.le_refl _) (by omega)
    obtain ⟨Y, hY⟩ : ∃ Y, Y = (M.toList.take 0 ++ Lib.byteCells s.data.toList ++ M.toList.drop (0 + s.size)).toArray := ⟨_, rfl⟩
    rw [← hY] at hcp
    have hYl : Y.toList = Lib.byteCells s.data.toList := by
      rw [hY, List.toList_toArray, List.take_zero, List.nil_append, List.drop_of_length_le (by rw [Array.length_toList]; omega), List.append_nil]
    have hYs : Y.size = s.size := by rw [← Array.length_toList, hYl, Lib.byteCells_length, ← Lib.size_eq]
    have hgY : ((w.alloc (.cells M 5)).setRow w.heap.size Y).heap[w.heap.size]? = some (.cells Y 5 (0, 0)) := setRow_heap _ _ M _ 5 (0, 0) (heap_alloc_new w _)
    have hne : s.data.toList ≠ [] := fun e => h0 (by rw [Lib.size_eq, e]; rfl)
    have hUS := Lib.run_unsafeString_row (P := Tryz.prog) ((w.alloc (.cells M 5)).setRow w.heap.size Y) 306 3 9 5 L127 hco w.heap.size Y.size (by unfold World.shape?; rw [hgY]) s.data.toList hne (by rw [← Lib.size_eq]; omega) (by rw [← Lib.size_eq]; omega)
      (fun j x hx => Lib.cells_of_row hgY Y.size j _ (by rw [List.take_of_length_le (by rw [Array.length_toList]; exact Nat.le_refl _), hYl]; simp [Lib.byteCells, hx]))
    rw [← Lib.size_eq] at hUS
    clear hY
    go_enter Tryz.func221, Tryz.ntmps221
    go_wp2
    go_ret
    have hb1 : Below w.heap.size w (w.alloc (.cells M 5)) := (Below.refl _ w).alloc (Nat.le_refl _) _
    have hb2 : Below w.heap.size (w.alloc (.cells M 5)) ((w.alloc (.cells M 5)).setRow w.heap.size Y) := ⟨rfl, rfl, rfl, by simp, fun k hk => setRow_other _ _ _ _ (by omega)⟩
    exact ⟨rfl, Lib.below_freeze (hb1.trans hb2) (p := ⟨w.heap.size, 0, none⟩) (Nat.le_refl _) _⟩
theorem clone_cs (E : Env) (s : List UInt8) (H : AH) (hs : s.length ≤ 281474976710656) : CS Tryz.prog E 221 [.str s] H (.str s) H := by
  refine CS.of_below fun g w cargs hA => ?_
  simp only [RepL, RepV] at hA
  obtain ⟨_, _, rfl, rfl, rfl⟩ := hA
  refine (clone_calls ⟨s.toArray⟩ w (by simpa [ByteArray.size] using hs)).mono fun e w' => ?_
  rintro ⟨rfl, hb⟩
  exact ⟨_, rfl, fun g => by simp only [RepV], hb⟩
end Go.Proofs.YtejjlojfgcgopaaGreatDoor
namespace Go.Proofs.YtejjlojfgcgopaaGreatDoor
open Go.RowKit Go.Proofs.Fw
set_option maxRecDepth 100000
set_option maxHeartbeats 4000000
theorem eqErr (a b : Int) : aeq Tryz.prog 33 (.iface 323 (.int .i64 a)) (.iface 323 (.int .i64 b)) = some (a == b) := by kernel_rfl
theorem globRange : envT.glob 6 = rangeAV := rfl
theorem imm_T2 : envT.imm 341 = true := rfl
theorem buNum (a b : List UInt8) (t : TypeId) (v : AV) : abuild Tryz.prog 341 [(0, .str a), (1, .str b), (2, .iface t v)] = some (.agg [.str a, .str b, .iface t v]) := by kernel_rfl
def numErrAV (f s : List UInt8) : AV := .vptr [.str f, .str s, .iface 357 (.vptr [.str rangeTxt] 0)] 0
theorem range_cs (O : Orc) (X : Cx O Tryz.prog envT) (f s : List UInt8) (h64 : ∀ H, O 221 [.str s] H = some (.str s, H)) (H : AH) : CS Tryz.prog envT 206 [.str f, .str s] H (numErrAV f s) H :=
  (CS.of_Tr (H0 := []) (H1 := []) (c := bodyOf Tryz.f206) Tryz.func206 (by kernel_rfl) 0 (by simp [Tryz.f206]) (fun B hB hG => by
    refine Tr.run X hG (by kernel_rfl) ?_
    rw [Go_of]
    simp [Tryz.f206, h64, globRange, rangeAV, buNum, imm_T2, numErrAV]) rfl rfl).frame lowT rfl H
theorem toErr_cs (O : Orc) (X : Cx O Tryz.prog envT) (f s : List UInt8) (h57 : ∀ H, O 206 [.str f, .str s] H = some (numErrAV f s, H)) (H : AH) :
    CS Tryz.prog envT 176 [.str f, .str s, .int .i64 10, .int .i64 64, .iface 323 (.int .i64 1)] H (.iface 326 (numErrAV f s)) H :=
  (CS.of_Tr (H0 := []) (H1 := []) (c := bodyOf Tryz.f176) Tryz.func176 (by kernel_rfl) 0 (by simp [Tryz.f176]) (fun B hB hG => by
    refine Tr.run X hG (by kernel_rfl) ?_
    rw [Go_of]
    simp [Tryz.f176, h57, ↓eqErr, numErrAV]) rfl rfl).frame lowT rfl H
def parTxt : List UInt8 := [80, 97, 114, 115, 101, 73, 110, 116]
def parRes (s : List UInt8) : AV := if numOf s < 9223372036854775808 then .tup [.int .i64 (numOf s), .nilIface] else .tup [.int .i64 9223372036854775807, .iface 326 (numErrAV parTxt s)]
theorem par_cs (O : Orc) (X : Cx O Tryz.prog envT) (s : List UInt8) (h48 : ∀ H, O 175 [.str s, .int .i64 10, .int .i64 64] H = some (piRes s, H))
    (h49 : ∀ H, O 176 [.str parTxt, .str s, .int .i64 10, .int .i64 64, .iface 323 (.int .i64 1)] H = some (.iface 326 (numErrAV parTxt s), H)) (H : AH) :
    CS Tryz.prog envT 135 [.str s, .int .i64 10, .int .i64 64] H (parRes s) H := by
  refine CS.frame (CS.of_Tr (H0 := []) (H1 := []) (c := bodyOf Tryz.f135) Tryz.func135 (by kernel_rfl) 0 (by simp [Tryz.f135]) (fun B hB hG => ?_) ?_ rfl) lowT rfl H
  · refine Tr.run X hG (by kernel_rfl) ?_
    rw [Go_of]
    unfold piRes at h48
    unfold parRes
    unfold parTxt at h49 ⊢
    by_cases h : numOf s < 9223372036854775808
    · rw [if_pos h] at h48 ⊢
      simp [Tryz.f135, h48]
    · rw [if_neg h] at h48 ⊢
      simp [Tryz.f135, h48, h49, numErrAV]
  · unfold parRes
    split <;> rfl
end Go.Proofs.YtejjlojfgcgopaaGreatDoor
namespace Go.Proofs.YtejjlojfgcgopaaGreatDoor
open Go.RowKit Go.Proofs.Fw
set_option maxRecDepth 100000
set_option maxHeartbeats 4000000
def hasNl (s : List UInt8) : Bool := decide (1 ≤ s.length) && (s.drop (s.length - 1) == [10])
def cutNl (s : List UInt8) : List UInt8 := if hasNl s then s.take (s.length - 1) else s
theorem suffix_ev (O : Orc) (s : List UInt8) (N : Nat) (H : AH) (hs : s.length < 9223372036854775807) : evFunc O Tryz.prog envT N 171 [.str s, .str [10]] H = some (.bool (hasNl s), H) := by
  by_cases h : 1 ≤ s.length
  · have h1 : (1 : Int) ≤ (s.length : Int) := by omega
    have w : IntKind.i64.wrap ((s.length : Int) - 1) = ((s.length - 1 : Nat) : Int) := by
      rw [wrap_i64 (by omega) (by omega)]; omega
    have k1 : ((s.length - 1 : Nat) : Int) ≤ (s.length : Int) := by omega
    simp [Tryz.func171, Tryz.f171, evFunc, evCode, evRegion, withIds, needsId, idCount, grow, evOps, wantedA, stepO, callee, aop, putT, aeval, ofValC, ofVal, ofVals, applyUps, evResults, oneOrTup, alen, abin, abinInt, abinStr, aun, aindex, aslice, optInt, aextract, anilCheck, aconvert, aindexAddr, afieldAddr, afield, aload, ldAt, isConstO, aeq, hasNl, h, h1, w, k1, Tryz.underlying9]
  · have h1 : ¬ (1 : Int) ≤ (s.length : Int) := by omega
    simp [Tryz.func171, Tryz.f171, evFunc, evCode, evRegion, withIds, needsId, idCount, grow, evOps, wantedA, stepO, callee, aop, putT, aeval, ofValC, ofVal, ofVals, applyUps, evResults, oneOrTup, alen, abin, abinInt, abinStr, aun, aindex, aslice, optInt, aextract, anilCheck, aconvert, aindexAddr, afieldAddr, afield, aload, ldAt, isConstO, aeq, hasNl, h, h1]
theorem go53 : goFn Tryz.prog 171 = true := goFn_all _ (by simp)
theorem go46 : goFn Tryz.prog 129 = true := goFn_all _ (by simp)
theorem go32 : goFn Tryz.prog 85 = true := goFn_all _ (by simp)
theorem go33 : goFn Tryz.prog 86 = true := goFn_all _ (by simp)
theorem go47 : goFn Tryz.prog 130 = true := goFn_all _ (by simp)
theorem cut46_ev (O : Orc) (s : List UInt8) (N : Nat) (H : AH) (hs : s.length < 9223372036854775807) (ho : O 171 [.str s, .str [10]] H = some (.bool (hasNl s), H)) :
    evFunc O Tryz.prog envT N 129 [.str s, .str [10]] H = some (.tup [.str (cutNl s), .bool (hasNl s)], H) := by
  unfold cutNl
  cases h : hasNl s
  · rw [h] at ho
    simp [Tryz.func129, Tryz.f129, evFunc, evCode, evRegion, withIds, needsId, idCount, grow, evOps, wantedA, stepO, callee, aop, putT, aeval, ofValC, ofVal, ofVals, applyUps, evResults, oneOrTup, alen, abin, abinInt, abinStr, aun, aindex, aslice, optInt, aextract, anilCheck, aconvert, aindexAddr, afieldAddr, afield, aload, ldAt, isConstO, aeq, go53, ho]
  · rw [h] at ho
    have h1 : 1 ≤ s.length := by
      unfold hasNl at h
      simp only [Bool.and_eq_true, decide_eq_true_eq] at h
      exact h.1
    have w : IntKind.i64.wrap ((s.length : Int) - 1) = ((s.length - 1 : Nat) : Int) := by
      rw [wrap_i64 (by omega) (by omega)]; omega
    have k1 : ((s.length - 1 : Nat) : Int) ≤ (s.length : Int) := by omega
    simp [Tryz.func129, Tryz.f129, evFunc, evCode, evRegion, withIds, needsId, idCount, grow, evOps, wantedA, stepO, callee, aop, putT, aeval, ofValC, ofVal, ofVals, applyUps, evResults, oneOrTup, alen, abin, abinInt, abinStr, aun, aindex, aslice, optInt, aextract, anilCheck, aconvert, aindexAddr, afieldAddr, afield, aload, ldAt, isConstO, aeq, go53, ho, w, k1, Tryz.underlying9]
theorem cut32_ev (O : Orc) (s : List UInt8) (N : Nat) (H : AH) (ho : O 129 [.str s, .str [10]] H = some (.tup [.str (cutNl s), .bool (hasNl s)], H)) :
    evFunc O Tryz.prog envT N 85 [.str s, .str [10]] H = some (.tup [.str (cutNl s), .bool (hasNl s)], H) := by
  simp [Tryz.func85, Tryz.f85, evFunc, evCode, evRegion, withIds, needsId, idCount, grow, evOps, wantedA, stepO, callee, aop, putT, aeval, ofValC, ofVal, ofVals, applyUps, evResults, oneOrTup, alen, abin, abinInt, abinStr, aun, aindex, aslice, optInt, aextract, anilCheck, aconvert, aindexAddr, afieldAddr, afield, aload, ldAt, isConstO, aeq, go46, ho]
theorem idx33_ev (O : Orc) (s : List UInt8) (c m : Int) (N : Nat) (H : AH) (ho : O 130 [.str s, .int .u8 c] H = some (.int .i64 m, H)) : evFunc O Tryz.prog envT N 86 [.str s, .int .u8 c] H = some (.int .i64 m, H) := by
  simp [Tryz.func86, Tryz.f86, evFunc, evCode, evRegion, withIds, needsId, idCount, grow, evOps, wantedA, stepO, callee, aop, putT, aeval, ofValC, ofVal, ofVals, applyUps, evResults, oneOrTup, alen, abin, abinInt, abinStr, aun, aindex, aslice, optInt, aextract, anilCheck, aconvert, aindexAddr, afieldAddr, afield, aload, ldAt, isConstO, aeq, go47, ho]
def nlOf (s : List UInt8) : List UInt8 := if hasNl s then [10] else []
theorem part_plain (O : Orc) (s : List UInt8) (m : Int) (N : Nat) (H : AH) (h32 : O 85 [.str s, .str [10]] H = some (.tup [.str (cutNl s), .bool (hasNl s)], H)) (h33 : O 86 [.str (cutNl s), .int .u8 33] H = some (.int .i64 m, H)) (hm : m < 0) :
    evFunc O Tryz.prog envT N 50 [.str s] H = some (.tup [.str (cutNl s), .str [], .str (nlOf s)], H) := by
  have hm' : ¬ (0 : Int) ≤ m := by omega
  unfold nlOf
  cases h : hasNl s <;> rw [h] at h32 <;>
    simp [Tryz.func50, Tryz.f50, evFunc, evCode, evRegion, withIds, needsId, idCount, grow, evOps, wantedA, stepO, callee, aop, putT, aeval, ofValC, ofVal, ofVals, applyUps, evResults, oneOrTup, alen, abin, abinInt, abinStr, aun, aindex, aslice, optInt, aextract, anilCheck, aconvert, aindexAddr, afieldAddr, afield, aload, ldAt, isConstO, aeq, go32, go33, h32, h33, hm']
noncomputable def P16 : Code := sndC (sndC (fstC (sndC (sndC (sndC (bodyOf Tryz.f50))))))
noncomputable def R16 : Code := yesC P16
theorem p16 : P16 = .cond (.tmp 16) (.region 6 (opsOf R16) true) .skip := by kernel_rfl
theorem r16_syn : idCount envT (opsOf R16).toList = 0 := by kernel_rfl
theorem r16_chk (n : Nat) : chkSyn (opsOf R16) (synItems 0 (masksFrom [] (opsOf R16).toList) (withIds envT (opsOf R16).toList n)) = true := by kernel_rfl
theorem r16_back : backOnly 0 (opsOf R16).toList = true := by kernel_rfl
theorem r16_ev (O : Orc) (b : List UInt8) (m : Nat) (t : List AV) (H : AH) (hl : t.length = 26) (h2 : t[2]? = some (.str b)) (h6 : t[6]? = some (.int .i64 m)) (hm : m ≤ b.length) (Q : List AV → Prop)
    (hQ : ∀ t' : List AV, t'.length = 26 → t'[2]? = some (.str (b.take m)) → t'[3]? = some (.str (b.drop m)) → t'[4]? = t[4]? → Q t') :
    ∃ t', evDraw O Tryz.prog envT (opsOf R16) t H = some (t', H) ∧ Q t' := by
  obtain ⟨_, g2⟩ := List.getElem?_eq_some_iff.1 h2
  obtain ⟨_, g6⟩ := List.getElem?_eq_some_iff.1 h6
  have k1 : (m : Int) ≤ (b.length : Int) := by omega
  have key : ∃ t', evP O Tryz.prog envT (opsOf R16) (withIds envT (opsOf R16).toList H.length) t H = some t' ∧ Q t' := by
    simp [evP, dstep, stepU, visIds, R16, P16, bodyOf, Tryz.f50, yesC, fstC, sndC, opsOf, evFunc, evCode, evRegion, withIds, needsId, idCount, grow, evOps, wantedA, stepO, callee, aop, putT, aeval, ofValC, ofVal, ofVals, applyUps, evResults, oneOrTup, alen, abin, abinInt, abinStr, aun, aindex, aslice, optInt, aextract, anilCheck, aconvert, aindexAddr, afieldAddr, afield, aload, ldAt, isConstO, aeq, opIds, hl, g2, g6, k1, Tryz.underlying9]
    refine hQ _ ?_ ?_ ?_ ?_ <;> simp [hl]
  obtain ⟨t', h1, h2⟩ := key
  exact ⟨t', evDraw_pure r16_syn h1 r16_chk r16_back, h2⟩
theorem part_pre (O : Orc) (s : List UInt8) (t : List AV) (N : Nat) (H : AH) (hl : t.length = 26) (h0 : t[0]? = some (.str s)) (h32 : O 85 [.str s, .str [10]] H = some (.tup [.str (cutNl s), .bool (hasNl s)], H)) (Q : AEx → List AV → AH → Prop)
    (hQ : ∀ t' : List AV, t'.length = 26 → t'[2]? = some (.str (cutNl s)) → t'[4]? = some (.str (nlOf s)) → Q .normal t' H) : EndsIn (evCode O Tryz.prog envT N (headC 3 (bodyOf Tryz.f50)) t H) Q := by
  obtain ⟨_, g0⟩ := List.getElem?_eq_some_iff.1 h0
  unfold nlOf at hQ
  cases h : hasNl s <;> rw [h] at h32 hQ <;>
    simp [bodyOf, Tryz.f50, headC, evFunc, evCode, evRegion, withIds, needsId, idCount, grow, evOps, wantedA, stepO, callee, aop, putT, aeval, ofValC, ofVal, ofVals, applyUps, evResults, oneOrTup, alen, abin, abinInt, abinStr, aun, aindex, aslice, optInt, aextract, anilCheck, aconvert, aindexAddr, afieldAddr, afield, aload, ldAt, isConstO, aeq, EndsIn, hl, g0, go32, h32] <;>
    (refine hQ _ ?_ ?_ ?_ <;> simp [hl])
noncomputable def t16 : Code := sndC (sndC (sndC (bodyOf Tryz.f50)))
theorem tail16 : tailC 3 (bodyOf Tryz.f50) = t16 := by kernel_rfl
noncomputable def x16 : Code := fstC t16
theorem part_mid (O : Orc) (b : List UInt8) (m : Nat) (t : List AV) (N : Nat) (H : AH) (hl : t.length = 26) (h2 : t[2]? = some (.str b)) (h33 : O 86 [.str b, .int .u8 33] H = some (.int .i64 m, H)) (Q : AEx → List AV → AH → Prop)
    (hQ : ∀ t' : List AV, t'.length = 26 → t'[2]? = t[2]? → t'[4]? = t[4]? → t'[6]? = some (.int .i64 m) → t'[16]? = some (.bool true) → Q .normal t' H) : EndsIn (evCode O Tryz.prog envT N (headC 2 x16) t H) Q := by
  obtain ⟨_, g2⟩ := List.getElem?_eq_some_iff.1 h2
  simp [x16, t16, bodyOf, Tryz.f50, headC, fstC, sndC, evFunc, evCode, evRegion, withIds, needsId, idCount, grow, evOps, wantedA, stepO, callee, aop, putT, aeval, ofValC, ofVal, ofVals, applyUps, evResults, oneOrTup, alen, abin, abinInt, abinStr, aun, aindex, aslice, optInt, aextract, anilCheck, aconvert, aindexAddr, afieldAddr, afield, aload, ldAt, isConstO, aeq, EndsIn, hl, g2, go33, h33]
  refine hQ _ ?_ ?_ ?_ ?_ ?_ <;> simp [hl, g2]
theorem tailx16 : tailC 2 x16 = P16 := by kernel_rfl
theorem part_end (O : Orc) (x y z : AV) (t : List AV) (N : Nat) (H : AH) (hl : t.length = 26) (h2 : t[2]? = some x) (h3 : t[3]? = some y) (h4 : t[4]? = some z) (Q : AEx → List AV → AH → Prop)
    (hQ : ∀ t' : List AV, t'.length = 26 → t'[2]? = some x → t'[3]? = some y → t'[4]? = some z → Q .ret t' H) : EndsIn (evCode O Tryz.prog envT N (sndC t16) t H) Q := by
  obtain ⟨_, g2⟩ := List.getElem?_eq_some_iff.1 h2
  obtain ⟨_, g3⟩ := List.getElem?_eq_some_iff.1 h3
  obtain ⟨_, g4⟩ := List.getElem?_eq_some_iff.1 h4
  simp [t16, bodyOf, Tryz.f50, sndC, evFunc, evCode, evRegion, withIds, needsId, idCount, grow, evOps, wantedA, stepO, callee, aop, putT, aeval, ofValC, ofVal, ofVals, applyUps, evResults, oneOrTup, alen, abin, abinInt, abinStr, aun, aindex, aslice, optInt, aextract, anilCheck, aconvert, aindexAddr, afieldAddr, afield, aload, ldAt, isConstO, aeq, EndsIn, hl, g2, g3, g4]
  refine hQ _ ?_ ?_ ?_ ?_ <;> simp [hl]
theorem fin16 (t : List AV) (H : AH) (x y z : AV) (h2 : t[2]? = some x) (h3 : t[3]? = some y) (h4 : t[4]? = some z) : fin Tryz.prog Tryz.f50 (some (.ret, t, H)) = some (.tup [x, y, z], H) := by
  simp [fin, Tryz.f50, evResults, h2, h3, h4, oneOrTup]
theorem part_note (O : Orc) (s : List UInt8) (m : Nat) (N : Nat) (H : AH) (h32 : O 85 [.str s, .str [10]] H = some (.tup [.str (cutNl s), .bool (hasNl s)], H)) (h33 : O 86 [.str (cutNl s), .int .u8 33] H = some (.int .i64 m, H)) (hm : m ≤ (cutNl s).length) :
    evFunc O Tryz.prog envT N 50 [.str s] H = some (.tup [.str ((cutNl s).take m), .str ((cutNl s).drop m), .str (nlOf s)], H) := by
  refine evFunc_of (c := bodyOf Tryz.f50) Tryz.func50 (by kernel_rfl) ?_
  refine EndsIn.split 3 _ ?_
  refine part_pre O s _ _ H (by simp [Tryz.f50]) (by rfl) h32 _ ?_
  intro t hl k2 k4
  show EndsIn (evCode O Tryz.prog envT N (tailC 3 (bodyOf Tryz.f50)) t H) _
  rw [tail16]
  refine EndsIn.seq (A := x16) (B := sndC t16) (by kernel_rfl) ?_
  refine EndsIn.split 2 _ ?_
  refine part_mid O _ m t _ H hl k2 h33 _ ?_
  intro t2 hl2 j2 j4 j6 j16
  show EndsIn (evCode O Tryz.prog envT N (tailC 2 x16) t2 H) _
  rw [tailx16, p16]
  obtain ⟨t3, e3, hl3, i2, i3, i4⟩ := r16_ev O (cutNl s) m t2 H hl2 (j2.trans k2) j6 hm (fun t' => t'.length = 26 ∧ t'[2]? = some (.str ((cutNl s).take m)) ∧ t'[3]? = some (.str ((cutNl s).drop m)) ∧ t'[4]? = t2[4]?) (fun t' a b c d => ⟨a, b, c, d⟩)
  have hc : aeval envT t2 (.tmp 16) = .bool true := by simp [aeval, j16]
  simp only [evCode, hc, if_true, e3]
  refine EndsIn.some_iff.2 ?_
  show EndsIn (evCode O Tryz.prog envT N (sndC t16) t3 H) (fun e t H' => fin Tryz.prog Tryz.f50 (some (e, t, H')) = some (.tup [.str ((cutNl s).take m), .str ((cutNl s).drop m), .str (nlOf s)], H))
  refine part_end O _ _ _ t3 _ H hl3 i2 i3 (i4.trans (j4.trans k4)) _ ?_
  intro t4 hl4 a b c
  show fin Tryz.prog Tryz.f50 (some (.ret, t4, H)) = _
  rw [fin16 t4 H _ _ _ a b c]
end Go.Proofs.YtejjlojfgcgopaaGreatDoor
namespace Go.Proofs.YtejjlojfgcgopaaGreatDoor
open Go.RowKit Go.Proofs.Fw
set_option maxRecDepth 100000
set_option maxHeartbeats 4000000
def maxS : Nat := 137438953470
theorem maxS_eq : maxS = 137438953470 := rfl
def oFront : Orc := oPure 131 (fun args => match args with
    | [.str s, .func (.func g) [] []] => if s.length < maxS then (if g = 132 then some (isInner, s) else if g = 134 then some (isDigit, s) else none) else none
    | _ => none) fun x => .int .i64 (frontLen x.1 x.2)
theorem oFront_sound : Sound Tryz.prog envT oFront := oPure_sound fun args x H h => by
  split at h
  · rename_i s g
    split at h
    · rename_i hs
      rw [maxS_eq] at hs
      split at h
      · rename_i hg
        subst hg
        injection h with h
        subst h
        exact evFunc_ok oBytes_sound methT mixed (front_ev oBytes s _ isInner (goFn_all _ (by simp)) oBytes_31 (by omega) H)
      · split at h
        · rename_i hg
          subst hg
          injection h with h
          subst h
          exact evFunc_ok oBytes_sound methT mixed (front_ev oBytes s _ isDigit (goFn_all _ (by simp)) oBytes_34 (by omega) H)
        · cases h
    · cases h
  · cases h
def oSign : Orc := oPure 136 (fun args => match args with
    | [.str (c :: r)] => some (c, r)
    | _ => none) fun x => .int .i64 (signLen (x.1 :: x.2))
theorem oSign_sound : Sound Tryz.prog envT oSign := oPure_sound fun args x H h => by
  split at h
  · injection h with h
    subst h
    exact evFunc_ok oIdx_sound methT mixed (sign_ev oIdx _ _ H)
  · cases h
def digArgs : List AV → Option (List UInt8)
  | [.str s, .int .i64 10, .int .i64 64] => if s ≠ [] ∧ s.length < maxS ∧ s.all (fun b => decide (48 ≤ b.toNat) && decide (b.toNat ≤ 57)) = true then some s else none
  | _ => none
theorem digArgs_some {args : List AV} {s : List UInt8} (h : digArgs args = some s) : args = [.str s, .int .i64 10, .int .i64 64] ∧ s ≠ [] ∧ s.length < maxS ∧ allDigits s := by
  unfold digArgs at h
  split at h
  · split at h
    · rename_i s' hs
      injection h with h
      subst h
      obtain ⟨h1, h2, h3⟩ := hs
      refine ⟨rfl, h1, h2, fun b hb => ?_⟩
      have := List.all_eq_true.1 h3 b hb
      simpa using this
    · cases h
  · cases h
theorem digArgs_at {s : List UInt8} (h1 : s ≠ []) (h2 : s.length < maxS) (h3 : allDigits s) : digArgs [.str s, .int .i64 10, .int .i64 64] = some s := by
  exact if_pos ⟨h1, h2, List.all_eq_true.2 fun b hb => by simpa using h3 b hb⟩
def oPu : Orc := oPure 204 digArgs puRes
theorem oPu_sound : Sound Tryz.prog envT oPu := oPure_sound fun args x H h => by
  obtain ⟨rfl, h1, h2, h3⟩ := digArgs_some h
  rw [maxS_eq] at h2
  exact evFunc_ok oIdx_sound methT mixed (pu_ev oIdx x h1 h3 (by omega) H)
def oPi : Orc := oPure 175 digArgs piRes
theorem oPi_sound : Sound Tryz.prog envT oPi := oPure_sound fun args x H h => by
  obtain ⟨rfl, h1, h2, h3⟩ := digArgs_some h
  exact evFunc_ok oPu_sound methT mixed (pi_ev oPu x h1 h3 H (by simp [oPu, oPure, digArgs_at h1 h2 h3]))
def oClone : Orc := oPure 221 (fun args => match args with
    | [.str s] => if s.length < maxS then some s else none
    | _ => none) .str
theorem oClone_sound : Sound Tryz.prog envT oClone := oPure_sound fun args x H h => by
  split at h
  · split at h
    · rename_i hs
      rw [maxS_eq] at hs
      injection h with h
      subst h
      exact clone_cs envT _ H (by omega)
    · cases h
  · cases h
theorem oClone_at {s : List UInt8} (h : s.length < maxS) (H : AH) : oClone 221 [.str s] H = some (.str s, H) := by simp [oClone, oPure, h]
def oRange : Orc := oPure 206 (fun args => match args with
    | [.str f, .str s] => if s.length < maxS then some (f, s) else none
    | _ => none) fun x => numErrAV x.1 x.2
theorem oRange_sound : Sound Tryz.prog envT oRange := oPure_sound fun args x H h => by
  split at h
  · split at h
    · rename_i hs
      injection h with h
      subst h
      exact range_cs oClone ⟨oClone_sound, methT, mixed⟩ _ _ (fun H => oClone_at hs H) H
    · cases h
  · cases h
def oToErr : Orc := oPure 176 (fun args => match args with
    | [.str f, .str s, .int .i64 10, .int .i64 64, .iface 323 (.int .i64 1)] => if s.length < maxS then some (f, s) else none
    | _ => none) fun x => .iface 326 (numErrAV x.1 x.2)
theorem oToErr_sound : Sound Tryz.prog envT oToErr := oPure_sound fun args x H h => by
  split at h
  · split at h
    · rename_i hs
      injection h with h
      subst h
      exact toErr_cs oRange ⟨oRange_sound, methT, mixed⟩ _ _ (fun H => by simp [oRange, oPure, hs]) H
    · cases h
  · cases h
def oPar : Orc := oPure 135 digArgs parRes
theorem oPar_sound : Sound Tryz.prog envT oPar := oPure_sound fun args x H h => by
  obtain ⟨rfl, h1, h2, h3⟩ := digArgs_some h
  refine par_cs (oTab [(175, oPi), (176, oToErr)]) ⟨oTab_sound fun p hp => ?_, methT, mixed⟩ x (fun H => ?_) (fun H => ?_) H
  · simp only [List.mem_cons, List.not_mem_nil, or_false] at hp
    rcases hp with rfl | rfl
    · exact oPi_sound
    · exact oToErr_sound
  · simp [oTab, oPi, oPure, digArgs_at h1 h2 h3]
  · simp [oTab, oToErr, oPure, h2]
def oWs : Orc := oTab [(88, oBytes), (134, oBytes), (131, oFront), (133, oKeyF), (135, oPar), (136, oSign)]
theorem oWs_sound : Sound Tryz.prog envT oWs := oTab_sound fun p hp => by
  simp only [List.mem_cons, List.not_mem_nil, or_false] at hp
  rcases hp with rfl | rfl | rfl | rfl | rfl | rfl
  · exact oBytes_sound
  · exact oBytes_sound
  · exact oFront_sound
  · exact oKeyF_sound
  · exact oPar_sound
  · exact oSign_sound
theorem signLen_le : ∀ s : List UInt8, signLen s ≤ s.length
  | [] => Nat.le_refl _
  | [c] => by
    simp only [signLen, List.length_cons, List.length_nil]
    split
    · omega
    · split <;> omega
  | c :: d :: r => by
    unfold signLen
    simp only [List.length_cons]
    split
    · split <;> omega
    · split <;> omega
theorem front_all (p : UInt8 → Bool) : ∀ (s : List UInt8), ∀ b ∈ s.take (frontLen p s), p b = true
  | [], b, h => by simp at h
  | c :: s, b, h => by
    unfold frontLen at h
    rw [List.takeWhile_cons] at h
    split at h
    · rename_i hc
      simp only [List.length_cons, List.take_succ_cons, List.mem_cons] at h
      rcases h with rfl | h
      · exact hc
      · exact front_all p s b (by unfold frontLen; exact h)
    · simp at h
theorem frontLen_pos {p : UInt8 → Bool} {c : UInt8} {s : List UInt8} (h : p c = true) : 0 < frontLen p (c :: s) := by
  unfold frontLen
  rw [List.takeWhile_cons, if_pos h]
  simp
theorem word_cs (c : UInt8) (r : List UInt8) (hs : (c :: r).length < maxS) (H : AH) : CS Tryz.prog envT 87 [.str (c :: r)] H (wordAV (c :: r)) H := by
  have key : ∀ (v : AV), (∃ H', evFunc oWs Tryz.prog envT 0 87 [.str (c :: r)] [] = some (v, H')) → v = wordAV (c :: r) → CS Tryz.prog envT 87 [.str (c :: r)] H (wordAV (c :: r)) H := by
    rintro v ⟨H', h⟩ rfl
    have := CS.of_ev oWs_sound methT mixed lowT (f := 87) (args := [.str (c :: r)]) (v := wordAV (c :: r)) 0 ⟨H', h, rfl, rfl⟩ rfl H
    exact this
  have hlen : ∀ p, (frontLen p (c :: r) : Int) ≤ (r.length : Int) + 1 := fun p => by
    have := frontLen_le p (c :: r)
    simp only [List.length_cons] at this
    omega
  have hmin : ∀ p, min (frontLen p (c :: r)) (r.length + 1) = frontLen p (c :: r) := fun p => by
    have := frontLen_le p (c :: r)
    simp only [List.length_cons] at this
    omega
  have hfr : ∀ H, oWs 131 [.str (c :: r), .func (.func 132) [] []] H = some (.int .i64 (frontLen isInner (c :: r)), H) := fun H => by
    simp only [List.length_cons] at hs
    simp [oWs, oTab, oFront, oPure, hs]
  have hfd : ∀ H, oWs 131 [.str (c :: r), .func (.func 134) [] []] H = some (.int .i64 (frontLen isDigit (c :: r)), H) := fun H => by
    simp only [List.length_cons] at hs
    simp [oWs, oTab, oFront, oPure, hs]
  have h25 : ∀ H, oWs 88 [.int .u8 (c.toNat : Int)] H = some (.bool (isSmall c), H) := fun H => oBytes_25 c H
  have h34 : ∀ H, oWs 134 [.int .u8 (c.toNat : Int)] H = some (.bool (isDigit c), H) := fun H => oBytes_34 c H
  cases h1 : isSmall c
  · rw [h1] at h25
    cases h2 : isDigit c
    · rw [h2] at h34
      have h36 : ∀ H, oWs 136 [.str (c :: r)] H = some (.int .i64 (signLen (c :: r)), H) := fun H => by simp [oWs, oTab, oSign, oPure]
      refine key _ (word_sign oWs c r 0 h25 h34 h36 (by have := signLen_le (c :: r); simp only [List.length_cons] at this; omega)) ?_
      by_cases h0 : signLen (c :: r) = 0
      · simp [wordAV, wordOf, h1, h2, h0, tokAV]
      · simp [wordAV, wordOf, h1, h2, h0, tokAV]
    · rw [h2] at h34
      have hd : allDigits ((c :: r).take (frontLen isDigit (c :: r))) := fun b hb => by
        have := front_all isDigit (c :: r) b hb
        simpa [isDigit] using this
      have hne : (c :: r).take (frontLen isDigit (c :: r)) ≠ [] := fun h => by
        have h3 := frontLen_pos (s := r) h2
        rw [List.take_eq_nil_iff] at h
        rcases h with h | h
        · omega
        · cases h
      have hlt : ((c :: r).take (frontLen isDigit (c :: r))).length < maxS := Nat.lt_of_le_of_lt (List.length_take_le _ _) (by have := frontLen_le isDigit (c :: r); omega)
      have h35 : ∀ H, oWs 135 [.str ((c :: r).take (frontLen isDigit (c :: r))), .int .i64 10, .int .i64 64] H = some (parRes ((c :: r).take (frontLen isDigit (c :: r))), H) := fun H => by
        simp only [oWs, oTab, List.lookup]
        simp [oPar, oPure, digArgs_at hne hlt hd]
      unfold parRes at h35
      by_cases h3 : numOf ((c :: r).take (frontLen isDigit (c :: r))) < 9223372036854775808
      · rw [if_pos h3] at h35
        refine key _ (word_number oWs c r _ .nilIface false (by simp) 0 h25 h34 hfd h35 (hlen _) (hmin _)) ?_
        simp [wordAV, wordOf, h1, h2, h3, tokAV]
      · rw [if_neg h3] at h35
        refine key _ (word_number oWs c r _ _ true (by simp) 0 h25 h34 hfd h35 (hlen _) (hmin _)) ?_
        simp [wordAV, wordOf, h1, h2, h3, tokAV]
  · rw [h1] at h25
    have h14 : ∀ H, oWs 133 [.str ((c :: r).take (frontLen isInner (c :: r)))] H = some (.bool (isKey ((c :: r).take (frontLen isInner (c :: r)))), H) := fun H => by
      simp only [oWs, oTab, List.lookup]
      simp [oKeyF, callS]
    refine key _ (word_name oWs c r _ 0 h25 hfr h14 (hlen _) (hmin _)) ?_
    simp only [wordAV, wordOf, h1, tokAV]
    by_cases h2 : isKey ((c :: r).take (frontLen isInner (c :: r))) = true
    · by_cases h3 : 31 < frontLen isInner (c :: r)
      · simp [h2, h3]
      · simp [h2, h3]
    · by_cases h3 : 31 < frontLen isInner (c :: r)
      · simp [h2, h3]
      · simp [h2, h3]
def oWord : Orc := oPure 87 (fun args => match args with
    | [.str (c :: r)] => if (c :: r).length < maxS then some (c, r) else none
    | _ => none) fun x => wordAV (x.1 :: x.2)
theorem oWord_sound : Sound Tryz.prog envT oWord := oPure_sound fun args x H h => by
  split at h
  · split at h
    · rename_i hs
      injection h with h
      subst h
      exact word_cs _ _ hs H
    · cases h
  · cases h
end Go.Proofs.YtejjlojfgcgopaaGreatDoor
namespace Go.Proofs.YtejjlojfgcgopaaGreatDoor
open Go.RowKit Go.Proofs.Fw
set_option maxRecDepth 100000
set_option maxHeartbeats 4000000
def behind (l : List Wd) (x : Except (Nat × Nat) (List Wd)) : Except (Nat × Nat) (List Wd) := match x with
  | .ok r => .ok (l ++ r)
  | .error x => .error x
theorem wordOf_pos {c : UInt8} {r : List UInt8} (h : (wordOf (c :: r)).2 = 0) : 0 < (wordOf (c :: r)).1.2.1.length := by
  unfold wordOf at h ⊢
  simp only at h ⊢
  split
  · rename_i h1
    have := frontLen_pos (p := isInner) (c := c) (s := r) (by simp [isInner, h1])
    have h2 := frontLen_le isInner (c :: r)
    simp only [List.length_take]
    omega
  · rename_i h1
    rw [if_neg h1] at h
    split
    · rename_i h1
      have := frontLen_pos (p := isDigit) (s := r) h1
      have h2 := frontLen_le isDigit (c :: r)
      split <;> (simp only [List.length_take]; omega)
    · rename_i h1
      rw [if_neg h1] at h
      split
      · rename_i h2
        rw [if_pos h2] at h
        cases h
      · have h2 := signLen_le (c :: r)
        simp only [List.length_take]
        omega
theorem wordOf_le (c : UInt8) (r : List UInt8) : (wordOf (c :: r)).1.2.1.length ≤ (c :: r).length := by
  have key : ∀ n, ((c :: r).take n).length ≤ (c :: r).length := fun n => by rw [List.length_take]; omega
  unfold wordOf
  simp only
  split
  · exact key _
  · split
    · split <;> exact key _
    · split
      · exact Nat.zero_le _
      · exact key _
def wordErr (num : Bool) (c : UInt8) (r : List UInt8) : Nat := if num && isSmall c then 3 else (wordOf (c :: r)).2
theorem lex_word (n : Nat) (c : UInt8) (r : List UInt8) (p : Nat) (num : Bool) (hb : isBlank c = false) :
    lex (n + 1) (c :: r) p num = if wordErr num c r ≠ 0 then .error (p, wordErr num c r) else
      behind [⟨(wordOf (c :: r)).1.1, (wordOf (c :: r)).1.2.1, p, (wordOf (c :: r)).1.2.2⟩] (lex n ((c :: r).drop (wordOf (c :: r)).1.2.1.length) (p + (wordOf (c :: r)).1.2.1.length) ((wordOf (c :: r)).1.1 == 2)) := by
  simp only [lex, hb, Bool.false_eq_true, if_false]
  show (if wordErr num c r ≠ 0 then _ else _) = _
  by_cases h : wordErr num c r ≠ 0
  · rw [if_pos h, if_pos h]
    rfl
  · rw [if_neg h, if_neg h]
    rfl
theorem wordErr_zero {num : Bool} {c : UInt8} {r : List UInt8} (h : wordErr num c r = 0) : (wordOf (c :: r)).2 = 0 := by
  unfold wordErr at h
  split at h
  · cases h
  · exact h
theorem lex_fuel : ∀ (n m : Nat) (s : List UInt8) (p : Nat) (b : Bool), s.length < n → s.length < m → lex n s p b = lex m s p b := by
  intro n
  induction n with
  | zero => intro m s p b h; omega
  | succ n ih =>
    intro m s p b hn hm
    cases m with
    | zero => omega
    | succ m =>
      cases s with
      | nil => rfl
      | cons c r =>
        simp only [List.length_cons] at hn hm
        cases hb : isBlank c with
        | true => simp only [lex, hb, if_true]; exact ih m r _ _ (by omega) (by omega)
        | false =>
          rw [lex_word n c r p b hb, lex_word m c r p b hb]
          by_cases h : wordErr b c r ≠ 0
          · rw [if_pos h, if_pos h]
          · rw [if_neg h, if_neg h]
            have h1 := wordOf_pos (r := r) (wordErr_zero (by simpa using h))
            rw [ih m _ _ _ (by simp only [List.length_drop, List.length_cons]; omega) (by simp only [List.length_drop, List.length_cons]; omega)]
theorem behind_behind (l m : List Wd) (x : Except (Nat × Nat) (List Wd)) : behind l (behind m x) = behind (l ++ m) x := by
  cases x <;> simp [behind]
def LineI2 (s : List UInt8) (k : Nat) (t : List AV) (H : AH) : Prop :=
  ∃ i l, i + k = s.length ∧ t = mkT 89 [(0, .str s), (4, outAV l), (5, .int .i64 i)] ∧ H = outH l ∧ (∀ x ∈ l, x.at_ + x.text.length ≤ i) ∧ l.length ≤ i ∧
    lex (s.length + 1) s 0 false = behind l (lex (k + 1) (s.drop i) i (numAt l i))
theorem outAV_low (l : List Wd) : low (outH l).length (outAV l) = true := by
  unfold outAV outH
  split
  · rfl
  · simp [lowL_mono (Nat.zero_le 1) _ (wdsCells_low l)]
theorem outH_low (l : List Wd) : lowH (outH l).length (outH l) = true := by
  unfold outH
  split <;> rfl
theorem numAt_snoc (us : List Wd) (u : Wd) (i : Nat) : numAt (us ++ [u]) i = (u.kind == 2 && u.at_ + u.text.length == i) := by
  simp [numAt]
theorem LineI_word {s : List UInt8} {i k : Nat} {l : List Wd} {c : UInt8} {r : List UInt8} (hik : i + (k + 1) = s.length) (hd : s.drop i = c :: r) (hb : isBlank c = false) (he : wordErr (numAt l i) c r = 0) (hl : ∀ x ∈ l, x.at_ + x.text.length ≤ i) (hll : l.length ≤ i)
    (hlex : lex (s.length + 1) s 0 false = behind l (lex (k + 1 + 1) (s.drop i) i (numAt l i))) :
    ∃ j, j < k + 1 ∧ LineI2 s j (mkT 89 [(0, .str s), (4, outAV (l ++ [⟨(wordOf (c :: r)).1.1, (wordOf (c :: r)).1.2.1, i, (wordOf (c :: r)).1.2.2⟩])), (5, .int .i64 ((i + (wordOf (c :: r)).1.2.1.length : Nat) : Int))])
      (outH (l ++ [⟨(wordOf (c :: r)).1.1, (wordOf (c :: r)).1.2.1, i, (wordOf (c :: r)).1.2.2⟩])) := by
  have h1 := wordOf_pos (r := r) (wordErr_zero he)
  have h2 := wordOf_le c r
  have hlen : (c :: r).length = k + 1 := by rw [← hd, List.length_drop]; omega
  generalize hL : (wordOf (c :: r)).1.2.1.length = L at h1 h2 ⊢
  refine ⟨k + 1 - L, by omega, i + L, _, by omega, rfl, rfl, ?_, ?_, ?_⟩
  · intro x hx
    rcases List.mem_append.1 hx with hx | hx
    · have := hl x hx; omega
    · simp only [List.mem_singleton] at hx
      subst hx
      simp only [hL]
      omega
  · simp only [List.length_append, List.length_cons, List.length_nil]; omega
  · rw [hlex, hd, lex_word _ _ _ _ _ hb, if_neg (by simp [he]), behind_behind, numAt_snoc, hL]
    have : s.drop (i + L) = (c :: r).drop L := by rw [← hd, List.drop_drop]
    rw [this]
    congr 1
    simp only [beq_self_eq_true, Bool.and_true]
    have hdl : ((c :: r).drop L).length = k + 1 - L := by rw [List.length_drop, hlen]
    exact lex_fuel _ _ _ _ _ (by omega) (by omega)
theorem LineI_blank {s : List UInt8} {i k : Nat} {l : List Wd} {c : UInt8} {r : List UInt8} (hik : i + (k + 1) = s.length) (hd : s.drop i = c :: r) (hb : isBlank c = true) (hl : ∀ x ∈ l, x.at_ + x.text.length ≤ i) (hll : l.length ≤ i)
    (hlex : lex (s.length + 1) s 0 false = behind l (lex (k + 1 + 1) (s.drop i) i (numAt l i))) :
    LineI2 s k (mkT 89 [(0, .str s), (4, outAV l), (5, .int .i64 ((i + 1 : Nat) : Int))]) (outH l) := by
  refine ⟨i + 1, l, by omega, rfl, rfl, fun x hx => by have := hl x hx; omega, by omega, ?_⟩
  have : s.drop (i + 1) = r := by rw [← List.drop_drop, hd]; rfl
  rw [hlex, hd, this]
  have hn : numAt l (i + 1) = false := by
    unfold numAt
    cases h : l.getLast? with
    | none => rfl
    | some t =>
      have := hl t (List.mem_of_getLast? h)
      have h2 : (t.at_ + t.text.length == i + 1) = false := by simp only [beq_eq_false_iff_ne]; omega
      simp [h2]
  simp only [lex, hb, if_true, hn]
def oLn : Orc := oTab [(87, oWord), (88, oBytes)]
theorem oLn_sound : Sound Tryz.prog envT oLn := oTab_sound fun p hp => by
  simp only [List.mem_cons, List.not_mem_nil, or_false] at hp
  rcases hp with rfl | rfl
  · exact oWord_sound
  · exact oBytes_sound
theorem oLn_cx : Cx oLn Tryz.prog envT := ⟨oLn_sound, methT, mixed⟩
theorem lineAV_low (x : Except (Nat × Nat) (List Wd)) : low 0 (lineAV x) = true := by
  cases x with
  | error x => rfl
  | ok l =>
    simp only [lineAV, wdsAV]
    split
    · rfl
    · simp [wdsCells_low]
theorem cellsAt (us : List Wd) (u : Wd) : (wdsCells (us ++ [u]))[us.length * 4]? = some (.int .i64 u.kind) ∧ (wdsCells (us ++ [u]))[us.length * 4 + 1]? = some (.str u.text) ∧ (wdsCells (us ++ [u]))[us.length * 4 + 2]? = some (.int .i64 u.at_) := by
  have h := wdsCells_length us
  simp only [wdsCells, List.flatMap_append] at h ⊢
  refine ⟨?_, ?_, ?_⟩
  · rw [List.getElem?_append_right (by omega), h]; simp [wdCells]
  · rw [List.getElem?_append_right (by omega), h, show us.length * 4 + 1 - us.length * 4 = 1 by omega]; simp [wdCells]
  · rw [List.getElem?_append_right (by omega), h, show us.length * 4 + 2 - us.length * 4 = 2 by omega]; simp [wdCells]
theorem line_body (B : Bs) (hB : B.H = []) (s : List UInt8) (hs : s.length < maxS) (k i : Nat) (l : List Wd) (hik : i + (k + 1) = s.length) (hl : ∀ x ∈ l, x.at_ + x.text.length ≤ i) (hll : l.length ≤ i)
    (hlex : lex (s.length + 1) s 0 false = behind l (lex (k + 1 + 1) (s.drop i) i (numAt l i))) (Q : AEx → List AV → AH → Prop)
    (hN : ∀ t H, (∃ j t2 H2, j < k + 1 ∧ Less B t H t2 H2 ∧ LineI2 s j t2 H2) → Q .normal t H)
    (hE : ∀ t H, Fin Tryz.prog Tryz.f51 0 4 (lineAV (lex (s.length + 1) s 0 false)) [] .ret t H → Q .ret t H) :
    Wx oLn Tryz.prog envT body11 (mkT 89 [(0, .str s), (4, outAV l), (5, .int .i64 i)]) (outH l) Q := by
  have hi : i < s.length := by omega
  rw [maxS_eq] at hs
  obtain ⟨c, r, hd⟩ : ∃ c r, s.drop i = c :: r := ⟨s[i], s.drop (i + 1), List.drop_eq_getElem_cons hi⟩
  have hc : s[i] = c := by
    have := List.drop_eq_getElem_cons hi
    rw [hd] at this
    injection this with this _
    exact this.symm
  cases hb : isBlank c with
  | true =>
    refine line_bl B hB oLn s i (outAV l) (outH l) hi (by omega) ?_ Q (fun t hle => hN _ _ ⟨k, _, _, by omega, hle, LineI_blank hik hd hb hl hll hlex⟩) (outAV_low l) (outH_low l)
    rw [hc]
    simpa [isBlank] using hb
  | false =>
    have hb1 : ((s[i].toNat : Int) == 32) = false := by
      rw [hc]
      simp only [isBlank, Bool.or_eq_false_iff, beq_eq_false_iff_ne] at hb
      simp only [beq_eq_false_iff_ne]; omega
    have hb2 : ((s[i].toNat : Int) == 9) = false := by
      rw [hc]
      simp only [isBlank, Bool.or_eq_false_iff, beq_eq_false_iff_ne] at hb
      simp only [beq_eq_false_iff_ne]; omega
    have hlen : (c :: r).length = k + 1 := by rw [← hd, List.length_drop]; omega
    have h24 : ∀ H, oLn 87 [.str (s.drop i)] H = some (wordAV (c :: r), H) := fun H => by
      rw [hd]
      have : (c :: r).length < maxS := by rw [hlen, maxS_eq]; omega
      simp only [List.length_cons] at this
      simp [oLn, oTab, oWord, oPure, this]
    have h25 : ∀ H, oLn 88 [.int .u8 (s[i].toNat : Int)] H = some (.bool (isSmall c), H) := fun H => by
      rw [hc]
      exact oBytes_25 c H
    have hw := wordOf_le c r
    have herr : wordErr (numAt l i) c r ≠ 0 → lex (s.length + 1) s 0 false = .error (i, wordErr (numAt l i) c r) := fun h => by
      rw [hlex, hd, lex_word _ _ _ _ _ hb, if_pos h]; rfl
    rcases List.eq_nil_or_concat l with rfl | ⟨us, u, rfl⟩
    · have he : wordErr (numAt [] i) c r = (wordOf (c :: r)).2 := by simp [wordErr, numAt]
      refine line_w0 B hB oLn s i _ _ _ _ hi (by omega) hb1 hb2 h24 (by omega) Q (fun h0 t H hle => ?_) (fun h0 t H hf => hE _ _ ?_)
      · obtain ⟨j, hj, hI⟩ := LineI_word (l := []) hik hd hb (he.trans h0) hl hll hlex
        exact hN _ _ ⟨j, _, _, hj, hle, hI⟩
      · rw [herr (by rw [he]; exact h0), he]; exact hf
    · rw [List.concat_eq_append] at *
      obtain ⟨c0, c1, c2⟩ := cellsAt us u
      have hu := hl u (by simp)
      have hne : us ++ [u] ≠ [] := by simp
      have he : wordErr (numAt (us ++ [u]) i) c r = if isSmall c = true ∧ u.kind = 2 ∧ u.at_ + u.text.length = i then 3 else (wordOf (c :: r)).2 := by
        rw [numAt_snoc]
        unfold wordErr
        by_cases h1 : isSmall c = true <;> by_cases h2 : u.kind = 2 <;> by_cases h3 : u.at_ + u.text.length = i <;> simp [h1, h2, h3]
      have hout : ∀ l : List Wd, l ≠ [] → outAV l = .slice (.tok 0) 4 l.length (wdsCells l) ∧ outH l = [some (.tok l.length)] := fun l h => by simp [outAV, outH, h]
      rw [(hout _ hne).1, (hout _ hne).2]
      simp only [List.length_append, List.length_cons, List.length_nil, Nat.zero_add] at hll ⊢
      refine line_w1 B hB oLn s i us.length (wdsCells (us ++ [u])) u.kind u.at_ u.text (isSmall c) _ _ _ _ hi (by omega) hb1 hb2 c0 c1 c2 (wdsCells_low _) (by omega) (by omega) h25 h24 (by omega) Q _ he (fun h0 t H hle => ?_) (fun h0 t H hf => hE _ _ ?_)
      · obtain ⟨j, hj, hI⟩ := LineI_word hik hd hb h0 hl (by simpa using hll) hlex
        refine hN _ _ ⟨j, _, _, hj, hle, ?_⟩
        have h3 := hout ((us ++ [u]) ++ [⟨(wordOf (c :: r)).1.1, (wordOf (c :: r)).1.2.1, i, (wordOf (c :: r)).1.2.2⟩]) (by simp)
        rw [h3.1, h3.2] at hI
        simpa [wdsCells] using hI
      · rw [herr h0]; exact hf
noncomputable def tail11 : Code := tailC 2 c11
noncomputable def end11 : Code := sndC tail11
noncomputable def for11 : Code := sndC loop11
theorem line_cs (s : List UInt8) (hs : s.length < maxS) (H : AH) : CS Tryz.prog envT 51 [.str s] H (lineAV (lex (s.length + 1) s 0 false)) H := by
  refine CS.frame (CS.of_Tr (H0 := []) (H1 := []) (c := c11) Tryz.func51 (by kernel_rfl) 4 (by simp [Tryz.f51]) (fun B hB hG => ?_) (lineAV_low _) rfl) lowT rfl H
  refine Tr.pre oLn_cx hG 2 (R := tail11) rfl (by kernel_rfl) (by kernel_rfl) ?_
  rw [Go_of]
  simp [c11, Tryz.f51]
  refine Tr.seqD (a := loop11) (b := end11) (by kernel_rfl) ?_
  refine Tr.pre oLn_cx hG 1 (R := for11) (by kernel_rfl) (by kernel_rfl) (by kernel_rfl) ?_
  rw [Go_of]
  simp [loop11, c11, Tryz.f51]
  refine Tr.less (t' := mkT 89 [(0, .str s), (4, .nilSlice), (5, .int .i64 ((0 : Nat) : Int))]) (H' := []) (Less.mkT 0 (by simp [hB]) ?_ rfl rfl) ?_
  · simp
    exact ⟨.same rfl rfl, .same rfl rfl, .same rfl rfl⟩
  refine Tr.forD (a := body11) (id := 0) (by kernel_rfl) (LineI2 s) s.length ⟨0, [], by omega, rfl, rfl, by simp, by simp, ?_⟩ ?_
  · simp only [List.drop_zero, numAt, List.getLast?_nil]
    cases lex (s.length + 1) s 0 false <;> rfl
  rintro k t H ⟨i, l, hik, rfl, rfl, hl, hll, hlex⟩
  refine Tr.run oLn_cx hG draws11 ?_
  cases k with
  | succ k => exact line_body B hB s hs k i l hik hl hll hlex _ (fun t H h => h) (fun t H h => h)
  | zero =>
    obtain rfl : i = s.length := by omega
    have hres : lex (s.length + 1) s 0 false = .ok l := by
      rw [hlex, List.drop_length]
      simp [lex, behind]
    rw [hres]
    rw [Go_of]
    simp [body11, loop11, c11, Tryz.f51, Blk_exit]
    refine Tr.run oLn_cx hG (by kernel_rfl) ?_
    rw [Go_of]
    by_cases h : l = []
    · subst h
      simp [end11, tail11, c11, Tryz.f51, outAV, outH, lineAV, wdsAV]
    · simp [end11, tail11, c11, Tryz.f51, outAV, outH, lineAV, wdsAV, h, wdsCells_low]
end Go.Proofs.YtejjlojfgcgopaaGreatDoor

namespace Go.Proofs.YtejjlojfgcgopaaGreatDoor
open Go.RowKit Go.Proofs.Fw
set_option maxRecDepth 100000
set_option maxHeartbeats 4000000
def envX : Env := ⟨envN.glob, methN, fun t => envN.imm t || t == 27 || t == 42, fun _ => false⟩
@[simp] theorem envX_soft (t : TypeId) : envX.soft t = false := nrfl rfl
theorem methXOk : MethOk Tryz.prog envX := methNOk
theorem lowX : ∀ i, low 0 (envX.glob i) = true := lowN
theorem CS.toX {f : FuncId} {args : List AV} {H H' : AH} {v : AV} (h : CS Tryz.prog envN f args H v H') : CS Tryz.prog envX f args H v H' := fun g w cargs R hG hA => h g w cargs R hG hA
theorem Sound.toX {O : Orc} (h : Sound Tryz.prog envN O) : Sound Tryz.prog envX O := fun f args H v H' ho => by
  obtain ⟨h1, h2, h3⟩ := h f args H v H' ho
  exact ⟨CS.toX h1, h2, h3⟩
@[simp] theorem immXF : envX.imm 156 = true := by decide
@[simp] theorem immXE : envX.imm 27 = true := by decide
@[simp] theorem immXR : envX.imm 304 = false := by decide
theorem oNilX : Cx oNil Tryz.prog envX := ⟨oNil_sound, methXOk, mixed⟩
def exprTxt : List UInt8 := [101, 120, 112, 114]
def eAV : Option (Nat × Nat) → AV
  | none => .nilIface
  | some (p, c) => errAV [(exprTxt, (p : Int))] (c : Int)
@[simp ↓ high] theorem eAV_low (x : Option (Nat × Nat)) : low 0 (eAV x) = true := by
  cases x with
  | none => rfl
  | some x => exact errAV_low _ _
@[simp ↓ high] theorem eAV_ids (x : Option (Nat × Nat)) : idsOf (eAV x) = [] := by
  cases x with
  | none => rfl
  | some x => simp [eAV, errAV, idsOf]
@[simp high] theorem eAV_eql (x : Option (Nat × Nat)) : abin Tryz.prog .eql 33 true (eAV x) .nilIface = some (.bool x.isNone) := by
  cases x with
  | none => simp [eAV]
  | some x => simp [eAV]
@[simp high] theorem eAV_neq (x : Option (Nat × Nat)) : abin Tryz.prog .neq 33 true (eAV x) .nilIface = some (.bool x.isSome) := by
  cases x with
  | none => simp [eAV]
  | some x => simp [eAV]
@[simp ↓ high] theorem eAV_known (x : Option (Nat × Nat)) : (eAV x).known = true := by
  cases x <;> simp [eAV, errAV]
@[simp ↓ high] theorem eAV_one (x : Option (Nat × Nat)) : (eAV x).one = true := by
  cases x <;> simp [eAV, errAV]
@[simp ↓ high] theorem eAV_cells (x : Option (Nat × Nat)) : cellsAV (eAV x) = [eAV x] := by
  cases x <;> simp [eAV, errAV]
theorem eAV_inj {x y : Option (Nat × Nat)} (h : eAV x = eAV y) : x = y := by
  cases x with
  | none => cases y with
    | none => rfl
    | some y => simp [eAV, errAV] at h
  | some x => cases y with
    | none => simp [eAV, errAV] at h
    | some y =>
      obtain ⟨p, c⟩ := x
      obtain ⟨q, d⟩ := y
      simp [eAV, errAV] at h
      obtain ⟨h1, h2⟩ := h
      have e1 : p = q := by omega
      have e2 : c = d := by omega
      rw [e1, e2]
@[simp ↓ high] theorem wdsAV_low' (l : List Wd) : low 0 (wdsAV l) = true := by
  unfold wdsAV; split
  · rfl
  · exact wdsCells_low l
@[simp ↓ high] theorem wdsAV_ids (l : List Wd) : idsOf (wdsAV l) = [] := by
  unfold wdsAV; split <;> rfl
@[simp ↓ high] theorem wdsAV_known (l : List Wd) : (wdsAV l).known = true := by unfold wdsAV; split <;> rfl
@[simp ↓ high] theorem wdsAV_one (l : List Wd) : (wdsAV l).one = true := by unfold wdsAV; split <;> rfl
@[simp ↓ high] theorem wdsAV_cells (l : List Wd) : cellsAV (wdsAV l) = [wdsAV l] := by unfold wdsAV; split <;> rfl
@[simp high] theorem alenX (l : List Wd) : alen Tryz.prog 125 (wdsAV l) = some (.int .i64 l.length) := by
  unfold wdsAV
  split
  · rename_i h; subst h; simp [alen]
  · simp [alen]
theorem cells_atX : ∀ (l : List Wd) (i : Nat) (w : Wd), l[i]? = some w → ((wdsCells l).drop (i * 4)).take 4 = wdCells w ∧ i * 4 + 4 ≤ (wdsCells l).length
  | [], i, w, h => by simp at h
  | x :: l, i, w, h => by
    have hc : wdsCells (x :: l) = wdCells x ++ wdsCells l := rfl
    have hx : (wdCells x).length = 4 := rfl
    cases i with
    | zero =>
      simp only [List.getElem?_cons_zero, Option.some.injEq] at h
      subst h
      rw [hc]
      refine ⟨?_, by simp [hx]⟩
      rw [Nat.zero_mul, List.drop_zero, List.take_append_of_le_length (by omega), List.take_of_length_le (by omega)]
    | succ i =>
      simp only [List.getElem?_cons_succ] at h
      obtain ⟨h1, h2⟩ := cells_atX l i w h
      rw [hc]
      refine ⟨?_, by simp only [List.length_append, hx]; omega⟩
      rw [List.drop_append, List.drop_of_length_le (by omega), hx, List.nil_append, show (i + 1) * 4 - 4 = i * 4 by omega]
      exact h1
@[simp high] theorem aidxX {l : List Wd} {i : Nat} (h : i < l.length) : aindexAddr Tryz.prog 125 (wdsAV l) (.int .i64 (i : Int)) = some (.vptr (wdsCells l) (i * 4)) := by
  have hne : l ≠ [] := by rintro rfl; simp at h
  have : (i : Int) < l.length := by omega
  simp [wdsAV, hne, aindexAddr, h]
theorem cellX {l : List Wd} {i : Nat} {w : Wd} (h : l[i]? = some w) : (wdsCells l)[i * 4]? = some (.int .i64 w.kind) ∧ (wdsCells l)[i * 4 + 1]? = some (.str w.text) ∧ (wdsCells l)[i * 4 + 3]? = some (.int .i64 w.n) := by
  obtain ⟨h1, h2⟩ := cells_atX l i w h
  have key : ∀ k, k < 4 → (wdsCells l)[i * 4 + k]? = (wdCells w)[k]? := by
    intro k hk
    rw [← h1, List.getElem?_take, if_pos hk, List.getElem?_drop]
  exact ⟨by simpa [wdCells] using key 0 (by omega), by simpa [wdCells] using key 1 (by omega), by simpa [wdCells] using key 3 (by omega)⟩
def rdC (ts : List Wd) (a d : Int) (x : Option (Nat × Nat)) : List AV := [wdsAV ts, .int .i64 a, .int .i64 d, eAV x]
@[simp] theorem rdC_eq (ts : List Wd) (a d : Int) (x : Option (Nat × Nat)) : rdC ts a d x = [wdsAV ts, .int .i64 a, .int .i64 d, eAV x] := nrfl rfl
def St.cells (ts : List Wd) (r : St) : List AV := rdC ts r.at_ r.deep r.err
theorem St.cells_low (ts : List Wd) (r : St) : lowL 0 (r.cells ts) = true := by simp [St.cells]
theorem St.cells_inj {ts : List Wd} {r q : St} (h : r.cells ts = q.cells ts) : r = q := by
  obtain ⟨a, d, x⟩ := r
  obtain ⟨b, e, y⟩ := q
  simp only [St.cells, rdC_eq, List.cons.injEq, AV.int.injEq, true_and, and_true] at h
  obtain ⟨h1, h2, h3⟩ := h
  have := eAV_inj h3
  subst this
  simp only [St.mk.injEq, and_true]
  omega
theorem fail_cs (ts : List Wd) (r : St) (p e : Nat) {H : AH} {id : Nat} (hH : H.at id = some (.box (r.cells ts))) :
    CS Tryz.prog envX 181 [.ptr id 0, .int .i64 (p : Int), .int .i64 (e : Int)] H (.tup []) (H.set id (some (.box ((r.fail p e).cells ts)))) := by
  refine CS.rd lowX Tryz.func181 (by kernel_rfl) 0 (by simp [Tryz.f181]) (fun B hB hG => ?_) (by simp) rfl (St.cells_low ts r) (St.cells_low ts _) hH
  refine Tr.goD oNilX hG (by kernel_rfl) ?_
  cases he : r.err with
  | none => simp [Tryz.f181, St.cells, St.fail, he, eAV, errAV, buFault, exprTxt]
  | some x => simp [Tryz.f181, St.cells, St.fail, he]
def Ex.kd : Ex → Int
  | .none => 0
  | .num _ => 1
  | .var _ => 2
  | .elem _ _ => 3
  | .neg _ => 4
  | .bin k _ _ => k
def Ex.nn : Ex → Int
  | .num n => n
  | _ => 0
def Ex.nm : Ex → List UInt8
  | .var s => s
  | .elem s _ => s
  | _ => []
mutual
def exC : Ex → List AV
  | .none => [.int .i64 0, .int .i64 0, .str [], .nilSlice]
  | .num n => [.int .i64 1, .int .i64 n, .str [], .nilSlice]
  | .var s => [.int .i64 2, .int .i64 0, .str s, .nilSlice]
  | .elem s a => [.int .i64 3, .int .i64 0, .str s, .slice .unk 4 a.length (exsC a)]
  | .neg e => [.int .i64 4, .int .i64 0, .str [], .slice .full 4 1 (exC e)]
  | .bin k a b => [.int .i64 k, .int .i64 0, .str [], .slice .full 4 2 (exC a ++ exC b)]
def exsC : List Ex → List AV
  | [] => []
  | e :: l => exC e ++ exsC l
end
def Ex.ar (e : Ex) : AV := (exC e).getD 3 .undef
@[simp] theorem exC_eq (e : Ex) : exC e = [.int .i64 e.kd, .int .i64 e.nn, .str e.nm, e.ar] := by
  cases e <;> rfl
theorem ar_none : Ex.none.ar = .nilSlice := nrfl rfl
theorem ar_num (n : Nat) : (Ex.num n).ar = .nilSlice := nrfl rfl
theorem ar_var (s : List UInt8) : (Ex.var s).ar = .nilSlice := nrfl rfl
theorem ar_elem (s : List UInt8) (a : List Ex) : (Ex.elem s a).ar = .slice .unk 4 a.length (exsC a) := nrfl rfl
theorem ar_neg (e : Ex) : (Ex.neg e).ar = .slice .full 4 1 (exC e) := nrfl rfl
theorem ar_bin (k : Nat) (a b : Ex) : (Ex.bin k a b).ar = .slice .full 4 2 (exC a ++ exC b) := nrfl rfl
mutual
theorem exC_low : ∀ e : Ex, lowL 0 (exC e) = true
  | .none => rfl
  | .num _ => rfl
  | .var _ => rfl
  | .elem s a => by rw [exC]; have := exsC_low a; simp [this]
  | .neg e => by rw [exC]; have := exC_low e; simpa using this
  | .bin k a b => by rw [exC]; have h1 := exC_low a; have h2 := exC_low b; simp only [exC_eq] at h1 h2; simp only [lowL, low, Bool.and_eq_true, true_and, and_true, Bool.true_and] at h1 h2; simp [h1, h2]
theorem exsC_low : ∀ l : List Ex, lowL 0 (exsC l) = true
  | [] => rfl
  | e :: l => by rw [exsC, lowL_append, exC_low e, exsC_low l]; rfl
end
theorem exsC_append : ∀ a b : List Ex, exsC (a ++ b) = exsC a ++ exsC b
  | [], b => rfl
  | e :: a, b => by rw [List.cons_append, exsC, exsC, exsC_append a b, List.append_assoc]
@[simp ↓ high] theorem ar_low (e : Ex) : low 0 e.ar = true := by
  have := exC_low e
  rw [exC_eq] at this
  simpa using this
@[simp ↓ high] theorem ar_ids (e : Ex) : idsOf e.ar = [] := by
  cases e <;> rfl
@[simp ↓ high] theorem ar_known (e : Ex) : e.ar.known = true := by cases e <;> rfl
@[simp ↓ high] theorem ar_one (e : Ex) : e.ar.one = true := by cases e <;> rfl
@[simp ↓ high] theorem ar_cells (e : Ex) : cellsAV e.ar = [e.ar] := by cases e <;> rfl
def exAV (e : Ex) : AV := .agg (exC e)
@[simp] theorem exAV_eq (e : Ex) : exAV e = .agg [.int .i64 e.kd, .int .i64 e.nn, .str e.nm, e.ar] := by rw [exAV, exC_eq]
@[simp] theorem buE0 : abuild Tryz.prog 27 [] = some (.agg [.int .i64 0, .int .i64 0, .str [], .nilSlice]) := by kernel_rfl
@[simp] theorem buE1 (k n : Int) : abuild Tryz.prog 27 [(0, .int .i64 k), (1, .int .i64 n)] = some (.agg [.int .i64 k, .int .i64 n, .str [], .nilSlice]) := by kernel_rfl
@[simp] theorem buE2 (k : Int) (s : List UInt8) : abuild Tryz.prog 27 [(0, .int .i64 k), (2, .str s)] = some (.agg [.int .i64 k, .int .i64 0, .str s, .nilSlice]) := by kernel_rfl
@[simp] theorem buE3 (k : Int) (ow : Own) (sz n : Nat) (cs : List AV) : abuild Tryz.prog 27 [(0, .int .i64 k), (3, .slice ow sz n cs)] = some (.agg [.int .i64 k, .int .i64 0, .str [], .slice ow sz n cs]) := by kernel_rfl
@[simp] theorem bsE1 (a b c d : AV) : abuildSlice Tryz.prog 25 1 [(0, .agg [a, b, c, d])] = some (.slice .full 4 1 [a, b, c, d]) := by kernel_rfl
@[simp] theorem bsE2 (a b c d e f g h : AV) : abuildSlice Tryz.prog 25 2 [(0, .agg [a, b, c, d]), (1, .agg [e, f, g, h])] = some (.slice .full 4 2 [a, b, c, d, e, f, g, h]) := by kernel_rfl
theorem next_cs (ts : List Wd) (r : St) (s : List UInt8) {H : AH} {id : Nat} (hH : H.at id = some (.box (r.cells ts))) :
    CS Tryz.prog envX 180 [.ptr id 0, .str s] H (.bool (nextB ts r s)) (H.set id (some (.box (r.cells ts)))) := by
  refine CS.rd lowX Tryz.func180 (by kernel_rfl) 0 (by simp [Tryz.f180]) (fun B hB hG => ?_) (by simp) rfl (St.cells_low ts r) (St.cells_low ts _) hH
  refine Tr.goD oNilX hG (by kernel_rfl) ?_
  simp [Tryz.f180, St.cells]
  refine LpD.turns oNilX hG [] [] (by kernel_rfl) ?_
  cases he : r.err with
  | some x => simp [nextB, he]
  | none =>
    by_cases hl : r.at_ < ts.length
    · have hl' : (r.at_ : Int) < ts.length := by omega
      obtain ⟨w, hw⟩ : ∃ w, ts[r.at_]? = some w := ⟨_, List.getElem?_eq_getElem hl⟩
      obtain ⟨c0, c1, c3⟩ := cellX hw
      have hn : isS ts r.at_ s = (w.kind == 3 && w.text == s) := by simp only [isS, hw]
      by_cases hk : w.kind = 3
      · simp [nextB, hn, he, hl, hl', hk, c0, c1]
      · have hk' : ((w.kind : Int) == 3) = false := by rw [beq_eq_false_iff_ne]; omega
        simp [nextB, hn, he, hl, hl', hk, hk', c0, c1]
    · have hl' : ¬ ((r.at_ : Int) < ts.length) := by omega
      have hw : ts[r.at_]? = none := List.getElem?_eq_none (by omega)
      have hn : isS ts r.at_ s = false := by simp only [isS, hw]
      simp [nextB, hn, he, hl', hw]
end Go.Proofs.YtejjlojfgcgopaaGreatDoor
