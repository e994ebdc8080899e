/- The reference's small functions on bytes and signs, numbers. .. The reference's Toks, whole. -/
import Derived.Test.YtejjlojfgcgopaaGreatDoorZi5
import Derived.Test.YtejjlojfgcgopaaGreatDoorZi3
import Derived.Test.YtejjlojfgcgopaaGreatDoorZi4
import Derived.Shelf.Strings.OnBuilder
set_option linter.unusedSimpArgs false
set_option linter.unusedVariables false
namespace Go.Proofs.YtejjlojfgcgopaaGreatDoor
open Go.RowKit Go.Proofs.Fw
set_option maxRecDepth 100000
set_option maxHeartbeats 4000000
theorem cxN : Cx oNil Tryz.prog envT := ⟨oNil_sound, methT, mixed⟩
theorem rletter_cs (b : UInt8) (H : AH) : CS Tryz.prog envT 61 [.int .u8 (b.toNat : Int)] H (.bool (isSmall b)) H := by
  refine CS.run0 cxN lowT Tryz.func61 (by kernel_rfl) (by kernel_rfl) 0 (by simp [Tryz.f61]) ?_ rfl rfl H
  by_cases h1 : (97 : Int) ≤ (b.toNat : Int)
  · have h3 : 97 ≤ b.toNat := by omega
    by_cases h2 : (b.toNat : Int) ≤ 122
    · have h4 : b.toNat ≤ 122 := by omega
      simp [Tryz.f61, isSmall, h1, h2, h3, h4]
    · have h4 : ¬ b.toNat ≤ 122 := by omega
      simp [Tryz.f61, isSmall, h1, h2, h3, h4]
  · have h3 : ¬ 97 ≤ b.toNat := by omega
    simp [Tryz.f61, isSmall, h1, h3]
theorem rdigit_cs (b : UInt8) (H : AH) : CS Tryz.prog envT 64 [.int .u8 (b.toNat : Int)] H (.bool (isDigit b)) H := by
  refine CS.run0 cxN lowT Tryz.func64 (by kernel_rfl) (by kernel_rfl) 0 (by simp [Tryz.f64]) ?_ rfl rfl H
  by_cases h1 : (48 : Int) ≤ (b.toNat : Int)
  · have h3 : 48 ≤ b.toNat := by omega
    by_cases h2 : (b.toNat : Int) ≤ 57
    · have h4 : b.toNat ≤ 57 := by omega
      simp [Tryz.f64, isDigit, h1, h2, h3, h4]
    · have h4 : ¬ b.toNat ≤ 57 := by omega
      simp [Tryz.f64, isDigit, h1, h2, h3, h4]
  · have h3 : ¬ 48 ≤ b.toNat := by omega
    simp [Tryz.f64, isDigit, h1, h3]
def oRb : Orc := oTab [(61, callB 61 isSmall), (64, callB 64 isDigit)]
theorem oRb_sound : Sound Tryz.prog envT oRb := oTab_sound fun p hp => by
  simp only [List.mem_cons, List.not_mem_nil, or_false] at hp
  rcases hp with rfl | rfl
  · exact callB_sound rletter_cs
  · exact callB_sound rdigit_cs
theorem oRb_l (b : UInt8) (H : AH) : oRb 61 [.int .u8 (b.toNat : Int)] H = some (.bool (isSmall b), H) := by simp [oRb, oTab, callB_at]
theorem oRb_d (b : UInt8) (H : AH) : oRb 64 [.int .u8 (b.toNat : Int)] H = some (.bool (isDigit b), H) := by simp [oRb, oTab, callB_at]
theorem rbehind_cs (b : UInt8) (H : AH) : CS Tryz.prog envT 62 [.int .u8 (b.toNat : Int)] H (.bool (isInner b)) H := by
  refine CS.run0 ⟨oRb_sound, methT, mixed⟩ lowT Tryz.func62 (by kernel_rfl) (by kernel_rfl) 0 (by simp [Tryz.f62]) ?_ rfl rfl H
  cases h1 : isSmall b
  · cases h2 : isDigit b
    · simp [Tryz.f62, isInner, h1, h2, oRb_l, oRb_d]
      rw [Bool.eq_iff_iff]
      simp only [beq_iff_eq]
      omega
    · simp [Tryz.f62, isInner, h1, h2, oRb_l, oRb_d]
  · simp [Tryz.f62, isInner, h1, oRb_l]
theorem rat_cs (w : List UInt8) (p e : Int) (H : AH) : CS Tryz.prog envT 24 [.str w, .int .i64 p, .int .i64 e] H (.agg [.slice .full 2 1 [.str w, .int .i64 p], .int .i64 e]) H := by
  have b1 : abuild Tryz.prog 158 [(0, .str w), (1, .int .i64 p)] = some (.agg [.str w, .int .i64 p]) := by kernel_rfl
  have b2 : abuildSlice Tryz.prog 55 1 [(0, .agg [.str w, .int .i64 p])] = some (.slice .full 2 1 [.str w, .int .i64 p]) := by kernel_rfl
  have b3 : abuild Tryz.prog 57 [(0, .slice .full 2 1 [.str w, .int .i64 p]), (1, .int .i64 e)] = some (.agg [.slice .full 2 1 [.str w, .int .i64 p], .int .i64 e]) := by kernel_rfl
  refine CS.run0 cxN lowT Tryz.func24 (by kernel_rfl) (by kernel_rfl) 0 (by simp [Tryz.f24]) ?_ rfl rfl H
  simp [Tryz.f24, b1, b2, b3]
theorem rsign_cs (s : List UInt8) (i : Nat) (hi : i < s.length) (hs : s.length < maxS) (H : AH) : CS Tryz.prog envT 66 [.str s, .int .i64 i] H (.int .i64 (signLen (s.drop i))) H := by
  rw [maxS_eq] at hs
  refine CS.run0 cxN lowT Tryz.func66 (by kernel_rfl) (by kernel_rfl) 0 (by simp [Tryz.f66]) ?_ rfl rfl H
  have hd : s.drop i = s[i] :: s.drop (i + 1) := List.drop_eq_getElem_cons hi
  have w : IntKind.i64.wrap ((i : Int) + 1) = (i : Int) + 1 := wrap_i64 (by omega) (by omega)
  have ht : ((i : Int) + 1).toNat = i + 1 := by omega
  have h00 : (0 : Int) ≤ (i : Int) + 1 := by omega
  rw [hd]
  generalize hc : s[i] = c
  by_cases h : c.toNat = 60 ∨ c.toNat = 62 ∨ c.toNat = 61 ∨ c.toNat = 47 ∨ c.toNat = 43 ∨ c.toNat = 45 ∨ c.toNat = 42 ∨ c.toNat = 40 ∨ c.toNat = 41 ∨ c.toNat = 44
  · by_cases hl : i + 1 < s.length
    · have hl' : (i : Int) + 1 < s.length := by omega
      have hd2 : s.drop (i + 1) = s[i + 1] :: s.drop (i + 1 + 1) := List.drop_eq_getElem_cons hl
      rw [hd2]
      generalize hd : s[i + 1] = d
      by_cases he : d.toNat = 61
      · rcases h with h | h | h | h | h | h | h | h | h | h <;>
          simp [Tryz.f66, signLen, h, hc, hd, he, hl, hl', w, ht, h00, hi]
      · have he' : ¬ (d.toNat : Int) = 61 := by omega
        rcases h with h | h | h | h | h | h | h | h | h | h <;>
          simp [Tryz.f66, signLen, h, hc, hd, he, he', hl, hl', w, ht, h00, hi]
    · have hl' : ¬ (i : Int) + 1 < s.length := by omega
      have hd2 : s.drop (i + 1) = [] := List.drop_of_length_le (by omega)
      rw [hd2]
      rcases h with h | h | h | h | h | h | h | h | h | h <;>
        simp [Tryz.f66, signLen, h, hc, hl, hl', w, ht, h00, hi]
  · simp only [not_or] at h
    obtain ⟨a0, a1, a2, a3, a4, a5, a6, a7, a8, a9⟩ := h
    have b0 : ¬ (c.toNat : Int) = 60 := by omega
    have b1 : ¬ (c.toNat : Int) = 62 := by omega
    have b2 : ¬ (c.toNat : Int) = 61 := by omega
    have b3 : ¬ (c.toNat : Int) = 47 := by omega
    have b4 : ¬ (c.toNat : Int) = 43 := by omega
    have b5 : ¬ (c.toNat : Int) = 45 := by omega
    have b6 : ¬ (c.toNat : Int) = 42 := by omega
    have b7 : ¬ (c.toNat : Int) = 40 := by omega
    have b8 : ¬ (c.toNat : Int) = 41 := by omega
    have b9 : ¬ (c.toNat : Int) = 44 := by omega
    by_cases hl : i + 1 < s.length
    · have hl' : (i : Int) + 1 < s.length := by omega
      simp [Tryz.f66, signLen, hc, hl, hl', w, ht, h00, hi, a0, a1, a2, a3, a4, a5, a6, a7, a8, a9, b0, b1, b2, b3, b4, b5, b6, b7, b8, b9]
    · have hl' : ¬ (i : Int) + 1 < s.length := by omega
      simp [Tryz.f66, signLen, hc, hl, hl', w, ht, h00, hi, a0, a1, a2, a3, a4, a5, a6, a7, a8, a9, b0, b1, b2, b3, b4, b5, b6, b7, b8, b9]
end Go.Proofs.YtejjlojfgcgopaaGreatDoor
namespace Go.Proofs.YtejjlojfgcgopaaGreatDoor
open Go.RowKit Go.Proofs.Fw
set_option maxRecDepth 100000
set_option maxHeartbeats 4000000
noncomputable def cK : Code := bodyOf Tryz.f63
noncomputable def tailK : Code := tailC 2 cK
noncomputable def loopK : Code := fstC tailK
noncomputable def endK : Code := sndC tailK
noncomputable def forK : Code := sndC loopK
noncomputable def bodyK : Code := inC (inC forK)
def keysF : AV := .slice .full 1 8 (keysL.map .str)
theorem rkey_cs (s : List UInt8) (H : AH) : CS Tryz.prog envT 63 [.str s] H (.bool (isKey s)) H := by
  have bs : abuildSlice Tryz.prog 23 8 [(0, .str [105,110,116,101,103,101,114]), (1, .str [100,111]), (2, .str [101,110,100]), (3, .str [105,102]), (4, .str [116,104,101,110]), (5, .str [101,108,115,101]), (6, .str [114,101,97,100]), (7, .str [112,114,105,110,116])] = some keysF := by kernel_rfl
  refine CS.tr0 lowT Tryz.func63 (by kernel_rfl) 0 (by simp [Tryz.f63]) (fun B hB hG => ?_) rfl rfl H
  refine Tr.pre cxN hG 2 (R := tailK) rfl (by kernel_rfl) (by kernel_rfl) ?_
  rw [Go_of]
  simp [Tryz.f63, bs]
  refine Tr.seqD (a := loopK) (b := endK) (by kernel_rfl) ?_
  refine Tr.pre cxN hG 1 (R := forK) (by kernel_rfl) (by kernel_rfl) (by kernel_rfl) ?_
  rw [Go_of]
  simp [loopK, tailK, cK, Tryz.f63]
  refine Tr.less (t' := mkT 18 [(0, .str s), (3, keysF), (4, .int .i64 ((0 : Nat) : Int))]) (H' := []) (Less.mk0 hB ?_) ?_
  · simp [keysF, keysL]
  refine Tr.forD (a := bodyK) (id := 0) (by kernel_rfl) (fun k t H => ∃ i, i + k = 8 ∧ t = mkT 18 [(0, .str s), (3, keysF), (4, .int .i64 ((i : Nat) : Int))] ∧ H = [] ∧ ∀ j < i, keysL[j]? ≠ some s) 8 ⟨0, rfl, rfl, rfl, by simp⟩ ?_
  rintro k t H ⟨i, hik, rfl, rfl, hI⟩
  refine Tr.run cxN hG (by kernel_rfl) ?_
  rw [Go_of]
  cases k with
  | zero =>
    obtain rfl : i = 8 := by omega
    have hno : isKey s = false := by
      unfold isKey
      rw [← Bool.not_eq_true, List.contains_iff_mem]
      intro hm
      obtain ⟨j, hj⟩ := List.mem_iff_getElem?.1 hm
      have : j < 8 := (List.getElem?_eq_some_iff.1 hj).1
      exact hI j this hj
    simp [bodyK, forK, loopK, tailK, cK, Tryz.f63, keysF, Blk_exit]
    refine Tr.run cxN hG (by kernel_rfl) ?_
    rw [Go_of]
    simp [endK, tailK, cK, Tryz.f63, hno]
  | succ k =>
    have h8 : keysL.length = 8 := rfl
    obtain ⟨x, hx⟩ : ∃ x, keysL[i]? = some x := ⟨_, List.getElem?_eq_getElem (by omega)⟩
    have hi : (i : Int) < 8 := by omega
    have w : IntKind.i64.wrap ((i : Int) + 1) = (i : Int) + 1 := wrap_i64 (by omega) (by omega)
    simp [bodyK, forK, loopK, tailK, cK, Tryz.f63, keysF, hi, hx]
    refine GoD_split (fun he => ?_) (fun he => ?_)
    · subst he
      have hyes : isKey x = true := by
        unfold isKey
        rw [List.contains_iff_mem]
        exact List.mem_of_getElem? hx
      simp [Blk_ret, hyes]
    · simp [w]
      refine ⟨k, by omega, _, _, Less.mk0 (l' := [(0, .str s), (3, keysF), (4, .int .i64 ((i + 1 : Nat) : Int))]) hB ?_, i + 1, by omega, rfl, rfl, fun j hj => ?_⟩
      · simp [keysF, keysL]
      · rcases Nat.lt_or_ge j i with h | h
        · exact hI j h
        · obtain rfl : j = i := by omega
          rw [hx]
          intro h
          injection h with h
          exact he h
end Go.Proofs.YtejjlojfgcgopaaGreatDoor
namespace Go.Proofs.YtejjlojfgcgopaaGreatDoor
open Go.RowKit Go.Proofs.Fw
set_option maxRecDepth 100000
set_option maxHeartbeats 4000000
noncomputable def cN : Code := bodyOf Tryz.f65
noncomputable def tailN : Code := tailC 2 cN
noncomputable def loopN : Code := fstC tailN
noncomputable def endN : Code := sndC tailN
noncomputable def forN : Code := sndC loopN
noncomputable def bodyN : Code := inC (inC forN)
def numRes (s : List UInt8) : AV := if numOf s < 9223372036854775808 then .tup [.int .i64 (numOf s), .bool true] else .tup [.int .i64 0, .bool false]
def NumI (s : List UInt8) (k : Nat) (t : List AV) (H : AH) : Prop :=
  ∃ i n, i + k = s.length ∧ t = mkT 29 [(0, .str s), (4, .int .u64 ((n : Nat) : Int)), (5, .int .i64 ((i : Nat) : Int))] ∧ H = [] ∧ n = numOf (s.take i) ∧ n < 9223372036854775808
theorem rnum_cs (s : List UInt8) (hd : allDigits s) (hs : s.length < maxS) (H : AH) : CS Tryz.prog envT 65 [.str s] H (numRes s) H := by
  rw [maxS_eq] at hs
  refine CS.tr0 lowT Tryz.func65 (by kernel_rfl) 0 (by simp [Tryz.f65]) (fun B hB hG => ?_) (by unfold numRes; split <;> rfl) rfl H
  refine Tr.pre cxN hG 2 (R := tailN) rfl (by kernel_rfl) (by kernel_rfl) ?_
  rw [Go_of]
  simp [Tryz.f65]
  refine Tr.seqD (a := loopN) (b := endN) (by kernel_rfl) ?_
  refine Tr.pre cxN hG 1 (R := forN) (by kernel_rfl) (by kernel_rfl) (by kernel_rfl) ?_
  rw [Go_of]
  simp [loopN, tailN, cN, Tryz.f65]
  refine Tr.less (t' := mkT 29 [(0, .str s), (4, .int .u64 ((0 : Nat) : Int)), (5, .int .i64 ((0 : Nat) : Int))]) (H' := []) (Less.mk0 hB ?_) ?_
  · simp
  refine Tr.forD (a := bodyN) (id := 0) (by kernel_rfl) (NumI s) s.length ⟨0, 0, by omega, rfl, rfl, rfl, by omega⟩ ?_
  rintro k t H ⟨i, n, hik, rfl, rfl, hn, hlt⟩
  refine Tr.run cxN hG (by kernel_rfl) ?_
  rw [Go_of]
  cases k with
  | zero =>
    obtain rfl : i = s.length := by omega
    rw [List.take_length] at hn
    have w : IntKind.i64.wrap (n : Int) = (n : Int) := wrap_i64 (by omega) (by omega)
    have hr : numRes s = .tup [.int .i64 n, .bool true] := by rw [numRes, if_pos (by omega), hn]
    simp [bodyN, forN, loopN, tailN, cN, Tryz.f65, Blk_exit]
    refine Tr.run cxN hG (by kernel_rfl) ?_
    rw [Go_of]
    simp [endN, tailN, cN, Tryz.f65, w, hr]
  | succ k =>
    have hi : i < s.length := by omega
    have hi' : (i : Int) < s.length := by omega
    have hc := hd s[i] (List.getElem_mem hi)
    have htk : s.take (i + 1) = s.take i ++ [s[i]] := by rw [List.take_add_one, List.getElem?_eq_getElem hi]; rfl
    have hval : numOf (s.take (i + 1)) = 10 * n + (s[i].toNat - 48) := by rw [htk, numOf_snoc, ← hn]
    have hle : numOf (s.take (i + 1)) ≤ numOf s := by
      have := numOf_mono (s.take (i + 1)) (s.drop (i + 1))
      rwa [List.take_append_drop] at this
    obtain ⟨d, hdd⟩ : ∃ d : Nat, d = s[i].toNat - 48 := ⟨_, rfl⟩
    have w1 : IntKind.u8.wrap ((s[i].toNat : Int) - 48) = (d : Int) := by simp [IntKind.wrap, IntKind.bits, IntKind.signed]; omega
    have w2 : IntKind.u64.wrap (d : Int) = (d : Int) := by simp [IntKind.wrap, IntKind.bits, IntKind.signed]; omega
    have w3 : IntKind.u64.wrap (9223372036854775807 - (d : Int)) = 9223372036854775807 - (d : Int) := by simp [IntKind.wrap, IntKind.bits, IntKind.signed]; omega
    obtain ⟨q, hq⟩ : ∃ q : Nat, q = (9223372036854775807 - d) / 10 := ⟨_, rfl⟩
    have w4 : (9223372036854775807 - (d : Int)).tdiv 10 = (q : Int) := by rw [Int.tdiv_eq_ediv_of_nonneg (by omega)]; omega
    have w5 : IntKind.u64.wrap (q : Int) = (q : Int) := by simp [IntKind.wrap, IntKind.bits, IntKind.signed]; omega
    have w9 : IntKind.i64.wrap ((i : Int) + 1) = (i : Int) + 1 := wrap_i64 (by omega) (by omega)
    simp [bodyN, forN, loopN, tailN, cN, Tryz.f65, hi, hi', w1, w2, w3, w4, w5]
    refine GoD_split (fun he => ?_) (fun he => ?_)
    · have hr : numRes s = .tup [.int .i64 0, .bool false] := by rw [numRes, if_neg (by omega)]
      simp [Blk_ret, hr]
    · have w6 : IntKind.u64.wrap (10 * (n : Int)) = 10 * (n : Int) := by simp [IntKind.wrap, IntKind.bits, IntKind.signed]; omega
      have w7 : IntKind.u64.wrap (10 * (n : Int) + (d : Int)) = 10 * (n : Int) + (d : Int) := by simp [IntKind.wrap, IntKind.bits, IntKind.signed]; omega
      simp [w6, w7, w9]
      refine ⟨k, by omega, _, _, Less.mk0 (l' := [(0, .str s), (4, .int .u64 ((10 * n + d : Nat) : Int)), (5, .int .i64 ((i + 1 : Nat) : Int))]) hB ?_, i + 1, 10 * n + d, by omega, rfl, rfl, by omega, by omega⟩
      simp
end Go.Proofs.YtejjlojfgcgopaaGreatDoor

namespace Go.Proofs.YtejjlojfgcgopaaGreatDoor
open Go.RowKit Go.Proofs.Fw
set_option maxRecDepth 100000
set_option maxHeartbeats 4000000
noncomputable def c10 : Code := bodyOf Tryz.f20
noncomputable def tail10 : Code := tailC 3 c10
noncomputable def for10 : Code := fstC tail10
noncomputable def end10 : Code := sndC tail10
noncomputable def body10 : Code := inC (inC for10)
noncomputable def F10 : Func := Tryz.f20
def atAV (w : List UInt8) (p e : Nat) : AV := .agg [.slice .full 2 1 [.str w, .int .i64 p], .int .i64 e]
def noneAV : AV := .agg [.nilSlice, .int .i64 0]
def toksAV : Except (Nat × Nat) (List Wd) → AV
  | .ok l => .tup [wdsAV l, noneAV]
  | .error (p, e) => .tup [.nilSlice, atAV wordTxt p e]
def outR (l : List Wd) : AV := if l = [] then .nilSlice else .slice (.tok 1) 4 l.length (wdsCells l)
def resB : Ent := .box [.nilSlice, .int .i64 0]
def HR (l : List Wd) : AH := if l = [] then [some resB] else [some resB, some (.tok l.length)]
theorem HR_cases (l : List Wd) : (l = [] ∧ HR l = [some resB]) ∨ (l ≠ [] ∧ HR l = [some resB, some (.tok l.length)]) := by
  unfold HR
  by_cases h : l = []
  · exact .inl ⟨h, if_pos h⟩
  · exact .inr ⟨h, if_neg h⟩
theorem app10 (l : List Wd) (w : Wd) (fid : Nat) (H : AH) (hl : l.length < 137438953470) (h1 : l = [] → fid = 1) (h2 : l ≠ [] → H.at 1 = some (.tok l.length)) :
    aappend Tryz.prog H fid 54 54 (outR l) (.slice .full 4 1 [.int .i64 w.kind, .str w.text, .int .i64 w.at_, .int .i64 w.n]) = some (outR (l ++ [w]), [(1, .tok (l.length + 1))]) := by
  by_cases h : l = []
  · subst h
    rw [h1 rfl]
    simp only [outR, if_true]
    rw [aappend_nil Ty.ec54 (by omega) (by omega) (by simp [AV.one])]
    simp [wdsCells, wdCells]
  · have hne : l ++ [w] ≠ [] := by simp
    simp only [outR, if_neg h, if_neg hne]
    rw [aappend_tok Ty.ec54 (h2 h) (by omega) (by omega) (by simp [AV.one])]
    simp [wdsCells, wdCells]
theorem bsR (a : Int) (b : List UInt8) (c d : Int) : abuildSlice Tryz.prog 54 1 [(0, .agg [.int .i64 a, .str b, .int .i64 c, .int .i64 d])] = some (.slice .full 4 1 [.int .i64 a, .str b, .int .i64 c, .int .i64 d]) := by kernel_rfl
theorem buR (a : Int) (b : List UInt8) (c d : Int) : abuild Tryz.prog 144 [(0, .int .i64 a), (1, .str b), (2, .int .i64 c), (3, .int .i64 d)] = some (.agg [.int .i64 a, .str b, .int .i64 c, .int .i64 d]) := by kernel_rfl
theorem buW : abuild Tryz.prog 57 [] = some (.agg [.nilSlice, .int .i64 0]) := by kernel_rfl
def tR (s : List UInt8) (l : List Wd) (i : Nat) : List AV := mkT 139 [(0, .str s), (3, .ptr 0 0), (4, outR l), (5, .int .i64 i)]
theorem outR_low (l : List Wd) (m : Nat) (h : l = [] ∨ 1 < m) : low m (outR l) = true := by
  unfold outR
  split
  · rfl
  · rename_i hn
    have : 1 < m := by rcases h with h | h; exact absurd h hn; exact h
    simp [this, lowL_mono (Nat.zero_le m) _ (wdsCells_low l)]
theorem less10 {B : Bs} (hB : B.H = []) {s : List UInt8} {l : List Wd} {i : Nat} {a : List (Nat × AV)} {H : AH} (h0 : (a.lookup 0).getD .undef = .str s) (h3 : (a.lookup 3).getD .undef = .ptr 0 0) (h4 : (a.lookup 4).getD .undef = outR l) (h5 : (a.lookup 5).getD .undef = .int .i64 i)
    (hH : H.take (HR l).length = HR l) : Less B (mkT 139 a) H (tR s l i) (HR l) := by
  refine Less.mkT (HR l).length (by simp [hB]) ?_ hH ?_
  · intro p hp
    simp only [List.mem_cons, List.not_mem_nil, or_false] at hp
    rcases hp with rfl | rfl | rfl | rfl
    · exact .same h0 rfl
    · refine .same h3 ?_
      rcases HR_cases l with ⟨_, h⟩ | ⟨_, h⟩ <;> simp [h]
    · refine .same h4 (outR_low l _ ?_)
      rcases HR_cases l with ⟨h, _⟩ | ⟨_, h⟩
      · exact .inl h
      · exact .inr (by rw [h]; simp)
    · exact .same h5 rfl
  · rcases HR_cases l with ⟨_, h⟩ | ⟨_, h⟩ <;> simp [h, resB]
def oRkey : Orc := oPure 63 (fun args => match args with
    | [.str s] => some s
    | _ => none) fun s => .bool (isKey s)
theorem oRkey_sound : Sound Tryz.prog envT oRkey := oPure_sound fun args x H h => by
  split at h
  · injection h with h
    subst h
    exact rkey_cs _ H
  · cases h
def oRsign : Orc := oPure 66 (fun args => match args with
    | [.str s, .int .i64 n] => if 0 ≤ n ∧ n.toNat < s.length ∧ s.length < maxS then some (s, n.toNat) else none
    | _ => none) fun x => .int .i64 (signLen (x.1.drop x.2))
theorem oRsign_sound : Sound Tryz.prog envT oRsign := oPure_sound fun args x H h => by
  split at h
  · split at h
    · rename_i s n hn
      injection h with h
      subst h
      have := rsign_cs s n.toNat hn.2.1 hn.2.2 H
      rwa [Int.toNat_of_nonneg hn.1] at this
    · cases h
  · cases h
def oRnum : Orc := oPure 65 (fun args => match args with
    | [.str s] => if s.length < maxS ∧ s.all (fun b => decide (48 ≤ b.toNat) && decide (b.toNat ≤ 57)) = true then some s else none
    | _ => none) numRes
theorem oRnum_sound : Sound Tryz.prog envT oRnum := oPure_sound fun args x H h => by
  split at h
  · split at h
    · rename_i s hn
      injection h with h
      subst h
      exact rnum_cs s (fun b hb => by simpa using List.all_eq_true.1 hn.2 b hb) hn.1 H
    · cases h
  · cases h
def oRat : Orc := oPure 24 (fun args => match args with
    | [.str w, .int .i64 p, .int .i64 e] => some (w, p, e)
    | _ => none) fun x => .agg [.slice .full 2 1 [.str x.1, .int .i64 x.2.1], .int .i64 x.2.2]
theorem oRat_sound : Sound Tryz.prog envT oRat := oPure_sound fun args x H h => by
  split at h
  · injection h with h
    subst h
    exact rat_cs _ _ _ H
  · cases h
def oR : Orc := oTab [(61, oRb), (64, oRb), (62, callB 62 isInner), (63, oRkey), (66, oRsign), (65, oRnum), (24, oRat)]
theorem oR_sound : Sound Tryz.prog envT oR := oTab_sound fun p hp => by
  simp only [List.mem_cons, List.not_mem_nil, or_false] at hp
  rcases hp with rfl | rfl | rfl | rfl | rfl | rfl | rfl
  · exact oRb_sound
  · exact oRb_sound
  · exact callB_sound rbehind_cs
  · exact oRkey_sound
  · exact oRsign_sound
  · exact oRnum_sound
  · exact oRat_sound
theorem oR_cx : Cx oR Tryz.prog envT := ⟨oR_sound, methT, mixed⟩
theorem oR_l (b : UInt8) (H : AH) : oR 61 [.int .u8 (b.toNat : Int)] H = some (.bool (isSmall b), H) := by simp [oR, oTab, oRb_l]
theorem oR_d (b : UInt8) (H : AH) : oR 64 [.int .u8 (b.toNat : Int)] H = some (.bool (isDigit b), H) := by simp [oR, oTab, oRb_d]
theorem oR_b (b : UInt8) (H : AH) : oR 62 [.int .u8 (b.toNat : Int)] H = some (.bool (isInner b), H) := by simp [oR, oTab, callB_at]
theorem oR_k (s : List UInt8) (H : AH) : oR 63 [.str s] H = some (.bool (isKey s), H) := by simp [oR, oTab, oRkey, oPure]
theorem oR_at (w : List UInt8) (p e : Int) (H : AH) : oR 24 [.str w, .int .i64 p, .int .i64 e] H = some (.agg [.slice .full 2 1 [.str w, .int .i64 p], .int .i64 e], H) := by simp [oR, oTab, oRat, oPure]
theorem oR_s (s : List UInt8) (n : Nat) (H : AH) (h : n < s.length) (hs : s.length < maxS) : oR 66 [.str s, .int .i64 n] H = some (.int .i64 (signLen (s.drop n)), H) := by
  simp [oR, oTab, oRsign, oPure, h, hs]
theorem oR_n (s : List UInt8) (H : AH) (h : allDigits s) (hs : s.length < maxS) : oR 65 [.str s] H = some (numRes s, H) := by
  have : s.all (fun b => decide (48 ≤ b.toNat) && decide (b.toNat ≤ 57)) = true := List.all_eq_true.2 fun b hb => by simpa using h b hb
  simp only [oR, oTab, List.lookup]
  simp [oRnum, oPure, hs]
  exact h
def ScanI (s : List UInt8) (l : List Wd) (i F : Nat) (H : AH) (k : Nat) (t : List AV) (H' : AH) : Prop :=
  ∃ m, m + k = F ∧ t = mkT 139 [(0, .str s), (3, .ptr 0 0), (4, outR l), (5, .int .i64 ((i + m : Nat) : Int)), (6, .int .i64 ((i : Nat) : Int))] ∧ H' = H
theorem lessScan {B : Bs} (hB : B.H = []) {s : List UInt8} {l : List Wd} {i j : Nat} {a : List (Nat × AV)} {H : AH} (hH : H = HR l) (h0 : (a.lookup 0).getD .undef = .str s) (h3 : (a.lookup 3).getD .undef = .ptr 0 0) (h4 : (a.lookup 4).getD .undef = outR l)
    (h5 : (a.lookup 5).getD .undef = .int .i64 ((j : Nat) : Int)) (h6 : (a.lookup 6).getD .undef = .int .i64 ((i : Nat) : Int)) :
    Less B (mkT 139 a) H (mkT 139 [(0, .str s), (3, .ptr 0 0), (4, outR l), (5, .int .i64 ((j : Nat) : Int)), (6, .int .i64 ((i : Nat) : Int))]) H := by
  subst hH
  refine Less.mkT (HR l).length (by simp [hB]) ?_ (by simp) ?_
  · intro p hp
    simp only [List.mem_cons, List.not_mem_nil, or_false] at hp
    rcases hp with rfl | rfl | rfl | rfl | rfl
    · exact .same h0 rfl
    · refine .same h3 ?_
      rcases HR_cases l with ⟨_, h⟩ | ⟨_, h⟩ <;> simp [h]
    · refine .same h4 (outR_low l _ ?_)
      rcases HR_cases l with ⟨h, _⟩ | ⟨_, h⟩
      · exact .inl h
      · exact .inr (by rw [h]; simp)
    · exact .same h5 rfl
    · exact .same h6 rfl
  · rcases HR_cases l with ⟨_, h⟩ | ⟨_, h⟩ <;> simp [h, resB]
theorem scanIn (p : UInt8 → Bool) (s : List UInt8) (i m : Nat) (h : m < frontLen p (s.drop i)) : ∃ h : i + m < s.length, p s[i + m] = true := by
  obtain ⟨h1, h2⟩ := frontLen_in p (s.drop i) m h
  rw [List.length_drop] at h1
  exact ⟨by omega, by simpa [List.getElem_drop] using h2⟩
theorem scan_out (p : UInt8 → Bool) (s : List UInt8) (i : Nat) (h : i + frontLen p (s.drop i) < s.length) : p s[i + frontLen p (s.drop i)] = false := by
  have := frontLen_out p (s.drop i) (by rw [List.length_drop]; omega)
  simpa [List.getElem_drop] using this
theorem scan_le (p : UInt8 → Bool) (s : List UInt8) (i : Nat) (hi : i ≤ s.length) : i + frontLen p (s.drop i) ≤ s.length := by
  have := frontLen_le p (s.drop i)
  rw [List.length_drop] at this
  omega
theorem take_drop_eq (s : List UInt8) (i F : Nat) : (s.take (i + F)).drop i = (s.drop i).take F := by
  rw [List.drop_take]
  congr 1
  omega
theorem toks_letter (B : Bs) (hB : B.H = []) (hG : GlobOk envT B.g) (s : List UInt8) (l : List Wd) (i m : Nat) (hi : i < s.length) (hs : s.length < 137438953470) (hll : l.length ≤ i)
    (hb1 : ¬ (s[i].toNat : Int) = 32) (hb2 : ¬ (s[i].toNat : Int) = 9) (hsm : isSmall s[i] = true) (hF : m = frontLen isInner (s.drop i)) (Q : AEx → List AV → AH → Prop) (K : Nat) (hK : K = if isKey ((s.drop i).take m) then 4 else 1)
    (hN : m ≤ 31 → ∀ t H, Less B t H (tR s (l ++ [⟨K, (s.drop i).take m, i, 0⟩]) (i + m)) (HR (l ++ [⟨K, (s.drop i).take m, i, 0⟩])) → Q .normal t H)
    (hE : 31 < m → ∀ t H, Fin Tryz.prog F10 0 1 (toksAV (.error (i, 4))) [] .ret t H → Q .ret t H) :
    Go oR Tryz.prog envT (LpT Tryz.prog B) body10 [] (tR s l i) (HR l) Q := by
  have hle : i + m ≤ s.length := by rw [hF]; exact scan_le isInner s i (by omega)
  have hi' : (i : Int) < s.length := by omega
  have e1 : ((i : Int) + (m : Int)).toNat = i + m := by omega
  have e2 : (i : Int) + (m : Int) ≤ s.length := by omega
  have e3 : (0 : Int) ≤ (i : Int) + (m : Int) := by omega
  have e4 : (i : Int) ≤ (i : Int) + (m : Int) := by omega
  have e5 : IntKind.i64.wrap (m : Int) = (m : Int) := wrap_i64 (by omega) (by omega)
  have e7 : (i : Int) + (m : Int) - (i : Int) = (m : Int) := by omega
  have e8 : IntKind.i64.wrap ((i : Int) + (m : Int)) = (i : Int) + (m : Int) := wrap_i64 (by omega) (by omega)
  rcases HR_cases l with ⟨hl, hH⟩ | ⟨hl, hH⟩
  · rw [hH]
    have happ := fun H => app10 l ⟨K, (s.drop i).take m, i, 0⟩ 1 H (by omega) (fun _ => rfl) (fun h => absurd hl h)
    simp [body10, for10, tail10, c10, Tryz.f20, tR, hi, hi', hb1, hb2, oR_l, hsm]
    refine LpT.loop oR_cx hG (by kernel_rfl) (ScanI s l i m _) m (lessScan (j := i + 0) hB hH.symm (by simp) (by simp) (by simp) (by simp) (by simp)) ⟨0, by omega, rfl, rfl⟩ ?_
    rintro k t H ⟨d, hd, rfl, rfl⟩
    cases k with
    | succ k =>
      obtain ⟨h1, h2⟩ := scanIn isInner s i d (by omega)
      have f1 : (i : Int) + (d : Int) < s.length := by omega
      have f2 : ((i : Int) + (d : Int)).toNat = i + d := by omega
      have f3 : (0 : Int) ≤ (i : Int) + (d : Int) := by omega
      have f4 : IntKind.i64.wrap ((i : Int) + (d : Int) + 1) = (i : Int) + (d : Int) + 1 := wrap_i64 (by omega) (by omega)
      simp [f1, f2, f3, f4, h1, oR_b, oR_d, h2]
      refine ⟨k, by omega, _, _, lessScan (j := i + (d + 1)) hB hH.symm (by simp) (by simp) (by simp) (by simp; omega) (by simp), d + 1, by omega, rfl, rfl⟩
    | zero =>
      obtain rfl : d = m := by omega
      by_cases h1 : i + d < s.length
      · have h2 : isInner s[i + d] = false := by
          have := scan_out isInner s i (by rw [← hF]; exact h1)
          simpa only [← hF] using this
        have f1 : (i : Int) + (d : Int) < s.length := by omega
        by_cases h31 : 31 < d
        · have f5 : (31 : Int) < (d : Int) := by omega
          by_cases hk : isKey ((s.drop i).take d) = true
          · simp only [hk, if_true, if_false, Bool.false_eq_true] at hK
            subst hK
            simp at happ
            simp [f1, f5, hk, e1, e2, e3, e4, e5, e7, e8, oR_b, take_drop_eq, oR_k, oR_at, h1, h2, resB]
            refine hE (by omega) _ _ ?_
            rw [Fin_ret]
            simp [F10, Tryz.f20, toksAV, atAV, wordTxt, resB]
          · simp only [hk, if_true, if_false, Bool.false_eq_true] at hK
            subst hK
            simp at happ
            simp [f1, f5, hk, e1, e2, e3, e4, e5, e7, e8, oR_b, take_drop_eq, oR_k, oR_at, h1, h2, resB]
            refine hE (by omega) _ _ ?_
            rw [Fin_ret]
            simp [F10, Tryz.f20, toksAV, atAV, wordTxt, resB]
        · have f5 : ¬ (31 : Int) < (d : Int) := by omega
          by_cases hk : isKey ((s.drop i).take d) = true
          · simp only [hk, if_true, if_false, Bool.false_eq_true] at hK
            subst hK
            simp at happ
            simp [f1, f5, hk, e1, e2, e3, e4, e5, e7, e8, oR_b, take_drop_eq, oR_k, oR_at, h1, h2, buR, bsR, happ]
            refine hN (by omega) _ _ (less10 hB ?_ ?_ ?_ ?_ ?_)
            · simp
            · simp
            · simp
            · simp
            · simp [HR, hl]
          · simp only [hk, if_true, if_false, Bool.false_eq_true] at hK
            subst hK
            simp at happ
            simp [f1, f5, hk, e1, e2, e3, e4, e5, e7, e8, oR_b, take_drop_eq, oR_k, oR_at, h1, h2, buR, bsR, happ]
            refine hN (by omega) _ _ (less10 hB ?_ ?_ ?_ ?_ ?_)
            · simp
            · simp
            · simp
            · simp
            · simp [HR, hl]
      · have f1 : ¬ (i : Int) + (d : Int) < s.length := by omega
        by_cases h31 : 31 < d
        · have f5 : (31 : Int) < (d : Int) := by omega
          by_cases hk : isKey ((s.drop i).take d) = true
          · simp only [hk, if_true, if_false, Bool.false_eq_true] at hK
            subst hK
            simp at happ
            simp [f1, f5, hk, e1, e2, e3, e4, e5, e7, e8, oR_b, take_drop_eq, oR_k, oR_at, resB]
            refine hE (by omega) _ _ ?_
            rw [Fin_ret]
            simp [F10, Tryz.f20, toksAV, atAV, wordTxt, resB]
          · simp only [hk, if_true, if_false, Bool.false_eq_true] at hK
            subst hK
            simp at happ
            simp [f1, f5, hk, e1, e2, e3, e4, e5, e7, e8, oR_b, take_drop_eq, oR_k, oR_at, resB]
            refine hE (by omega) _ _ ?_
            rw [Fin_ret]
            simp [F10, Tryz.f20, toksAV, atAV, wordTxt, resB]
        · have f5 : ¬ (31 : Int) < (d : Int) := by omega
          by_cases hk : isKey ((s.drop i).take d) = true
          · simp only [hk, if_true, if_false, Bool.false_eq_true] at hK
            subst hK
            simp at happ
            simp [f1, f5, hk, e1, e2, e3, e4, e5, e7, e8, oR_b, take_drop_eq, oR_k, oR_at, buR, bsR, happ]
            refine hN (by omega) _ _ (less10 hB ?_ ?_ ?_ ?_ ?_)
            · simp
            · simp
            · simp
            · simp
            · simp [HR, hl]
          · simp only [hk, if_true, if_false, Bool.false_eq_true] at hK
            subst hK
            simp at happ
            simp [f1, f5, hk, e1, e2, e3, e4, e5, e7, e8, oR_b, take_drop_eq, oR_k, oR_at, buR, bsR, happ]
            refine hN (by omega) _ _ (less10 hB ?_ ?_ ?_ ?_ ?_)
            · simp
            · simp
            · simp
            · simp
            · simp [HR, hl]
  · rw [hH]
    have happ := fun fid => app10 l ⟨K, (s.drop i).take m, i, 0⟩ fid [some resB, some (.tok l.length), none] (by omega) (fun h => absurd h hl) (fun _ => by simp)
    simp [body10, for10, tail10, c10, Tryz.f20, tR, hi, hi', hb1, hb2, oR_l, hsm]
    refine LpT.loop oR_cx hG (by kernel_rfl) (ScanI s l i m _) m (lessScan (j := i + 0) hB hH.symm (by simp) (by simp) (by simp) (by simp) (by simp)) ⟨0, by omega, rfl, rfl⟩ ?_
    rintro k t H ⟨d, hd, rfl, rfl⟩
    cases k with
    | succ k =>
      obtain ⟨h1, h2⟩ := scanIn isInner s i d (by omega)
      have f1 : (i : Int) + (d : Int) < s.length := by omega
      have f2 : ((i : Int) + (d : Int)).toNat = i + d := by omega
      have f3 : (0 : Int) ≤ (i : Int) + (d : Int) := by omega
      have f4 : IntKind.i64.wrap ((i : Int) + (d : Int) + 1) = (i : Int) + (d : Int) + 1 := wrap_i64 (by omega) (by omega)
      simp [f1, f2, f3, f4, h1, oR_b, oR_d, h2]
      refine ⟨k, by omega, _, _, lessScan (j := i + (d + 1)) hB hH.symm (by simp) (by simp) (by simp) (by simp; omega) (by simp), d + 1, by omega, rfl, rfl⟩
    | zero =>
      obtain rfl : d = m := by omega
      by_cases h1 : i + d < s.length
      · have h2 : isInner s[i + d] = false := by
          have := scan_out isInner s i (by rw [← hF]; exact h1)
          simpa only [← hF] using this
        have f1 : (i : Int) + (d : Int) < s.length := by omega
        by_cases h31 : 31 < d
        · have f5 : (31 : Int) < (d : Int) := by omega
          by_cases hk : isKey ((s.drop i).take d) = true
          · simp only [hk, if_true, if_false, Bool.false_eq_true] at hK
            subst hK
            simp at happ
            simp [f1, f5, hk, e1, e2, e3, e4, e5, e7, e8, oR_b, take_drop_eq, oR_k, oR_at, h1, h2, resB]
            refine hE (by omega) _ _ ?_
            rw [Fin_ret]
            simp [F10, Tryz.f20, toksAV, atAV, wordTxt, resB]
          · simp only [hk, if_true, if_false, Bool.false_eq_true] at hK
            subst hK
            simp at happ
            simp [f1, f5, hk, e1, e2, e3, e4, e5, e7, e8, oR_b, take_drop_eq, oR_k, oR_at, h1, h2, resB]
            refine hE (by omega) _ _ ?_
            rw [Fin_ret]
            simp [F10, Tryz.f20, toksAV, atAV, wordTxt, resB]
        · have f5 : ¬ (31 : Int) < (d : Int) := by omega
          by_cases hk : isKey ((s.drop i).take d) = true
          · simp only [hk, if_true, if_false, Bool.false_eq_true] at hK
            subst hK
            simp at happ
            simp [f1, f5, hk, e1, e2, e3, e4, e5, e7, e8, oR_b, take_drop_eq, oR_k, oR_at, h1, h2, buR, bsR, happ]
            refine hN (by omega) _ _ (less10 hB ?_ ?_ ?_ ?_ ?_)
            · simp
            · simp
            · simp
            · simp
            · simp [HR, hl]
          · simp only [hk, if_true, if_false, Bool.false_eq_true] at hK
            subst hK
            simp at happ
            simp [f1, f5, hk, e1, e2, e3, e4, e5, e7, e8, oR_b, take_drop_eq, oR_k, oR_at, h1, h2, buR, bsR, happ]
            refine hN (by omega) _ _ (less10 hB ?_ ?_ ?_ ?_ ?_)
            · simp
            · simp
            · simp
            · simp
            · simp [HR, hl]
      · have f1 : ¬ (i : Int) + (d : Int) < s.length := by omega
        by_cases h31 : 31 < d
        · have f5 : (31 : Int) < (d : Int) := by omega
          by_cases hk : isKey ((s.drop i).take d) = true
          · simp only [hk, if_true, if_false, Bool.false_eq_true] at hK
            subst hK
            simp at happ
            simp [f1, f5, hk, e1, e2, e3, e4, e5, e7, e8, oR_b, take_drop_eq, oR_k, oR_at, resB]
            refine hE (by omega) _ _ ?_
            rw [Fin_ret]
            simp [F10, Tryz.f20, toksAV, atAV, wordTxt, resB]
          · simp only [hk, if_true, if_false, Bool.false_eq_true] at hK
            subst hK
            simp at happ
            simp [f1, f5, hk, e1, e2, e3, e4, e5, e7, e8, oR_b, take_drop_eq, oR_k, oR_at, resB]
            refine hE (by omega) _ _ ?_
            rw [Fin_ret]
            simp [F10, Tryz.f20, toksAV, atAV, wordTxt, resB]
        · have f5 : ¬ (31 : Int) < (d : Int) := by omega
          by_cases hk : isKey ((s.drop i).take d) = true
          · simp only [hk, if_true, if_false, Bool.false_eq_true] at hK
            subst hK
            simp at happ
            simp [f1, f5, hk, e1, e2, e3, e4, e5, e7, e8, oR_b, take_drop_eq, oR_k, oR_at, buR, bsR, happ]
            refine hN (by omega) _ _ (less10 hB ?_ ?_ ?_ ?_ ?_)
            · simp
            · simp
            · simp
            · simp
            · simp [HR, hl]
          · simp only [hk, if_true, if_false, Bool.false_eq_true] at hK
            subst hK
            simp at happ
            simp [f1, f5, hk, e1, e2, e3, e4, e5, e7, e8, oR_b, take_drop_eq, oR_k, oR_at, buR, bsR, happ]
            refine hN (by omega) _ _ (less10 hB ?_ ?_ ?_ ?_ ?_)
            · simp
            · simp
            · simp
            · simp
            · simp [HR, hl]
theorem toks_digit (B : Bs) (hB : B.H = []) (hG : GlobOk envT B.g) (s : List UInt8) (l : List Wd) (i m : Nat) (hi : i < s.length) (hs : s.length < 137438953470) (hll : l.length ≤ i)
    (hb1 : ¬ (s[i].toNat : Int) = 32) (hb2 : ¬ (s[i].toNat : Int) = 9) (hsm : isSmall s[i] = false) (hdg : isDigit s[i] = true) (hF : m = frontLen isDigit (s.drop i)) (Q : AEx → List AV → AH → Prop)
    (hN : numOf ((s.drop i).take m) < 9223372036854775808 → (∀ h : i + m < s.length, isSmall s[i + m] = false) → ∀ t H, Less B t H (tR s (l ++ [⟨2, (s.drop i).take m, i, numOf ((s.drop i).take m)⟩]) (i + m)) (HR (l ++ [⟨2, (s.drop i).take m, i, numOf ((s.drop i).take m)⟩])) → Q .normal t H)
    (hE : ¬ numOf ((s.drop i).take m) < 9223372036854775808 → ∀ t H, Fin Tryz.prog F10 0 1 (toksAV (.error (i, 5))) [] .ret t H → Q .ret t H)
    (hE2 : numOf ((s.drop i).take m) < 9223372036854775808 → (∃ h : i + m < s.length, isSmall s[i + m] = true) → ∀ t H, Fin Tryz.prog F10 0 1 (toksAV (.error (i + m, 3))) [] .ret t H → Q .ret t H) :
    Go oR Tryz.prog envT (LpT Tryz.prog B) body10 [] (tR s l i) (HR l) Q := by
  have hle : i + m ≤ s.length := by rw [hF]; exact scan_le isDigit s i (by omega)
  have hi' : (i : Int) < s.length := by omega
  have e1 : ((i : Int) + (m : Int)).toNat = i + m := by omega
  have e2 : (i : Int) + (m : Int) ≤ s.length := by omega
  have e3 : (0 : Int) ≤ (i : Int) + (m : Int) := by omega
  have e4 : (i : Int) ≤ (i : Int) + (m : Int) := by omega
  have e5 : IntKind.i64.wrap (m : Int) = (m : Int) := wrap_i64 (by omega) (by omega)
  have e7 : (i : Int) + (m : Int) - (i : Int) = (m : Int) := by omega
  have e8 : IntKind.i64.wrap ((i : Int) + (m : Int)) = (i : Int) + (m : Int) := wrap_i64 (by omega) (by omega)
  have hall : allDigits ((s.drop i).take m) := fun b hb => by
    have := front_all isDigit (s.drop i) b (by rw [← hF]; exact hb)
    simpa [isDigit] using this
  have hlt : ((s.drop i).take m).length < maxS := by
    rw [maxS_eq, List.length_take, List.length_drop]
    omega
  have hn := fun H => oR_n ((s.drop i).take m) H hall hlt
  unfold numRes at hn
  rcases HR_cases l with ⟨hl, hH⟩ | ⟨hl, hH⟩
  · rw [hH]
    have happ := fun H => app10 l ⟨2, (s.drop i).take m, i, numOf ((s.drop i).take m)⟩ 1 H (by omega) (fun _ => rfl) (fun h => absurd hl h)
    simp at happ
    simp [body10, for10, tail10, c10, Tryz.f20, tR, hi, hi', hb1, hb2, oR_l, oR_d, hsm, hdg]
    refine LpT.loop oR_cx hG (by kernel_rfl) (ScanI s l i m _) m (lessScan (j := i + 0) hB hH.symm (by simp) (by simp) (by simp) (by simp) (by simp)) ⟨0, by omega, rfl, rfl⟩ ?_
    rintro k t H ⟨d, hd, rfl, rfl⟩
    cases k with
    | succ k =>
      obtain ⟨h1, h2⟩ := scanIn isDigit s i d (by omega)
      have f1 : (i : Int) + (d : Int) < s.length := by omega
      have f2 : ((i : Int) + (d : Int)).toNat = i + d := by omega
      have f3 : (0 : Int) ≤ (i : Int) + (d : Int) := by omega
      have f4 : IntKind.i64.wrap ((i : Int) + (d : Int) + 1) = (i : Int) + (d : Int) + 1 := wrap_i64 (by omega) (by omega)
      simp [f1, f2, f3, f4, h1, oR_b, oR_d, h2]
      refine ⟨k, by omega, _, _, lessScan (j := i + (d + 1)) hB hH.symm (by simp) (by simp) (by simp) (by simp; omega) (by simp), d + 1, by omega, rfl, rfl⟩
    | zero =>
      obtain rfl : d = m := by omega
      generalize hT : (s.drop i).take d = T at hn happ hN hE hE2
      have hT2 : (s.take (i + d)).drop i = T := by rw [take_drop_eq]; exact hT
      generalize numOf T = N at hn happ hN hE hE2
      by_cases h1 : i + d < s.length
      · have h2 : isDigit s[i + d] = false := by
          have := scan_out isDigit s i (by rw [← hF]; exact h1)
          simpa only [← hF] using this
        have f1 : (i : Int) + (d : Int) < s.length := by omega
        by_cases hov : N < 9223372036854775808
        · rw [if_pos hov] at hn
          cases h3 : isSmall s[i + d]
          · simp [f1, e1, e2, e3, e4, e5, e7, e8, oR_b, oR_d, oR_l, hT2, oR_at, hn, h1, h2, h3, buR, bsR, happ]
            refine hN hov (fun _ => h3) _ _ (less10 hB ?_ ?_ ?_ ?_ ?_)
            · simp
            · simp
            · simp
            · simp
            · simp [HR, hl]
          · simp [f1, e1, e2, e3, e4, e5, e7, e8, oR_b, oR_d, oR_l, hT2, oR_at, hn, h1, h2, h3, resB]
            refine hE2 hov ⟨h1, h3⟩ _ _ ?_
            rw [Fin_ret]
            simp [F10, Tryz.f20, toksAV, atAV, wordTxt, resB]
        · rw [if_neg hov] at hn
          simp [f1, e1, e2, e3, e4, e5, e7, e8, oR_b, oR_d, oR_l, hT2, oR_at, hn, h1, h2, resB]
          refine hE hov _ _ ?_
          rw [Fin_ret]
          simp [F10, Tryz.f20, toksAV, atAV, wordTxt, resB]
      · have f1 : ¬ (i : Int) + (d : Int) < s.length := by omega
        by_cases hov : N < 9223372036854775808
        · rw [if_pos hov] at hn
          simp [f1, e1, e2, e3, e4, e5, e7, e8, oR_b, oR_d, oR_l, hT2, oR_at, hn, buR, bsR, happ]
          refine hN hov (fun h => absurd h h1) _ _ (less10 hB ?_ ?_ ?_ ?_ ?_)
          · simp
          · simp
          · simp
          · simp
          · simp [HR, hl]
        · rw [if_neg hov] at hn
          simp [f1, e1, e2, e3, e4, e5, e7, e8, oR_b, oR_d, oR_l, hT2, oR_at, hn, resB]
          refine hE hov _ _ ?_
          rw [Fin_ret]
          simp [F10, Tryz.f20, toksAV, atAV, wordTxt, resB]
  · rw [hH]
    have happ := fun fid => app10 l ⟨2, (s.drop i).take m, i, numOf ((s.drop i).take m)⟩ fid [some resB, some (.tok l.length), none] (by omega) (fun h => absurd h hl) (fun _ => by simp)
    simp at happ
    simp [body10, for10, tail10, c10, Tryz.f20, tR, hi, hi', hb1, hb2, oR_l, oR_d, hsm, hdg]
    refine LpT.loop oR_cx hG (by kernel_rfl) (ScanI s l i m _) m (lessScan (j := i + 0) hB hH.symm (by simp) (by simp) (by simp) (by simp) (by simp)) ⟨0, by omega, rfl, rfl⟩ ?_
    rintro k t H ⟨d, hd, rfl, rfl⟩
    cases k with
    | succ k =>
      obtain ⟨h1, h2⟩ := scanIn isDigit s i d (by omega)
      have f1 : (i : Int) + (d : Int) < s.length := by omega
      have f2 : ((i : Int) + (d : Int)).toNat = i + d := by omega
      have f3 : (0 : Int) ≤ (i : Int) + (d : Int) := by omega
      have f4 : IntKind.i64.wrap ((i : Int) + (d : Int) + 1) = (i : Int) + (d : Int) + 1 := wrap_i64 (by omega) (by omega)
      simp [f1, f2, f3, f4, h1, oR_b, oR_d, h2]
      refine ⟨k, by omega, _, _, lessScan (j := i + (d + 1)) hB hH.symm (by simp) (by simp) (by simp) (by simp; omega) (by simp), d + 1, by omega, rfl, rfl⟩
    | zero =>
      obtain rfl : d = m := by omega
      generalize hT : (s.drop i).take d = T at hn happ hN hE hE2
      have hT2 : (s.take (i + d)).drop i = T := by rw [take_drop_eq]; exact hT
      generalize numOf T = N at hn happ hN hE hE2
      by_cases h1 : i + d < s.length
      · have h2 : isDigit s[i + d] = false := by
          have := scan_out isDigit s i (by rw [← hF]; exact h1)
          simpa only [← hF] using this
        have f1 : (i : Int) + (d : Int) < s.length := by omega
        by_cases hov : N < 9223372036854775808
        · rw [if_pos hov] at hn
          cases h3 : isSmall s[i + d]
          · simp [f1, e1, e2, e3, e4, e5, e7, e8, oR_b, oR_d, oR_l, hT2, oR_at, hn, h1, h2, h3, buR, bsR, happ]
            refine hN hov (fun _ => h3) _ _ (less10 hB ?_ ?_ ?_ ?_ ?_)
            · simp
            · simp
            · simp
            · simp
            · simp [HR, hl]
          · simp [f1, e1, e2, e3, e4, e5, e7, e8, oR_b, oR_d, oR_l, hT2, oR_at, hn, h1, h2, h3, resB]
            refine hE2 hov ⟨h1, h3⟩ _ _ ?_
            rw [Fin_ret]
            simp [F10, Tryz.f20, toksAV, atAV, wordTxt, resB]
        · rw [if_neg hov] at hn
          simp [f1, e1, e2, e3, e4, e5, e7, e8, oR_b, oR_d, oR_l, hT2, oR_at, hn, h1, h2, resB]
          refine hE hov _ _ ?_
          rw [Fin_ret]
          simp [F10, Tryz.f20, toksAV, atAV, wordTxt, resB]
      · have f1 : ¬ (i : Int) + (d : Int) < s.length := by omega
        by_cases hov : N < 9223372036854775808
        · rw [if_pos hov] at hn
          simp [f1, e1, e2, e3, e4, e5, e7, e8, oR_b, oR_d, oR_l, hT2, oR_at, hn, buR, bsR, happ]
          refine hN hov (fun h => absurd h h1) _ _ (less10 hB ?_ ?_ ?_ ?_ ?_)
          · simp
          · simp
          · simp
          · simp
          · simp [HR, hl]
        · rw [if_neg hov] at hn
          simp [f1, e1, e2, e3, e4, e5, e7, e8, oR_b, oR_d, oR_l, hT2, oR_at, hn, resB]
          refine hE hov _ _ ?_
          rw [Fin_ret]
          simp [F10, Tryz.f20, toksAV, atAV, wordTxt, resB]
theorem toks_sign (B : Bs) (hB : B.H = []) (hG : GlobOk envT B.g) (s : List UInt8) (l : List Wd) (i m : Nat) (hi : i < s.length) (hs : s.length < 137438953470) (hll : l.length ≤ i)
    (hb1 : ¬ (s[i].toNat : Int) = 32) (hb2 : ¬ (s[i].toNat : Int) = 9) (hsm : isSmall s[i] = false) (hdg : isDigit s[i] = false) (hF : m = signLen (s.drop i)) (Q : AEx → List AV → AH → Prop)
    (hN : m ≠ 0 → ∀ t H, Less B t H (tR s (l ++ [⟨3, (s.drop i).take m, i, 0⟩]) (i + m)) (HR (l ++ [⟨3, (s.drop i).take m, i, 0⟩])) → Q .normal t H)
    (hE : m = 0 → ∀ t H, Fin Tryz.prog F10 0 1 (toksAV (.error (i, 3))) [] .ret t H → Q .ret t H) :
    Go oR Tryz.prog envT (LpT Tryz.prog B) body10 [] (tR s l i) (HR l) Q := by
  have hle : i + m ≤ s.length := by
    have := signLen_le (s.drop i)
    rw [List.length_drop] at this
    omega
  have hi' : (i : Int) < s.length := by omega
  have e1 : ((i : Int) + (m : Int)).toNat = i + m := by omega
  have e2 : (i : Int) + (m : Int) ≤ s.length := by omega
  have e3 : (0 : Int) ≤ (i : Int) + (m : Int) := by omega
  have e4 : (i : Int) ≤ (i : Int) + (m : Int) := by omega
  have e5 : IntKind.i64.wrap (m : Int) = (m : Int) := wrap_i64 (by omega) (by omega)
  have e7 : (i : Int) + (m : Int) - (i : Int) = (m : Int) := by omega
  have e8 : IntKind.i64.wrap ((i : Int) + (m : Int)) = (i : Int) + (m : Int) := wrap_i64 (by omega) (by omega)
  have hsg := fun H => oR_s s i H hi (by rw [maxS_eq]; omega)
  rw [← hF] at hsg
  rcases HR_cases l with ⟨hl, hH⟩ | ⟨hl, hH⟩
  · rw [hH]
    have happ := fun H => app10 l ⟨3, (s.drop i).take m, i, 0⟩ 1 H (by omega) (fun _ => rfl) (fun h => absurd hl h)
    simp at happ
    by_cases h0 : m = 0
    · have g0 : (m : Int) = 0 := by omega
      simp [body10, for10, tail10, c10, Tryz.f20, tR, hi, hi', hb1, hb2, oR_l, oR_d, hsm, hdg, e1, e2, e3, e4, e5, e7, e8, take_drop_eq, oR_at, hsg, g0, h0, resB]
      refine hE h0 _ _ ?_
      rw [Fin_ret]
      simp [F10, Tryz.f20, toksAV, atAV, wordTxt, resB]
    · have g0 : ¬ (m : Int) = 0 := by omega
      simp [body10, for10, tail10, c10, Tryz.f20, tR, hi, hi', hb1, hb2, oR_l, oR_d, hsm, hdg, e1, e2, e3, e4, e5, e7, e8, take_drop_eq, oR_at, hsg, g0, h0, buR, bsR, happ]
      refine hN h0 _ _ (less10 hB ?_ ?_ ?_ ?_ ?_)
      · simp
      · simp
      · simp
      · simp
      · simp [HR, hl]
  · rw [hH]
    have happ := fun fid => app10 l ⟨3, (s.drop i).take m, i, 0⟩ fid [some resB, some (.tok l.length), none] (by omega) (fun h => absurd h hl) (fun _ => by simp)
    simp at happ
    by_cases h0 : m = 0
    · have g0 : (m : Int) = 0 := by omega
      simp [body10, for10, tail10, c10, Tryz.f20, tR, hi, hi', hb1, hb2, oR_l, oR_d, hsm, hdg, e1, e2, e3, e4, e5, e7, e8, take_drop_eq, oR_at, hsg, g0, h0, resB]
      refine hE h0 _ _ ?_
      rw [Fin_ret]
      simp [F10, Tryz.f20, toksAV, atAV, wordTxt, resB]
    · have g0 : ¬ (m : Int) = 0 := by omega
      simp [body10, for10, tail10, c10, Tryz.f20, tR, hi, hi', hb1, hb2, oR_l, oR_d, hsm, hdg, e1, e2, e3, e4, e5, e7, e8, take_drop_eq, oR_at, hsg, g0, h0, buR, bsR, happ]
      refine hN h0 _ _ (less10 hB ?_ ?_ ?_ ?_ ?_)
      · simp
      · simp
      · simp
      · simp
      · simp [HR, hl]
theorem toks_blank (B : Bs) (hB : B.H = []) (hG : GlobOk envT B.g) (s : List UInt8) (l : List Wd) (i : Nat) (hi : i < s.length) (hs : s.length < 137438953470)
    (hb : s[i].toNat = 32 ∨ s[i].toNat = 9) (Q : AEx → List AV → AH → Prop) (hN : ∀ t H, Less B t H (tR s l (i + 1)) (HR l) → Q .normal t H) :
    Go oR Tryz.prog envT (LpT Tryz.prog B) body10 [] (tR s l i) (HR l) Q := by
  have hi' : (i : Int) < s.length := by omega
  have w : IntKind.i64.wrap ((i : Int) + 1) = (i : Int) + 1 := wrap_i64 (by omega) (by omega)
  rcases HR_cases l with ⟨hl, hH⟩ | ⟨hl, hH⟩
  all_goals
    rw [hH]
    rcases hb with hb | hb
    all_goals
      simp [body10, for10, tail10, c10, Tryz.f20, tR, hi, hi', hb, w]
      refine hN _ _ (less10 hB ?_ ?_ ?_ ?_ ?_)
      · simp
      · simp
      · simp
      · simp
      · simp [HR, hl]
end Go.Proofs.YtejjlojfgcgopaaGreatDoor

namespace Go.Proofs.YtejjlojfgcgopaaGreatDoor
open Go.RowKit Go.Proofs.Fw
set_option maxRecDepth 100000
set_option maxHeartbeats 4000000
@[simp] theorem immXRR : envX.imm 293 = false := by decide
@[simp] theorem immXRE : envX.imm 42 = true := by decide
@[simp high] theorem alenXR (l : List Wd) : alen Tryz.prog 54 (wdsAV l) = some (.int .i64 l.length) := by
  unfold wdsAV
  split
  · rename_i h; subst h; simp [alen]
  · simp [alen]
@[simp high] theorem aidxXR {l : List Wd} {i : Nat} (h : i < l.length) : aindexAddr Tryz.prog 54 (wdsAV l) (.int .i64 (i : Int)) = some (.vptr (wdsCells l) (i * 4)) := by
  have hne : l ≠ [] := by rintro rfl; simp at h
  have : (i : Int) < l.length := by omega
  simp [wdsAV, hne, aindexAddr, h]
def errOk (x : Option (Nat × Nat)) : Prop := ∀ p, x ≠ some (p, 0)
def pAV : Option (Nat × Nat) → AV
  | none => .nilSlice
  | some (p, _) => .slice .full 2 1 [.str exprTxt, .int .i64 (p : Int)]
def cI : Option (Nat × Nat) → Int
  | none => 0
  | some (_, c) => (c : Int)
@[simp ↓ high] theorem pAV_low (m : Nat) (x : Option (Nat × Nat)) : low m (pAV x) = true := by
  cases x with
  | none => rfl
  | some x => rfl
@[simp ↓ high] theorem pAV_ids (x : Option (Nat × Nat)) : idsOf (pAV x) = [] := by cases x <;> rfl
@[simp ↓ high] theorem pAV_known (x : Option (Nat × Nat)) : (pAV x).known = true := by cases x <;> rfl
@[simp ↓ high] theorem pAV_one (x : Option (Nat × Nat)) : (pAV x).one = true := by cases x <;> rfl
@[simp ↓ high] theorem pAV_cells (x : Option (Nat × Nat)) : cellsAV (pAV x) = [pAV x] := by cases x <;> rfl
def rrC (ts : List Wd) (a : Int) (x : Option (Nat × Nat)) : List AV := [wdsAV ts, .int .i64 a, pAV x, .int .i64 (cI x)]
@[simp] theorem rrC_eq (ts : List Wd) (a : Int) (x : Option (Nat × Nat)) : rrC ts a x = [wdsAV ts, .int .i64 a, pAV x, .int .i64 (cI x)] := nrfl rfl
theorem oRat_at (w : List UInt8) (p e : Int) (H : AH) : oRat 24 [.str w, .int .i64 p, .int .i64 e] H = some (.agg [.slice .full 2 1 [.str w, .int .i64 p], .int .i64 e], H) := by simp [oRat, oPure]
end Go.Proofs.YtejjlojfgcgopaaGreatDoor
namespace Go.Proofs.YtejjlojfgcgopaaGreatDoor
open Go.RowKit Go.Proofs.Fw
set_option maxRecDepth 100000
set_option maxHeartbeats 4000000
open Classical in
noncomputable def oRr (ts : List Wd) (f0 : FuncId) (spec : List AV → St → Option (AV × St)) : Orc := fun f args H =>
  if f = f0 then (match args with
    | .ptr id 0 :: rest => if h : ∃ r : St, r.deep = 0 ∧ errOk r.err ∧ H.at id = some (.box (rrC ts r.at_ r.err)) then (spec rest h.choose).map fun x => (x.1, H.set id (some (.box (rrC ts x.2.at_ x.2.err)))) else none
    | _ => none) else none
theorem oRr_sound {ts : List Wd} {f0 : FuncId} {spec : List AV → St → Option (AV × St)}
    (h : ∀ rest r v r', spec rest r = some (v, r') → r.deep = 0 → errOk r.err → ∀ H id, H.at id = some (.box (rrC ts r.at_ r.err)) → CS Tryz.prog envX f0 (.ptr id 0 :: rest) H v (H.set id (some (.box (rrC ts r'.at_ r'.err))))) : Sound Tryz.prog envX (oRr ts f0 spec) := by
  intro f args H v H' ho
  unfold oRr at ho
  split at ho
  · rename_i hf
    subst hf
    split at ho
    · rename_i id rest
      split at ho
      · rename_i hx
        obtain ⟨x, hs, hx2⟩ := Option.map_eq_some_iff.1 ho
        simp only [Prod.mk.injEq] at hx2
        obtain ⟨rfl, rfl⟩ := hx2
        obtain ⟨q1, q2, q3⟩ := hx.choose_spec
        refine ⟨h _ _ _ _ hs q1 q2 _ _ q3, by simp, fun j _ hj => at_set_noneX q3 hj⟩
      · cases ho
    · cases ho
  · cases ho
@[simp] theorem buY0 : abuild Tryz.prog 42 [] = some (.agg [.int .i64 0, .int .i64 0, .str [], .nilSlice]) := by kernel_rfl
@[simp] theorem buY1 (k n : Int) : abuild Tryz.prog 42 [(0, .int .i64 k), (1, .int .i64 n)] = some (.agg [.int .i64 k, .int .i64 n, .str [], .nilSlice]) := by kernel_rfl
@[simp] theorem buY2 (k : Int) (s : List UInt8) : abuild Tryz.prog 42 [(0, .int .i64 k), (2, .str s)] = some (.agg [.int .i64 k, .int .i64 0, .str s, .nilSlice]) := by kernel_rfl
@[simp] theorem buY3 (k : Int) (ow : Own) (sz n : Nat) (cs : List AV) : abuild Tryz.prog 42 [(0, .int .i64 k), (3, .slice ow sz n cs)] = some (.agg [.int .i64 k, .int .i64 0, .str [], .slice ow sz n cs]) := by kernel_rfl
@[simp] theorem buY4 (k : Int) (s : List UInt8) (ow : Own) (sz n : Nat) (cs : List AV) : abuild Tryz.prog 42 [(0, .int .i64 k), (2, .str s), (3, .slice ow sz n cs)] = some (.agg [.int .i64 k, .int .i64 0, .str s, .slice ow sz n cs]) := by kernel_rfl
@[simp] theorem bsY1 (a b c d : AV) : abuildSlice Tryz.prog 40 1 [(0, .agg [a, b, c, d])] = some (.slice .full 4 1 [a, b, c, d]) := by kernel_rfl
@[simp] theorem bsY2 (a b c d e f g h : AV) : abuildSlice Tryz.prog 40 2 [(0, .agg [a, b, c, d]), (1, .agg [e, f, g, h])] = some (.slice .full 4 2 [a, b, c, d, e, f, g, h]) := by kernel_rfl
end Go.Proofs.YtejjlojfgcgopaaGreatDoor

namespace Go.Proofs.YtejjlojfgcgopaaGreatDoor
open Go.RowKit Go.Proofs.Fw
set_option maxRecDepth 100000
set_option maxHeartbeats 4000000
theorem CS.weak {P : Program} {E : Env} {f : FuncId} {args : List AV} {H H' : AH} {v v' : AV} (h : CS P E f args H v H') (hw : ∀ g cv, RepV g v cv → RepV g v' cv) : CS P E f args H v' H' := fun g w cargs R hG hA => by
  refine Calls.mono (h g w cargs R hG hA) ?_
  rintro e w' ⟨g', cv, rfl, R', p, hr⟩
  exact ⟨g', cv, rfl, R', p, hw _ _ hr⟩
theorem rep_unk {ow : Own} {sz n : Nat} {cs : List AV} (g : Gh) (cv : Value) (h : RepV g (.slice ow sz n cs) cv) : RepV g (.slice .unk sz n cs) cv := by
  simp only [RepV] at h ⊢
  obtain ⟨b, o, cap, vs, hv, h1, h2, h3, h4, h5⟩ := h
  exact ⟨b, o, cap, vs, hv, h1, h2, h3, h4, trivial⟩
end Go.Proofs.YtejjlojfgcgopaaGreatDoor
namespace Go.Proofs.YtejjlojfgcgopaaGreatDoor
open Go.RowKit Go.Proofs.Fw
set_option maxRecDepth 100000
set_option maxHeartbeats 4000000
end Go.Proofs.YtejjlojfgcgopaaGreatDoor
namespace Go.Proofs.YtejjlojfgcgopaaGreatDoor
open Go.RowKit Go.Proofs.Fw
set_option maxRecDepth 100000
set_option maxHeartbeats 4000000
def yPart (ts : List Wd) (of : Rd) (n : Nat) (rest : List AV) (r : St) : Option (AV × St) := match rest with
  | [.int .i64 d] => if 0 ≤ d ∧ d ≤ 20 ∧ ts.length - r.at_ < n then some (exAV (of ⟨r.at_, d.toNat, r.err⟩).1, (of ⟨r.at_, d.toNat, r.err⟩).2) else none
  | _ => none
def YPartS (ts : List Wd) (g : FuncId) (of : Rd) (n : Nat) : Prop := Sound Tryz.prog envX (oRr ts g (yPart ts of n))
theorem YPartS.mk' {ts : List Wd} {g : FuncId} {of : Rd} {n : Nat} (h : ∀ (a dd : Nat) (x : Option (Nat × Nat)), errOk x → dd ≤ 20 → ts.length - a < n → ∀ H id, H.at id = some (.box (rrC ts a x)) →
    CS Tryz.prog envX g [.ptr id 0, .int .i64 (dd : Int)] H (exAV (of ⟨a, dd, x⟩).1) (H.set id (some (.box (rrC ts (of ⟨a, dd, x⟩).2.at_ (of ⟨a, dd, x⟩).2.err))))) : YPartS ts g of n :=
  oRr_sound fun rest r v r' hs h0 hx H id hH => by
    unfold yPart at hs
    split at hs
    · rename_i d
      split at hs
      · rename_i hc
        injection hs with hs
        simp only [Prod.mk.injEq] at hs
        obtain ⟨rfl, rfl⟩ := hs
        have := h r.at_ d.toNat r.err hx (by omega) hc.2.2 H id hH
        rwa [Int.toNat_of_nonneg hc.1] at this
      · cases hs
    · cases hs
@[simp] theorem buRR (ts : List Wd) : abuild Tryz.prog 293 [(0, wdsAV ts)] = some (.agg [wdsAV ts, .int .i64 0, .nilSlice, .int .i64 0]) := by
  unfold wdsAV
  split <;> kernel_rfl
@[simp] theorem buWr : abuild Tryz.prog 57 [] = some (.agg [.nilSlice, .int .i64 0]) := by kernel_rfl
end Go.Proofs.YtejjlojfgcgopaaGreatDoor

namespace Go.Proofs.YtejjlojfgcgopaaGreatDoor
open Go.RowKit Go.Proofs.Fw
set_option maxRecDepth 100000
set_option maxHeartbeats 4000000
def idxR (p : List UInt8 → Bool) : List (List UInt8) → Nat → Int
  | [], _ => -1
  | s :: l, i => if p s = true then (i : Int) else idxR p l (i + 1)
theorem idxR_neg {p : List UInt8 → Bool} : ∀ (l : List (List UInt8)) (i : Nat), (idxR p l i < 0) ↔ ∀ s ∈ l, p s = false
  | [], i => by simp [idxR]
  | s :: l, i => by
    unfold idxR
    by_cases h : p s = true
    · rw [if_pos h]
      constructor
      · intro hh; omega
      · intro hh
        have := hh s List.mem_cons_self
        rw [h] at this; cases this
    · rw [if_neg h, idxR_neg l (i + 1)]
      simp only [List.mem_cons, forall_eq_or_imp]
      rw [Bool.not_eq_true] at h
      simp [h]
def relsAV : List AV := relTs.map .str
def IdxI (ts : List Wd) (r : St) (res : Int) (k : Nat) (t : List AV) (H : AH) : Prop :=
  ∃ i, i + k = 6 ∧ idxR (nextB ts r) (relTs.drop i) i = res ∧ t = mkT 19 [(0, .slice .full 1 6 relsAV), (1, .func (.func 180) [.ptr 0 0] []), (7, .int .i64 6), (8, .int .i64 (i : Int))] ∧ H = [some (.box (r.cells ts))]
theorem idx_cs (ts : List Wd) (r : St) {H : AH} {id : Nat} (hH : H.at id = some (.box (r.cells ts))) :
    CS Tryz.prog envX 179 [.slice .full 1 6 relsAV, .func (.func 180) [.ptr id 0] []] H (.int .i64 (idxR (nextB ts r) relTs 0)) (H.set id (some (.box (r.cells ts)))) := by
  have X : Cx (oRd ts 180 (nextSpec ts)) Tryz.prog envX := ⟨next_sound ts, methXOk, mixed⟩
  have h0 : CS Tryz.prog envX 179 [.slice .full 1 6 relsAV, .func (.func 180) [.ptr 0 0] []] [some (.box (r.cells ts))] (.int .i64 (idxR (nextB ts r) relTs 0)) [some (.box (r.cells ts))] := by
    refine CS.of_Tr (c := bodyOf Tryz.f179) Tryz.func179 (by kernel_rfl) 0 (by simp [Tryz.f179]) (fun B hB hG => ?_) rfl (by simp [St.cells])
    refine Tr.goD X hG ?_
    simp [Tryz.f179]
    refine LpD.loopN X hG (IdxI ts r (idxR (nextB ts r) relTs 0)) 6 (t' := mkT 19 [(0, .slice .full 1 6 relsAV), (1, .func (.func 180) [.ptr 0 0] []), (7, .int .i64 6), (8, .int .i64 ((0 : Nat) : Int))])
      (H' := [some (.box (r.cells ts))]) (Less.mkK 1 (by simp [hB]) (by simp [relsAV, relTs]) (by simp) (by simp [St.cells])) ⟨0, rfl, rfl, rfl, rfl⟩ ?_
    rintro k t H ⟨i, hik, hres, rfl, rfl⟩
    cases k with
    | zero =>
      obtain rfl : i = 6 := by omega
      have : idxR (nextB ts r) (relTs.drop 6) 6 = -1 := rfl
      rw [← hres, this]
      simp [Blk_exit]
    | succ k =>
      have hi : i < 6 := by omega
      have hi' : (i : Int) < 6 := by omega
      have hl : relTs.length = 6 := rfl
      have hd : relTs.drop i = relTs[i]'(by omega) :: relTs.drop (i + 1) := List.drop_eq_getElem_cons (by omega)
      have hg : relsAV[i]? = some (.str (relTs[i]'(by omega))) := by
        unfold relsAV
        rw [List.getElem?_map, List.getElem?_eq_getElem (by omega : i < relTs.length)]
        rfl
      have hnx := fun H => sm_next (ts := ts) (a := r.at_) (d := r.deep) (x := r.err) (relTs[i]'(by omega)) H (by omega) (by omega)
      simp only [Int.toNat_natCast] at hnx
      have w1 : IntKind.i64.wrap ((i : Int) + 1) = (i : Int) + 1 := wrap_i64 (by omega) (by omega)
      rw [hd, idxR] at hres
      generalize relTs[i]'(by omega) = s at *
      cases hn : nextB ts r s with
      | true =>
        rw [hn] at hres
        simp only [if_true] at hres
        have hn' : nextB ts ⟨r.at_, r.deep, r.err⟩ s = true := hn
        rw [← hres]
        simp [hi, hi', hg, St.cells, hnx, hn']
      | false =>
        rw [hn] at hres
        simp only [Bool.false_eq_true, if_false] at hres
        have hn' : nextB ts ⟨r.at_, r.deep, r.err⟩ s = false := hn
        simp [hi, hi', hg, St.cells, hnx, hn', w1]
        exact Nxt.mk k (by omega) (Less.mkK 1 (l' := [(0, .slice .full 1 6 relsAV), (1, .func (.func 180) [.ptr 0 0] []), (7, .int .i64 6), (8, .int .i64 ((i + 1 : Nat) : Int))]) (H' := [some (.box (r.cells ts))]) (by simp [hB]) (by simp [relsAV, relTs]) (by simp [St.cells]) (by simp [St.cells])) ⟨i + 1, by omega, hres, rfl, rfl⟩
  have := CS.embed (k := 1) (fun _ => id) (H := H) (H' := H.set id (some (.box (r.cells ts)))) h0 rfl rfl (ren_one id) lowX (by simp [relsAV, relTs]) rfl (by simp [St.cells]) (by simp [St.cells])
    (fun i hi => by
      obtain rfl : i = 0 := by omega
      simp [AH.at, renE, renL_low _ (r.cells ts) (St.cells_low ts r)]
      exact hH)
    (fun i hi => by
      obtain rfl : i = 0 := by omega
      rw [at_set_self hH]
      simp [AH.at, renE, renL_low _ (r.cells ts) (St.cells_low ts r)])
    (fun j hj => at_set_ne (hj 0 (by omega)))
  simpa [renL, ren, relsAV, relTs] using this
open Classical in
noncomputable def oIx (ts : List Wd) : Orc := fun f args H => if f = 179 then (match args with
  | [.slice .full 1 6 l, .func (.func g) [.ptr id 0] []] => if h : l = relsAV ∧ g = 180 ∧ ∃ r : St, H.at id = some (.box (r.cells ts)) then some (.int .i64 (idxR (nextB ts h.2.2.choose) relTs 0), H.set id (some (.box (h.2.2.choose.cells ts)))) else none
  | _ => none) else none
theorem oIx_at {ts : List Wd} {id : Nat} {H : AH} {r : St} (h : H.at id = some (.box (r.cells ts))) :
    oIx ts 179 [.slice .full 1 6 relsAV, .func (.func 180) [.ptr id 0] []] H = some (.int .i64 (idxR (nextB ts r) relTs 0), H.set id (some (.box (r.cells ts)))) := by
  have hx : ∃ r : St, H.at id = some (.box (r.cells ts)) := ⟨r, h⟩
  have hh : relsAV = relsAV ∧ 180 = 180 ∧ ∃ r : St, H.at id = some (.box (r.cells ts)) := ⟨rfl, rfl, hx⟩
  have hc := h.symm.trans hh.2.2.choose_spec
  simp only [Option.some.injEq, Ent.box.injEq] at hc
  have he : hh.2.2.choose = r := (St.cells_inj hc).symm
  simp only [oIx, if_true, dif_pos hh]
  rw [he]
theorem oIx_sound (ts : List Wd) : Sound Tryz.prog envX (oIx ts) := by
  intro f args H v H' ho
  unfold oIx at ho
  split at ho
  · rename_i hf
    subst hf
    split at ho
    · split at ho
      · rename_i l g id hx
        injection ho with ho
        simp only [Prod.mk.injEq] at ho
        obtain ⟨rfl, rfl⟩ := ho
        have hs := hx.2.2.choose_spec
        obtain ⟨rfl, rfl, _⟩ := hx
        exact ⟨idx_cs ts _ hs, by simp, fun j _ hj => at_set_noneX hs hj⟩
      · cases ho
    · cases ho
  · cases ho
theorem rd_at1 {ts : List Wd} {a d : Int} {x : Option (Nat × Nat)} {e0 : Option Ent} {H : AH} (ha : 0 ≤ a) (hd : 0 ≤ d) : AH.at (e0 :: some (.box [wdsAV ts, .int .i64 a, .int .i64 d, eAV x]) :: H) 1 = some (.box ((⟨a.toNat, d.toNat, x⟩ : St).cells ts)) := by
  simp [AH.at, St.cells, Int.toNat_of_nonneg ha, Int.toNat_of_nonneg hd]
noncomputable def oPC (ts : List Wd) : Orc := oTab [(178, oRd ts 178 (partSpec ts (sumAt ts) (ts.length + 1))), (179, oIx ts), (181, oRd ts 181 failSpec)]
theorem oPC_cx {ts : List Wd} (hts : ts.length < 1000000) : Cx (oPC ts) Tryz.prog envX := ⟨oTab_sound (by
  intro p hp
  simp only [List.mem_cons, List.not_mem_nil, or_false] at hp
  rcases hp with rfl | rfl | rfl
  · exact sums hts
  · exact oIx_sound ts
  · exact fail_sound ts), methXOk, mixed⟩
theorem oPC_sum {ts : List Wd} {a d : Int} {x : Option (Nat × Nat)} {e0 : Option Ent} (H : AH) (ha : 0 ≤ a) (hd : 0 ≤ d) (hd2 : d ≤ 20) :
    oPC ts 178 [.ptr 1 0] (e0 :: some (.box [wdsAV ts, .int .i64 a, .int .i64 d, eAV x]) :: H) = some (exAV (sumAt ts ⟨a.toNat, d.toNat, x⟩).1, e0 :: some (.box ((sumAt ts ⟨a.toNat, d.toNat, x⟩).2.cells ts)) :: H) := by
  rw [← sum_at1 H ha hd hd2]; simp [oPC, oTab, List.lookup]
theorem oPC_ix {ts : List Wd} {a d : Int} {x : Option (Nat × Nat)} {e0 : Option Ent} (H : AH) (ha : 0 ≤ a) (hd : 0 ≤ d) :
    oPC ts 179 [.slice .full 1 6 relsAV, .func (.func 180) [.ptr 1 0] []] (e0 :: some (.box [wdsAV ts, .int .i64 a, .int .i64 d, eAV x]) :: H) =
      some (.int .i64 (idxR (nextB ts ⟨a.toNat, d.toNat, x⟩) relTs 0), e0 :: some (.box [wdsAV ts, .int .i64 a, .int .i64 d, eAV x]) :: H) := by
  have e1 : oPC ts 179 [.slice .full 1 6 relsAV, .func (.func 180) [.ptr 1 0] []] (e0 :: some (.box [wdsAV ts, .int .i64 a, .int .i64 d, eAV x]) :: H) = oIx ts 179 [.slice .full 1 6 relsAV, .func (.func 180) [.ptr 1 0] []] (e0 :: some (.box [wdsAV ts, .int .i64 a, .int .i64 d, eAV x]) :: H) := by simp [oPC, oTab, List.lookup]
  rw [e1, oIx_at (rd_at1 ha hd)]
  simp [St.cells, Int.toNat_of_nonneg ha, Int.toNat_of_nonneg hd]
theorem oPC_fail {ts : List Wd} {a d : Int} {x : Option (Nat × Nat)} {e0 : Option Ent} (p e : Int) (H : AH) (ha : 0 ≤ a) (hd : 0 ≤ d) (hp : 0 ≤ p) (he : 0 ≤ e) :
    oPC ts 181 [.ptr 1 0, .int .i64 p, .int .i64 e] (e0 :: some (.box [wdsAV ts, .int .i64 a, .int .i64 d, eAV x]) :: H) =
      some (.tup [], e0 :: some (.box [wdsAV ts, .int .i64 a, .int .i64 d, eAV (some (x.getD (p.toNat, e.toNat)))]) :: H) := by
  have e1 : oPC ts 181 [.ptr 1 0, .int .i64 p, .int .i64 e] (e0 :: some (.box [wdsAV ts, .int .i64 a, .int .i64 d, eAV x]) :: H) = oRd ts 181 failSpec 181 [.ptr 1 0, .int .i64 p, .int .i64 e] (e0 :: some (.box [wdsAV ts, .int .i64 a, .int .i64 d, eAV x]) :: H) := by simp [oPC, oTab, List.lookup]
  rw [e1, oRd_at (rd_at1 ha hd)]
  simp [failSpec, fail_eq, St.cells, Int.toNat_of_nonneg ha, Int.toNat_of_nonneg hd, hp, he]
def condAV (c : List UInt8 × Ex × Ex) : AV := .agg (.str c.1 :: (exC c.2.1 ++ exC c.2.2))
def parseCAV (x : (List UInt8 × Ex × Ex) × Nat × Option (Nat × Nat)) : AV := .tup [condAV x.1, .int .i64 x.2.1, eAV x.2.2]
@[simp] theorem buC0 : abuild Tryz.prog 29 [] = some (.agg [.str [], .int .i64 0, .int .i64 0, .str [], .nilSlice, .int .i64 0, .int .i64 0, .str [], .nilSlice]) := by kernel_rfl
@[simp] theorem buC1 (a b c d : AV) : abuild Tryz.prog 29 [(1, .agg [a, b, c, d])] = some (.agg [.str [], a, b, c, d, .int .i64 0, .int .i64 0, .str [], .nilSlice]) := by kernel_rfl
@[simp] theorem bsRel : abuildSlice Tryz.prog 23 6 [(0, .str [60]), (1, .str [60, 61]), (2, .str [62]), (3, .str [62, 61]), (4, .str [61, 61]), (5, .str [47, 61])] = some (.slice .full 1 6 [.str [60], .str [60, 61], .str [62], .str [62, 61], .str [61, 61], .str [47, 61]]) := by kernel_rfl
theorem condMid_cases (ts : List Wd) (b d : Nat) : (∃ w, ts[b]? = some w ∧ idxR (nextB ts ⟨b, d, none⟩) relTs 0 ≥ 0 ∧ condMid ts ⟨b, d, none⟩ = (w.text, ⟨b + 1, d, none⟩)) ∨
    (idxR (nextB ts ⟨b, d, none⟩) relTs 0 < 0 ∧ condMid ts ⟨b, d, none⟩ = ([], ⟨b, d, some (b, 2)⟩)) := by
  have nx : ∀ s, nextB ts ⟨b, d, none⟩ s = isS ts b s := fun s => by simp [nextB]
  cases hw : ts[b]? with
  | none =>
    right
    refine ⟨(idxR_neg _ _).2 fun s _ => by rw [nx]; simp [isS, hw], ?_⟩
    simp [condMid, hw, St.fail]
  | some w =>
    by_cases hr : (w.kind == 3 && relB w.text) = true
    · left
      refine ⟨w, rfl, ?_, ?_⟩
      · rcases Int.lt_or_le (idxR (nextB ts ⟨b, d, none⟩) relTs 0) 0 with h | h
        · have h1 := (idxR_neg _ _).1 h
          simp only [Bool.and_eq_true, relB, List.contains_iff_mem] at hr
          have h2 := h1 w.text hr.2
          rw [nx] at h2
          simp [isS, hw, hr.1] at h2
        · exact h
      · simp [condMid, hw, hr, St.step]
    · right
      refine ⟨(idxR_neg _ _).2 fun s hs => ?_, ?_⟩
      · rw [nx]
        simp only [isS, hw]
        rw [Bool.eq_false_iff]
        intro hh
        apply hr
        simp only [Bool.and_eq_true, beq_iff_eq] at hh ⊢
        refine ⟨hh.1, ?_⟩
        rw [hh.2]
        simpa [relB] using hs
      · rw [Bool.not_eq_true] at hr
        simp [condMid, hw, hr, St.fail]
theorem sumAt_deep (ts : List Wd) : ∀ r, (sumAt ts r).2.deep = r.deep := sum_deep ts _
theorem parsec_cs (ts : List Wd) (hts : ts.length < 1000000) (H : AH) : CS Tryz.prog envX 141 [wdsAV ts] H (parseCAV (parseC ts)) H := by
  have X := oPC_cx hts
  refine CS.tr0 lowX Tryz.func141 (by kernel_rfl) 0 (by simp [Tryz.f141]) (fun B hB hG => ?_) (by simp [parseCAV, condAV]) (by simp) H
  refine Tr.goD X hG ?_
  have h1 := fun H e0 => oPC_sum (ts := ts) (a := 0) (d := 0) (x := none) (e0 := e0) H (by omega) (by omega) (by omega)
  have hdp := sumAt_deep ts ⟨0, 0, none⟩
  simp only [parseC]
  simp [St.cells, eAV_none] at h1
  generalize sumAt ts ⟨0, 0, none⟩ = p at *
  obtain ⟨e, ⟨b, d, x⟩⟩ := p
  simp only at h1 hdp
  subst hdp
  cases x with
  | some y =>
    have h2 := fun H e0 => oPC_sum (ts := ts) (a := b) (d := 0) (x := some y) (e0 := e0) H (by omega) (by omega) (by omega)
    have hk : (sumAt ts ⟨b, 0, some y⟩).2.err = some y := (sumF_ok (ts := ts) (fac_ok ts (ts.length + 1))).2.1 _ _ rfl
    simp [St.cells] at h2
    have hcm : condMid ts ⟨b, 0, some y⟩ = ([], ⟨b, 0, some y⟩) := rfl
    rw [hcm]
    simp only
    generalize sumAt ts ⟨b, 0, some y⟩ = p2 at *
    obtain ⟨e2, ⟨b2, d2, x2⟩⟩ := p2
    simp only at h2 hk
    subst hk
    simp [Tryz.f141, h1, h2]
    refine LpD.turns X hG [5] [(1, 5), (2, 5), (3, 5), (4, 5)] ?_
    simp [parseCAV, condAV]
  | none =>
    have hix := fun H e0 => oPC_ix (ts := ts) (a := b) (d := 0) (x := none) (e0 := e0) H (by omega) (by omega)
    simp [relsAV] at hix
    have hrel : List.map AV.str relTs = [.str [60], .str [60, 61], .str [62], .str [62, 61], .str [61, 61], .str [47, 61]] := rfl
    rw [hrel] at hix
    rcases condMid_cases ts b 0 with ⟨w, hw, hge, hcm⟩ | ⟨hlt, hcm⟩
    · have hl : b < ts.length := (List.getElem?_eq_some_iff.1 hw).1
      have hl' : (b : Int) < ts.length := by omega
      obtain ⟨c0, c1, c3⟩ := cellX hw
      have w1 : IntKind.i64.wrap ((b : Int) + 1) = (b : Int) + 1 := wrap_i64 (by omega) (by omega)
      have hge' : ¬ idxR (nextB ts ⟨b, 0, none⟩) relTs 0 < 0 := by omega
      have h2 := fun H e0 => oPC_sum (ts := ts) (a := (b : Int) + 1) (d := 0) (x := none) (e0 := e0) H (by omega) (by omega) (by omega)
      have en : ((b : Int) + 1).toNat = b + 1 := by omega
      simp only [en] at h2
      rw [hcm]
      simp only
      simp [St.cells] at h2
      generalize sumAt ts ⟨b + 1, 0, none⟩ = p2 at *
      obtain ⟨e2, ⟨b2, d2, x2⟩⟩ := p2
      simp only at h2
      simp [Tryz.f141, h1, hix, hge']
      refine LpD.turns X hG [12] [] ?_
      simp [hl, hl', c1]
      cases x2 with
      | none =>
        simp [w1, h2]
        refine LpD.turns X hG [5] [(1, 5), (2, 5), (3, 5), (4, 5)] ?_
        simp [parseCAV, condAV, eAV_none]
      | some y =>
        simp [w1, h2]
        refine LpD.turns X hG [5] [(1, 5), (2, 5), (3, 5), (4, 5)] ?_
        simp [parseCAV, condAV]
    · have hfl := fun H e0 => oPC_fail (ts := ts) (a := b) (d := 0) (x := none) (e0 := e0) b 2 H (by omega) (by omega) (by omega) (by omega)
      simp at hfl
      have h2 := fun H e0 => oPC_sum (ts := ts) (a := b) (d := 0) (x := some (b, 2)) (e0 := e0) H (by omega) (by omega) (by omega)
      have hk : (sumAt ts ⟨b, 0, some (b, 2)⟩).2.err = some (b, 2) := (sumF_ok (ts := ts) (fac_ok ts (ts.length + 1))).2.1 _ _ rfl
      simp [St.cells] at h2
      rw [hcm]
      simp only
      generalize sumAt ts ⟨b, 0, some (b, 2)⟩ = p2 at *
      obtain ⟨e2, ⟨b2, d2, x2⟩⟩ := p2
      simp only at h2 hk
      subst hk
      simp [Tryz.f141, h1, hix, hlt, hfl, h2]
      refine LpD.turns X hG [5] [(1, 5), (2, 5), (3, 5), (4, 5)] ?_
      simp [parseCAV, condAV]
end Go.Proofs.YtejjlojfgcgopaaGreatDoor
namespace Go.Proofs.YtejjlojfgcgopaaGreatDoor
open Go.RowKit Go.Proofs.Fw
set_option maxRecDepth 100000
set_option maxHeartbeats 4000000
@[simp] theorem buD0 : abuild Tryz.prog 44 [] = some (.agg [.str [], .int .i64 0, .int .i64 0, .str [], .nilSlice, .int .i64 0, .int .i64 0, .str [], .nilSlice]) := by kernel_rfl
@[simp] theorem buD1 (a b c d : AV) : abuild Tryz.prog 44 [(1, .agg [a, b, c, d])] = some (.agg [.str [], a, b, c, d, .int .i64 0, .int .i64 0, .str [], .nilSlice]) := by kernel_rfl
end Go.Proofs.YtejjlojfgcgopaaGreatDoor

namespace Go.Proofs.YtejjlojfgcgopaaGreatDoor
open Go.RowKit Go.Proofs.Fw
set_option maxRecDepth 100000
set_option maxHeartbeats 4000000
inductive Tn where
  | lf (k n : Int) (s : List UInt8)
  | nd (k n : Int) (s : List UInt8) (a : List Tn)
  deriving Inhabited
mutual
def tC : Tn → List AV
  | .lf k n s => [.int .i64 k, .int .i64 n, .str s, .nilSlice]
  | .nd k n s a => [.int .i64 k, .int .i64 n, .str s, .slice .unk 4 a.length (tsC a)]
def tsC : List Tn → List AV
  | [] => []
  | t :: l => tC t ++ tsC l
end
def Tn.k : Tn → Int
  | .lf k _ _ => k
  | .nd k _ _ _ => k
def Tn.n : Tn → Int
  | .lf _ n _ => n
  | .nd _ n _ _ => n
def Tn.s : Tn → List UInt8
  | .lf _ _ s => s
  | .nd _ _ s _ => s
def Tn.kids : Tn → List Tn
  | .lf _ _ _ => []
  | .nd _ _ _ a => a
def Tn.ar (t : Tn) : AV := (tC t).getD 3 .undef
@[simp] theorem tC_eq (t : Tn) : tC t = [.int .i64 t.k, .int .i64 t.n, .str t.s, t.ar] := by cases t <;> rfl
theorem tsC_append : ∀ a b : List Tn, tsC (a ++ b) = tsC a ++ tsC b
  | [], b => rfl
  | t :: a, b => by rw [List.cons_append, tsC, tsC, tsC_append a b, List.append_assoc]
mutual
theorem tC_low : ∀ t : Tn, lowL 0 (tC t) = true
  | .lf _ _ _ => rfl
  | .nd _ _ _ a => by rw [tC]; have := tsC_low a; simp [this]
theorem tsC_low : ∀ l : List Tn, lowL 0 (tsC l) = true
  | [] => rfl
  | t :: l => by rw [tsC, lowL_append, tC_low t, tsC_low l]; rfl
end
@[simp ↓ high] theorem tar_low (t : Tn) : low 0 t.ar = true := by
  have := tC_low t
  rw [tC_eq] at this
  simpa using this
@[simp ↓ high] theorem tar_lowm (m : Nat) (t : Tn) : low m t.ar = true := low_at m (tar_low t)
@[simp ↓ high] theorem tar_ids (t : Tn) : idsOf t.ar = [] := by cases t <;> rfl
@[simp ↓ high] theorem tar_known (t : Tn) : t.ar.known = true := by cases t <;> rfl
@[simp ↓ high] theorem tar_one (t : Tn) : t.ar.one = true := by cases t <;> rfl
@[simp ↓ high] theorem tar_cells (t : Tn) : cellsAV t.ar = [t.ar] := by cases t <;> rfl
theorem tsC_length : ∀ l : List Tn, (tsC l).length = l.length * 4
  | [] => rfl
  | t :: l => by rw [tsC, List.length_append, tsC_length l, tC_eq]; simp; omega
theorem tsC_at : ∀ (l : List Tn) (i : Nat) {t : Tn}, l[i]? = some t → ((tsC l).drop (i * 4)).take 4 = tC t ∧ i * 4 + 4 ≤ (tsC l).length
  | [], i, t, h => by simp at h
  | x :: l, i, t, h => by
    have hc : tsC (x :: l) = tC x ++ tsC l := rfl
    have hx : (tC x).length = 4 := by simp
    cases i with
    | zero =>
      simp only [List.getElem?_cons_zero, Option.some.injEq] at h
      subst h
      rw [hc]
      refine ⟨?_, by rw [List.length_append, hx]; omega⟩
      rw [Nat.zero_mul, List.drop_zero, List.take_append_of_le_length (by omega), List.take_of_length_le (by omega)]
    | succ i =>
      simp only [List.getElem?_cons_succ] at h
      obtain ⟨h1, h2⟩ := tsC_at l i h
      rw [hc]
      refine ⟨?_, by simp only [List.length_append, hx]; omega⟩
      rw [List.drop_append, List.drop_of_length_le (by omega), hx, List.nil_append, show (i + 1) * 4 - 4 = i * 4 by omega]
      exact h1
mutual
theorem tC_inj : ∀ (t u : Tn), tC t = tC u → t = u
  | .lf _ _ _, .lf _ _ _, h => by simp only [tC, List.cons.injEq, AV.int.injEq, AV.str.injEq, true_and, and_true] at h; obtain ⟨rfl, rfl, rfl⟩ := h; rfl
  | .lf _ _ _, .nd _ _ _ _, h => by simp [tC] at h
  | .nd _ _ _ _, .lf _ _ _, h => by simp [tC] at h
  | .nd _ _ _ a, .nd _ _ _ b, h => by
    simp only [tC, List.cons.injEq, AV.int.injEq, AV.str.injEq, AV.slice.injEq, true_and, and_true] at h
    obtain ⟨rfl, rfl, rfl, _, h⟩ := h
    rw [tsC_inj a b h]
theorem tsC_inj : ∀ (a b : List Tn), tsC a = tsC b → a = b
  | [], [], _ => rfl
  | [], t :: b, h => by rw [tsC, tsC, tC_eq] at h; simp at h
  | t :: a, [], h => by rw [tsC, tsC, tC_eq] at h; simp at h
  | t :: a, u :: b, h => by
    rw [tsC, tsC] at h
    have := List.append_inj h (by simp)
    rw [tC_inj t u this.1, tsC_inj a b this.2]
end
mutual
def okT : Tn → Bool
  | .lf _ _ _ => true
  | .nd _ _ _ a => decide (a.length < 4294967296) && okTs a
def okTs : List Tn → Bool
  | [] => true
  | t :: l => okT t && okTs l
end
theorem okTs_mem : ∀ {l : List Tn}, okTs l = true → ∀ t ∈ l, okT t = true
  | [], _, _, h => by cases h
  | u :: l, h, t, ht => by
    simp only [okTs, Bool.and_eq_true] at h
    rcases List.mem_cons.1 ht with rfl | ht
    · exact h.1
    · exact okTs_mem h.2 t ht
theorem okT_len {t : Tn} (h : okT t = true) : t.kids.length < 4294967296 := by
  cases t with
  | lf => simp [Tn.kids]
  | nd k n s a => simp only [okT, Bool.and_eq_true, decide_eq_true_eq] at h; exact h.1
theorem okT_kid {t u : Tn} (h : okT t = true) (hu : u ∈ t.kids) : okT u = true := by
  cases t with
  | lf => simp [Tn.kids] at hu
  | nd k n s a => simp only [okT, Bool.and_eq_true, decide_eq_true_eq] at h; exact okTs_mem h.2 u hu
theorem kid_lt {t u : Tn} (hu : u ∈ t.kids) : SizeOf.sizeOf u < SizeOf.sizeOf t := by
  cases t with
  | lf => simp [Tn.kids] at hu
  | nd k n s a =>
    have := List.sizeOf_lt_of_mem (show u ∈ a from hu)
    simp only [Tn.nd.sizeOf_spec]
    omega
@[simp high] theorem alenT1 (t : Tn) : alen Tryz.prog 25 t.ar = some (.int .i64 t.kids.length) := by
  cases t <;> simp [Tn.ar, tC, Tn.kids, alen]
@[simp high] theorem alenT2 (t : Tn) : alen Tryz.prog 40 t.ar = some (.int .i64 t.kids.length) := by
  cases t <;> simp [Tn.ar, tC, Tn.kids, alen]
@[simp high] theorem aidxT1 {t : Tn} {i : Nat} (h : i < t.kids.length) : aindexAddr Tryz.prog 25 t.ar (.int .i64 (i : Int)) = some (.vptr (tsC t.kids) (i * 4)) := by
  cases t with
  | lf => simp [Tn.kids] at h
  | nd k n s a =>
    have h' : i < a.length := h
    have : (i : Int) < a.length := by omega
    simp [Tn.ar, tC, Tn.kids, aindexAddr, h', this]
@[simp high] theorem aidxT2 {t : Tn} {i : Nat} (h : i < t.kids.length) : aindexAddr Tryz.prog 40 t.ar (.int .i64 (i : Int)) = some (.vptr (tsC t.kids) (i * 4)) := by
  cases t with
  | lf => simp [Tn.kids] at h
  | nd k n s a =>
    have h' : i < a.length := h
    have : (i : Int) < a.length := by omega
    simp [Tn.ar, tC, Tn.kids, aindexAddr, h', this]
open Classical in
noncomputable def oTn (f0 : FuncId) (S : Tn → Prop) (out : Tn → AV) : Orc := fun f args H => if h : f = f0 ∧ ∃ t, S t ∧ args = [.agg (tC t)] then some (out h.2.choose, H) else none
theorem oTn_at {f0 : FuncId} {S : Tn → Prop} {out : Tn → AV} {t : Tn} (h : S t) (H : AH) : oTn f0 S out f0 [.agg (tC t)] H = some (out t, H) := by
  have hh : f0 = f0 ∧ ∃ u, S u ∧ [AV.agg (tC t)] = [.agg (tC u)] := ⟨rfl, t, h, rfl⟩
  have hc := hh.2.choose_spec.2
  injection hc with hc _
  injection hc with hc
  have he : hh.2.choose = t := (tC_inj _ _ hc).symm
  simp only [oTn, dif_pos hh]
  rw [he]
theorem oTn_sound {E : Env} {f0 : FuncId} {S : Tn → Prop} {out : Tn → AV} (h : ∀ t, S t → ∀ H, CS Tryz.prog E f0 [.agg (tC t)] H (out t) H) : Sound Tryz.prog E (oTn f0 S out) := by
  intro f args H v H' ho
  unfold oTn at ho
  split at ho
  · rename_i hx
    injection ho with ho
    simp only [Prod.mk.injEq] at ho
    obtain ⟨rfl, rfl⟩ := ho
    have hs := hx.2.choose_spec
    generalize hx.2.choose = u at *
    obtain ⟨rfl, _⟩ := hx
    rw [hs.2]
    exact ⟨h _ hs.1 _, Nat.le_refl _, fun _ _ h => h⟩
  · cases ho
open Classical in
noncomputable def oTn2 (f0 : FuncId) (S : Tn → Tn → Prop) (out : Tn → Tn → AV) : Orc := fun f args H => if h : f = f0 ∧ ∃ p : Tn × Tn, S p.1 p.2 ∧ args = [.agg (tC p.1), .agg (tC p.2)] then some (out h.2.choose.1 h.2.choose.2, H) else none
theorem oTn2_at {f0 : FuncId} {S : Tn → Tn → Prop} {out : Tn → Tn → AV} {t u : Tn} (h : S t u) (H : AH) : oTn2 f0 S out f0 [.agg (tC t), .agg (tC u)] H = some (out t u, H) := by
  have hh : f0 = f0 ∧ ∃ p : Tn × Tn, S p.1 p.2 ∧ [AV.agg (tC t), .agg (tC u)] = [.agg (tC p.1), .agg (tC p.2)] := ⟨rfl, (t, u), h, rfl⟩
  have hc := hh.2.choose_spec.2
  injection hc with hc hd
  injection hd with hd _
  injection hc with hc
  injection hd with hd
  have he : hh.2.choose = (t, u) := Prod.ext (tC_inj _ _ hc).symm (tC_inj _ _ hd).symm
  simp only [oTn2, dif_pos hh]
  rw [he]
theorem oTn2_sound {E : Env} {f0 : FuncId} {S : Tn → Tn → Prop} {out : Tn → Tn → AV} (h : ∀ t u, S t u → ∀ H, CS Tryz.prog E f0 [.agg (tC t), .agg (tC u)] H (out t u) H) : Sound Tryz.prog E (oTn2 f0 S out) := by
  intro f args H v H' ho
  unfold oTn2 at ho
  split at ho
  · rename_i hx
    injection ho with ho
    simp only [Prod.mk.injEq] at ho
    obtain ⟨rfl, rfl⟩ := ho
    have hs := hx.2.choose_spec
    generalize hx.2.choose = u at *
    obtain ⟨rfl, _⟩ := hx
    rw [hs.2]
    exact ⟨h _ _ hs.1 _, Nat.le_refl _, fun _ _ h => h⟩
  · cases ho
mutual
def sameT : Tn → Tn → Bool
  | .lf k n s, u => k == u.k && n == u.n && s == u.s && u.kids.length == 0
  | .nd k n s a, u => k == u.k && n == u.n && s == u.s && a.length == u.kids.length && sameTs a u.kids
def sameTs : List Tn → List Tn → Bool
  | [], _ => true
  | _ :: _, [] => true
  | a :: l, b :: r => sameT a b && sameTs l r
end
theorem sameT_eq (t u : Tn) : sameT t u = (t.k == u.k && t.n == u.n && t.s == u.s && t.kids.length == u.kids.length && sameTs t.kids u.kids) := by
  cases t with
  | lf k n s =>
    have h : sameTs [] u.kids = true := rfl
    have h0 : (0 == u.kids.length) = (u.kids.length == 0) := by cases u.kids.length <;> rfl
    show (k == u.k && n == u.n && s == u.s && u.kids.length == 0) = (k == u.k && n == u.n && s == u.s && 0 == u.kids.length && sameTs [] u.kids)
    rw [h, h0, Bool.and_true]
  | nd k n s a => rfl
theorem sameTs_cons (a b : Tn) (l r : List Tn) : sameTs (a :: l) (b :: r) = (sameT a b && sameTs l r) := rfl
def SameI (t u : Tn) (res : Bool) (k : Nat) (tt : List AV) (H : AH) : Prop :=
  ∃ i, i + k = t.kids.length ∧ sameTs (t.kids.drop i) (u.kids.drop i) = res ∧ tt = mkT 53 [(2, .vptr (tC t) 0), (3, .vptr (tC u) 0), (5, .int .i64 ((i : Nat) : Int))] ∧ H = []
@[simp] theorem immXT : envX.imm 42 = true := by decide
theorem same_cs (t u : Tn) (ht : okT t = true) (H : AH) : CS Tryz.prog envX 67 [.agg (tC t), .agg (tC u)] H (.bool (sameT t u)) H := by
  have X : Cx (oTn2 67 (fun a b => a ∈ t.kids) (fun a b => .bool (sameT a b))) Tryz.prog envX := ⟨oTn2_sound fun a b hab H => same_cs a b (okT_kid ht hab) H, methXOk, mixed⟩
  have hat := fun (a b : Tn) (h : a ∈ t.kids) H => oTn2_at (f0 := 67) (S := fun a b => a ∈ t.kids) (out := fun a b => .bool (sameT a b)) (t := a) (u := b) h H
  generalize hO : oTn2 67 (fun a b => a ∈ t.kids) (fun a b => .bool (sameT a b)) = O at X hat
  clear hO
  refine CS.tr0 lowX Tryz.func67 (by kernel_rfl) 0 (by simp [Tryz.f67]) (fun B hB hG => ?_) (by simp) (by simp) H
  refine Tr.goD X hG ?_
  have hlen := okT_len ht
  rw [sameT_eq]
  have hbn : ∀ a b : Int, (a == b) = !(a != b) := fun a b => by simp [bne]
  by_cases h1 : t.k = u.k
  · by_cases h2 : t.n = u.n
    · by_cases h3 : t.s = u.s
      · by_cases h4 : t.kids.length = u.kids.length
        · simp [Tryz.f67, h1, h2, h3, h4]
          have hst : sameTs t.kids u.kids = sameTs (t.kids.drop 0) (u.kids.drop 0) := by simp
          have hb1 : (decide (u.kids.length = u.kids.length)) = true := by simp
          refine LpD.loopN X hG (SameI t u (sameTs t.kids u.kids)) t.kids.length (t' := mkT 53 [(2, .vptr (tC t) 0), (3, .vptr (tC u) 0), (5, .int .i64 ((0 : Nat) : Int))]) (H' := [])
            (Less.mk0 hB (by simp [h1, h2, h3])) ⟨0, by omega, hst.symm, rfl, rfl⟩ ?_
          rintro k tt H ⟨i, hik, hres, rfl, rfl⟩
          cases k with
          | zero =>
            obtain rfl : i = t.kids.length := by omega
            have e1 : sameTs t.kids u.kids = true := by rw [← hres, List.drop_length]; rfl
            simp [Blk_exit, e1]
          | succ k =>
            have hi : i < t.kids.length := by omega
            have hi2 : i < u.kids.length := by omega
            have hi' : (i : Int) < t.kids.length := by omega
            obtain ⟨a, ha⟩ : ∃ a, t.kids[i]? = some a := ⟨_, List.getElem?_eq_getElem hi⟩
            obtain ⟨b, hb⟩ : ∃ b, u.kids[i]? = some b := ⟨_, List.getElem?_eq_getElem hi2⟩
            obtain ⟨ca1, ca2⟩ := tsC_at t.kids i ha
            obtain ⟨cb1, cb2⟩ := tsC_at u.kids i hb
            have hm : a ∈ t.kids := List.mem_of_getElem? ha
            have hda : t.kids.drop i = a :: t.kids.drop (i + 1) := by
              rw [List.drop_eq_getElem_cons hi]; rw [List.getElem?_eq_getElem hi] at ha; injection ha with ha; rw [ha]
            have hdb : u.kids.drop i = b :: u.kids.drop (i + 1) := by
              rw [List.drop_eq_getElem_cons hi2]; rw [List.getElem?_eq_getElem hi2] at hb; injection hb with hb; rw [hb]
            rw [hda, hdb, sameTs_cons] at hres
            have w1 : IntKind.i64.wrap ((i : Int) + 1) = (i : Int) + 1 := wrap_i64 (by omega) (by omega)
            have hc := fun H => hat a b hm H
            simp only [tC_eq] at hc ca1 cb1
            simp [hi']
            refine LpD.turns X hG [] [] ?_
            cases hs : sameT a b with
            | true =>
              rw [hs, Bool.true_and] at hres
              simp [hi, hi2, ca1, cb1, ca2, cb2, hc, hs, w1]
              exact Nxt.mk k (by omega) (Less.mk0 (l' := [(2, .vptr (tC t) 0), (3, .vptr (tC u) 0), (5, .int .i64 ((i + 1 : Nat) : Int))]) hB (by simp [h1, h2, h3])) ⟨i + 1, by omega, hres, rfl, rfl⟩
            | false =>
              rw [hs, Bool.false_and] at hres
              simp [hi, hi2, ca1, cb1, ca2, cb2, hc, hs, ← hres]
        · have h4' : ¬ (t.kids.length : Int) = u.kids.length := by omega
          simp [Tryz.f67, h1, h2, h3, h4, h4']
      · simp [Tryz.f67, h1, h2, h3]
    · simp [Tryz.f67, h1, h2]
  · simp [Tryz.f67, h1]
termination_by SizeOf.sizeOf t
decreasing_by exact kid_lt hab
mutual
def ofT : Tn → Tn
  | .lf k n s => .lf k n s
  | .nd k n s [] => .lf k n s
  | .nd k n s (a :: l) => .nd k n s (ofT a :: ofTs l)
def ofTs : List Tn → List Tn
  | [] => []
  | a :: l => ofT a :: ofTs l
end
theorem ofTs_length : ∀ l : List Tn, (ofTs l).length = l.length
  | [] => rfl
  | a :: l => by rw [ofTs, List.length_cons, List.length_cons, ofTs_length l]
theorem ofTs_append : ∀ a b : List Tn, ofTs (a ++ b) = ofTs a ++ ofTs b
  | [], b => rfl
  | t :: a, b => by rw [List.cons_append, ofTs, ofTs, ofTs_append a b, List.cons_append]
theorem ofT_eq (t : Tn) : tC (ofT t) = [.int .i64 t.k, .int .i64 t.n, .str t.s, if t.kids = [] then .nilSlice else .slice .unk 4 t.kids.length (tsC (ofTs t.kids))] := by
  cases t with
  | lf k n s => rfl
  | nd k n s a =>
    cases a with
    | nil => rfl
    | cons b l => simp only [ofT, tC, Tn.k, Tn.n, Tn.s, Tn.kids, List.length_cons, ofTs_length, ofTs]; rfl
@[simp] theorem buT3 (k n : Int) (s : List UInt8) : abuild Tryz.prog 42 [(0, .int .i64 k), (1, .int .i64 n), (2, .str s)] = some (.agg [.int .i64 k, .int .i64 n, .str s, .nilSlice]) := by kernel_rfl
def outO (i : Nat) (l : List Tn) : AV := if l = [] then .nilSlice else .slice (.tok i) 4 l.length (tsC l)
theorem elemO : elemChk Tryz.prog 40 4 = true := by kernel_rfl
def OfI (t : Tn) (k : Nat) (tt : List AV) (H : AH) : Prop :=
  ∃ i, i + k = t.kids.length ∧ tt = mkT 31 [(1, .vptr (tC t) 0), (2, .ptr 0 0), (3, .ptr 1 0), (4, .int .i64 ((i : Nat) : Int))] ∧
    H = some (.box [.int .i64 0, .int .i64 0, .str [], .nilSlice]) :: some (.box [.int .i64 t.k, .int .i64 t.n, .str t.s, outO 2 (ofTs (t.kids.take i))]) :: (if i = 0 then [] else [some (.tok i)])
theorem of_cs (t : Tn) (ht : okT t = true) (H : AH) : CS Tryz.prog envX 69 [.agg (tC t)] H (.agg (tC (ofT t))) H := by
  have X : Cx (oTn 69 (fun a => a ∈ t.kids) (fun a => .agg (tC (ofT a)))) Tryz.prog envX := ⟨oTn_sound fun a hab H => of_cs a (okT_kid ht hab) H, methXOk, mixed⟩
  have hat := fun (a : Tn) (h : a ∈ t.kids) H => oTn_at (f0 := 69) (S := fun a => a ∈ t.kids) (out := fun a => .agg (tC (ofT a))) (t := a) h H
  generalize hO : oTn 69 (fun a => a ∈ t.kids) (fun a => .agg (tC (ofT a))) = O at X hat
  clear hO
  have hlen := okT_len ht
  rw [ofT_eq]
  refine CS.tr0 lowX Tryz.func69 (by kernel_rfl) 0 (by simp [Tryz.f69]) (fun B hB hG => ?_) (by split <;> simp [tsC_low]) (by simp) H
  refine Tr.goD X hG ?_
  simp [Tryz.f69]
  refine LpD.loopN X hG (OfI t) t.kids.length (t' := mkT 31 [(1, .vptr (tC t) 0), (2, .ptr 0 0), (3, .ptr 1 0), (4, .int .i64 ((0 : Nat) : Int))])
    (H' := [some (.box [.int .i64 0, .int .i64 0, .str [], .nilSlice]), some (.box [.int .i64 t.k, .int .i64 t.n, .str t.s, .nilSlice])])
    (Less.mkK 2 (by simp [hB]) (by simp) (by simp) (by simp)) ⟨0, by omega, rfl, rfl⟩ ?_
  rintro k tt H ⟨i, hik, rfl, rfl⟩
  cases k with
  | zero =>
    obtain rfl : i = t.kids.length := by omega
    rw [List.take_length]
    by_cases h0 : t.kids = []
    · simp [h0, Blk_exit, outO, ofTs]
    · have h1 : ¬ ofTs t.kids = [] := fun h => h0 (by have := ofTs_length t.kids; rw [h] at this; exact List.eq_nil_of_length_eq_zero this.symm)
      simp [h0, Blk_exit, outO, h1, ofTs_length, tsC_low]
  | succ k =>
    have hi : i < t.kids.length := by omega
    have hi' : (i : Int) < t.kids.length := by omega
    obtain ⟨a, ha⟩ : ∃ a, t.kids[i]? = some a := ⟨_, List.getElem?_eq_getElem hi⟩
    obtain ⟨ca1, ca2⟩ := tsC_at t.kids i ha
    have hm : a ∈ t.kids := List.mem_of_getElem? ha
    have htk : ofTs (t.kids.take (i + 1)) = ofTs (t.kids.take i) ++ [ofT a] := by
      rw [List.take_add_one, ha, Option.toList_some, ofTs_append]; rfl
    have hol : (ofTs (t.kids.take i)).length = i := by rw [ofTs_length, List.length_take]; omega
    have w1 : IntKind.i64.wrap ((i : Int) + 1) = (i : Int) + 1 := wrap_i64 (by omega) (by omega)
    have hc := fun H => hat a hm H
    simp only [tC_eq] at hc ca1
    simp [hi']
    generalize hl : ofTs (t.kids.take i) = l at *
    have hcase : (l = [] ∧ (if i = 0 then [] else [some (Ent.tok i)]) = []) ∨ (¬ l = [] ∧ (if i = 0 then [] else [some (Ent.tok i)]) = [some (Ent.tok i)]) := by
      by_cases h0 : i = 0
      · exact .inl ⟨List.eq_nil_of_length_eq_zero (by omega), if_pos h0⟩
      · exact .inr ⟨fun h => by rw [h] at hol; simp at hol; omega, if_neg h0⟩
    generalize (if i = 0 then [] else [some (Ent.tok i)]) = Tk at *
    refine LpD.turns X hG [7, 9, 11] [(0, 7), (1, 7)] ?_
    rcases hcase with ⟨hl0, rfl⟩ | ⟨hl0, rfl⟩
    · subst hl0
      have hi0 : i = 0 := by simpa using hol.symm
      have happ := fun H => aappend_nil (P := Tryz.prog) (t := 40) (sz := 4) (m := 1) (H := H) (fid := 2) (ow := .full) (ys := tC (ofT a)) elemO (by decide) (by decide) (by simp)
      simp only [tC_eq] at happ
      simp [hi, ca1, ca2, hc, outO, happ, w1]
      refine Nxt.mk k (by omega) (Less.mkK 3 (l' := [(1, .vptr (tC t) 0), (2, .ptr 0 0), (3, .ptr 1 0), (4, .int .i64 ((i + 1 : Nat) : Int))])
        (H' := [some (.box [.int .i64 0, .int .i64 0, .str [], .nilSlice]), some (.box [.int .i64 t.k, .int .i64 t.n, .str t.s, outO 2 [ofT a]]), some (.tok (i + 1))]) (by simp [hB]) (by simp) (by simp [outO, tsC, hi0]) (by simp [outO, tsC])) ⟨i + 1, by omega, rfl, by rw [htk]; rfl⟩
    · have happ := fun H (h : AH.at H 2 = some (.tok i)) => aappend_tok (P := Tryz.prog) (t := 40) (sz := 4) (m := 1) (H := H) (fid := 3) (ow := .full) (xs := tsC l) (ys := tC (ofT a)) elemO h (by decide) (by omega) (by simp)
      simp only [tC_eq] at happ
      simp [hi, ca1, ca2, hc, outO, hl0, hol, happ, w1]
      refine Nxt.mk k (by omega) (Less.mkK 3 (l' := [(1, .vptr (tC t) 0), (2, .ptr 0 0), (3, .ptr 1 0), (4, .int .i64 ((i + 1 : Nat) : Int))])
        (H' := [some (.box [.int .i64 0, .int .i64 0, .str [], .nilSlice]), some (.box [.int .i64 t.k, .int .i64 t.n, .str t.s, outO 2 (l ++ [ofT a])]), some (.tok (i + 1))]) (by simp [hB]) (by simp) (by simp [outO, tsC, tsC_append, hol]) (by simp [outO, tsC, tsC_append, lowL_mono (Nat.zero_le 3) _ (tsC_low l)])) ⟨i + 1, by omega, rfl, by rw [htk]; rfl⟩
termination_by SizeOf.sizeOf t
decreasing_by exact kid_lt hab
@[simp high] theorem alenR' (l : List Wd) : alen Tryz.prog 54 (wdsAV l) = some (.int .i64 l.length) := by
  unfold wdsAV
  split
  · rename_i h; subst h; simp [alen]
  · simp [alen]
@[simp high] theorem aidxR' {l : List Wd} {i : Nat} (h : i < l.length) : aindexAddr Tryz.prog 54 (wdsAV l) (.int .i64 (i : Int)) = some (.vptr (wdsCells l) (i * 4)) := by
  have hne : l ≠ [] := by rintro rfl; simp at h
  have : (i : Int) < l.length := by omega
  simp [wdsAV, hne, aindexAddr, h]
@[simp] theorem buWd (k n a : Int) (s : List UInt8) : abuild Tryz.prog 192 [(0, .int .i64 k), (1, .str s), (2, .int .i64 a), (3, .int .i64 n)] = some (.agg [.int .i64 k, .str s, .int .i64 a, .int .i64 n]) := by kernel_rfl
@[simp] theorem bsWd (a b c d : AV) : abuildSlice Tryz.prog 125 1 [(0, .agg [a, b, c, d])] = some (.slice .full 4 1 [a, b, c, d]) := by kernel_rfl
mutual
def Ex.tn : Ex → Tn
  | .none => .lf 0 0 []
  | .num n => .lf 1 n []
  | .var s => .lf 2 0 s
  | .elem s a => .nd 3 0 s (Ex.tns a)
  | .neg e => .nd 4 0 [] [e.tn]
  | .bin k a b => .nd k 0 [] [a.tn, b.tn]
def Ex.tns : List Ex → List Tn
  | [] => []
  | e :: l => e.tn :: Ex.tns l
end
theorem tns_length : ∀ l : List Ex, (Ex.tns l).length = l.length
  | [] => rfl
  | a :: l => by rw [Ex.tns, List.length_cons, List.length_cons, tns_length l]
theorem repL_append2 {g : Gh} : ∀ {xs ys : List AV} {vs : List Value}, RepL g (xs ++ ys) vs → ∃ v1 v2, vs = v1 ++ v2 ∧ RepL g xs v1 ∧ RepL g ys v2
  | [], ys, vs, h => ⟨[], vs, rfl, rfl, h⟩
  | a :: xs, ys, vs, h => by
    obtain ⟨v, ws, rfl, h1, h2⟩ := h
    obtain ⟨v1, v2, rfl, h3, h4⟩ := repL_append2 h2
    exact ⟨v :: v1, v2, rfl, ⟨v, v1, rfl, h1, h3⟩, h4⟩
mutual
theorem rep_tn (g : Gh) : ∀ (e : Ex) (vs : List Value), RepL g (exC e) vs → RepL g (tC e.tn) vs
  | .none, _, h => h
  | .num _, _, h => h
  | .var _, _, h => h
  | .elem s a, vs, h => by
    have key := rep_tns g a
    rw [exC] at h
    rw [Ex.tn, tC, tns_length]
    obtain ⟨v0, _, rfl, h0, v1, _, rfl, h1, v2, _, rfl, h2, v3, _, rfl, h3, h4⟩ := h
    refine ⟨v0, _, rfl, h0, v1, _, rfl, h1, v2, _, rfl, h2, v3, _, rfl, ?_, h4⟩
    simp only [RepV] at h3 ⊢
    obtain ⟨b, o, cap, us, hv, q1, q2, q3, q4, q5⟩ := h3
    exact ⟨b, o, cap, us, hv, key us q1, q2, by rw [tsC_length, tns_length], q4, trivial⟩
  | .neg e, vs, h => by
    have key := rep_tn g e
    rw [exC] at h
    rw [Ex.tn, tC]
    obtain ⟨v0, _, rfl, h0, v1, _, rfl, h1, v2, _, rfl, h2, v3, _, rfl, h3, h4⟩ := h
    refine ⟨v0, _, rfl, h0, v1, _, rfl, h1, v2, _, rfl, h2, v3, _, rfl, ?_, h4⟩
    simp only [RepV] at h3 ⊢
    obtain ⟨b, o, cap, us, hv, q1, q2, q3, q4, q5⟩ := h3
    refine ⟨b, o, cap, us, hv, ?_, q2, by rw [tsC_length], q4, trivial⟩
    rw [tsC, tsC, List.append_nil]
    exact key us q1
  | .bin k x y, vs, h => by
    have key1 := rep_tn g x
    have key2 := rep_tn g y
    rw [exC] at h
    rw [Ex.tn, tC]
    obtain ⟨v0, _, rfl, h0, v1, _, rfl, h1, v2, _, rfl, h2, v3, _, rfl, h3, h4⟩ := h
    refine ⟨v0, _, rfl, h0, v1, _, rfl, h1, v2, _, rfl, h2, v3, _, rfl, ?_, h4⟩
    simp only [RepV] at h3 ⊢
    obtain ⟨b, o, cap, us, hv, q1, q2, q3, q4, q5⟩ := h3
    refine ⟨b, o, cap, us, hv, ?_, q2, by rw [tsC_length], q4, trivial⟩
    obtain ⟨u1, u2, rfl, r1, r2⟩ := repL_append2 q1
    rw [tsC, tsC, tsC, List.append_nil]
    exact (key1 u1 r1).append (key2 u2 r2)
theorem rep_tns (g : Gh) : ∀ (l : List Ex) (vs : List Value), RepL g (exsC l) vs → RepL g (tsC (Ex.tns l)) vs
  | [], _, h => h
  | e :: l, vs, h => by
    have k1 := rep_tn g e
    have k2 := rep_tns g l
    rw [exsC] at h
    rw [Ex.tns, tsC]
    obtain ⟨v1, v2, rfl, h1, h2⟩ := repL_append2 h
    exact (k1 v1 h1).append (k2 v2 h2)
end
mutual
theorem same_of : ∀ t : Tn, sameT (ofT t) t = true
  | .lf k n s => by simp [ofT, sameT, Tn.k, Tn.n, Tn.s, Tn.kids]
  | .nd k n s [] => by simp [ofT, sameT, Tn.k, Tn.n, Tn.s, Tn.kids]
  | .nd k n s (a :: l) => by
    have h1 := same_of a
    have h2 := sames_of l
    have h3 := ofTs_length l
    simp [ofT, sameT, Tn.k, Tn.n, Tn.s, Tn.kids, sameTs, h1, h2, h3]
theorem sames_of : ∀ l : List Tn, sameTs (ofTs l) l = true
  | [] => rfl
  | a :: l => by rw [ofTs, sameTs, same_of a, sames_of l]; rfl
end
mutual
theorem okT_of : ∀ t : Tn, okT t = true → okT (ofT t) = true
  | .lf _ _ _, _ => rfl
  | .nd _ _ _ [], _ => rfl
  | .nd k n s (a :: l), h => by
    simp only [okT, okTs, Bool.and_eq_true, decide_eq_true_eq, List.length_cons] at h
    have h1 := okT_of a h.2.1
    have h2 := okTs_of l h.2.2
    simp only [ofT, okT, okTs, Bool.and_eq_true, decide_eq_true_eq, List.length_cons, ofTs_length]
    exact ⟨h.1, h1, h2⟩
theorem okTs_of : ∀ l : List Tn, okTs l = true → okTs (ofTs l) = true
  | [], _ => rfl
  | a :: l, h => by
    simp only [okTs, Bool.and_eq_true] at h
    simp only [ofTs, okTs, Bool.and_eq_true]
    exact ⟨okT_of a h.1, okTs_of l h.2⟩
end
end Go.Proofs.YtejjlojfgcgopaaGreatDoor
namespace Go.Proofs.YtejjlojfgcgopaaGreatDoor
open Go.RowKit Go.Proofs.Fw
open Go.Shelf
set_option maxRecDepth 100000
set_option maxHeartbeats 4000000
def pow10Cells : List AV := (List.range 20).map fun i => .int .u64 ((10 ^ i : Nat) : Int)
def globF : List (Nat × AV) := (1, .vptr pow10Cells 0) :: globN
def envF : Env := ⟨globOf globF, methN, fun t => envX.imm t || t == 29, fun _ => false, fun _ => false⟩
@[simp] theorem envF_soft (t : TypeId) : envF.soft t = false := nrfl rfl
theorem methFOk : MethOk Tryz.prog envF := methNOk
theorem lowF : ∀ i, low 0 (envF.glob i) = true := low_globOf (by
  intro x hx
  simp only [globF, globN, globT, List.mem_cons, List.not_mem_nil, or_false] at hx
  rcases hx with rfl | rfl | rfl | rfl
  · show lowL 0 pow10Cells = true
    kernel_rfl
  · rfl
  · show lowL 0 spaceCells = true
    kernel_rfl
  · rfl)
theorem globF_X {g : Gh} (h : GlobOk envF g) : GlobOk envX g := by
  intro i
  by_cases hi : i = 1
  · subst hi
    have : envX.glob 1 = .undef := by rfl
    rw [this]
    trivial
  · have : envX.glob i = envF.glob i := by
      simp only [envX, envF, envN, globOf, globF, List.find?_cons]
      rw [show ((1 : Nat) == i) = false by simp; omega]
    rw [this]
    exact h i
theorem CS.toF {f : FuncId} {args : List AV} {H H' : AH} {v : AV} (h : CS Tryz.prog envX f args H v H') : CS Tryz.prog envF f args H v H' := fun g w cargs R hG hA => h g w cargs R (globF_X hG) hA
theorem Sound.toF {O : Orc} (h : Sound Tryz.prog envX O) : Sound Tryz.prog envF O := fun f args H v H' ho => by
  obtain ⟨h1, h2, h3⟩ := h f args H v H' ho
  exact ⟨CS.toF h1, h2, h3⟩
@[simp] theorem immFE : envF.imm 27 = true := by decide
@[simp] theorem immFC : envF.imm 29 = true := by decide
theorem oNilF : Cx oNil Tryz.prog envF := ⟨oNil_sound, methFOk, mixed⟩
def fzN : FuncId → Nat := fun _ => 0
def NumOk (S : Int → Prop) (nt : Int → List UInt8) : Prop := ∀ n, S n → ∀ H, CS Tryz.prog envF 94 [.int .i64 n] H (.str (nt n)) H
def laysJoin_ren : Go.Shelf.Ren := ⟨fun | 156 => 93 | 165 => 146 | 166 => 147 | 169 => 148 | 240 => 182 | 241 => 183 | 276 => 211 | 277 => 212 | n => n, fun | 31 => 23 | 9 => 9 | 3 => 3 | 4 => 4 | 0 => 0 | 20 => 20 | 72 => 255 | 76 => 256 | 70 => 253 | 37 => 139 | 75 => 33 | 127 => 306 | 164 => 208 | 5 => 5 | 80 => 258 | n => n, fun | n => n⟩
theorem laysJoin : Lays.n156 Tryz.prog laysJoin_ren := {
  mixed := by kernel_rfl
  f156 := Tryz.func93.trans (congrArg some (by kernel_rfl))
  f165 := Tryz.func146.trans (congrArg some (by kernel_rfl))
  f166 := Tryz.func147.trans (congrArg some (by kernel_rfl))
  f169 := Tryz.func148.trans (congrArg some (by kernel_rfl))
  f240 := Tryz.func182.trans (congrArg some (by kernel_rfl))
  f241 := Tryz.func183.trans (congrArg some (by kernel_rfl))
  f276 := Tryz.func211.trans (congrArg some (by kernel_rfl))
  f277 := Tryz.func212.trans (congrArg some (by kernel_rfl))
  t0 := Tryz.underlying0
  a0 := Tryz.isAgg0
  z0 := Tryz.sizeOf0
  v0 := Tryz.zeroValue0
  t3 := Tryz.underlying3
  a3 := Tryz.isAgg3
  z3 := Tryz.sizeOf3
  v3 := Tryz.zeroValue3
  t4 := Tryz.underlying4
  a4 := Tryz.isAgg4
  z4 := Tryz.sizeOf4
  v4 := Tryz.zeroValue4
  t9 := Tryz.underlying9
  a9 := Tryz.isAgg9
  z9 := Tryz.sizeOf9
  v9 := Tryz.zeroValue9
  t20 := Tryz.underlying20
  a20 := Tryz.isAgg20
  z20 := Tryz.sizeOf20
  v20 := Tryz.zeroValue20
  t31 := Tryz.underlying23
  a31 := Tryz.isAgg23
  z31 := Tryz.sizeOf23
  v31 := Tryz.zeroValue23
  t37 := Tryz.underlying139
  a37 := Tryz.isAgg139
  z37 := Tryz.sizeOf139
  v37 := Tryz.zeroValue139
  t70 := Tryz.underlying253
  a70 := Tryz.isAgg253
  z70 := Tryz.sizeOf253
  v70 := Tryz.zeroValue253
  t72 := Tryz.underlying255
  a72 := Tryz.isAgg255
  z72 := Tryz.sizeOf255
  v72 := Tryz.zeroValue255
  t75 := Tryz.underlying33
  a75 := Tryz.isAgg33
  z75 := Tryz.sizeOf33
  v75 := Tryz.zeroValue33
  t76 := Tryz.underlying256
  a76 := Tryz.isAgg256
  z76 := Tryz.sizeOf256
  v76 := Tryz.zeroValue256
  t127 := Tryz.underlying306
  a127 := Tryz.isAgg306
  z127 := Tryz.sizeOf306
  v127 := Tryz.zeroValue306
  t164 := Tryz.underlying208
  a164 := Tryz.isAgg208
  z164 := Tryz.sizeOf208
  v164 := Tryz.zeroValue208 }
theorem extraJ : Builder.Extra Tryz.prog laysJoin_ren := {
  sizeBuilder := by kernel_rfl
  liesBuilder := by kernel_rfl
  t5 := Tryz.underlying5
  a5 := Tryz.isAgg5
  z5 := Tryz.sizeOf5
  v5 := Tryz.zeroValue5
  infoByte := by kernel_rfl
  cellsByte := by kernel_rfl
  sizeByte := by kernel_rfl
  neB5 := by decide }
theorem repStrs (g : Gh) : ∀ (xs : List (List UInt8)) (vs : List Value), RepL g (xs.map AV.str) vs → vs = xs.map fun x => Value.string ⟨x.toArray⟩
  | [], vs, h => h
  | x :: xs, vs, h => by
    obtain ⟨v, ws, rfl, h1, h2⟩ := h
    simp only [RepV] at h1
    rw [h1, repStrs g xs ws h2]
    rfl
theorem join_cs (ow : Own) (xs : List (List UInt8)) (sep : List UInt8) (h0 : xs ≠ []) (hn : xs.length ≤ 140737488355328) (hl : (Lib.join xs sep).length ≤ 140737488355328) (H : AH) :
    CS Tryz.prog envF 93 [.slice ow 1 xs.length (xs.map .str), .str sep] H (.str (Lib.join xs sep)) H := by
  refine CS.of_calls2 fun g w cargs R hA => ?_
  simp only [RepL, RepV] at hA
  obtain ⟨_, _, rfl, ⟨b, o, cap, vs, rfl, hr, hhas, _, hcap, _⟩, _, _, rfl, rfl, rfl⟩ := hA
  have hvs := repStrs g xs vs hr
  subst hvs
  have hget : ∀ (j : Nat) (x : List UInt8), xs[j]? = some x → g.G b (o + j) = some (.string ⟨x.toArray⟩) := fun j x hx => hhas j _ (by rw [List.getElem?_map, hx]; rfl)
  have hid : (xs.map fun x => (⟨x.toArray⟩ : ByteArray)).map (·.data.toList) = xs := by
    rw [List.map_map]
    conv => rhs; rw [← List.map_id xs]
    exact List.map_congr_left fun x _ => rfl
  have key := Any.strings_Join laysJoin extraJ b o cap (xs.map fun x => (⟨x.toArray⟩ : ByteArray)) ⟨sep.toArray⟩ w
    (fun j x hx => by
      rw [List.getElem?_map] at hx
      cases hj : xs[j]? with
      | none => rw [hj] at hx; cases hx
      | some y =>
        rw [hj] at hx
        injection hx with hx
        subst hx
        exact R.imm _ _ _ (hget j y hj))
    (by
      cases xs with
      | nil => exact absurd rfl h0
      | cons x xs => exact R.lt (hget 0 x rfl))
    (by rw [List.length_map]; exact hn) (by rw [List.length_map]; exact hcap)
    (by rw [hid]; exact hl)
  rw [hid, List.length_map] at key
  refine key.mono ?_
  rintro e w' ⟨rfl, hb⟩
  exact ⟨_, rfl, fun g => by simp only [RepV], hb⟩
theorem strs_inj : ∀ {a b : List (List UInt8)}, a.map AV.str = b.map AV.str → a = b
  | [], [], _ => rfl
  | [], _ :: _, h => by cases h
  | _ :: _, [], h => by cases h
  | x :: a, y :: b, h => by
    simp only [List.map_cons, List.cons.injEq, AV.str.injEq] at h
    rw [h.1, strs_inj h.2]
open Classical in
noncomputable def oJoin : Orc := fun f args H => match args with
  | [.slice ow 1 n cs, .str sep] => if h : f = 93 ∧ ∃ xs : List (List UInt8), cs = xs.map .str ∧ n = xs.length ∧ xs ≠ [] ∧ xs.length ≤ 140737488355328 ∧ (Lib.join xs sep).length ≤ 140737488355328 then some (.str (Lib.join h.2.choose sep), H) else none
  | _ => none
theorem oJoin_at {ow : Own} {xs : List (List UInt8)} {sep : List UInt8} {n : Nat} (hn0 : n = xs.length) (h0 : xs ≠ []) (hn : xs.length ≤ 140737488355328) (hl : (Lib.join xs sep).length ≤ 140737488355328) (H : AH) :
    oJoin 93 [.slice ow 1 n (xs.map .str), .str sep] H = some (.str (Lib.join xs sep), H) := by
  have hh : 93 = 93 ∧ ∃ ys : List (List UInt8), xs.map AV.str = ys.map .str ∧ n = ys.length ∧ ys ≠ [] ∧ ys.length ≤ 140737488355328 ∧ (Lib.join ys sep).length ≤ 140737488355328 := ⟨rfl, xs, rfl, hn0, h0, hn, hl⟩
  have he := (strs_inj hh.2.choose_spec.1).symm
  simp only [oJoin, dif_pos hh]
  rw [he]
theorem oJoin_sound : Sound Tryz.prog envF oJoin := by
  intro f args H v H' ho
  unfold oJoin at ho
  split at ho
  · split at ho
    · rename_i hx
      injection ho with ho
      simp only [Prod.mk.injEq] at ho
      obtain ⟨rfl, rfl⟩ := ho
      have hs := hx.2.choose_spec
      generalize hx.2.choose = xs at *
      obtain ⟨rfl, rfl, h0, hn, hl⟩ := hs
      obtain ⟨rfl, _⟩ := hx
      exact ⟨join_cs _ xs _ h0 hn hl _, Nat.le_refl _, fun _ _ h => h⟩
    · cases ho
  · cases ho
def levelT (k : Int) : Int := if k = 1 ∨ k = 2 ∨ k = 3 ∨ k = 4 then 3 else if k = 7 ∨ k = 8 then 2 else 1
def brackT (s : List UInt8) (b : Bool) : List UInt8 := if b then 40 :: (s ++ [41]) else s
def signT (k : Int) : List UInt8 := if k = 5 then [32, 43, 32] else if k = 6 then [32, 45, 32] else if k = 7 then [32, 42, 32] else if k = 8 then [32, 47, 32] else []
theorem level_cs (t : Tn) (H : AH) : CS Tryz.prog envF 96 [.agg (tC t)] H (.int .i64 (levelT t.k)) H := by
  refine CS.tr0 lowF Tryz.func96 (by kernel_rfl) 0 (by simp [Tryz.f96]) (fun B hB hG => ?_) (by simp) (by simp) H
  refine Tr.goD oNilF hG ?_
  have w2 : IntKind.i64.wrap 2 = 2 := by decide
  have w3 : IntKind.i64.wrap 3 = 3 := by decide
  by_cases h1 : t.k = 1
  · simp [Tryz.f96, levelT, h1, w2, w3]
  · by_cases h2 : t.k = 2
    · simp [Tryz.f96, levelT, h2, w2, w3]
    · by_cases h3 : t.k = 3
      · simp [Tryz.f96, levelT, h3, w2, w3]
      · by_cases h4 : t.k = 4
        · simp [Tryz.f96, levelT, h4, w2, w3]
        · by_cases h7 : t.k = 7
          · simp [Tryz.f96, levelT, h7, w2, w3]
          · by_cases h8 : t.k = 8
            · simp [Tryz.f96, levelT, h8, w2, w3]
            · simp [Tryz.f96, levelT, h1, h2, h3, h4, h7, h8, w2, w3]
theorem brack_cs (s : List UInt8) (b : Bool) (hs : s.length < 1099511627776) (H : AH) : CS Tryz.prog envF 95 [.str s, .bool b] H (.str (brackT s b)) H := by
  have e1 : s.length + 1 ≤ 9223372036854775807 := by omega
  have e2 : 1 + s.length ≤ 9223372036854775807 := by omega
  have e3 : s.length + 1 + 1 ≤ 9223372036854775807 := by omega
  have e4 : 1 + s.length + 1 ≤ 9223372036854775807 := by omega
  have e5 : s.length ≤ 9223372036854775806 := by omega
  have e6 : s.length ≤ 9223372036854775805 := by omega
  refine CS.tr0 lowF Tryz.func95 (by kernel_rfl) 0 (by simp [Tryz.f95]) (fun B hB hG => ?_) (by simp) (by simp) H
  refine Tr.goD oNilF hG ?_
  cases b with
  | true => simp [Tryz.f95, brackT, e1, e2, e3, e4, e5, e6]
  | false => simp [Tryz.f95, brackT]
end Go.Proofs.YtejjlojfgcgopaaGreatDoor
namespace Go.Proofs.YtejjlojfgcgopaaGreatDoor
open Go.RowKit Go.Proofs.Fw
set_option maxRecDepth 100000
set_option maxHeartbeats 4000000
def wordsT (nt : Int → List UInt8) (k n : Int) (s : List UInt8) (a : List Tn) (x : List (List UInt8)) : List UInt8 :=
  if k = 1 then nt n else if k = 2 then s else if k = 3 then s ++ [40] ++ Lib.join x [44, 32] ++ [41]
  else if k = 4 then [45] ++ brackT (x.getD 0 []) (decide (levelT (a.getD 0 default).k < 3))
  else brackT (x.getD 0 []) (decide (levelT (a.getD 0 default).k < levelT k)) ++ signT k ++ brackT (x.getD 1 []) (decide (levelT (a.getD 1 default).k ≤ levelT k) || (a.getD 1 default).k == 4)
mutual
def txt (nt : Int → List UInt8) : Tn → List UInt8
  | .lf k n s => wordsT nt k n s [] []
  | .nd k n s a => wordsT nt k n s a (txts nt a)
def txts (nt : Int → List UInt8) : List Tn → List (List UInt8)
  | [] => []
  | t :: l => txt nt t :: txts nt l
end
theorem txt_eq (nt : Int → List UInt8) (t : Tn) : txt nt t = wordsT nt t.k t.n t.s t.kids (txts nt t.kids) := by cases t <;> rfl
theorem txts_map (nt : Int → List UInt8) : ∀ l : List Tn, txts nt l = l.map (txt nt)
  | [] => rfl
  | t :: l => by rw [txts, txts_map nt l, List.map_cons]
def gk (S : Int → Prop) (k n : Int) (m : Nat) : Prop := (k = 1 ∧ S n) ∨ k = 2 ∨ (k = 3 ∧ 0 < m) ∨ (k = 4 ∧ m = 1) ∨ ((k < 1 ∨ 4 < k) ∧ m = 2)
mutual
/-- A tree that can be written. -/
def good (S : Int → Prop) : Tn → Prop
  | .lf k n _ => gk S k n 0
  | .nd k n _ a => gk S k n a.length ∧ ((k = 1 ∨ k = 2) ∨ goods S a)
def goods (S : Int → Prop) : List Tn → Prop
  | [] => True
  | t :: l => good S t ∧ goods S l
end
theorem goods_mem {S : Int → Prop} : ∀ {l : List Tn}, goods S l → ∀ t ∈ l, good S t
  | [], _, _, h => by cases h
  | u :: l, h, t, ht => by
    rcases List.mem_cons.1 ht with rfl | ht
    · exact h.1
    · exact goods_mem h.2 t ht
theorem good_gk {S : Int → Prop} {t : Tn} (h : good S t) : gk S t.k t.n t.kids.length := by
  cases t with
  | lf => exact h
  | nd => exact h.1
theorem good_kid {S : Int → Prop} {t u : Tn} (h : good S t) (hk : ¬ (t.k = 1 ∨ t.k = 2)) (hu : u ∈ t.kids) : good S u := by
  cases t with
  | lf => cases hu
  | nd k n s a =>
    rcases h.2 with h1 | h1
    · exact absurd h1 hk
    · exact goods_mem h1 u hu
theorem join_len {sep : List UInt8} : ∀ {x : List (List UInt8)} {s : List UInt8}, s ∈ x → s.length ≤ (Lib.join x sep).length
  | [], _, h => by cases h
  | [y], s, h => by
    rcases List.mem_cons.1 h with rfl | h
    · rw [Lib.join_one]; exact Nat.le_refl _
    · cases h
  | y :: z :: x, s, h => by
    have e : Lib.join (y :: z :: x) sep = y ++ sep ++ Lib.join (z :: x) sep := by simp [Lib.join, List.intercalate]
    rw [e]
    simp only [List.length_append]
    rcases List.mem_cons.1 h with rfl | h
    · omega
    · have := join_len (sep := sep) h
      omega
theorem brack_le (s : List UInt8) (b : Bool) : s.length ≤ (brackT s b).length := by
  cases b with
  | true => simp [brackT]; omega
  | false => simp [brackT]
open Classical in
noncomputable def oNum (S : Int → Prop) (nt : Int → List UInt8) (n : Int) : Orc := fun f args H => if f = 94 ∧ args = [.int .i64 n] ∧ S n then some (.str (nt n), H) else none
theorem oNum_sound {S : Int → Prop} {nt : Int → List UInt8} (hS : NumOk S nt) (n : Int) : Sound Tryz.prog envF (oNum S nt n) := by
  intro f args H v H' ho
  unfold oNum at ho
  split at ho
  · rename_i hx
    obtain ⟨rfl, rfl, hs⟩ := hx
    injection ho with ho
    simp only [Prod.mk.injEq] at ho
    obtain ⟨rfl, rfl⟩ := ho
    exact ⟨hS n hs _, Nat.le_refl _, fun _ _ h => h⟩
  · cases ho
def oBrk : Orc := oPure 95 (fun args => match args with
  | [.str s, .bool b] => if s.length < 1099511627776 then some (s, b) else none
  | _ => none) fun x => .str (brackT x.1 x.2)
theorem oBrk_sound : Sound Tryz.prog envF oBrk := oPure_sound fun args x H h => by
  split at h
  · split at h
    · injection h with h
      subst h
      exact brack_cs _ _ ‹_› H
    · cases h
  · cases h
structure TxO (O : Orc) (S : Int → Prop) (nt : Int → List UInt8) (L : List Tn) (n : Int) : Prop where
  text : ∀ u ∈ L, good S u → okT u = true → (txt nt u).length < 1099511627776 → ∀ H, O 56 [.agg (tC u)] H = some (.str (txt nt u), H)
  num : S n → ∀ H, O 94 [.int .i64 n] H = some (.str (nt n), H)
  join : ∀ (ow : Own) (m : Nat) (xs : List (List UInt8)) (H : AH), m = xs.length → xs ≠ [] → xs.length ≤ 140737488355328 → (Lib.join xs [44, 32]).length ≤ 140737488355328 → O 93 [.slice ow 1 m (xs.map .str), .str [44, 32]] H = some (.str (Lib.join xs [44, 32]), H)
  brk : ∀ (s : List UInt8) (b : Bool) (H : AH), s.length < 1099511627776 → O 95 [.str s, .bool b] H = some (.str (brackT s b), H)
  lev : ∀ (u : Tn) (H : AH), O 96 [.agg (tC u)] H = some (.int .i64 (levelT u.k), H)
noncomputable def oTx (S : Int → Prop) (nt : Int → List UInt8) (L : List Tn) (n : Int) : Orc := oTab [(56, oTn 56 (fun u => u ∈ L ∧ good S u ∧ okT u = true ∧ (txt nt u).length < 1099511627776) (fun u => .str (txt nt u))),
  (94, oNum S nt n), (93, oJoin), (95, oBrk), (96, oTn 96 (fun _ => True) (fun u => .int .i64 (levelT u.k)))]
theorem oTx_ok (S : Int → Prop) (nt : Int → List UInt8) (L : List Tn) (n : Int) : TxO (oTx S nt L n) S nt L n where
  text := fun u hu hg ho hl H => by
    have : oTx S nt L n 56 [.agg (tC u)] H = oTn 56 (fun u => u ∈ L ∧ good S u ∧ okT u = true ∧ (txt nt u).length < 1099511627776) (fun u => .str (txt nt u)) 56 [.agg (tC u)] H := by simp only [oTx, oTab, List.lookup]; rfl
    rw [this, oTn_at ⟨hu, hg, ho, hl⟩]
  num := fun hs H => by
    have : oTx S nt L n 94 [.int .i64 n] H = oNum S nt n 94 [.int .i64 n] H := by simp only [oTx, oTab, List.lookup]; rfl
    rw [this]
    unfold oNum
    rw [if_pos ⟨rfl, rfl, hs⟩]
  join := fun ow m xs H hm h0 hn hl => by
    have : oTx S nt L n 93 [.slice ow 1 m (xs.map .str), .str [44, 32]] H = oJoin 93 [.slice ow 1 m (xs.map .str), .str [44, 32]] H := by simp only [oTx, oTab, List.lookup]; rfl
    rw [this, oJoin_at hm h0 hn hl]
  brk := fun s b H hs => by
    have : oTx S nt L n 95 [.str s, .bool b] H = oBrk 95 [.str s, .bool b] H := by simp only [oTx, oTab, List.lookup]; rfl
    rw [this]
    simp [oBrk, oPure, hs]
  lev := fun u H => by
    have : oTx S nt L n 96 [.agg (tC u)] H = oTn 96 (fun _ => True) (fun u => .int .i64 (levelT u.k)) 96 [.agg (tC u)] H := by simp only [oTx, oTab, List.lookup]; rfl
    rw [this, oTn_at trivial]
theorem oTx_cx {S : Int → Prop} {nt : Int → List UInt8} (hS : NumOk S nt) {L : List Tn} (n : Int) (h : ∀ u ∈ L, good S u → okT u = true → (txt nt u).length < 1099511627776 → ∀ H, CS Tryz.prog envF 56 [.agg (tC u)] H (.str (txt nt u)) H) : Cx (oTx S nt L n) Tryz.prog envF := ⟨oTab_sound (by
  intro p hp
  simp only [List.mem_cons, List.not_mem_nil, or_false] at hp
  rcases hp with rfl | rfl | rfl | rfl | rfl
  · exact oTn_sound fun u hu H => h u hu.1 hu.2.1 hu.2.2.1 hu.2.2.2 H
  · exact oNum_sound hS n
  · exact oJoin_sound
  · exact oBrk_sound
  · exact oTn_sound fun u _ H => level_cs u H), methFOk, mixed⟩
def outS (l : List (List UInt8)) : AV := if l = [] then .nilSlice else .slice (.tok 1) 1 l.length (l.map .str)
theorem elemS : elemChk Tryz.prog 23 1 = true := by kernel_rfl
def textH (l : List Tn) (i : Nat) : AH := match l with
  | [] => []
  | u :: _ => [some (.box (tC u)), some (.tok i)]
theorem sign_find (k : Int) : ∃ r, findA (.int .i64 k) [(.int .i64 5, .str [32, 43, 32]), (.int .i64 6, .str [32, 45, 32]), (.int .i64 7, .str [32, 42, 32]), (.int .i64 8, .str [32, 47, 32])] = some r ∧ ((r = none ∧ signT k = []) ∨ r = some (.str (signT k))) := by
  by_cases h5 : k = 5
  · subst h5; exact ⟨_, rfl, .inr rfl⟩
  by_cases h6 : k = 6
  · subst h6; exact ⟨_, rfl, .inr rfl⟩
  by_cases h7 : k = 7
  · subst h7; exact ⟨_, rfl, .inr rfl⟩
  by_cases h8 : k = 8
  · subst h8; exact ⟨_, rfl, .inr rfl⟩
  exact ⟨none, by simp [findA, keyEq, h5, h6, h7, h8], .inl ⟨rfl, by simp [signT, h5, h6, h7, h8]⟩⟩
theorem find_1 : findA (.int .i64 5) [] = some none := rfl
theorem find_2 (v : AV) : findA (.int .i64 6) [(.int .i64 5, v)] = some none := rfl
theorem find_3 (v w : AV) : findA (.int .i64 7) [(.int .i64 5, v), (.int .i64 6, w)] = some none := rfl
theorem find_4 (v w x : AV) : findA (.int .i64 8) [(.int .i64 5, v), (.int .i64 6, w), (.int .i64 7, x)] = some none := rfl
theorem kdOk_i (n : Int) : kdOk (.int .i64) (.int .i64 n) = true := rfl
def TextI (nt : Int → List UInt8) (t : Tn) (k : Nat) (tt : List AV) (H : AH) : Prop :=
  ∃ i, i + k = t.kids.length ∧ tt = mkT 94 [(1, .vptr (tC t) 0), (3, outS ((t.kids.take i).map (txt nt))), (23, t.ar), (24, .int .i64 (t.kids.length : Int)), (25, .int .i64 ((i : Nat) : Int))] ∧
    H = textH (t.kids.take i) i
@[simp] theorem keyDesc_map : keyDesc Tryz.prog 201 = some (.int .i64, 9) := by kernel_rfl
@[simp] theorem bsStr (a : List UInt8) : abuildSlice Tryz.prog 23 1 [(0, .str a)] = some (.slice .full 1 1 [.str a]) := by kernel_rfl
theorem len2 : ∀ {l : List Tn}, l.length = 2 → ∃ u v, l = [u, v]
  | [u, v], _ => ⟨u, v, rfl⟩
@[simp] theorem zeroAV_str : zeroAV Tryz.prog 9 = some (.str []) := by kernel_rfl
theorem text_cs {S : Int → Prop} {nt : Int → List UInt8} (hS : NumOk S nt) (t : Tn) (ht : okT t = true) (hg : good S t) (hl : (txt nt t).length < 1099511627776) (H : AH) : CS Tryz.prog envF 56 [.agg (tC t)] H (.str (txt nt t)) H := by
  have X : Cx (oTx S nt t.kids t.n) Tryz.prog envF := oTx_cx hS t.n fun u hu g o l H => text_cs hS u o g l H
  have hO := oTx_ok S nt t.kids t.n
  generalize oTx S nt t.kids t.n = O at X hO
  have hgk := good_gk hg
  rw [txt_eq] at hl ⊢
  refine CS.tr0 lowF Tryz.func56 (by kernel_rfl) 0 (by simp [Tryz.f56]) (fun B hB hG => ?_) (by simp) (by simp) H
  refine Tr.goM X hG (by kernel_rfl) ?_
  by_cases h1 : t.k = 1
  · have hs : S t.n := by rcases hgk with h | h | h | h | h <;> first | exact h.2 | omega
    simp [Tryz.f56, h1, hO.num hs, wordsT]
  by_cases h2 : t.k = 2
  · simp [Tryz.f56, h2, wordsT]
  have hgd : ∀ u ∈ t.kids, good S u := fun u hu => good_kid hg (by omega) hu
  have hok : ∀ u ∈ t.kids, okT u = true := fun u hu => okT_kid ht hu
  by_cases h3 : t.k = 3
  · have hm : 0 < t.kids.length := by rcases hgk with h | h | h | h | h <;> omega
    have hw : wordsT nt t.k t.n t.s t.kids (txts nt t.kids) = t.s ++ [40] ++ Lib.join (t.kids.map (txt nt)) [44, 32] ++ [41] := by unfold wordsT; rw [if_neg h1, if_neg h2, if_pos h3, txts_map]
    rw [hw] at hl ⊢
    simp only [List.length_append, List.length_cons, List.length_nil] at hl
    have hkl : ∀ u ∈ t.kids, (txt nt u).length < 1099511627776 := fun u hu => by
      have := join_len (sep := [44, 32]) (x := t.kids.map (txt nt)) (List.mem_map_of_mem hu)
      omega
    have hlen := okT_len ht
    simp [Tryz.f56, h3]
    refine LpD.loopN X hG (TextI nt t) t.kids.length (t' := mkT 94 [(1, .vptr (tC t) 0), (3, .nilSlice), (23, t.ar), (24, .int .i64 (t.kids.length : Int)), (25, .int .i64 ((0 : Nat) : Int))]) (H' := [])
      (Less.mk0 hB (by simp [h3])) ⟨0, by omega, rfl, rfl⟩ ?_
    rintro k tt H ⟨i, hik, rfl, rfl⟩
    cases k with
    | zero =>
      obtain rfl : i = t.kids.length := by omega
      rw [List.take_length]
      obtain ⟨u, hH⟩ : ∃ u, textH t.kids t.kids.length = [some (.box (tC u)), some (.tok t.kids.length)] := by
        cases hk : t.kids with
        | nil => rw [hk] at hm; simp at hm
        | cons u l => exact ⟨u, rfl⟩
      rw [hH]
      have hxl : (t.kids.map (txt nt)).length = t.kids.length := by simp
      generalize t.kids.map (txt nt) = xs at *
      have hx0 : xs ≠ [] := fun h => by rw [h] at hxl; simp at hxl; omega
      have hj := fun ow H => hO.join ow xs.length xs H rfl hx0 (by omega) (by omega)
      have e1 : t.s.length ≤ 9223372036854775806 := by omega
      have e2 : t.s.length + 1 ≤ 9223372036854775807 := by omega
      have e3 : t.s.length + ((Lib.join xs [44, 32]).length + 1) ≤ 9223372036854775807 := by omega
      have e4 : t.s.length + (1 + (Lib.join xs [44, 32]).length) ≤ 9223372036854775807 := by omega
      have e5 : t.s.length + 1 + (Lib.join xs [44, 32]).length ≤ 9223372036854775807 := by omega
      have e6 : t.s.length + 1 + (Lib.join xs [44, 32]).length + 1 ≤ 9223372036854775807 := by omega
      have e7 : t.s.length + ((Lib.join xs [44, 32]).length + 1 + 1) ≤ 9223372036854775807 := by omega
      have e8 : t.s.length + (Lib.join xs [44, 32]).length + 1 ≤ 9223372036854775807 := by omega
      have e9 : t.s.length + ((Lib.join xs [44, 32]).length + 1) ≤ 9223372036854775806 := by omega
      simp [Blk_exit, outS, hx0]
      refine LpD.turns X hG [4] [(0, 4), (1, 4), (2, 4)] ?_
      simp [hj, e1, e2, e3, e4, e5, e6, e7, e8, e9]
    | succ k =>
      have hi : i < t.kids.length := by omega
      have hi' : (i : Int) < t.kids.length := by omega
      obtain ⟨a, ha⟩ : ∃ a, t.kids[i]? = some a := ⟨_, List.getElem?_eq_getElem hi⟩
      obtain ⟨ca1, ca2⟩ := tsC_at t.kids i ha
      have hmm : a ∈ t.kids := List.mem_of_getElem? ha
      have htk1 : t.kids.take (i + 1) = t.kids.take i ++ [a] := by rw [List.take_add_one, ha, Option.toList_some]
      have htk : (t.kids.take (i + 1)).map (txt nt) = (t.kids.take i).map (txt nt) ++ [txt nt a] := by rw [htk1, List.map_append]; rfl
      have hol : ((t.kids.take i).map (txt nt)).length = i := by rw [List.length_map, List.length_take]; omega
      have w1 : IntKind.i64.wrap ((i : Int) + 1) = (i : Int) + 1 := wrap_i64 (by omega) (by omega)
      have hc := fun H => hO.text a hmm (hgd a hmm) (hok a hmm) (hkl a hmm) H
      simp only [tC_eq] at hc ca1
      have hcase : (i = 0 ∧ (t.kids.take i).map (txt nt) = [] ∧ textH (t.kids.take i) i = [] ∧ textH (t.kids.take (i + 1)) (i + 1) = [some (.box (tC a)), some (.tok (i + 1))]) ∨
          (∃ u0, ¬ (t.kids.take i).map (txt nt) = [] ∧ textH (t.kids.take i) i = [some (.box (tC u0)), some (.tok i)] ∧ textH (t.kids.take (i + 1)) (i + 1) = [some (.box (tC u0)), some (.tok (i + 1))]) := by
        rw [htk1]
        cases hq : t.kids.take i with
        | nil =>
          rw [hq] at hol
          exact .inl ⟨by simpa using hol.symm, rfl, rfl, rfl⟩
        | cons u0 l => exact .inr ⟨u0, by simp, rfl, rfl⟩
      generalize hxs : (t.kids.take i).map (txt nt) = l at *
      rcases hcase with ⟨hi0, hl0, hH, hH'⟩ | ⟨u0, hl0, hH, hH'⟩
      · subst hl0
        rw [hH]
        have happ := fun H => aappend_nil (P := Tryz.prog) (t := 23) (sz := 1) (m := 1) (H := H) (fid := 1) (ow := .full) (ys := [.str (txt nt a)]) elemS (by decide) (by decide) (by simp)
        simp [hi, hi', ca1, ca2, hc, outS, happ, w1]
        refine Nxt.mk k (by omega) (Less.mkK 2 (l' := [(1, .vptr (tC t) 0), (3, outS [txt nt a]), (23, t.ar), (24, .int .i64 (t.kids.length : Int)), (25, .int .i64 ((i + 1 : Nat) : Int))])
          (H' := [some (.box (tC a)), some (.tok (i + 1))]) (by simp [hB]) (by simp [outS]) (by simp [hi0]) (by simp)) ⟨i + 1, by omega, by rw [htk]; rfl, hH'.symm⟩
      · rw [hH]
        have happ := fun H (h : AH.at H 1 = some (.tok i)) => aappend_tok (P := Tryz.prog) (t := 23) (sz := 1) (m := 1) (H := H) (fid := 3) (ow := .full) (xs := l.map .str) (ys := [.str (txt nt a)]) elemS h (by decide) (by omega) (by simp)
        have hlow : lowL 2 (l.map AV.str) = true := by
          clear happ hl0 hol htk hxs
          induction l with
          | nil => rfl
          | cons x l ih => simp [ih]
        simp [hi, hi', ca1, ca2, hc, outS, hl0, hol, happ, w1]
        refine Nxt.mk k (by omega) (Less.mkK 2 (l' := [(1, .vptr (tC t) 0), (3, outS (l ++ [txt nt a])), (23, t.ar), (24, .int .i64 (t.kids.length : Int)), (25, .int .i64 ((i + 1 : Nat) : Int))])
          (H' := [some (.box (tC u0)), some (.tok (i + 1))]) (by simp [hB]) (by simp [outS, hol, hlow]) (by simp) (by simp)) ⟨i + 1, by omega, by rw [htk], hH'.symm⟩
  by_cases h4 : t.k = 4
  · have hm : t.kids.length = 1 := by rcases hgk with h | h | h | h | h <;> omega
    obtain ⟨u, hu⟩ := List.length_eq_one_iff.1 hm
    have hts : tsC t.kids = [.int .i64 u.k, .int .i64 u.n, .str u.s, u.ar] := by rw [hu]; simp [tsC]
    have hmem : u ∈ t.kids := by rw [hu]; simp
    have hx0 := aidxT1 (t := t) (i := 0) (by omega)
    have hw : wordsT nt t.k t.n t.s t.kids (txts nt t.kids) = [45] ++ brackT (txt nt u) (decide (levelT u.k < 3)) := by unfold wordsT; rw [if_neg h1, if_neg h2, if_neg h3, if_pos h4, hu]; rfl
    rw [hw] at hl ⊢
    simp only [List.length_append, List.length_cons, List.length_nil] at hl
    have hb := brack_le (txt nt u) (decide (levelT u.k < 3))
    have hc := fun H => hO.text u hmem (hgd u hmem) (hok u hmem) (by omega) H
    have hlv := fun H => hO.lev u H
    have hbk := fun b H => hO.brk (txt nt u) b H (by omega)
    have e1 : (brackT (txt nt u) (decide (levelT u.k < 3))).length ≤ 9223372036854775806 := by omega
    have e2 : (brackT (txt nt u) (decide (levelT u.k < 3))).length + 1 ≤ 9223372036854775807 := by omega
    have e3 : 1 + (brackT (txt nt u) (decide (levelT u.k < 3))).length ≤ 9223372036854775807 := by omega
    simp at hx0
    simp only [tC_eq] at hc hlv
    simp [Tryz.f56, h4]
    refine LpD.turns X hG [4, 9, 11] [(4, 5), (4, 6), (4, 7), (4, 8)] ?_
    simp [hx0, hts, hc, hlv, hbk, e1, e2, e3]
  have hm : t.kids.length = 2 := by rcases hgk with h | h | h | h | h <;> omega
  obtain ⟨u, v, hu⟩ := len2 hm
  have hts : tsC t.kids = [.int .i64 u.k, .int .i64 u.n, .str u.s, u.ar, .int .i64 v.k, .int .i64 v.n, .str v.s, v.ar] := by rw [hu]; simp [tsC]
  have hmu : u ∈ t.kids := by rw [hu]; simp
  have hmv : v ∈ t.kids := by rw [hu]; simp
  have hx0 := aidxT1 (t := t) (i := 0) (by omega)
  have hx1 := aidxT1 (t := t) (i := 1) (by omega)
  have hw : wordsT nt t.k t.n t.s t.kids (txts nt t.kids) = brackT (txt nt u) (decide (levelT u.k < levelT t.k)) ++ signT t.k ++ brackT (txt nt v) (decide (levelT v.k ≤ levelT t.k) || v.k == 4) := by unfold wordsT; rw [if_neg h1, if_neg h2, if_neg h3, if_neg h4, hu]; rfl
  rw [hw] at hl ⊢
  simp only [List.length_append] at hl
  have hbu := brack_le (txt nt u) (decide (levelT u.k < levelT t.k))
  have hbv := brack_le (txt nt v) (decide (levelT v.k ≤ levelT t.k) || v.k == 4)
  have hcu := fun H => hO.text u hmu (hgd u hmu) (hok u hmu) (by omega) H
  have hcv := fun H => hO.text v hmv (hgd v hmv) (hok v hmv) (by omega) H
  have hlt := fun H => hO.lev t H
  have hlu := fun H => hO.lev u H
  have hlv := fun H => hO.lev v H
  have hku := fun b H => hO.brk (txt nt u) b H (by omega)
  have hkv := fun b H => hO.brk (txt nt v) b H (by omega)
  simp at hx0 hx1
  simp only [tC_eq] at hcu hcv hlt hlu hlv
  generalize hbU : brackT (txt nt u) (decide (levelT u.k < levelT t.k)) = bU at *
  generalize hbV : brackT (txt nt v) (decide (levelT v.k ≤ levelT t.k) || v.k == 4) = bV at *
  have e0 : bU.length ≤ 9223372036854775807 := by omega
  have e4 : bU.length + bV.length ≤ 9223372036854775807 := by omega
  have e1 : bU.length + (signT t.k).length ≤ 9223372036854775807 := by omega
  have e2 : bU.length + (signT t.k).length + bV.length ≤ 9223372036854775807 := by omega
  have e3 : bU.length + ((signT t.k).length + bV.length) ≤ 9223372036854775807 := by omega
  simp [Tryz.f56, h1, h2, h3, h4]
  refine LpD.mapR X hG ?_
  obtain ⟨r, hfr, hr⟩ := sign_find t.k
  rcases hr with ⟨rfl, hsg⟩ | rfl
  all_goals simp [evMR, evM, find_1, find_2, find_3, find_4, kdOk_i, hfr, withIds, needsId, idCount, grow, stepO, callee, aop, h1, mkT_length]
  all_goals refine LpD.turns X hG [8, 9, 10, 11] [(0, 8), (0, 9), (1, 8), (1, 9), (2, 8), (2, 9), (3, 8), (3, 9), (4, 8), (4, 9), (4, 10), (5, 8), (5, 9), (5, 10), (6, 8), (6, 9), (6, 10), (7, 8), (7, 9), (7, 10), (8, 9)] ?_
  all_goals simp [hx0, hx1, hts]
  all_goals refine LpD.turns X hG [1, 3, 5, 7, 11, 13, 15, 22] [(1, 2), (1, 4), (1, 8), (1, 10), (1, 12), (1, 14), (3, 4), (3, 8), (3, 10), (3, 12), (3, 14), (5, 8), (5, 10), (5, 12), (5, 14), (7, 8), (7, 10), (7, 12), (7, 14), (8, 11), (8, 13), (8, 15), (8, 22), (9, 11), (9, 13), (9, 15), (9, 22), (11, 12), (11, 14), (13, 14)] ?_
  all_goals by_cases hle : levelT v.k ≤ levelT t.k
  all_goals simp [hle] at hbV
  all_goals first
    | simp [hcu, hcv, hlt, hlu, hlv, hku, hkv, hbU, hbV, hle, hsg, e0, e1, e2, e3, e4]; done
    | simp [hcu, hcv, hlt, hlu, hlv, hku, hkv, hbU, hbV, hle, e0, e1, e2, e3, e4]; done
termination_by SizeOf.sizeOf t
decreasing_by exact kid_lt hu
end Go.Proofs.YtejjlojfgcgopaaGreatDoor

namespace Go.Proofs.YtejjlojfgcgopaaGreatDoor
open Go.RowKit Go.Proofs.Fw
set_option maxRecDepth 100000
set_option maxHeartbeats 4000000
def asOut (a : List AV) (H : AH) : Option (AV × AH) :=
  match a with
  | [.iface t x, .iface tt (.ptr id 0)] => (match H.at id with
    | some (.box [_]) => if t = 152 ∧ tt = 154 then (match x with | .vptr cs 0 => some (.bool true, H.set id (some (.box [.vptr cs 0]))) | _ => none)
      else if t = 134 ∧ tt = 159 then (match x with | .int .i64 n => some (.bool true, H.set id (some (.box [.int .i64 n]))) | _ => none)
      else if t = 134 ∧ tt = 154 then (match x with | .int .i64 _ => some (.bool false, H) | _ => none) else none
    | _ => none)
  | _ => none
theorem at_set_none {H : AH} {i j : Nat} {e x : Ent} (hx : H.at i = some x) (hj : H.at j = none) : AH.at (H.set i (some e)) j = none := by
  have hij : i ≠ j := fun h => by subst h; rw [hx] at hj; cases hj
  unfold AH.at at hj ⊢
  rw [List.getElem?_set_ne hij]
  exact hj
theorem asOut_ok {a : List AV} {H H' : AH} {v : AV} (h : asOut a H = some (v, H')) : CS Tryz.prog envN 71 a H v H' ∧ H.length ≤ H'.length ∧ ∀ id, id < H.length → H.at id = none → H'.at id = none := by
  unfold asOut at h
  split at h
  · split at h
    · rename_i t x tt id y hH
      split at h
      · rename_i ht
        obtain ⟨rfl, rfl⟩ := ht
        split at h
        · injection h with h
          simp only [Prod.mk.injEq] at h
          obtain ⟨rfl, rfl⟩ := h
          exact ⟨asF_cs hH, by simp, fun j _ hj => at_set_none hH hj⟩
        · cases h
      · split at h
        · rename_i ht
          obtain ⟨rfl, rfl⟩ := ht
          split at h
          · injection h with h
            simp only [Prod.mk.injEq] at h
            obtain ⟨rfl, rfl⟩ := h
            exact ⟨asN_cs hH, by simp, fun j _ hj => at_set_none hH hj⟩
          · cases h
        · split at h
          · rename_i ht
            obtain ⟨rfl, rfl⟩ := ht
            split at h
            · injection h with h
              simp only [Prod.mk.injEq] at h
              obtain ⟨rfl, rfl⟩ := h
              exact ⟨asX_cs, Nat.le_refl _, fun _ _ hj => hj⟩
            · cases h
          · cases h
    · cases h
  · cases h
open Classical in
noncomputable def oTl (l : List (List UInt8 × Int)) (c : Int) : Orc := fun f a H =>
  if f = 70 then (if a = [errAV l c, .iface 134 (.int .i64 c)] then some (.bool true, H) else none) else if f = 71 then asOut a H else none
theorem oTl_sound (l : List (List UInt8 × Int)) (c : Int) : Sound Tryz.prog envN (oTl l c) := by
  intro f a H v H' h
  unfold oTl at h
  split at h
  · rename_i hf
    subst hf
    split at h
    · rename_i ha
      subst ha
      injection h with h
      simp only [Prod.mk.injEq] at h
      obtain ⟨rfl, rfl⟩ := h
      have := Is_cs l c c H
      rw [show (c == c) = true by simp] at this
      exact ⟨this, Nat.le_refl _, fun _ _ hj => hj⟩
    · cases h
  · split at h
    · rename_i hf
      subst hf
      exact asOut_ok h
    · cases h
theorem oTl_cx (l : List (List UInt8 × Int)) (c : Int) : Cx (oTl l c) Tryz.prog envN := ⟨oTl_sound l c, methNOk, mixed⟩
theorem oTl_is (l : List (List UInt8 × Int)) (c : Int) (H : AH) : oTl l c 70 [errAV l c, .iface 134 (.int .i64 c)] H = some (.bool true, H) := by simp [oTl]
theorem oTl_as (l : List (List UInt8 × Int)) (c : Int) (a : List AV) (H : AH) : oTl l c 71 a H = asOut a H := by simp [oTl]
def partCells : List (List UInt8 × Int) → List AV
  | [] => []
  | (w, p) :: l => .str w :: .int .i64 p :: partCells l
@[simp] theorem ids_err : ∀ (l : List (List UInt8 × Int)) (c : Int), idsOf (errAV l c) = []
  | [], c => rfl
  | (w, p) :: l, c => by simp [errAV, idsOf, idsOfL, ids_err l c]
@[simp high] theorem clos0 : clos [some (.box [.nilPtr])] 4 [0] = [0] := by
  have h : boxIdsL [some (.box [.nilPtr])] [0] = [] := by simp [boxIdsL, boxIds, AH.at, idsOf, idsOfL]
  simp [clos, h]
@[simp high] theorem mask0 : mask [some (.box [.nilPtr])] [0] = [some (.box [.nilPtr])] := by simp [mask, maskFrom]
@[simp high] theorem clos1 (w : List UInt8) (p : Int) (l : List (List UInt8 × Int)) (c : Int) : clos [some (.box [.vptr [.str w, .int .i64 p, errAV l c] 0])] 4 [0] = [0] := by
  have h : boxIdsL [some (.box [.vptr [.str w, .int .i64 p, errAV l c] 0])] [0] = [] := by simp [boxIdsL, boxIds, AH.at, idsOf, idsOfL]
  simp [clos, h]
@[simp high] theorem mask1 (x : AV) : mask [some (.box [x])] [0] = [some (.box [x])] := by simp [mask, maskFrom]
theorem partCells_get : ∀ (l : List (List UInt8 × Int)) (i : Nat) {w : List UInt8} {p : Int} {r : List (List UInt8 × Int)}, l.drop i = (w, p) :: r → (partCells l)[i * 2]? = some (.str w) ∧ (partCells l)[i * 2 + 1]? = some (.int .i64 p)
  | [], i, w, p, r, h => by simp at h
  | (a, b) :: l, 0, w, p, r, h => by
    simp only [List.drop_zero, List.cons.injEq, Prod.mk.injEq] at h
    obtain ⟨⟨rfl, rfl⟩, _⟩ := h
    simp [partCells]
  | (a, b) :: l, i + 1, w, p, r, h => by
    have := partCells_get l i (by simpa using h)
    rw [show (i + 1) * 2 = i * 2 + 1 + 1 by omega]
    simpa [partCells] using this
def TlI (l : List (List UInt8 × Int)) (c : Int) (sv : AV) (k : Nat) (t : List AV) (H : AH) : Prop :=
  ∃ i, i + k = l.length ∧ t = mkT 88 [(0, errAV (l.drop i) c), (3, .vptr [sv, .int .i64 c] 0), (5, .int .i64 ((i : Nat) : Int))] ∧ H = []
theorem tells_cs (l : List (List UInt8 × Int)) (c : Int) (hc : c ≠ 0) (hl : l.length < 1000) (ow : Own) (how : ow = .unk ∨ ow = .full) (H : AH) :
    CS Tryz.prog envN 23 [errAV l c, .agg [.slice ow 2 l.length (partCells l), .int .i64 c]] H (.bool true) H := by
  have hplow : lowL 0 (partCells l) = true := by
    clear hl
    induction l with
    | nil => rfl
    | cons x l ih => obtain ⟨w, p⟩ := x; simp [partCells, ih]
  have hsl : low 0 (.slice ow 2 l.length (partCells l)) = true := by rcases how with rfl | rfl <;> simp [hplow]
  clear how
  refine CS.tr0 lowN Tryz.func23 (by kernel_rfl) 0 (by simp [Tryz.f23]) (fun B hB hG => ?_) rfl (by simp [errAV_low, hsl]) H
  refine Tr.go (oTl_cx l c) hG (by kernel_rfl) ?_
  simp [Tryz.f23, hc, oTl_is]
  refine Tr.less (t' := mkT 88 [(0, errAV (l.drop 0) c), (3, .vptr [.slice ow 2 l.length (partCells l), .int .i64 c] 0), (5, .int .i64 ((0 : Nat) : Int))]) (H' := []) (Less.mk0 hB (by simp [errAV_low, hsl])) (Tr.loop (TlI l c (.slice ow 2 l.length (partCells l))) l.length ⟨0, by omega, rfl, rfl⟩ ?_)
  rintro k t H ⟨i, hik, rfl, rfl⟩
  refine Tr.seqD rfl ?_
  refine Tr.go (oTl_cx l c) hG (by kernel_rfl) ?_
  cases k with
  | zero =>
    obtain rfl : i = l.length := by omega
    simp [Blk_exit, errAV, oTl_as, asOut, AH.at]
  | succ k =>
    have e1 : i < l.length := by omega
    have e2 : (i : Int) < l.length := by omega
    obtain ⟨w, p, hd⟩ : ∃ w p, l.drop i = (w, p) :: l.drop (i + 1) := ⟨l[i].1, l[i].2, List.drop_eq_getElem_cons e1⟩
    simp [e2]
    refine Tr.seqD rfl (Tr.blockD rfl (Tr.seqD rfl ?_))
    refine Tr.go (oTl_cx l c) hG (by kernel_rfl) ?_
    simp
    rw [hd]
    refine Tr.seqD rfl (Tr.seqD rfl (Tr.solid (oTl_cx l c) hG 2 (by kernel_rfl) ?_))
    simp [errAV]
    refine ⟨_, .bool true, [(0, .box [.vptr [.str w, .int .i64 p, errAV (l.drop (i + 1)) c] 0])], [0], rfl, ?_, ?_⟩
    · simp [dstep, stepU, callee, oTl_as, asOut, AH.at]
    · obtain ⟨pc0, pc1⟩ := partCells_get l i hd
      simp [applyUps, errAV, e1, pc0, pc1]
      refine Tr.go (oTl_cx l c) hG (by kernel_rfl) ?_
      simp
      refine Tr.go (oTl_cx l c) hG (by kernel_rfl) ?_
      simp
      refine Tr.go (oTl_cx l c) hG (by kernel_rfl) ?_
      have w1 : IntKind.i64.wrap ((i : Int) + 1) = (i : Int) + 1 := wrap_i64 (by omega) (by omega)
      simp [w1]
      exact ⟨k, by omega, _, _, Less.mk0 (l' := [(0, errAV (l.drop (i + 1)) c), (3, .vptr [.slice ow 2 l.length (partCells l), .int .i64 c] 0), (5, .int .i64 ((i + 1 : Nat) : Int))]) hB (by simp [errAV_low, hsl]), ⟨i + 1, by omega, rfl, rfl⟩⟩
end Go.Proofs.YtejjlojfgcgopaaGreatDoor
namespace Go.Proofs.YtejjlojfgcgopaaGreatDoor
set_option maxHeartbeats 1000000
def wdsIn : Nat → Nat → List Wd → Prop
  | p, e, [] => p ≤ e
  | p, e, w :: r => p ≤ w.at_ ∧ wdsIn (w.at_ + w.text.length) e r
theorem lex_in : ∀ (n : Nat) (s : List UInt8) (p : Nat) (b : Bool) (l : List Wd), s.length < n → lex n s p b = .ok l → wdsIn p (p + s.length) l ∧ l.length ≤ s.length := by
  intro n
  induction n with
  | zero => intro s p b l h; omega
  | succ n ih =>
    intro s p b l hn h
    cases s with
    | nil =>
      simp only [lex] at h
      injection h with h
      subst h
      exact ⟨Nat.le_refl _, Nat.le_refl _⟩
    | cons c r =>
      simp only [List.length_cons] at hn ⊢
      cases hb : isBlank c with
      | true =>
        simp only [lex, hb, if_true] at h
        obtain ⟨h1, h2⟩ := ih r (p + 1) false l (by omega) h
        refine ⟨?_, by omega⟩
        rw [show p + (r.length + 1) = p + 1 + r.length by omega]
        cases l with
        | nil => have : p + 1 ≤ _ := h1; show p ≤ _; omega
        | cons w l => exact ⟨by have := h1.1; omega, h1.2⟩
      | false =>
        rw [lex_word _ _ _ _ _ hb] at h
        split at h
        · cases h
        · rename_i he
          have hp := wordOf_pos (r := r) (wordErr_zero (by simpa using he))
          have hle := wordOf_le c r
          simp only [List.length_cons] at hle
          cases hx : lex n ((c :: r).drop (wordOf (c :: r)).1.2.1.length) (p + (wordOf (c :: r)).1.2.1.length) ((wordOf (c :: r)).1.1 == 2) with
          | error x => rw [hx] at h; cases h
          | ok l' =>
            rw [hx] at h
            simp only [behind, List.singleton_append] at h
            injection h with h
            subst h
            obtain ⟨h1, h2⟩ := ih _ _ _ l' (by rw [List.length_drop, List.length_cons]; omega) hx
            rw [List.length_drop, List.length_cons] at h1 h2
            refine ⟨⟨Nat.le_refl _, ?_⟩, by simp only [List.length_cons]; omega⟩
            rw [show p + (r.length + 1) = p + (wordOf (c :: r)).1.2.1.length + (r.length + 1 - (wordOf (c :: r)).1.2.1.length) by omega]
            exact h1
end Go.Proofs.YtejjlojfgcgopaaGreatDoor
namespace Go.Proofs.YtejjlojfgcgopaaGreatDoor
open Go.RowKit Go.Proofs.Fw
set_option maxRecDepth 100000
set_option maxHeartbeats 4000000
@[simp] theorem ids_nothing : idsOf AV.nothing = [] := nrfl rfl
theorem wdCells_inj {a b : Wd} (h : wdCells a = wdCells b) : a = b := by
  obtain ⟨k, s, p, n⟩ := a
  obtain ⟨k', s', p', n'⟩ := b
  simp only [wdCells, List.cons.injEq, AV.int.injEq, AV.str.injEq, true_and, and_true] at h
  obtain ⟨h1, h2, h3, h4⟩ := h
  have e1 : k = k' := by omega
  have e2 : p = p' := by omega
  have e3 : n = n' := by omega
  rw [e1, h2, e2, e3]
theorem wdsCells_inj : ∀ {a b : List Wd}, wdsCells a = wdsCells b → a = b
  | [], [], _ => rfl
  | [], x :: b, h => by
    have hc : wdsCells (x :: b) = wdCells x ++ wdsCells b := rfl
    rw [hc] at h
    simp [wdCells, wdsCells] at h
  | x :: a, [], h => by
    have hc : wdsCells (x :: a) = wdCells x ++ wdsCells a := rfl
    rw [hc] at h
    simp [wdCells, wdsCells] at h
  | x :: a, y :: b, h => by
    have hc : wdsCells (x :: a) = wdCells x ++ wdsCells a := rfl
    have hd : wdsCells (y :: b) = wdCells y ++ wdsCells b := rfl
    rw [hc, hd] at h
    have := List.append_inj h rfl
    rw [wdCells_inj this.1, wdsCells_inj this.2]
theorem wdsAV_inj {a b : List Wd} (h : wdsAV a = wdsAV b) : a = b := by
  unfold wdsAV at h
  split at h
  · split at h
    · rename_i h1 h2; rw [h1, h2]
    · cases h
  · split at h
    · cases h
    · injection h with _ _ _ h
      exact wdsCells_inj h
def parseT (x : Ex × Nat × Option (Nat × Nat)) : AV := .tup [.agg (tC x.1.tn), .int .i64 x.2.1, eAV x.2.2]
def condT (c : List UInt8 × Ex × Ex) : AV := .agg (.str c.1 :: (tC c.2.1.tn ++ tC c.2.2.tn))
def parseCT (x : (List UInt8 × Ex × Ex) × Nat × Option (Nat × Nat)) : AV := .tup [condT x.1, .int .i64 x.2.1, eAV x.2.2]
theorem rep_exAV (g : Gh) (e : Ex) (v : Value) (h : RepV g (exAV e) v) : RepV g (.agg (tC e.tn)) v := by
  unfold exAV at h
  simp only [RepV] at h ⊢
  obtain ⟨vs, rfl, h⟩ := h
  exact ⟨vs, rfl, rep_tn g e vs h⟩
theorem rep_cond (g : Gh) (c : List UInt8 × Ex × Ex) (v : Value) (h : RepV g (condAV c) v) : RepV g (condT c) v := by
  unfold condAV at h
  unfold condT
  simp only [RepV] at h ⊢
  obtain ⟨vs, rfl, u, us, rfl, h1, h2⟩ := h
  obtain ⟨v1, v2, rfl, h3, h4⟩ := repL_append2 h2
  exact ⟨_, rfl, u, _, rfl, h1, (rep_tn g _ v1 h3).append (rep_tn g _ v2 h4)⟩
theorem parseT_cs (ts : List Wd) (hts : ts.length < 1000000) (H : AH) : CS Tryz.prog envF 145 [wdsAV ts] H (parseT (parseX ts)) H := CS.toF (CS.weak (v' := parseT (parseX ts)) (parse_cs ts hts H) fun g cv h => by
  unfold parseAV at h
  unfold parseT
  simp only [RepV] at h ⊢
  obtain ⟨vs, rfl, u, us, rfl, h1, h2⟩ := h
  exact ⟨_, rfl, u, us, rfl, rep_exAV g _ _ h1, h2⟩)
theorem parseCT_cs (ts : List Wd) (hts : ts.length < 1000000) (H : AH) : CS Tryz.prog envF 141 [wdsAV ts] H (parseCT (parseC ts)) H := CS.toF (CS.weak (v' := parseCT (parseC ts)) (parsec_cs ts hts H) fun g cv h => by
  unfold parseCAV at h
  unfold parseCT
  simp only [RepV] at h ⊢
  obtain ⟨vs, rfl, u, us, rfl, h1, h2⟩ := h
  exact ⟨_, rfl, u, us, rfl, rep_cond g _ _ h1, h2⟩)
theorem condText_cs {S : Int → Prop} {nt : Int → List UInt8} (hS : NumOk S nt) (op : List UInt8) (a b : Tn) (ha : okT a = true) (hb : okT b = true) (ga : good S a) (gb : good S b) (la : (txt nt a).length < 1099511627776) (lb : (txt nt b).length < 1099511627776)
    (lo : op.length < 1099511627776) (H : AH) : CS Tryz.prog envF 58 [.agg (.str op :: (tC a ++ tC b))] H (.str (txt nt a ++ [32] ++ op ++ [32] ++ txt nt b)) H := by
  have X : Cx (oTn 56 (fun u => u = a ∨ u = b) (fun u => .str (txt nt u))) Tryz.prog envF := ⟨oTn_sound fun u hu H => by
    rcases hu with rfl | rfl
    · exact text_cs hS _ ha ga la H
    · exact text_cs hS _ hb gb lb H, methFOk, mixed⟩
  have h1 := fun H => oTn_at (f0 := 56) (S := fun u => u = a ∨ u = b) (out := fun u => .str (txt nt u)) (t := a) (.inl rfl) H
  have h2 := fun H => oTn_at (f0 := 56) (S := fun u => u = a ∨ u = b) (out := fun u => .str (txt nt u)) (t := b) (.inr rfl) H
  generalize oTn 56 (fun u => u = a ∨ u = b) (fun u => .str (txt nt u)) = O at X h1 h2
  refine CS.tr0 lowF Tryz.func58 (by kernel_rfl) 0 (by simp [Tryz.f58]) (fun B hB hG => ?_) (by simp) (by simp) H
  refine Tr.goD X hG ?_
  simp only [tC_eq] at h1 h2
  generalize txt nt a = x at *
  generalize txt nt b = y at *
  have e1 : x.length ≤ 9223372036854775806 := by omega
  have e2 : x.length + (op.length + 1) ≤ 9223372036854775807 := by omega
  have e3 : x.length + (op.length + 1) ≤ 9223372036854775806 := by omega
  have e4 : x.length + (op.length + (y.length + 1 + 1)) ≤ 9223372036854775807 := by omega
  have e5 : x.length + (op.length + (y.length + 1) + 1) ≤ 9223372036854775807 := by omega
  have e6 : x.length + (op.length + 1 + 1) ≤ 9223372036854775807 := by omega
  have e7 : x.length + (op.length + 1 + 1) + y.length ≤ 9223372036854775807 := by omega
  have e8 : x.length + 1 + op.length ≤ 9223372036854775807 := by omega
  have e9 : x.length + 1 + op.length + 1 ≤ 9223372036854775807 := by omega
  have e10 : x.length + 1 + op.length ≤ 9223372036854775806 := by omega
  have e11 : x.length + 1 + op.length + 1 + y.length ≤ 9223372036854775807 := by omega
  have e12 : x.length + (op.length + 1) + 1 + y.length ≤ 9223372036854775807 := by omega
  simp [Tryz.f58]
  refine LpD.turns X hG [2, 10] [(2, 4), (2, 5), (2, 8), (2, 9), (3, 10), (4, 10), (5, 10), (6, 10), (7, 10)] ?_
  simp [h1, h2, e1, e2, e3, e4, e5, e6, e7, e8, e9, e10, e11, e12]
theorem lex_count {s : List UInt8} {l : List Wd} (hs : s.length < 1000000) (h : lex (s.length + 1) s 0 false = .ok l) : l.length < 1000000 := by
  have := (lex_in _ _ _ _ _ (by omega) h).2
  omega
end Go.Proofs.YtejjlojfgcgopaaGreatDoor
namespace Go.Proofs.YtejjlojfgcgopaaGreatDoor
open Go.RowKit Go.Proofs.Fw
set_option maxRecDepth 100000
set_option maxHeartbeats 4000000
def sA : List UInt8 := [45, 40, 120, 32, 43, 32, 50, 41, 42, 97, 40, 105, 44, 32, 40, 106, 41, 41, 47, 40, 51, 42, 52, 41]
def gkB (S : Int → Bool) (k n : Int) (m : Nat) : Bool := (decide (k = 1) && S n) || decide (k = 2) || (decide (k = 3) && decide (0 < m)) || (decide (k = 4) && decide (m = 1)) || ((decide (k < 1) || decide (4 < k)) && decide (m = 2))
mutual
def goodB (S : Int → Bool) : Tn → Bool
  | .lf k n _ => gkB S k n 0
  | .nd k n _ a => gkB S k n a.length && ((decide (k = 1) || decide (k = 2)) || goodsB S a)
def goodsB (S : Int → Bool) : List Tn → Bool
  | [] => true
  | t :: l => goodB S t && goodsB S l
end
theorem gkB_ok {S : Int → Bool} {k n : Int} {m : Nat} (h : gkB S k n m = true) : gk (fun n => S n = true) k n m := by
  simp only [gkB, Bool.or_eq_true, Bool.and_eq_true, decide_eq_true_eq] at h
  unfold gk
  rcases h with (((h | h) | h) | h) | h
  · exact .inl h
  · exact .inr (.inl h)
  · exact .inr (.inr (.inl h))
  · exact .inr (.inr (.inr (.inl h)))
  · exact .inr (.inr (.inr (.inr h)))
mutual
theorem goodB_ok {S : Int → Bool} : ∀ t : Tn, goodB S t = true → good (fun n => S n = true) t
  | .lf k n s, h => gkB_ok h
  | .nd k n s a, h => by
    simp only [goodB, Bool.or_eq_true, Bool.and_eq_true, decide_eq_true_eq] at h
    refine ⟨gkB_ok h.1, ?_⟩
    rcases h.2 with h2 | h2
    · exact .inl h2
    · exact .inr (goodsB_ok a h2)
theorem goodsB_ok {S : Int → Bool} : ∀ l : List Tn, goodsB S l = true → goods (fun n => S n = true) l
  | [], _ => trivial
  | t :: l, h => by
    simp only [goodsB, Bool.and_eq_true] at h
    exact ⟨goodB_ok t h.1, goodsB_ok l h.2⟩
end
end Go.Proofs.YtejjlojfgcgopaaGreatDoor

namespace Go.Proofs.YtejjlojfgcgopaaGreatDoor
open Go.RowKit Go.Proofs.Fw
set_option maxRecDepth 100000
set_option maxHeartbeats 4000000
def RI (s : List UInt8) (k : Nat) (t : List AV) (H : AH) : Prop :=
  ∃ i l, i + k = s.length ∧ t = tR s l i ∧ H = HR l ∧ l.length ≤ i ∧ lex (s.length + 1) s 0 false = behind l (lex (k + 1) (s.drop i) i false)
theorem lex_flag (n : Nat) (s : List UInt8) (p : Nat) (h : ∀ c r, s = c :: r → isSmall c = false) (b : Bool) : lex n s p b = lex n s p false := by
  cases n with
  | zero => rfl
  | succ n =>
    cases s with
    | nil => rfl
    | cons c r =>
      have := h c r rfl
      cases hb : isBlank c with
      | true => simp only [lex, hb, if_true]
      | false =>
        rw [lex_word n c r p b hb, lex_word n c r p false hb]
        have : wordErr b c r = wordErr false c r := by simp [wordErr, this]
        rw [this]
theorem RI_word {s : List UInt8} {i k : Nat} {l : List Wd} {c : UInt8} {r : List UInt8} (hik : i + (k + 1) = s.length) (hd : s.drop i = c :: r) (hb : isBlank c = false) (he : (wordOf (c :: r)).2 = 0) (hll : l.length ≤ i)
    (hlex : lex (s.length + 1) s 0 false = behind l (lex (k + 1 + 1) (s.drop i) i false)) (w : Wd) (hw : w = ⟨(wordOf (c :: r)).1.1, (wordOf (c :: r)).1.2.1, i, (wordOf (c :: r)).1.2.2⟩) (L : Nat) (hL : (wordOf (c :: r)).1.2.1.length = L)
    (hx : (wordOf (c :: r)).1.1 = 2 → ∀ h : i + L < s.length, isSmall s[i + L] = false) :
    ∃ j, j < k + 1 ∧ RI s j (tR s (l ++ [w]) (i + L)) (HR (l ++ [w])) := by
  subst hw
  have h1 := wordOf_pos (r := r) he
  have h2 := wordOf_le c r
  have hlen : (c :: r).length = k + 1 := by rw [← hd, List.length_drop]; omega
  rw [hL] at h1 h2
  have he' : wordErr false c r = 0 := by simpa [wordErr] using he
  refine ⟨k + 1 - L, by omega, i + L, _, by omega, rfl, rfl, ?_, ?_⟩
  · simp only [List.length_append, List.length_cons, List.length_nil]; omega
  · rw [hlex, hd, lex_word _ _ _ _ _ hb, if_neg (by simp [he']), behind_behind, hL]
    have hdd : s.drop (i + L) = (c :: r).drop L := by rw [← hd, List.drop_drop]
    rw [← hdd]
    congr 1
    have hdl : (s.drop (i + L)).length = k + 1 - L := by rw [List.length_drop]; omega
    rw [lex_fuel (k + 1) (k + 1 - L + 1) _ _ _ (by omega) (by omega)]
    cases hk : (wordOf (c :: r)).1.1 == 2 with
    | false => rfl
    | true =>
      refine lex_flag _ _ _ (fun c2 r2 h => ?_) true
      have hlt : i + L < s.length := by
        have : (s.drop (i + L)).length = (c2 :: r2).length := by rw [h]
        rw [List.length_drop, List.length_cons] at this
        omega
      have h5 := List.drop_eq_getElem_cons hlt
      rw [h] at h5
      injection h5 with h5 _
      rw [h5]
      exact hx (by simpa using hk) hlt
theorem toksAV_low (x : Except (Nat × Nat) (List Wd)) : low 0 (toksAV x) = true := by
  cases x with
  | error x => rfl
  | ok l =>
    simp only [toksAV, wdsAV, noneAV]
    split
    · rfl
    · simp [wdsCells_low]
theorem rtoks_body (B : Bs) (hB : B.H = []) (hG : GlobOk envT B.g) (s : List UInt8) (hs : s.length < maxS) (k i : Nat) (l : List Wd) (hik : i + (k + 1) = s.length) (hll : l.length ≤ i)
    (hlex : lex (s.length + 1) s 0 false = behind l (lex (k + 1 + 1) (s.drop i) i false)) (Q : AEx → List AV → AH → Prop)
    (hN : ∀ t H, (∃ j t2 H2, j < k + 1 ∧ Less B t H t2 H2 ∧ RI s j t2 H2) → Q .normal t H)
    (hE : ∀ t H, Fin Tryz.prog F10 0 1 (toksAV (lex (s.length + 1) s 0 false)) [] .ret t H → Q .ret t H) :
    Go oR Tryz.prog envT (LpT Tryz.prog B) body10 [] (tR s l i) (HR l) Q := by
  have hi : i < s.length := by omega
  rw [maxS_eq] at hs
  obtain ⟨c, r, hd⟩ : ∃ c r, s.drop i = c :: r := ⟨s[i], s.drop (i + 1), List.drop_eq_getElem_cons hi⟩
  have hc : s[i] = c := by
    have := List.drop_eq_getElem_cons hi
    rw [hd] at this
    injection this with this _
    exact this.symm
  cases hb : isBlank c with
  | true =>
    refine toks_blank B hB hG s l i hi hs (by rw [hc]; simpa [isBlank] using hb) Q (fun t H hle => hN _ _ ⟨k, _, _, by omega, hle, i + 1, l, by omega, rfl, rfl, by omega, ?_⟩)
    have : s.drop (i + 1) = r := by rw [← List.drop_drop, hd]; rfl
    rw [hlex, hd, this]
    simp only [lex, hb, if_true]
  | false =>
    have hb1 : ¬ (s[i].toNat : Int) = 32 := by
      rw [hc]
      simp only [isBlank, Bool.or_eq_false_iff, beq_eq_false_iff_ne] at hb
      omega
    have hb2 : ¬ (s[i].toNat : Int) = 9 := by
      rw [hc]
      simp only [isBlank, Bool.or_eq_false_iff, beq_eq_false_iff_ne] at hb
      omega
    have herr : (wordOf (c :: r)).2 ≠ 0 → lex (s.length + 1) s 0 false = .error (i, (wordOf (c :: r)).2) := fun h => by
      rw [hlex, hd, lex_word _ _ _ _ _ hb, if_pos (by simpa [wordErr] using h)]
      simp [wordErr, behind]
    have hlen : (c :: r).length = k + 1 := by rw [← hd, List.length_drop]; omega
    have htl : ∀ n, n ≤ (c :: r).length → ((c :: r).take n).length = n := fun n h => by rw [List.length_take]; omega
    cases hsm : isSmall c with
    | true =>
      have hfl := frontLen_le isInner (c :: r)
      have hw : wordOf (c :: r) = ((if isKey ((c :: r).take (frontLen isInner (c :: r))) then 4 else 1, (c :: r).take (frontLen isInner (c :: r)), 0), if 31 < frontLen isInner (c :: r) then 4 else 0) := by simp [wordOf, hsm]
      refine toks_letter B hB hG s l i _ hi hs hll hb1 hb2 (by rw [hc]; exact hsm) rfl Q _ rfl (fun h t H hle => ?_) (fun h t H hf => hE _ _ ?_)
      · rw [hd] at h hle
        obtain ⟨j, hj, hI⟩ := RI_word hik hd hb (by rw [hw]; simp; omega) hll hlex _ rfl _ rfl (fun h2 => by rw [hw] at h2; simp only at h2; split at h2 <;> cases h2)
        rw [hw] at hI
        simp only [htl _ hfl] at hI
        exact hN _ _ ⟨j, _, _, hj, hle, hI⟩
      · rw [hd] at h
        rw [herr (by rw [hw]; simp [h]), hw]
        simpa [h] using hf
    | false =>
      cases hdg : isDigit c with
      | true =>
        have hfl := frontLen_le isDigit (c :: r)
        refine toks_digit B hB hG s l i _ hi hs hll hb1 hb2 (by rw [hc]; exact hsm) (by rw [hc]; exact hdg) rfl Q (fun h hx t H hle => ?_) (fun h t H hf => hE _ _ ?_) (fun h hx t H hf => hE _ _ ?_)
        · rw [hd] at h hx hle
          have hw : wordOf (c :: r) = ((2, (c :: r).take (frontLen isDigit (c :: r)), numOf ((c :: r).take (frontLen isDigit (c :: r)))), 0) := by simp [wordOf, hsm, hdg, h]
          obtain ⟨j, hj, hI⟩ := RI_word hik hd hb (by rw [hw]) hll hlex _ rfl (frontLen isDigit (c :: r)) (by rw [hw]; exact htl _ hfl) (fun _ => hx)
          rw [hw] at hI
          exact hN _ _ ⟨j, _, _, hj, hle, hI⟩
        · rw [hd] at h
          have hw : (wordOf (c :: r)).2 = 5 := by simp [wordOf, hsm, hdg, h]
          rw [herr (by rw [hw]; decide), hw]
          exact hf
        · rw [hd] at h hx hf
          obtain ⟨hx, hsx⟩ := hx
          have hw : wordOf (c :: r) = ((2, (c :: r).take (frontLen isDigit (c :: r)), numOf ((c :: r).take (frontLen isDigit (c :: r)))), 0) := by simp [wordOf, hsm, hdg, h]
          have hres : lex (s.length + 1) s 0 false = .error (i + frontLen isDigit (c :: r), 3) := by
            rw [hlex, hd, lex_word _ _ _ _ _ hb, if_neg (by simp [wordErr, hw]), hw]
            simp only [htl _ hfl]
            have hdd : (c :: r).drop (frontLen isDigit (c :: r)) = s[i + frontLen isDigit (c :: r)] :: s.drop (i + frontLen isDigit (c :: r) + 1) := by
              rw [← List.drop_eq_getElem_cons hx, ← List.drop_drop, hd]
            rw [hdd, lex_word _ _ _ _ _ (by
              have := hsx
              simp only [isSmall, Bool.and_eq_true, decide_eq_true_eq] at this
              simp only [isBlank, Bool.or_eq_false_iff, beq_eq_false_iff_ne]
              omega), if_pos (by simp [wordErr, hsx])]
            simp [behind, wordErr, hsx]
          rw [hres]
          exact hf
      | false =>
        refine toks_sign B hB hG s l i _ hi hs hll hb1 hb2 (by rw [hc]; exact hsm) (by rw [hc]; exact hdg) rfl Q (fun h t H hle => ?_) (fun h t H hf => hE _ _ ?_)
        · rw [hd] at h hle
          have hw : wordOf (c :: r) = ((3, (c :: r).take (signLen (c :: r)), 0), 0) := by simp [wordOf, hsm, hdg, h]
          obtain ⟨j, hj, hI⟩ := RI_word hik hd hb (by rw [hw]) hll hlex _ rfl (signLen (c :: r)) (by rw [hw]; exact htl _ (signLen_le _)) (fun h2 => by rw [hw] at h2; cases h2)
          rw [hw] at hI
          exact hN _ _ ⟨j, _, _, hj, hle, hI⟩
        · rw [hd] at h
          have hw : (wordOf (c :: r)).2 = 3 := by simp [wordOf, hsm, hdg, h]
          rw [herr (by rw [hw]; decide), hw]
          exact hf
theorem rtoks_cs (s : List UInt8) (hs : s.length < maxS) (H : AH) : CS Tryz.prog envT 20 [.str s] H (toksAV (lex (s.length + 1) s 0 false)) H := by
  refine CS.tr0 lowT Tryz.func20 (by kernel_rfl) 1 (by simp [Tryz.f20]) (fun B hB hG => ?_) (toksAV_low _) rfl H
  refine Tr.pre oR_cx hG 3 (R := tail10) rfl (by kernel_rfl) (by kernel_rfl) ?_
  rw [Go_of]
  simp [Tryz.f20]
  refine Tr.seqD (a := for10) (b := end10) (by kernel_rfl) ?_
  refine Tr.less (t' := tR s [] 0) (H' := HR []) (less10 hB (by simp) (by simp) (by simp [outR]) (by simp) (by simp [HR, resB])) ?_
  refine Tr.forD (a := body10) (id := 0) (by kernel_rfl) (RI s) s.length ⟨0, [], by omega, rfl, rfl, by simp, ?_⟩ ?_
  · rw [List.drop_zero]
    cases lex (s.length + 1) s 0 false <;> rfl
  rintro k t H ⟨i, l, hik, rfl, rfl, hll, hlex⟩
  refine Tr.go oR_cx hG (by kernel_rfl) ?_
  cases k with
  | succ k => exact rtoks_body B hB hG s hs k i l hik hll hlex _ (fun t H h => h) (fun t H h => h)
  | zero =>
    obtain rfl : i = s.length := by omega
    have hres : lex (s.length + 1) s 0 false = .ok l := by
      rw [hlex, List.drop_length]
      simp [lex, behind]
    rw [hres]
    rcases HR_cases l with ⟨hl, hH⟩ | ⟨hl, hH⟩
    · rw [hH]
      simp [body10, for10, tail10, c10, Tryz.f20, tR, Blk_exit]
      refine Tr.go oR_cx hG (by kernel_rfl) ?_
      simp [end10, tail10, c10, Tryz.f20, buW, resB, toksAV, wdsAV, outR, hl, noneAV]
    · rw [hH]
      simp [body10, for10, tail10, c10, Tryz.f20, tR, Blk_exit]
      refine Tr.go oR_cx hG (by kernel_rfl) ?_
      simp [end10, tail10, c10, Tryz.f20, buW, resB, toksAV, wdsAV, outR, hl, noneAV, wdsCells_low]
end Go.Proofs.YtejjlojfgcgopaaGreatDoor
