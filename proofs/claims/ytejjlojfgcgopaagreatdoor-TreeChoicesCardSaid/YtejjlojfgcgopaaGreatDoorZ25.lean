/- TreeChoices returns true. -/
import Derived.Test.YtejjlojfgcgopaaGreatDoorZ22
set_option linter.unusedSimpArgs false
set_option linter.unusedVariables false
namespace Go.Proofs.YtejjlojfgcgopaaGreatDoor
open Go.RowKit Go.Proofs.Fw
set_option maxRecDepth 100000
set_option maxHeartbeats 4000000
def chIf : List UInt8 := [105, 102, 32, 40, 120, 32, 60, 32, 49, 41, 32, 116, 104, 101, 110, 10]
def chP1 : List UInt8 := [112, 114, 105, 110, 116, 32, 49, 10]
def chEl : List UInt8 := [101, 108, 115, 101, 10]
def chP2 : List UInt8 := [112, 114, 105, 110, 116, 32, 50, 10]
def chNo : List UInt8 := [10]
def chEn : List UInt8 := [101, 110, 100, 32, 105, 102, 10]
def ch1 (n : Nat) : List (List UInt8) := chIf :: List.replicate n chP1
def ch2 (n : Nat) : Nat → List (List UInt8)
  | 0 => ch1 n ++ [chEl]
  | m + 1 => ch2 n m ++ [chP2, chNo]
def chL (n m : Nat) (c : Bool) : List (List UInt8) := (if c then ch2 n m else ch1 n) ++ [chEn]
def chB (n m : Nat) (c : Bool) : Bool := match ofW (chL n m c) with
  | ([x], none) => if c then decide (x.body.length = n) && decide (x.els.length = m) && decide (x.mid = (n : Int) + 1) && decide (x.end_ = (n : Int) + 2 + 2 * m)
    else decide (x.body.length = n) && decide (x.els.length = 0) && decide (x.mid = -1) && decide (x.end_ = (n : Int) + 1)
  | _ => false
theorem ch_all : ((List.range 6).all fun n => (List.range 6).all fun m => chB n m true && chB n m false) = true := by kernel_rfl
theorem ch_b {n m : Nat} (hn : n < 6) (hm : m < 6) (c : Bool) : chB n m c = true := by
  have h := List.all_eq_true.1 (List.all_eq_true.1 ch_all n (List.mem_range.2 hn)) m (List.mem_range.2 hm)
  simp only [Bool.and_eq_true] at h
  cases c
  · exact h.2
  · exact h.1
def chG (b : Bool) (ls : List (List UInt8)) : AV := .slice (if b then .tok 0 else .full) 1 ls.length (strE.row ls)
def chH (b : Bool) (ls : List (List UInt8)) : AH := if b then [some (.tok ls.length)] else [none]
theorem chG_low (b : Bool) (ls : List (List UInt8)) : low 1 (chG b ls) = true := by
  have h := strE.row_low ls
  have h1 := lowL_mono (Nat.zero_le 1) _ h
  cases b <;> simp [chG, low, h, h1]
theorem chH_low (b : Bool) (ls : List (List UInt8)) : lowH 1 (chH b ls) = true := by cases b <;> rfl
theorem chH_len (b : Bool) (ls : List (List UInt8)) : (chH b ls).length = 1 := by cases b <;> rfl
theorem ch_app {zs : List (List UInt8)} (hz : zs ≠ []) (hzl : zs.length ≤ 1000) {ls : List (List UInt8)} (hl : ls.length ≤ 1000000) (b : Bool) (fid : Nat) {H : AH} (h : b = true → AH.at H 0 = some (.tok ls.length)) (ow : Own) :
    aappend Tryz.prog H fid 23 23 (chG b ls) (.slice ow 1 zs.length (strE.row zs)) = some (.slice (.tok (if b then 0 else fid)) 1 (ls.length + zs.length) (strE.row ls ++ strE.row zs), [(if b then 0 else fid, .tok (ls.length + zs.length))]) := by
  cases b with
  | false => exact aappend_full elemStr (List.length_pos_iff.2 hz) (by omega) (strE.row_one zs)
  | true => exact aappend_tok elemStr (h rfl) (List.length_pos_iff.2 hz) (by omega) (strE.row_one zs)
theorem ch_get {ls zs : List (List UInt8)} {n : Nat} (h : n = (ls ++ zs).length) : AV.slice (.tok 0) 1 n (strE.row ls ++ strE.row zs) = chG true (ls ++ zs) := by
  rw [h, ← strE.row_append]; rfl
theorem strRow1 (x : List UInt8) : strE.row [x] = [.str x] := rfl
theorem strRow2 (x y : List UInt8) : strE.row [x, y] = [.str x, .str y] := rfl
theorem ch_ren (φ : Nat → Nat) (ls zs : List (List UInt8)) : renL φ (strE.row ls ++ strE.row zs) = strE.row ls ++ strE.row zs := by
  rw [← strE.row_append]; exact renL_low _ _ (strE.row_low _)
def ChI (n m : Nat) (c : Bool) (k : Nat) (t : List AV) (H : AH) : Prop := ∃ i b, i + k = n ∧ t = mkT 115 [(2, .bool c), (7, .int .i64 (n : Int)), (8, .int .i64 (m : Int)), (9, chG b (ch1 i)), (10, .int .i64 (i : Int))] ∧ H = chH b (ch1 i)
def ChJ (n m : Nat) (k : Nat) (t : List AV) (H : AH) : Prop := ∃ i, i + k = m ∧ t = mkT 115 [(2, .bool true), (7, .int .i64 (n : Int)), (8, .int .i64 (m : Int)), (9, chG true (ch2 n i)), (11, .int .i64 (i : Int))] ∧ H = chH true (ch2 n i)
theorem ch1_len (n : Nat) : (ch1 n).length = n + 1 := by simp [ch1]
theorem ch2_len (n : Nat) : ∀ m, (ch2 n m).length = n + 2 + 2 * m
  | 0 => by rw [ch2, List.length_append, ch1_len]; rfl
  | m + 1 => by rw [ch2, List.length_append, ch2_len n m]; simp; omega
theorem ch1_next (i : Nat) : ch1 i ++ [chP1] = ch1 (i + 1) := by
  unfold ch1
  rw [List.cons_append, List.replicate_succ']
theorem ch2_lines (n : Nat) : ∀ m, ∀ s ∈ ch2 n m, s.length < 1000000
  | 0, s, hs => by
    unfold ch2 ch1 at hs
    rcases List.mem_append.1 hs with h | h
    · rcases List.mem_cons.1 h with rfl | h
      · decide
      · rw [List.eq_of_mem_replicate h]; decide
    · rw [List.mem_singleton.1 h]; decide
  | m + 1, s, hs => by
    rw [ch2] at hs
    rcases List.mem_append.1 hs with h | h
    · exact ch2_lines n m s h
    · simp only [List.mem_cons, List.not_mem_nil, or_false] at h
      rcases h with rfl | rfl <;> decide
theorem ch_lines (n m : Nat) (c : Bool) : ∀ s ∈ chL n m c, s.length < 1000000 := fun s hs => by
  unfold chL at hs
  rcases List.mem_append.1 hs with h | h
  · cases c with
    | true => exact ch2_lines n m s h
    | false => exact ch2_lines n 0 s (by rw [ch2]; exact List.mem_append_left _ h)
  · rw [List.mem_singleton.1 h]; decide
theorem chL_len (n m : Nat) (c : Bool) : (chL n m c).length ≤ n + 3 + 2 * m := by
  unfold chL
  cases c with
  | true => simp [ch2_len]; omega
  | false => simp [ch1_len]; omega
theorem treeChoices_cs (a b : Nat) (ha : a < 256) (hb : b < 256) (c : Bool) (H : AH) : CS Tryz.prog envS 14 [.int .u8 (a : Int), .int .u8 (b : Int), .bool c] H (.bool true) H := by
  have X := oK8_cx
  have hO := oK8_ok
  generalize oOf Lk8 = O at X hO
  have f1 := hO.known
  refine CS.tr0 lowS Tryz.func14 (by kernel_rfl) 0 (by simp [Tryz.f14]) (fun B hB hG => ?_) rfl (by simp) H
  refine Tr.goD X hG (by kernel_rfl) ?_
  have w1 : ((a : Int)).tmod 6 = ((a % 6 : Nat) : Int) := by rw [Int.tmod_eq_emod_of_nonneg (by omega)]; omega
  have w2 : ((b : Int)).tmod 6 = ((b % 6 : Nat) : Int) := by rw [Int.tmod_eq_emod_of_nonneg (by omega)]; omega
  have w3 : IntKind.u8.wrap ((a % 6 : Nat) : Int) = ((a % 6 : Nat) : Int) := wrap_u8 (by omega) (by omega)
  have w4 : IntKind.u8.wrap ((b % 6 : Nat) : Int) = ((b % 6 : Nat) : Int) := wrap_u8 (by omega) (by omega)
  have w5 : IntKind.i64.wrap ((a % 6 : Nat) : Int) = ((a % 6 : Nat) : Int) := wrap_i64 (by omega) (by omega)
  have w6 : IntKind.i64.wrap ((b % 6 : Nat) : Int) = ((b % 6 : Nat) : Int) := wrap_i64 (by omega) (by omega)
  have hn6 : a % 6 < 6 := Nat.mod_lt _ (by decide)
  have hm6 : b % 6 < 6 := Nat.mod_lt _ (by decide)
  have hp := ch_b hn6 hm6 c
  simp [Tryz.f14, f1, w1, w2, w3, w4, w5, w6, -Int.natCast_emod, -Int.natCast_add]
  generalize a % 6 = n at *
  generalize b % 6 = m at *
  clear w1 w2 w3 w4 w5 w6
  refine LpD.loopN X hG (by kernel_rfl) (ChI n m c) n (t' := mkT 115 [(2, .bool c), (7, .int .i64 (n : Int)), (8, .int .i64 (m : Int)), (9, chG false (ch1 0)), (10, .int .i64 ((0 : Nat) : Int))]) (H' := chH false (ch1 0))
    (Less.mkV 100 (fun i => i) 1 (by simp [hB]) (by simp) (by simp) rfl (by
      intro i hi
      obtain rfl : i = 0 := by omega
      simp [AH.at, chH]) (by simp [chH]) (by simp [ren, renL, chG, ch1, strRow1, chIf])) ⟨0, false, by omega, rfl, rfl⟩ ?_
  rintro k t H ⟨i, q, hik, rfl, rfl⟩
  cases k with
  | succ k =>
    have hi : (i : Int) < n := by omega
    have wi : IntKind.i64.wrap ((i : Int) + 1) = ((i + 1 : Nat) : Int) := by rw [wrap_i64 (by omega) (by omega)]; omega
    have hI : ChI n m c k (mkT 115 [(2, .bool c), (7, .int .i64 (n : Int)), (8, .int .i64 (m : Int)), (9, chG true (ch1 i ++ [chP1])), (10, .int .i64 ((i + 1 : Nat) : Int))]) (chH true (ch1 i ++ [chP1])) := ⟨i + 1, true, by omega, by rw [ch1_next], by rw [ch1_next]⟩
    have hln := ch1_len i
    have a1 := fun fid H h => ch_app (zs := [chP1]) (by simp) (by simp) (ls := ch1 i) (by omega) q fid (H := H) h
    have hg := ch_get (ls := ch1 i) (zs := [chP1]) (n := (ch1 i).length + 1) (by simp)
    have hrl := fun φ => ch_ren φ (ch1 i) [chP1]
    generalize ch1 i = out at *
    simp only [strRow1, chP1, List.length_singleton] at *
    cases q with
    | false =>
      simp [hi, wi, aapp_hard softSStr, a1, -Int.natCast_add]
      refine Nxt.mk k (by omega) (Less.mkV 100 (fun i => if i = 0 then 1 else i) 1 (by simp [hB]) (by intro i hi hj h; omega) (by simp [hB]) rfl (by
          intro i hi
          obtain rfl : i = 0 := by omega
          simp [AH.at, chH, renE]) (by simp [chH]) (by simp [ren, ← hg, hrl, chH_len])) hI
    | true =>
      simp [hi, wi, aapp_hard softSStr, a1, chH, -Int.natCast_add]
      rw [hg]
      exact Nxt.mk k (by omega) (Less.mkK 1 (by simp [hB]) (by simp [chG_low]) (by simp [chH]) (by simp [chH])) hI
  | zero =>
    obtain rfl : i = n := by omega
    have hll := ch1_len i
    have hel : ∀ x : Nd, ndE.av [x] = .slice .unk 34 1 (ndC x) := fun x => by rw [ndE.av_ne (by simp), ndE.row_one1]; rfl
    have hlines : ∀ s ∈ chL i m c, s.length < 1000000 := ch_lines i m c
    have g1 := fun k H => hO.of (.tok k) (chL i m c) H (by have := chL_len i m c; omega) hlines
    cases c with
    | false =>
      have hL : chL i m false = ch1 i ++ [chEn] := rfl
      have a1 := fun fid H h => ch_app (zs := [chEn]) (by simp) (by simp) (ls := ch1 i) (by omega) q fid (H := H) h
      have g2 : ∀ k H, O 48 [.slice (.tok k) 1 ((ch1 i).length + 1) (strE.row (ch1 i) ++ [.str chEn])] H = some (.tup [ndE.av (ofW (chL i m false)).1, erI (ofW (chL i m false)).2], H) := fun k H => by
        rw [← g1 k H, hL]
        unfold anyL
        rw [if_neg (by simp), strE.row_append, List.length_append]
        rfl
      clear g1
      unfold chB at hp
      generalize ofW (chL i m false) = T at *
      obtain ⟨T, e⟩ := T
      split at hp
      · rename_i x hx
        injection hx with h1 h2
        subst h1; subst h2
        simp at hp
        obtain ⟨⟨⟨hp1, hp2⟩, hp3⟩, hp4⟩ := hp
        have eX := ndC_eq x
        simp only [Sx.c, List.cons_append, List.nil_append] at eX
        simp only [hel, eX, erI_none] at g2
        generalize ch1 i = out at *
        simp only [strRow1, chEn, List.length_singleton] at *
        have w1 : IntKind.i64.wrap ((i : Int) + 1) = (i : Int) + 1 := wrap_i64 (by omega) (by omega)
        cases q with
        | false => simp [Blk_exit, aapp_hard softSStr, a1, chH, g2, hp1, hp2, hp3, hp4, w1]
        | true => simp [Blk_exit, aapp_hard softSStr, a1, chH, g2, hp1, hp2, hp3, hp4, w1]
      · cases hp
    | true =>
      have hlen2 := ch2_len i
      have ha0 := fun fid H h => ch_app (zs := [chEl]) (by simp) (by simp) (ls := ch1 i) (by omega) q fid (H := H) h
      have hg0 := ch_get (ls := ch1 i) (zs := [chEl]) (n := (ch1 i).length + 1) (by simp)
      have hrl0 := fun φ => ch_ren φ (ch1 i) [chEl]
      have h20 : ch1 i ++ [chEl] = ch2 i 0 := rfl
      rw [h20] at hg0
      have hI0 : ChJ i m m (mkT 115 [(2, .bool true), (7, .int .i64 (i : Int)), (8, .int .i64 (m : Int)), (9, chG true (ch2 i 0)), (11, .int .i64 ((0 : Nat) : Int))]) (chH true (ch2 i 0)) := ⟨0, by omega, rfl, rfl⟩
      have hl0 := ch2_len i 0
      have hcl : (chH true (ch2 i 0)) = [some (.tok ((ch1 i).length + 1))] := by rw [hll]; simp [chH, hl0]
      have hc1 : (ch1 i).length = i + 1 := hll
      generalize ch1 i = out at *
      simp only [strRow1, chEl, List.length_singleton] at *
      rcases (by cases q <;> simp : q = false ∨ q = true) with rfl | rfl
      case' inl =>
        simp [Blk_exit, aapp_hard softSStr, ha0, chH]
        refine LpD.loopN X hG (by kernel_rfl) (ChJ i m) m (Less.mkV 100 (fun i => if i = 0 then 1 else i) 1 (by simp [hB]) (by intro i hi hj h; omega) (by simp [hB]) rfl (by
          intro i hi
          obtain rfl : i = 0 := by omega
          rw [hcl]
          simp [AH.at, renE]) (by rw [hcl]; simp) (by simp [ren, ← hg0, hrl0, chH_len])) hI0 ?_
      case' inr =>
        simp [Blk_exit, aapp_hard softSStr, ha0, chH]
        rw [hg0]
        refine LpD.loopN X hG (by kernel_rfl) (ChJ i m) m (Less.mkK 1 (by simp [hB]) (by simp [chG_low]) (by rw [hcl]; simp) (chH_low _ _)) hI0 ?_
      all_goals
        rintro k t H ⟨j, hjk, rfl, rfl⟩
        have hlj := ch2_len i j
        cases k with
        | succ k =>
          have hi : (j : Int) < m := by omega
          have wi : IntKind.i64.wrap ((j : Int) + 1) = ((j + 1 : Nat) : Int) := by rw [wrap_i64 (by omega) (by omega)]; omega
          have hI : ChJ i m k (mkT 115 [(2, .bool true), (7, .int .i64 (i : Int)), (8, .int .i64 (m : Int)), (9, chG true (ch2 i j ++ [chP2, chNo])), (11, .int .i64 ((j + 1 : Nat) : Int))]) (chH true (ch2 i j ++ [chP2, chNo])) := ⟨j + 1, by omega, rfl, rfl⟩
          have b1 := fun fid H h => ch_app (zs := [chP2, chNo]) (by simp) (by simp) (ls := ch2 i j) (by omega) true fid (H := H) h
          have bg := ch_get (ls := ch2 i j) (zs := [chP2, chNo]) (n := (ch2 i j).length + 2) (by simp)
          generalize ch2 i j = out2 at *
          simp only [strRow2, chP2, chNo, List.length_cons, List.length_nil, Nat.zero_add, Nat.reduceAdd] at *
          simp [hi, wi, aapp_hard softSStr, b1, chH, -Int.natCast_add]
          rw [bg]
          exact Nxt.mk k (by omega) (Less.mkK 1 (by simp [hB]) (by simp [chG_low]) (by simp [chH]) (by simp [chH])) hI
        | zero =>
          obtain rfl : j = m := by omega
          have hL : chL i j true = ch2 i j ++ [chEn] := rfl
          have b1 := fun fid H h => ch_app (zs := [chEn]) (by simp) (by simp) (ls := ch2 i j) (by omega) true fid (H := H) h
          have g2 : ∀ k H, O 48 [.slice (.tok k) 1 ((ch2 i j).length + 1) (strE.row (ch2 i j) ++ [.str chEn])] H = some (.tup [ndE.av (ofW (chL i j true)).1, erI (ofW (chL i j true)).2], H) := fun k H => by
            rw [← g1 k H, hL]
            unfold anyL
            rw [if_neg (by simp), strE.row_append, List.length_append]
            rfl
          clear g1
          unfold chB at hp
          generalize ofW (chL i j true) = T at *
          obtain ⟨T, e⟩ := T
          split at hp
          · rename_i x hx
            injection hx with h1 h2
            subst h1; subst h2
            simp at hp
            obtain ⟨⟨⟨hp1, hp2⟩, hp3⟩, hp4⟩ := hp
            have eX := ndC_eq x
            simp only [Sx.c, List.cons_append, List.nil_append] at eX
            simp only [hel, eX, erI_none] at g2
            generalize ch2 i j = out2 at *
            simp only [strRow1, chEn, List.length_singleton] at *
            have w1 : IntKind.i64.wrap ((i : Int) + 1) = (i : Int) + 1 := wrap_i64 (by omega) (by omega)
            have w2 : IntKind.i64.wrap ((i : Int) + 2) = (i : Int) + 2 := wrap_i64 (by omega) (by omega)
            have w3 : IntKind.i64.wrap (2 * (j : Int)) = 2 * (j : Int) := wrap_i64 (by omega) (by omega)
            have w4 : IntKind.i64.wrap ((i : Int) + 2 + 2 * (j : Int)) = (i : Int) + 2 + 2 * (j : Int) := wrap_i64 (by omega) (by omega)
            simp [Blk_exit, aapp_hard softSStr, b1, chH, g2, hp1, hp2, hp3, hp4, w1, w2, w3, w4]
          · cases hp
end Go.Proofs.YtejjlojfgcgopaaGreatDoor
