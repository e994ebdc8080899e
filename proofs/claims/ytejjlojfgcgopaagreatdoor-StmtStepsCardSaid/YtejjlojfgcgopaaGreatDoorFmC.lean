/- strconv.FormatInt at base 10: what it writes, for every number. strconv.FormatInt at base 10, for every number; expr.number. strconv.FormatInt, strings.Join, expr.number as facts. -/
import Derived.Test.YtejjlojfgcgopaaGreatDoorEyC
import Derived.Test.YtejjlojfgcgopaaGreatDoorFwG6
import Derived.Shelf.Strconv.Itoa2
import Derived.Shelf.Strconv.Itoa1
import Derived.Lib.ItoaMem
import Derived.Test.YtejjlojfgcgopaaGreatDoorStB
set_option linter.unusedSimpArgs false
set_option linter.unusedVariables false
namespace Go.Proofs.YtejjlojfgcgopaaGreatDoor
open Go.RowKit Go.Proofs.Fw
set_option maxRecDepth 100000
set_option maxHeartbeats 4000000
-- 

def laysFb_ren : Go.Shelf.Ren := ⟨fun | 285 => 151 | n => n, fun | 37 => 139 | 53 => 203 | 3 => 3 | 4 => 4 | 51 => 65 | 9 => 9 | 5 => 5 | 0 => 0 | n => n, fun | n => n⟩
theorem laysFb : Lays.n285 Tryz.prog laysFb_ren := {
  mixed := by kernel_rfl
  f285 := Tryz.func151.trans (congrArg some (by kernel_rfl))
  t0 := Tryz.underlying0
  a0 := Tryz.isAgg0
  z0 := Tryz.sizeOf0
  v0 := Tryz.zeroValue0
  t3 := Tryz.underlying3
  a3 := Tryz.isAgg3
  z3 := Tryz.sizeOf3
  v3 := Tryz.zeroValue3
  t4 := Tryz.underlying4
  a4 := Tryz.isAgg4
  z4 := Tryz.sizeOf4
  v4 := Tryz.zeroValue4
  t5 := Tryz.underlying5
  a5 := Tryz.isAgg5
  z5 := Tryz.sizeOf5
  v5 := Tryz.zeroValue5
  t9 := Tryz.underlying9
  a9 := Tryz.isAgg9
  z9 := Tryz.sizeOf9
  v9 := Tryz.zeroValue9
  t37 := Tryz.underlying139
  a37 := Tryz.isAgg139
  z37 := Tryz.sizeOf139
  v37 := Tryz.zeroValue139
  t51 := Tryz.underlying65
  a51 := Tryz.isAgg65
  z51 := Tryz.sizeOf65
  v51 := Tryz.zeroValue65
  t53 := Tryz.underlying203
  a53 := Tryz.isAgg203
  z53 := Tryz.sizeOf203
  v53 := Tryz.zeroValue203 }

def laysLen_ren : Go.Shelf.Ren := ⟨fun | 129 => 185 | n => n, fun | 53 => 203 | 3 => 3 | 4 => 4 | 46 => 96 | 5 => 5 | 9 => 9 | n => n, fun | n => n⟩
theorem laysLen : Lays.n129 Tryz.prog laysLen_ren := {
  mixed := by kernel_rfl
  f129 := Tryz.func185.trans (congrArg some (by kernel_rfl))
  t3 := Tryz.underlying3
  a3 := Tryz.isAgg3
  z3 := Tryz.sizeOf3
  v3 := Tryz.zeroValue3
  t4 := Tryz.underlying4
  a4 := Tryz.isAgg4
  z4 := Tryz.sizeOf4
  v4 := Tryz.zeroValue4
  t5 := Tryz.underlying5
  a5 := Tryz.isAgg5
  z5 := Tryz.sizeOf5
  v5 := Tryz.zeroValue5
  t9 := Tryz.underlying9
  a9 := Tryz.isAgg9
  z9 := Tryz.sizeOf9
  v9 := Tryz.zeroValue9
  t46 := Tryz.underlying96
  a46 := Tryz.isAgg96
  z46 := Tryz.sizeOf96
  v46 := Tryz.zeroValue96
  t53 := Tryz.underlying203
  a53 := Tryz.isAgg203
  z53 := Tryz.sizeOf203
  v53 := Tryz.zeroValue203 }

def laysSm_ren : Go.Shelf.Ren := ⟨fun | 283 => 149 | n => n, fun | 3 => 3 | 9 => 9 | 4 => 4 | n => n, fun | n => n⟩
theorem laysSm : Lays.n283 Tryz.prog laysSm_ren := {
  mixed := by kernel_rfl
  f283 := Tryz.func149.trans (congrArg some (by kernel_rfl))
  t3 := Tryz.underlying3
  a3 := Tryz.isAgg3
  z3 := Tryz.sizeOf3
  v3 := Tryz.zeroValue3
  t4 := Tryz.underlying4
  a4 := Tryz.isAgg4
  z4 := Tryz.sizeOf4
  v4 := Tryz.zeroValue4
  t9 := Tryz.underlying9
  a9 := Tryz.isAgg9
  z9 := Tryz.sizeOf9
  v9 := Tryz.zeroValue9 }


def z24 : List AV := List.replicate 24 (.int .u8 0)
theorem z24_eq : z24 = (List.replicate 24 (0 : Int)).map (AV.int .u8) := rfl
theorem strCells_at {s : List UInt8} {i : Nat} (h : i < s.length) : (strCells s)[i]? = some (.int .u8 (s[i].toNat : Int)) := by simp [strCells, h]
theorem strCells_len (s : List UInt8) : (strCells s).length = s.length := by simp [strCells]
theorem rep_bytes (g : Gh) : ∀ (l : List Int) (vs : List Value), RepL g (l.map (AV.int .u8)) vs ↔ vs = l.map (Value.int .u8)
  | [], vs => by simp [RepL]
  | x :: l, vs => by
    simp only [List.map_cons, RepL, RepV]
    constructor
    · rintro ⟨v, ws, rfl, rfl, h⟩
      rw [(rep_bytes g l ws).1 h]
    · rintro rfl
      exact ⟨_, _, rfl, rfl, (rep_bytes g l _).2 rfl⟩
/-- A number's digits from place 1 on. -/
def nums (u : Nat) : List Int := 0 :: ((Lib.decDigits u).map fun b => (b.toNat : Int)) ++ List.replicate (23 - Lib.nDigits u) 0
def numC (u : Nat) : List AV := (nums u).map (AV.int .u8)

theorem fb_cs (u : Nat) (hu : u < 18446744073709551616) (hn : Lib.nDigits u ≤ 23) {H : AH} {id : Nat} (hH : H.at id = some (.box z24)) :
    CS Tryz.prog envF 151 [.bsl id 1 1 (Lib.nDigits u) 23, .int .u64 (u : Int)] H (.tup []) (H.set id (some (.box (numC u)))) := by
  intro g w cargs R hG hA
  simp only [RepL, RepV] at hA
  obtain ⟨v0, ws0, rfl, ⟨b, hM, rfl, _⟩, v1, ws1, rfl, rfl, rfl⟩ := hA
  obtain ⟨vs, el, h1, h2, h3⟩ := box_cells R hH hM
  have hvs : vs = List.replicate 24 (.int .u8 0) := by
    rw [z24_eq, rep_bytes] at h2
    rw [h2, List.map_replicate]
  clear h2
  subst hvs
  have hH0 : Sort.Holds (fun (b : UInt8) => Value.int .u8 (b.toNat : Int)) w b 1 (Array.replicate (Lib.nDigits u) (0 : UInt8)) := fun j hj => by
    have hj' : j < Lib.nDigits u := by simpa using hj
    refine ⟨?_, by simp [World.frozen?, h1]⟩
    have h4 := h3 (1 + j) (.int .u8 0) (by rw [List.getElem?_replicate, if_pos (by omega)])
    rw [Nat.zero_add] at h4
    rw [h4, getElem!_pos _ j (by simpa using hj')]
    simp
  have key := Any.internal_strconv_formatBase10 laysFb b 1 23 u (Array.replicate (Lib.nDigits u) (0 : UInt8)) w hH0 (by rw [Array.size_replicate]; exact Lib.lt_pow_nDigits u) hu (by rw [Array.size_replicate]; omega)
  rw [Array.size_replicate] at key
  refine key.mono ?_
  rintro e w' ⟨rfl, n, v', dk, rfl, hF⟩
  have hdl := Lib.decDigits_length u
  have hs := hF.size
  have hcells : Sort.putCells (fun (b : UInt8) => Value.int .u8 (b.toNat : Int)) 1 dk (List.toArray (List.replicate 24 (.int .u8 0))) = List.toArray ((nums u).map (Value.int .u8)) := by
    apply Array.ext_getElem?
    intro k
    simp only [Sort.putCells, Array.getElem?_mapIdx, List.getElem?_toArray, List.getElem?_map, hs]
    have hnl : (nums u).length = 24 := by
      simp only [nums, List.length_append, List.length_cons, List.length_map, List.length_replicate, hdl]
      omega
    by_cases hk : k < 24
    · rw [List.getElem?_replicate, if_pos hk, Option.map_some]
      by_cases hr : 1 ≤ k ∧ k < 1 + Lib.nDigits u
      · rw [if_pos hr]
        obtain ⟨j, rfl⟩ : ∃ j, k = j + 1 := ⟨k - 1, by omega⟩
        have hlt : j < (Lib.decDigits u).length := by rw [hdl]; omega
        have hd := Lib.row_is_numeral hF j hlt
        have hn2 : (nums u)[j + 1]? = some (((Lib.decDigits u)[j]).toNat : Int) := by
          simp only [nums, List.cons_append, List.getElem?_cons_succ]
          rw [List.getElem?_append_left (by rw [List.length_map]; exact hlt), List.getElem?_map, List.getElem?_eq_getElem hlt, Option.map_some]
        rw [hn2, Option.map_some, Nat.add_sub_cancel, ← hd]
      · rw [if_neg hr]
        have hn2 : (nums u)[k]? = some 0 := by
          cases k with
          | zero => simp only [nums, List.cons_append, List.getElem?_cons_zero]
          | succ j =>
            simp only [nums, List.cons_append, List.getElem?_cons_succ]
            rw [List.getElem?_append_right (by rw [List.length_map, hdl]; omega), List.getElem?_replicate, if_pos (by rw [List.length_map, hdl]; omega)]
        rw [hn2, Option.map_some]
    · rw [List.getElem?_replicate, if_neg hk, List.getElem?_eq_none (by omega), Option.map_none, Option.map_none]
  have hw : ((Sort.putRow (fun (b : UInt8) => Value.int .u8 (b.toNat : Int)) w b 1 dk).drewN n).heap[b]? = some (.cells (List.toArray ((nums u).map (Value.int .u8))) el (0, 0)) := by
    rw [← hcells]
    simp only [World.drewN, Sort.putRow, Sort.mapBlock, Array.getElem?_modify, if_pos, h1, Option.map_some, Sort.onCells]
  obtain ⟨R', P'⟩ := R.write_box (cs := numC u) hH hM hw ((rep_bytes g _ _).2 rfl) (fun k hk => by
    simp only [World.drewN, Sort.putRow, Sort.mapBlock, Array.getElem?_modify, if_neg (Ne.symm hk)]) (by simp [World.drewN, Sort.putRow, Sort.mapBlock]) rfl rfl rfl
  exact ⟨g, _, rfl, R', P', by simp [RepV, RepL]⟩

theorem len_cs (x : Nat) (hx : x < 18446744073709551616) (H : AH) : CS Tryz.prog envF 185 [.int .u64 (x : Int)] H (.int .i64 (Lib.bitLen x)) H := by
  refine CS.of_calls fun g w cargs hA => ?_
  simp only [RepL, RepV] at hA
  obtain ⟨_, _, rfl, rfl, rfl⟩ := hA
  refine (Any.bits_Len64 laysLen x w (by omega) (by omega)).mono ?_
  rintro e w' ⟨rfl, rfl⟩
  exact ⟨_, rfl, fun g => by simp [RepV], rfl⟩
end Go.Proofs.YtejjlojfgcgopaaGreatDoor

namespace Go.Proofs.YtejjlojfgcgopaaGreatDoor
open Go.RowKit Go.Proofs.Fw
set_option maxRecDepth 100000
set_option maxHeartbeats 4000000

noncomputable def fLen : Fact Tryz.prog envF := Fact.pure 185 (fun x : Nat => x < 18446744073709551616) (fun x => [.int .u64 (x : Int)]) (fun x => .int .i64 (Lib.bitLen x : Nat)) (fun x h H => len_cs x h H) (fun x y _ _ h => by
  simp only [List.cons.injEq, AV.int.injEq, true_and, and_true] at h
  have : x = y := by omega
  rw [this])
theorem l10_cs (x : Nat) (hx : x ≤ 64) (H : AH) : CS Tryz.prog envF 184 [.int .i64 (x : Int)] H (.int .i64 (Lib.l10 x : Nat)) H := by
  refine CS.tr0 lowF Tryz.func184 (by kernel_rfl) 0 (by simp [Tryz.f184]) (fun B hB hG => ?_) (by simp) (by simp) H
  refine Tr.goD oNilF hG (by kernel_rfl) ?_
  have w1 : IntKind.i64.wrap ((x : Int) * 78913) = ((x * 78913 : Nat) : Int) := by rw [wrap_i64 (by omega) (by omega)]; omega
  have e1 : ((x * 78913 : Nat) : Int).fdiv 262144 = (Lib.l10 x : Nat) := by rw [Int.fdiv_eq_ediv_of_nonneg _ (by decide)]; unfold Lib.l10; omega
  have e2 : ((x * 78913 : Nat) : Int).fdiv (2 ^ (min 18 IntKind.i64.bits)) = (Lib.l10 x : Nat) := e1
  simp [Tryz.f184, w1, e1, e2, -Int.natCast_mul]
noncomputable def fL10 : Fact Tryz.prog envF := Fact.pure 184 (fun x : Nat => x ≤ 64) (fun x => [.int .i64 (x : Int)]) (fun x => .int .i64 (Lib.l10 x : Nat)) (fun x h H => l10_cs x h H) (fun x y _ _ h => by
  simp only [List.cons.injEq, AV.int.injEq, true_and, and_true] at h
  have : x = y := by omega
  rw [this])
theorem b2_cs (b : Bool) (H : AH) : CS Tryz.prog envF 186 [.bool b] H (.int .i64 (if b then 1 else 0)) H := by
  refine CS.tr0 lowF Tryz.func186 (by kernel_rfl) 0 (by simp [Tryz.f186]) (fun B hB hG => ?_) (by simp) (by simp) H
  refine Tr.goD oNilF hG (by kernel_rfl) ?_
  cases b <;> simp [Tryz.f186]
noncomputable def fB2 : Fact Tryz.prog envF := Fact.pure 186 (fun _ : Bool => True) (fun x => [.bool x]) (fun b => .int .i64 (if b then 1 else 0)) (fun x _ H => b2_cs x H) (fun x y _ _ h => by
  simp only [List.cons.injEq, AV.bool.injEq, and_true] at h
  rw [h])
@[simp] theorem glob10 : envF.glob 1 = .vptr pow10Cells 0 := by rfl
theorem pow10_at {i : Nat} (h : i < 20) : pow10Cells[i]? = some (.int .u64 ((10 ^ i : Nat) : Int)) := by
  unfold pow10Cells
  rw [List.getElem?_map, List.getElem?_range h]
  rfl
theorem numd_cs (u : Nat) (h1 : 1 ≤ u) (hu : u < 18446744073709551616) (H : AH) : CS Tryz.prog envF 150 [.int .u64 (u : Int)] H (.int .i64 (Lib.nDigits u : Nat)) H := by
  have hL : ([fLen, fL10, fB2].map (·.f)).Nodup := show ([185, 184, 186] : List Nat).Nodup by decide
  have X := oOf_cx [fLen, fL10, fB2] methFOk mixed
  obtain ⟨hnd, h19⟩ := Lib.numDigits_eq u h1 hu
  have f1 := fun H => oOf_pure hL (show fLen ∈ [fLen, fL10, fB2] by simp) u hu H
  have f2 := fun H => oOf_pure hL (show fL10 ∈ [fLen, fL10, fB2] by simp) (Lib.bitLen u) (Lib.bitLen_le u 64 (Nat.le_refl _) hu) H
  have f3 := fun b H => oOf_pure hL (show fB2 ∈ [fLen, fL10, fB2] by simp) b trivial H
  generalize oOf [fLen, fL10, fB2] = O at X f1 f2 f3
  refine CS.tr0 lowF Tryz.func150 (by kernel_rfl) 0 (by simp [Tryz.f150]) (fun B hB hG => ?_) (by simp) (by simp) H
  refine Tr.goD X hG (by kernel_rfl) ?_
  generalize Lib.l10 (Lib.bitLen u) = q at *
  generalize Lib.bitLen u = L at *
  generalize Lib.nDigits u = nd at *
  have hq : q < 20 := by omega
  have hq' : (q : Int) < 20 := by omega
  have hp := pow10_at hq
  generalize hT : 10 ^ q = T at *
  have g0 : (0 : Int) ≤ q := by omega
  by_cases hb : T ≤ u
  · have hb' : (T : Int) ≤ u := by omega
    rw [if_pos hb] at hnd
    have f3 := f3 true
    simp at f3
    have w1 : IntKind.i64.wrap ((q : Int) + 1) = (nd : Int) := by rw [wrap_i64 (by omega) (by omega)]; omega
    simp [Tryz.f150, f1, f2, hq, hq', hp, hb, hb', f3, w1]
  · have hb' : ¬ (T : Int) ≤ u := by omega
    rw [if_neg hb] at hnd
    have f3 := f3 false
    simp at f3
    have w1 : IntKind.i64.wrap (q : Int) = (nd : Int) := by rw [wrap_i64 (by omega) (by omega)]; omega
    simp [Tryz.f150, f1, f2, hq, hq', hp, hb, hb', f3, w1]
noncomputable def fNumd : Fact Tryz.prog envF := Fact.pure 150 (fun x : Nat => 1 ≤ x ∧ x < 18446744073709551616) (fun x => [.int .u64 (x : Int)]) (fun x => .int .i64 (Lib.nDigits x : Nat)) (fun x h H => numd_cs x h.1 h.2 H) (fun x y _ _ h => by
  simp only [List.cons.injEq, AV.int.injEq, true_and, and_true] at h
  have : x = y := by omega
  rw [this])
theorem small_cs (i : Nat) (hi : i < 100) (H : AH) : CS Tryz.prog envF 149 [.int .i64 (i : Int)] H (.str (Lib.decDigits i)) H := by
  refine CS.of_calls fun g w cargs hA => ?_
  simp only [RepL, RepV] at hA
  obtain ⟨_, _, rfl, rfl, rfl⟩ := hA
  refine (Any.internal_strconv_small laysSm i hi w).mono ?_
  rintro e w' ⟨rfl, rfl⟩
  exact ⟨_, rfl, fun g => by simp [RepV], rfl⟩
noncomputable def fSmall : Fact Tryz.prog envF := Fact.pure 149 (fun x : Nat => x < 100) (fun x => [.int .i64 (x : Int)]) (fun x => .str (Lib.decDigits x)) (fun x h H => small_cs x h H) (fun x y _ _ h => by
  simp only [List.cons.injEq, AV.int.injEq, true_and, and_true] at h
  have : x = y := by omega
  rw [this])
noncomputable def fFb : Fact Tryz.prog envF where
  f := 151
  α := Nat × Nat
  ok := fun x H => x.1 < 18446744073709551616 ∧ Lib.nDigits x.1 ≤ 23 ∧ H.at x.2 = some (.box z24)
  args := fun x => [.bsl x.2 1 1 (Lib.nDigits x.1) 23, .int .u64 (x.1 : Int)]
  out := fun _ => .tup []
  up := fun x H => H.set x.2 (some (.box (numC x.1)))
  cs := fun x H h => ⟨fb_cs x.1 h.1 h.2.1 h.2.2, Keeps.set h.2.2⟩
  same := fun x y H _ _ h => by
    obtain ⟨a, b⟩ := x
    obtain ⟨c, d⟩ := y
    simp only [List.cons.injEq, AV.bsl.injEq, AV.int.injEq, true_and, and_true] at h
    obtain ⟨⟨rfl, _⟩, h⟩ := h
    have : a = c := by omega
    subst this
    exact ⟨rfl, rfl⟩
theorem numC_eq (u : Nat) : numC u = .int .u8 0 :: (strCells (Lib.decDigits u) ++ List.replicate (23 - Lib.nDigits u) (.int .u8 0)) := by
  unfold numC nums strCells
  rw [List.map_append, List.map_cons, List.map_map, List.map_replicate]
  rfl
theorem bytes_take : ∀ (s : List UInt8) (r : List AV), bytesAV ((strCells s ++ r).take s.length) = some s
  | [], r => by simp [bytesAV]
  | b :: s, r => by
    have ih := bytes_take s r
    have hc : strCells (b :: s) = .int .u8 (b.toNat : Int) :: strCells s := rfl
    rw [hc, List.cons_append, List.length_cons, List.take_succ_cons]
    simp only [bytesAV, ih, Int.toNat_natCast]
    rw [UInt8.ofNat_toNat]
@[simp] theorem asl24 {nd : Nat} (h : nd ≤ 23) : aslice Tryz.prog 260 (.ptr 0 0) (some (.int .i64 1)) (some (.int .i64 ((1 + nd : Nat) : Int))) none = some (.bsl 0 1 1 nd 23) := by
  have e1 : ((1 + nd : Nat) : Int) ≤ 24 := by omega
  have e2 : (1 : Int) ≤ ((1 + nd : Nat) : Int) := by omega
  have e3 : ((1 + nd : Nat) : Int).toNat = 1 + nd := by omega
  simp [aslice, e1, e2, e3, -Int.natCast_add]
@[simp] theorem asl24h {nd : Nat} (h : nd ≤ 23) : aslice Tryz.prog 260 (.ptr 0 0) none (some (.int .i64 ((1 + nd : Nat) : Int))) none = some (.bsl 0 0 1 (1 + nd) 24) := by
  have e1 : ((1 + nd : Nat) : Int) ≤ 24 := by omega
  have e2 : (0 : Int) ≤ ((1 + nd : Nat) : Int) := by omega
  have e3 : ((1 + nd : Nat) : Int).toNat = 1 + nd := by omega
  simp [aslice, e1, e2, e3, -Int.natCast_add]
theorem low_numC (m u : Nat) : lowL m (numC u) = true := by
  unfold numC
  generalize nums u = l
  induction l with
  | nil => rfl
  | cons x l ih => simp [ih]
theorem zero24 : zeroAV Tryz.prog 260 = some (.agg z24) := by kernel_rfl
theorem fmtI_cs (n : Int) (h0 : -9223372036854775808 ≤ n) (h1 : n ≤ 9223372036854775807) (H : AH) : CS Tryz.prog envF 97 [.int .i64 n, .int .i64 10] H (.str (Lib.itoa n)) H := by
  have hL : ([fSmall, fNumd, fFb].map (·.f)).Nodup := show ([149, 150, 151] : List Nat).Nodup by decide
  have X := oOf_cx [fSmall, fNumd, fFb] methFOk mixed
  have f1 := fun (i : Nat) (h : i < 100) H => oOf_pure hL (show fSmall ∈ [fSmall, fNumd, fFb] by simp) i h H
  have f2 := fun (u : Nat) (h : 1 ≤ u ∧ u < 18446744073709551616) H => oOf_pure hL (show fNumd ∈ [fSmall, fNumd, fFb] by simp) u h H
  have f3 := fun (u : Nat) (h : u < 18446744073709551616) (h' : Lib.nDigits u ≤ 23) H => oOf_mem hL fFb (show fFb ∈ [fSmall, fNumd, fFb] by simp) (x := (u, 0)) (H := some (.box z24) :: H) ⟨h, h', rfl⟩
  generalize oOf [fSmall, fNumd, fFb] = O at X f1 f2 f3
  refine CS.tr0 lowF Tryz.func97 (by kernel_rfl) 0 (by simp [Tryz.f97]) (fun B hB hG => ?_) (by simp) (by simp) H
  refine Tr.goD X hG (by kernel_rfl) ?_
  have hsz : z24 = cellsAV (.agg z24) := rfl
  by_cases hs : 0 ≤ n ∧ n < 100
  · obtain ⟨i, rfl⟩ : ∃ i : Nat, n = i := ⟨n.toNat, by omega⟩
    have hi : i < 100 := by omega
    have f1 := f1 i hi
    have e1 : (i : Int) < 100 := by omega
    have e2 : Lib.itoa (i : Int) = Lib.decDigits i := by unfold Lib.itoa; rw [if_neg (by omega)]; rfl
    rw [e2]
    simp [Tryz.f97, e1, f1]
  · obtain ⟨u, hu⟩ : ∃ u, u = n.natAbs := ⟨_, rfl⟩
    have hu1 : 1 ≤ u := by omega
    have hu64 : u < 18446744073709551616 := by omega
    have hnd : Lib.nDigits u ≤ 20 := by
      have := Lib.numDigits_eq u hu1 hu64
      split at this <;> omega
    have f2 := f2 u ⟨hu1, hu64⟩
    have f3 := f3 u hu64 (by omega)
    simp only [fFb, numC_eq, z24] at f3
    simp [List.replicate] at f3
    have hdl := Lib.decDigits_length u
    obtain ⟨rest, hrest⟩ : ∃ rest, rest = strCells (Lib.decDigits u) ++ List.replicate (23 - Lib.nDigits u) (.int .u8 0) := ⟨_, rfl⟩
    have hlow : ∀ m, lowL m rest = true := fun m => by
      have := low_numC m u
      rw [numC_eq, ← hrest] at this
      simpa using this
    have hlen : rest.length = 23 := by rw [hrest, List.length_append, strCells_len, hdl, List.length_replicate]; omega
    have hby : bytesAV (rest.take (Lib.nDigits u)) = some (Lib.decDigits u) := by rw [hrest, ← hdl]; exact bytes_take _ _
    have hone : rest.all AV.one = true := by
      rw [hrest, List.all_append, Bool.and_eq_true]
      exact ⟨by simp [strCells, AV.one], by simp [AV.one]⟩
    rw [← hrest] at f3
    generalize Lib.nDigits u = nd at *
    have w1 : IntKind.i64.wrap (1 + (nd : Int)) = ((1 + nd : Nat) : Int) := by rw [wrap_i64 (by omega) (by omega)]; omega
    have hn23 : nd ≤ 23 := by omega
    have hn1 : 1 + nd ≤ 24 := by omega
    have hA : (1 : Int) ≤ ((1 + nd : Nat) : Int) := by omega
    have hB' : ((1 + nd : Nat) : Int) ≤ 24 := by omega
    have hC : (0 : Int) ≤ ((1 + nd : Nat) : Int) := by omega
    have hD : ¬ 24 = 1 := by decide
    by_cases hneg : n < 0
    · have w2 : IntKind.u64.wrap (-IntKind.u64.wrap n) = (u : Int) := by simp [IntKind.wrap, IntKind.bits, IntKind.signed]; omega
      have hi : Lib.itoa n = 45 :: Lib.decDigits u := by unfold Lib.itoa; rw [if_pos hneg, hu]
      have hg : ¬ 0 ≤ n := by omega
      have hb : bytesAV ((AV.int .u8 45 :: rest).take (1 + nd)) = some (45 :: Lib.decDigits u) := by
        rw [Nat.add_comm, List.take_succ_cons]
        simp only [bytesAV, hby]
        rfl
      rw [hi]
      simp [Tryz.f97, hneg, hg, w2, f2, w1, hn23, hn1, hA, hB', hC, f3, hlen, hb, -Int.natCast_add]
    · have hg : 0 ≤ n := by omega
      have hg2 : ¬ n < 100 := by omega
      have w2 : IntKind.u64.wrap n = (u : Int) := by simp [IntKind.wrap, IntKind.bits, IntKind.signed]; omega
      have hi : Lib.itoa n = Lib.decDigits u := by unfold Lib.itoa; rw [if_neg hneg, hu]; congr 1; omega
      rw [hi]
      simp [Tryz.f97, hneg, hg, hg2, w2, f2, w1, hn23, hn1, hA, hB', hC, f3, hlen, hby, -Int.natCast_add]
end Go.Proofs.YtejjlojfgcgopaaGreatDoor

namespace Go.Proofs.YtejjlojfgcgopaaGreatDoor
open Go.RowKit Go.Proofs.Fw
set_option maxRecDepth 100000
set_option maxHeartbeats 4000000

def I64 (n : Int) : Prop := -9223372036854775808 ≤ n ∧ n ≤ 9223372036854775807
noncomputable def fFmtI : Fact Tryz.prog envF := Fact.pure 97 I64 (fun n => [.int .i64 n, .int .i64 10]) (fun n => .str (Lib.itoa n)) (fun n h H => fmtI_cs n h.1 h.2 H) (fun x y _ _ h => by
  simp only [List.cons.injEq, AV.int.injEq, true_and, and_true] at h
  rw [h])
theorem fmt_cs (n : Int) (h : I64 n) (H : AH) : CS Tryz.prog envF 57 [.int .i64 n, .int .i64 10] H (.str (Lib.itoa n)) H := by
  have hL : ([fFmtI].map (·.f)).Nodup := show ([97] : List Nat).Nodup by decide
  have X := oOf_cx [fFmtI] methFOk mixed
  have f1 := fun H => oOf_pure hL (show fFmtI ∈ [fFmtI] by simp) n h H
  generalize oOf [fFmtI] = O at X f1
  refine CS.tr0 lowF Tryz.func57 (by kernel_rfl) 0 (by simp [Tryz.f57]) (fun B hB hG => ?_) (by simp) (by simp) H
  refine Tr.goD X hG (by kernel_rfl) ?_
  simp [Tryz.f57, f1]
noncomputable def fFmt : Fact Tryz.prog envF := Fact.pure 57 I64 (fun n => [.int .i64 n, .int .i64 10]) (fun n => .str (Lib.itoa n)) (fun n h H => fmt_cs n h H) (fun x y _ _ h => by
  simp only [List.cons.injEq, AV.int.injEq, true_and, and_true] at h
  rw [h])
theorem pow_le_of {a b : Nat} (h : a ≤ b) : 10 ^ a ≤ 10 ^ b := Nat.pow_le_pow_right (by decide) h
theorem dec_len {u : Nat} (h : u < 18446744073709551616) : (Lib.decDigits u).length ≤ 20 := by
  rw [Lib.decDigits_length]
  by_cases h0 : u = 0
  · subst h0; rw [Lib.nDigits_small (by decide)]; decide
  · have := Lib.numDigits_eq u (by omega) h
    split at this <;> omega
theorem itoa_len {n : Int} (h : I64 n) : (Lib.itoa n).length ≤ 21 := by
  obtain ⟨h1, h2⟩ := h
  unfold Lib.itoa
  split
  · have := dec_len (u := n.natAbs) (by omega)
    simp only [List.length_cons]; omega
  · have := dec_len (u := n.toNat) (by omega)
    omega

noncomputable def fJoin : Fact Tryz.prog envF := Fact.pure 93 (fun x : Own × List (List UInt8) × List UInt8 => x.2.1 ≠ [] ∧ x.2.1.length ≤ 140737488355328 ∧ (Lib.join x.2.1 x.2.2).length ≤ 140737488355328) (fun x => [.slice x.1 1 x.2.1.length (x.2.1.map .str), .str x.2.2]) (fun x => .str (Lib.join x.2.1 x.2.2))
  (fun x h H => join_cs x.1 x.2.1 x.2.2 h.1 h.2.1 h.2.2 H) (fun x y _ _ h => by
    obtain ⟨a, b, c⟩ := x
    obtain ⟨a', b', c'⟩ := y
    simp only [List.cons.injEq, AV.slice.injEq, AV.str.injEq, and_true] at h
    simp only
    rw [strs_inj h.1.2.2.2, h.2])
theorem join_le {sep : List UInt8} {M : Nat} : ∀ {xs : List (List UInt8)}, (∀ s ∈ xs, s.length ≤ M) → (Lib.join xs sep).length ≤ xs.length * (M + sep.length)
  | [], _ => by simp [Lib.join]
  | [x], h => by
    rw [Lib.join_one]
    have := h x (by simp)
    simp only [List.length_cons, List.length_nil]
    omega
  | x :: y :: xs, h => by
    have e : Lib.join (x :: y :: xs) sep = x ++ sep ++ Lib.join (y :: xs) sep := by simp [Lib.join, List.intercalate]
    have ih := join_le (sep := sep) (M := M) (xs := y :: xs) fun s hs => h s (List.mem_cons_of_mem _ hs)
    have hx := h x List.mem_cons_self
    rw [e, List.length_append, List.length_append, List.length_cons, Nat.add_mul]
    omega

def leastT : List UInt8 := [40, 45, 57, 50, 50, 51, 51, 55, 50, 48, 51, 54, 56, 53, 52, 55, 55, 53, 56, 48, 55, 32, 45, 32, 49, 41]
def numT (n : Int) : List UInt8 := if n = -9223372036854775808 then leastT else if n < 0 then [40] ++ Lib.itoa n ++ [41] else Lib.itoa n
theorem numT_ok : NumOk I64 numT := fun n h H => by
  have hL : ([fFmt].map (·.f)).Nodup := show ([57] : List Nat).Nodup by decide
  have X := oOf_cx [fFmt] methFOk mixed
  have f1 := fun H => oOf_pure hL (show fFmt ∈ [fFmt] by simp) n h H
  have hl := itoa_len h
  generalize oOf [fFmt] = O at X f1
  refine CS.tr0 lowF Tryz.func94 (by kernel_rfl) 0 (by simp [Tryz.f94]) (fun B hB hG => ?_) (by simp) (by simp) H
  refine Tr.goD X hG (by kernel_rfl) ?_
  unfold numT
  generalize Lib.itoa n = s at *
  by_cases h1 : n = -9223372036854775808
  · subst h1
    simp [Tryz.f94, leastT]
  · rw [if_neg h1]
    have h1' : (n == -9223372036854775808) = false := by rw [beq_eq_false_iff_ne]; exact h1
    by_cases h2 : n < 0
    · have e1 : s.length ≤ 9223372036854775806 := by omega
      have e2 : s.length + 1 ≤ 9223372036854775807 := by omega
      have e3 : 1 + s.length ≤ 9223372036854775807 := by omega
      have e4 : s.length + 1 + 1 ≤ 9223372036854775807 := by omega
      have e5 : s.length ≤ 9223372036854775805 := by omega
      have e6 : 1 + s.length + 1 ≤ 9223372036854775807 := by omega
      simp [Tryz.f94, h1, h1', h2, f1, e1, e2, e3, e4, e5, e6]
    · simp [Tryz.f94, h1, h1', h2, f1]
theorem numT_len {n : Int} (h : I64 n) : (numT n).length ≤ 26 := by
  unfold numT
  have := itoa_len h
  split
  · simp [leastT]
  · split
    · simp; omega
    · omega
end Go.Proofs.YtejjlojfgcgopaaGreatDoor
