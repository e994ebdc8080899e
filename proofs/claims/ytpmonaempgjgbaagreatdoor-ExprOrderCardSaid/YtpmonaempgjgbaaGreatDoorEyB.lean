/- The environment of the laws that write expressions; small numbers as texts; strings.Join; an expression's rank, and its brackets. -/
import Derived.Test.YtpmonaempgjgbaaGreatDoorEyA
import Derived.Test.YtpmonaempgjgbaaGreatDoorFwG5
import Derived.Shelf.Strings.OnBuilder
set_option linter.unusedSimpArgs false
set_option linter.unusedVariables false
namespace Go.Proofs.YtpmonaempgjgbaaGreatDoor
open Go.RowKit Go.Proofs.Fw
open Go.Shelf
set_option maxRecDepth 100000
set_option maxHeartbeats 4000000
-- 

def pow10Cells : List AV := (List.range 20).map fun i => .int .u64 ((10 ^ i : Nat) : Int)
def globF : List (Nat × AV) := (3, .vptr pow10Cells 0) :: globN
def envF : Env := ⟨globOf globF, methN, fun t => envX.imm t || t == 59⟩
theorem methFOk : MethOk Tryz.prog envF := methNOk
theorem lowF : ∀ i, low 0 (envF.glob i) = true := low_globOf (by
  intro x hx
  simp only [globF, globN, globT, List.mem_cons, List.not_mem_nil, or_false] at hx
  rcases hx with rfl | rfl | rfl | rfl
  · show lowL 0 pow10Cells = true
    kernel_rfl
  · rfl
  · show lowL 0 spaceCells = true
    kernel_rfl
  · rfl)
theorem globF_X {g : Gh} (h : GlobOk envF g) : GlobOk envX g := by
  intro i
  by_cases hi : i = 3
  · subst hi
    have : envX.glob 3 = .undef := by rfl
    rw [this]
    trivial
  · have : envX.glob i = envF.glob i := by
      simp only [envX, envF, envN, globOf, globF, List.find?_cons]
      rw [show ((3 : Nat) == i) = false by simp; omega]
    rw [this]
    exact h i
theorem CS.toF {f : FuncId} {args : List AV} {H H' : AH} {v : AV} (h : CS Tryz.prog envX f args H v H') : CS Tryz.prog envF f args H v H' := fun g w cargs R hG hA => h g w cargs R (globF_X hG) hA
theorem Sound.toF {O : Orc} (h : Sound Tryz.prog envX O) : Sound Tryz.prog envF O := fun f args H v H' ho => by
  obtain ⟨h1, h2, h3⟩ := h f args H v H' ho
  exact ⟨CS.toF h1, h2, h3⟩
@[simp] theorem immFE : envF.imm 48 = true := by decide
@[simp] theorem immFC : envF.imm 59 = true := by decide
theorem oNilF : Cx oNil Tryz.prog envF := ⟨oNil_sound, methFOk, mixed⟩

/-! Numbers that known writes. -/
def fzN : FuncId → Nat := fun _ => 0
theorem num_m4 : run fzN oNil Tryz.prog envF 100 8 65 [.int .i64 (-4)] [] = some (.str [40, 45, 52, 41], []) := by kernel_rfl
theorem num_1 : run fzN oNil Tryz.prog envF 100 8 65 [.int .i64 1] [] = some (.str [49], []) := by kernel_rfl
theorem num_2 : run fzN oNil Tryz.prog envF 100 8 65 [.int .i64 2] [] = some (.str [50], []) := by kernel_rfl
theorem num_3 : run fzN oNil Tryz.prog envF 100 8 65 [.int .i64 3] [] = some (.str [51], []) := by kernel_rfl
theorem num_4 : run fzN oNil Tryz.prog envF 100 8 65 [.int .i64 4] [] = some (.str [52], []) := by kernel_rfl
def numS (n : Int) : Prop := n = -4 ∨ n = 1 ∨ n = 2 ∨ n = 3 ∨ n = 4
def numG (n : Int) : List UInt8 := if n = -4 then [40, 45, 52, 41] else if n = 1 then [49] else if n = 2 then [50] else if n = 3 then [51] else [52]
/-- Which numbers are written, and how. -/
def NumOk (S : Int → Prop) (nt : Int → List UInt8) : Prop := ∀ n, S n → ∀ H, CS Tryz.prog envF 65 [.int .i64 n] H (.str (nt n)) H
theorem numS_ok : NumOk numS numG := by
  have key : ∀ {n : Int} {s : List UInt8}, run fzN oNil Tryz.prog envF 100 8 65 [.int .i64 n] [] = some (.str s, []) → ∀ H, CS Tryz.prog envF 65 [.int .i64 n] H (.str s) H := fun h H =>
    (run_sound (base := oNil) oNil_sound methFOk mixed 100 8 _ _ _ _ _ h).1.frame lowF rfl H
  rintro n (rfl | rfl | rfl | rfl | rfl) H
  · exact key num_m4 H
  · exact key num_1 H
  · exact key num_2 H
  · exact key num_3 H
  · exact key num_4 H

/-! strings.Join, by the kit's shelf. -/
def laysJoin_ren : Go.Shelf.Ren := ⟨fun | 156 => 66 | 165 => 100 | 166 => 101 | 169 => 102 | 240 => 124 | 241 => 125 | 276 => 152 | 277 => 153 | n => n, fun | 31 => 76 | 9 => 9 | 3 => 3 | 4 => 4 | 0 => 0 | 20 => 20 | 72 => 188 | 76 => 190 | 70 => 186 | 37 => 75 | 75 => 50 | 127 => 230 | 164 => 175 | 5 => 5 | 80 => 192 | n => n, fun | n => n⟩
theorem laysJoin : Lays.n156 Tryz.prog laysJoin_ren := {
  mixed := by kernel_rfl
  f156 := Tryz.func66.trans (congrArg some (by kernel_rfl))
  f165 := Tryz.func100.trans (congrArg some (by kernel_rfl))
  f166 := Tryz.func101.trans (congrArg some (by kernel_rfl))
  f169 := Tryz.func102.trans (congrArg some (by kernel_rfl))
  f240 := Tryz.func124.trans (congrArg some (by kernel_rfl))
  f241 := Tryz.func125.trans (congrArg some (by kernel_rfl))
  f276 := Tryz.func152.trans (congrArg some (by kernel_rfl))
  f277 := Tryz.func153.trans (congrArg some (by kernel_rfl))
  t0 := Tryz.underlying0
  a0 := Tryz.isAgg0
  z0 := Tryz.sizeOf0
  v0 := Tryz.zeroValue0
  t3 := Tryz.underlying3
  a3 := Tryz.isAgg3
  z3 := Tryz.sizeOf3
  v3 := Tryz.zeroValue3
  t4 := Tryz.underlying4
  a4 := Tryz.isAgg4
  z4 := Tryz.sizeOf4
  v4 := Tryz.zeroValue4
  t9 := Tryz.underlying9
  a9 := Tryz.isAgg9
  z9 := Tryz.sizeOf9
  v9 := Tryz.zeroValue9
  t20 := Tryz.underlying20
  a20 := Tryz.isAgg20
  z20 := Tryz.sizeOf20
  v20 := Tryz.zeroValue20
  t31 := Tryz.underlying76
  a31 := Tryz.isAgg76
  z31 := Tryz.sizeOf76
  v31 := Tryz.zeroValue76
  t37 := Tryz.underlying75
  a37 := Tryz.isAgg75
  z37 := Tryz.sizeOf75
  v37 := Tryz.zeroValue75
  t70 := Tryz.underlying186
  a70 := Tryz.isAgg186
  z70 := Tryz.sizeOf186
  v70 := Tryz.zeroValue186
  t72 := Tryz.underlying188
  a72 := Tryz.isAgg188
  z72 := Tryz.sizeOf188
  v72 := Tryz.zeroValue188
  t75 := Tryz.underlying50
  a75 := Tryz.isAgg50
  z75 := Tryz.sizeOf50
  v75 := Tryz.zeroValue50
  t76 := Tryz.underlying190
  a76 := Tryz.isAgg190
  z76 := Tryz.sizeOf190
  v76 := Tryz.zeroValue190
  t127 := Tryz.underlying230
  a127 := Tryz.isAgg230
  z127 := Tryz.sizeOf230
  v127 := Tryz.zeroValue230
  t164 := Tryz.underlying175
  a164 := Tryz.isAgg175
  z164 := Tryz.sizeOf175
  v164 := Tryz.zeroValue175 }

theorem extraJ : Builder.Extra Tryz.prog laysJoin_ren := {
  sizeBuilder := by kernel_rfl
  liesBuilder := by kernel_rfl
  t5 := Tryz.underlying5
  a5 := Tryz.isAgg5
  z5 := Tryz.sizeOf5
  v5 := Tryz.zeroValue5
  infoByte := by kernel_rfl
  cellsByte := by kernel_rfl
  sizeByte := by kernel_rfl
  neB5 := by decide }

theorem repStrs (g : Gh) : ∀ (xs : List (List UInt8)) (vs : List Value), RepL g (xs.map AV.str) vs → vs = xs.map fun x => Value.string ⟨x.toArray⟩
  | [], vs, h => h
  | x :: xs, vs, h => by
    obtain ⟨v, ws, rfl, h1, h2⟩ := h
    simp only [RepV] at h1
    rw [h1, repStrs g xs ws h2]
    rfl
theorem join_cs (ow : Own) (xs : List (List UInt8)) (sep : List UInt8) (h0 : xs ≠ []) (hn : xs.length ≤ 140737488355328) (hl : (Lib.join xs sep).length ≤ 140737488355328) (H : AH) :
    CS Tryz.prog envF 66 [.slice ow 1 xs.length (xs.map .str), .str sep] H (.str (Lib.join xs sep)) H := by
  refine CS.of_calls2 fun g w cargs R hA => ?_
  simp only [RepL, RepV] at hA
  obtain ⟨_, _, rfl, ⟨b, o, cap, vs, rfl, hr, hhas, _, hcap, _⟩, _, _, rfl, rfl, rfl⟩ := hA
  have hvs := repStrs g xs vs hr
  subst hvs
  have hget : ∀ (j : Nat) (x : List UInt8), xs[j]? = some x → g.G b (o + j) = some (.string ⟨x.toArray⟩) := fun j x hx => hhas j _ (by rw [List.getElem?_map, hx]; rfl)
  have hid : (xs.map fun x => (⟨x.toArray⟩ : ByteArray)).map (·.data.toList) = xs := by
    rw [List.map_map]
    conv => rhs; rw [← List.map_id xs]
    exact List.map_congr_left fun x _ => rfl
  have key := Any.strings_Join laysJoin extraJ b o cap (xs.map fun x => (⟨x.toArray⟩ : ByteArray)) ⟨sep.toArray⟩ w
    (fun j x hx => by
      rw [List.getElem?_map] at hx
      cases hj : xs[j]? with
      | none => rw [hj] at hx; cases hx
      | some y =>
        rw [hj] at hx
        injection hx with hx
        subst hx
        exact R.imm _ _ _ (hget j y hj))
    (by
      cases xs with
      | nil => exact absurd rfl h0
      | cons x xs => exact R.lt (hget 0 x rfl))
    (by rw [List.length_map]; exact hn) (by rw [List.length_map]; exact hcap)
    (by rw [hid]; exact hl)
  rw [hid, List.length_map] at key
  refine key.mono ?_
  rintro e w' ⟨rfl, hb⟩
  exact ⟨_, rfl, fun g => by simp only [RepV], hb⟩
theorem strs_inj : ∀ {a b : List (List UInt8)}, a.map AV.str = b.map AV.str → a = b
  | [], [], _ => rfl
  | [], _ :: _, h => by cases h
  | _ :: _, [], h => by cases h
  | x :: a, y :: b, h => by
    simp only [List.map_cons, List.cons.injEq, AV.str.injEq] at h
    rw [h.1, strs_inj h.2]
open Classical in
noncomputable def oJoin : Orc := fun f args H => match args with
  | [.slice ow 1 n cs, .str sep] => if h : f = 66 ∧ ∃ xs : List (List UInt8), cs = xs.map .str ∧ n = xs.length ∧ xs ≠ [] ∧ xs.length ≤ 140737488355328 ∧ (Lib.join xs sep).length ≤ 140737488355328 then some (.str (Lib.join h.2.choose sep), H) else none
  | _ => none
theorem oJoin_at {ow : Own} {xs : List (List UInt8)} {sep : List UInt8} {n : Nat} (hn0 : n = xs.length) (h0 : xs ≠ []) (hn : xs.length ≤ 140737488355328) (hl : (Lib.join xs sep).length ≤ 140737488355328) (H : AH) :
    oJoin 66 [.slice ow 1 n (xs.map .str), .str sep] H = some (.str (Lib.join xs sep), H) := by
  have hh : 66 = 66 ∧ ∃ ys : List (List UInt8), xs.map AV.str = ys.map .str ∧ n = ys.length ∧ ys ≠ [] ∧ ys.length ≤ 140737488355328 ∧ (Lib.join ys sep).length ≤ 140737488355328 := ⟨rfl, xs, rfl, hn0, h0, hn, hl⟩
  have he := (strs_inj hh.2.choose_spec.1).symm
  simp only [oJoin, dif_pos hh]
  rw [he]
theorem oJoin_sound : Sound Tryz.prog envF oJoin := by
  intro f args H v H' ho
  unfold oJoin at ho
  split at ho
  · split at ho
    · rename_i hx
      injection ho with ho
      simp only [Prod.mk.injEq] at ho
      obtain ⟨rfl, rfl⟩ := ho
      have hs := hx.2.choose_spec
      generalize hx.2.choose = xs at *
      obtain ⟨rfl, rfl, h0, hn, hl⟩ := hs
      obtain ⟨rfl, _⟩ := hx
      exact ⟨join_cs _ xs _ h0 hn hl _, Nat.le_refl _, fun _ _ h => h⟩
    · cases ho
  · cases ho

/-! An expression's rank; brackets. -/
def levelT (k : Int) : Int := if k = 1 ∨ k = 2 ∨ k = 3 ∨ k = 4 then 3 else if k = 7 ∨ k = 8 then 2 else 1
def brackT (s : List UInt8) (b : Bool) : List UInt8 := if b then 40 :: (s ++ [41]) else s
def signT (k : Int) : List UInt8 := if k = 5 then [32, 43, 32] else if k = 6 then [32, 45, 32] else if k = 7 then [32, 42, 32] else if k = 8 then [32, 47, 32] else []
theorem level_cs (t : Tn) (H : AH) : CS Tryz.prog envF 68 [.agg (tC t)] H (.int .i64 (levelT t.k)) H := by
  refine CS.tr0 lowF Tryz.func68 (by kernel_rfl) 0 (by simp [Tryz.f68]) (fun B hB hG => ?_) (by simp) (by simp) H
  refine Tr.goD oNilF hG (by kernel_rfl) ?_
  have w2 : IntKind.i64.wrap 2 = 2 := by decide
  have w3 : IntKind.i64.wrap 3 = 3 := by decide
  by_cases h1 : t.k = 1
  · simp [Tryz.f68, levelT, h1, w2, w3]
  · by_cases h2 : t.k = 2
    · simp [Tryz.f68, levelT, h2, w2, w3]
    · by_cases h3 : t.k = 3
      · simp [Tryz.f68, levelT, h3, w2, w3]
      · by_cases h4 : t.k = 4
        · simp [Tryz.f68, levelT, h4, w2, w3]
        · by_cases h7 : t.k = 7
          · simp [Tryz.f68, levelT, h7, w2, w3]
          · by_cases h8 : t.k = 8
            · simp [Tryz.f68, levelT, h8, w2, w3]
            · simp [Tryz.f68, levelT, h1, h2, h3, h4, h7, h8, w2, w3]
theorem brack_cs (s : List UInt8) (b : Bool) (hs : s.length < 1099511627776) (H : AH) : CS Tryz.prog envF 67 [.str s, .bool b] H (.str (brackT s b)) H := by
  have e1 : s.length + 1 ≤ 9223372036854775807 := by omega
  have e2 : 1 + s.length ≤ 9223372036854775807 := by omega
  have e3 : s.length + 1 + 1 ≤ 9223372036854775807 := by omega
  have e4 : 1 + s.length + 1 ≤ 9223372036854775807 := by omega
  have e5 : s.length ≤ 9223372036854775806 := by omega
  have e6 : s.length ≤ 9223372036854775805 := by omega
  refine CS.tr0 lowF Tryz.func67 (by kernel_rfl) 0 (by simp [Tryz.f67]) (fun B hB hG => ?_) (by simp) (by simp) H
  refine Tr.goD oNilF hG (by kernel_rfl) ?_
  cases b with
  | true => simp [Tryz.f67, brackT, e1, e2, e3, e4, e5, e6]
  | false => simp [Tryz.f67, brackT]
end Go.Proofs.YtpmonaempgjgbaaGreatDoor
