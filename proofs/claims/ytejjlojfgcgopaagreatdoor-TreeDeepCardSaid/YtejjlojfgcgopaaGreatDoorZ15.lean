/- Facts on the types of this program, and which functions are  .. The program's trees: put at any heap. -/
import Derived.Test.YtejjlojfgcgopaaGreatDoorZ14
import Derived.Test.YtejjlojfgcgopaaGreatDoorZ6
import Derived.KernelRfl
set_option linter.unusedSimpArgs false
set_option linter.unusedVariables false
namespace Go.Proofs.YtejjlojfgcgopaaGreatDoor.Th
open Go.RowKit Go.Proofs.Fw
set_option maxRecDepth 100000
theorem sz76 : szOf Tryz.prog 76 = some 1 := by kernel_rfl
theorem ag76 : aggB Tryz.prog 76 = some false := by kernel_rfl
theorem zv76 : zeroAV Tryz.prog 76 = some (.nilSlice) := by kernel_rfl
theorem ec76 : elemChk Tryz.prog 76 34 = true := by kernel_rfl
theorem sz104 : szOf Tryz.prog 104 = some 34 := by kernel_rfl
theorem ag104 : aggB Tryz.prog 104 = some true := by kernel_rfl
theorem zv104 : zeroAV Tryz.prog 104 = some (.agg [.int .i64 0, .int .i64 0, .int .i64 0, .nilSlice, .int .i64 0, .int .i64 0, .str [], .nilSlice, .int .i64 0, .int .i64 0, .str [], .nilSlice, .str [], .int .i64 0, .int .i64 0, .str [], .nilSlice, .int .i64 0, .int .i64 0, .str [], .nilSlice, .str [], .int .i64 0, .int .i64 0, .str [], .nilSlice, .int .i64 0, .int .i64 0, .str [], .nilSlice, .int .i64 0, .nilSlice, .nilSlice, .int .i64 0]) := by kernel_rfl
theorem fa104_0 (id off : Nat) : afieldAddr Tryz.prog 104 (.ptr id off) 0 = some (.ptr id (off + 0)) := by kernel_rfl
theorem fv104_0 (cs : List AV) (off : Nat) : afieldAddr Tryz.prog 104 (.vptr cs off) 0 = some (.vptr cs (off + 0)) := by kernel_rfl
theorem fl104_0 (cs : List AV) : afield Tryz.prog 104 (.agg cs) 0 = ldAt Tryz.prog 3 cs 0 := by kernel_rfl
theorem fa104_1 (id off : Nat) : afieldAddr Tryz.prog 104 (.ptr id off) 1 = some (.ptr id (off + 1)) := by kernel_rfl
theorem fv104_1 (cs : List AV) (off : Nat) : afieldAddr Tryz.prog 104 (.vptr cs off) 1 = some (.vptr cs (off + 1)) := by kernel_rfl
theorem fl104_1 (cs : List AV) : afield Tryz.prog 104 (.agg cs) 1 = ldAt Tryz.prog 3 cs 1 := by kernel_rfl
theorem fa104_2 (id off : Nat) : afieldAddr Tryz.prog 104 (.ptr id off) 2 = some (.ptr id (off + 2)) := by kernel_rfl
theorem fv104_2 (cs : List AV) (off : Nat) : afieldAddr Tryz.prog 104 (.vptr cs off) 2 = some (.vptr cs (off + 2)) := by kernel_rfl
theorem fl104_2 (cs : List AV) : afield Tryz.prog 104 (.agg cs) 2 = ldAt Tryz.prog 31 cs 2 := by kernel_rfl
theorem fa104_3 (id off : Nat) : afieldAddr Tryz.prog 104 (.ptr id off) 3 = some (.ptr id (off + 31)) := by kernel_rfl
theorem fv104_3 (cs : List AV) (off : Nat) : afieldAddr Tryz.prog 104 (.vptr cs off) 3 = some (.vptr cs (off + 31)) := by kernel_rfl
theorem fl104_3 (cs : List AV) : afield Tryz.prog 104 (.agg cs) 3 = ldAt Tryz.prog 76 cs 31 := by kernel_rfl
theorem fa104_4 (id off : Nat) : afieldAddr Tryz.prog 104 (.ptr id off) 4 = some (.ptr id (off + 32)) := by kernel_rfl
theorem fv104_4 (cs : List AV) (off : Nat) : afieldAddr Tryz.prog 104 (.vptr cs off) 4 = some (.vptr cs (off + 32)) := by kernel_rfl
theorem fl104_4 (cs : List AV) : afield Tryz.prog 104 (.agg cs) 4 = ldAt Tryz.prog 76 cs 32 := by kernel_rfl
theorem fa104_5 (id off : Nat) : afieldAddr Tryz.prog 104 (.ptr id off) 5 = some (.ptr id (off + 33)) := by kernel_rfl
theorem fv104_5 (cs : List AV) (off : Nat) : afieldAddr Tryz.prog 104 (.vptr cs off) 5 = some (.vptr cs (off + 33)) := by kernel_rfl
theorem fl104_5 (cs : List AV) : afield Tryz.prog 104 (.agg cs) 5 = ldAt Tryz.prog 3 cs 33 := by kernel_rfl
theorem sz116 : szOf Tryz.prog 116 = some 1 := by kernel_rfl
theorem ag116 : aggB Tryz.prog 116 = some false := by kernel_rfl
theorem zv116 : zeroAV Tryz.prog 116 = some (.nilFunc) := by kernel_rfl
theorem sz182 : szOf Tryz.prog 182 = some 1 := by kernel_rfl
theorem ag182 : aggB Tryz.prog 182 = some false := by kernel_rfl
theorem zv182 : zeroAV Tryz.prog 182 = some (.nilPtr) := by kernel_rfl
theorem sz183 : szOf Tryz.prog 183 = some 1 := by kernel_rfl
theorem ag183 : aggB Tryz.prog 183 = some false := by kernel_rfl
theorem zv183 : zeroAV Tryz.prog 183 = some (.nilPtr) := by kernel_rfl
theorem sz185 : szOf Tryz.prog 185 = some 4 := by kernel_rfl
theorem ag185 : aggB Tryz.prog 185 = some true := by kernel_rfl
theorem zv185 : zeroAV Tryz.prog 185 = some (.agg [.nilSlice, .nilPtr, .int .i64 0, .bool false]) := by kernel_rfl
theorem fa185_0 (id off : Nat) : afieldAddr Tryz.prog 185 (.ptr id off) 0 = some (.ptr id (off + 0)) := by kernel_rfl
theorem fv185_0 (cs : List AV) (off : Nat) : afieldAddr Tryz.prog 185 (.vptr cs off) 0 = some (.vptr cs (off + 0)) := by kernel_rfl
theorem fl185_0 (cs : List AV) : afield Tryz.prog 185 (.agg cs) 0 = ldAt Tryz.prog 76 cs 0 := by kernel_rfl
theorem fa185_1 (id off : Nat) : afieldAddr Tryz.prog 185 (.ptr id off) 1 = some (.ptr id (off + 1)) := by kernel_rfl
theorem fv185_1 (cs : List AV) (off : Nat) : afieldAddr Tryz.prog 185 (.vptr cs off) 1 = some (.vptr cs (off + 1)) := by kernel_rfl
theorem fl185_1 (cs : List AV) : afield Tryz.prog 185 (.agg cs) 1 = ldAt Tryz.prog 183 cs 1 := by kernel_rfl
theorem fa185_2 (id off : Nat) : afieldAddr Tryz.prog 185 (.ptr id off) 2 = some (.ptr id (off + 2)) := by kernel_rfl
theorem fv185_2 (cs : List AV) (off : Nat) : afieldAddr Tryz.prog 185 (.vptr cs off) 2 = some (.vptr cs (off + 2)) := by kernel_rfl
theorem fl185_2 (cs : List AV) : afield Tryz.prog 185 (.agg cs) 2 = ldAt Tryz.prog 3 cs 2 := by kernel_rfl
theorem fa185_3 (id off : Nat) : afieldAddr Tryz.prog 185 (.ptr id off) 3 = some (.ptr id (off + 3)) := by kernel_rfl
theorem fv185_3 (cs : List AV) (off : Nat) : afieldAddr Tryz.prog 185 (.vptr cs off) 3 = some (.vptr cs (off + 3)) := by kernel_rfl
theorem fl185_3 (cs : List AV) : afield Tryz.prog 185 (.agg cs) 3 = ldAt Tryz.prog 4 cs 3 := by kernel_rfl
theorem sz188 : szOf Tryz.prog 188 = some 35 := by kernel_rfl
theorem ag188 : aggB Tryz.prog 188 = some true := by kernel_rfl
theorem zv188 : zeroAV Tryz.prog 188 = some (.agg [.int .i64 0, .int .i64 0, .int .i64 0, .nilSlice, .int .i64 0, .int .i64 0, .str [], .nilSlice, .int .i64 0, .int .i64 0, .str [], .nilSlice, .str [], .int .i64 0, .int .i64 0, .str [], .nilSlice, .int .i64 0, .int .i64 0, .str [], .nilSlice, .str [], .int .i64 0, .int .i64 0, .str [], .nilSlice, .int .i64 0, .int .i64 0, .str [], .nilSlice, .int .i64 0, .nilSlice, .nilSlice, .int .i64 0, .nilPtr]) := by kernel_rfl
theorem fa188_0 (id off : Nat) : afieldAddr Tryz.prog 188 (.ptr id off) 0 = some (.ptr id (off + 0)) := by kernel_rfl
theorem fv188_0 (cs : List AV) (off : Nat) : afieldAddr Tryz.prog 188 (.vptr cs off) 0 = some (.vptr cs (off + 0)) := by kernel_rfl
theorem fl188_0 (cs : List AV) : afield Tryz.prog 188 (.agg cs) 0 = ldAt Tryz.prog 104 cs 0 := by kernel_rfl
theorem fa188_1 (id off : Nat) : afieldAddr Tryz.prog 188 (.ptr id off) 1 = some (.ptr id (off + 34)) := by kernel_rfl
theorem fv188_1 (cs : List AV) (off : Nat) : afieldAddr Tryz.prog 188 (.vptr cs off) 1 = some (.vptr cs (off + 34)) := by kernel_rfl
theorem fl188_1 (cs : List AV) : afield Tryz.prog 188 (.agg cs) 1 = ldAt Tryz.prog 183 cs 34 := by kernel_rfl
theorem go41 : goFn Tryz.prog 41 = true := by kernel_rfl
theorem go44 : goFn Tryz.prog 44 = true := by kernel_rfl
theorem go46 : goFn Tryz.prog 46 = true := by kernel_rfl
theorem go48 : goFn Tryz.prog 48 = true := by kernel_rfl
theorem go80 : goFn Tryz.prog 80 = true := by kernel_rfl
theorem go81 : goFn Tryz.prog 81 = true := by kernel_rfl
theorem go82 : goFn Tryz.prog 82 = true := by kernel_rfl
theorem go83 : goFn Tryz.prog 83 = true := by kernel_rfl
theorem go84 : goFn Tryz.prog 84 = true := by kernel_rfl
theorem go127 : goFn Tryz.prog 127 = true := by kernel_rfl
theorem go128 : goFn Tryz.prog 128 = true := by kernel_rfl
attribute [simp] sz76 ag76 zv76 ec76 Tryz.underlying76 sz104 ag104 zv104 fa104_0 fv104_0 fl104_0 fa104_1 fv104_1 fl104_1 fa104_2 fv104_2 fl104_2 fa104_3 fv104_3 fl104_3
attribute [simp] fa104_4 fv104_4 fl104_4 fa104_5 fv104_5 fl104_5 Tryz.underlying104 sz116 ag116 zv116 Tryz.underlying116 sz182 ag182 zv182 Tryz.underlying182 sz183 ag183 zv183 Tryz.underlying183 sz185
attribute [simp] ag185 zv185 fa185_0 fv185_0 fl185_0 fa185_1 fv185_1 fl185_1 fa185_2 fv185_2 fl185_2 fa185_3 fv185_3 fl185_3 Tryz.underlying185 sz188 ag188 zv188 fa188_0 fv188_0
attribute [simp] fl188_0 fa188_1 fv188_1 fl188_1 Tryz.underlying188 go41 go44 go46 go48 go80 go81 go82 go83 go84 go127 go128
end Go.Proofs.YtejjlojfgcgopaaGreatDoor.Th

namespace Go.Proofs.YtejjlojfgcgopaaGreatDoor
open Go.RowKit Go.Proofs.Fw
set_option maxRecDepth 100000
set_option maxHeartbeats 4000000
def envS : Env := ⟨envF.glob, methN, envF.imm, fun t => t == 76⟩
theorem methSOk : MethOk Tryz.prog envS := methNOk
theorem lowS : ∀ i, low 0 (envS.glob i) = true := lowF
theorem CS.toS {f : FuncId} {args : List AV} {H H' : AH} {v : AV} (h : CS Tryz.prog envF f args H v H') : CS Tryz.prog envS f args H v H' := fun g w cargs R hG hA => h g w cargs R hG hA
theorem CS.ofS {f : FuncId} {args : List AV} {H H' : AH} {v : AV} (h : CS Tryz.prog envS f args H v H') : CS Tryz.prog envF f args H v H' := fun g w cargs R hG hA => h g w cargs R hG hA
@[simp] theorem softSN : envS.soft 76 = true := by decide
@[simp] theorem immSb : envS.imm 185 = false := by decide
@[simp] theorem immSo : envS.imm 188 = false := by decide
@[simp] theorem immSn : envS.imm 104 = false := by decide
@[simp] theorem immSx : envS.imm 31 = false := by decide
theorem oNilS : Cx oNil Tryz.prog envS := ⟨oNil_sound, methSOk, mixed⟩
theorem elemNdP : elemChk Tryz.prog 76 34 = true := by kernel_rfl
@[simp] theorem bsNdP (cs : List AV) (hl : cs.length = 34) : abuildSlice Tryz.prog 76 1 [(0, .agg cs)] = some (.slice .full 34 1 cs) := by
  have h1 : szOf Tryz.prog 104 = some 34 := by kernel_rfl
  obtain ⟨z, h2, h3⟩ : ∃ z, zeroAV Tryz.prog 104 = some (.agg z) ∧ z.length = 34 := ⟨_, Th.zv104, rfl⟩
  simp [abuildSlice, Tryz.underlying76, h1, h2, h3, fillAV, putAt, hl, reps, cellsAV]
section
variable {cs : List AV}
theorem put0_cs (hl : cs.length = 34) (ho : cs.all AV.one = true) (hc : lowL 0 cs = true) (d : Int) (o : Bool) :
    CS Tryz.prog envS 128 [.ptr 0 0, .agg cs] [some (.box [.nilSlice, .nilPtr, .int .i64 d, .bool o])] (.tup []) [some (.box [.slice (.tok 1) 34 1 cs, .nilPtr, .int .i64 d, .bool o]), some (.tok 1)] := by
  refine CS.of_TrN (H0 := [some (.box [.nilSlice, .nilPtr, .int .i64 d, .bool o])]) (H1 := [some (.box [.slice (.tok 1) 34 1 cs, .nilPtr, .int .i64 d, .bool o]), some (.tok 1)]) 2 (by simp) (c := bodyOf Tryz.f128) Tryz.func128 (by kernel_rfl) 0 (by simp [Tryz.f128]) (fun B hB hG => ?_) (by simp) (by simp [lowH, lowE, lowL_mono (Nat.zero_le 2) cs hc])
  refine Tr.post ?_
  refine Tr.goD oNilS hG (by kernel_rfl) ?_
  simp [Tryz.f128]
  refine LpD.turns oNilS hG [7, 9, 12] [(8, 12), (9, 10), (9, 11), (9, 12)] (by kernel_rfl) ?_
  have happ := fun H fid ow ys (h : ys.all AV.one = true) => aappendL_nil (P := Tryz.prog) (H := H) (fid := fid) (ow := ow) (ys := ys) elemNdP h
  have ht : cs.take 34 = cs := List.take_of_length_le (by omega)
  have ho2 : ∀ x ∈ cs, AV.one x = true := fun x hx => List.all_eq_true.1 ho x hx
  simp only [AV.one] at ho2
  simp [hl, ht, aapp_soft softSN, happ]
  rw [if_pos ho2]
  simp [hl, ht]
  refine ⟨mkT 103 [], [some (.box [.slice (.tok 1) 34 1 cs, .nilPtr, .int .i64 d, .bool o]), some (.tok 1)], Less.put 2 0 cs rfl (fun i => if i = 0 then 0 else 2) 2 (by simp [hB]) (by
    intro i j hi hj h
    rcases (by omega : i = 0 ∨ i = 1) with rfl | rfl <;> rcases (by omega : j = 0 ∨ j = 1) with rfl | rfl <;> simp at h ⊢) (by simp [hB]) rfl (by
    intro i hi
    rcases (by omega : i = 0 ∨ i = 1) with rfl | rfl
    · simp [AH.at, meltE, meltV, renE, ren, renL, renL_low _ cs hc]
    · simp [AH.at, meltE, renE]) (by simp [lowL_mono (Nat.zero_le 2) cs hc]), rfl⟩
theorem put1_cs {xs : List AV} (m : Nat) (hm : m < 137438953472) (hl : cs.length = 34) (ho : cs.all AV.one = true) (hc : lowL 0 cs = true) (hx : lowL 0 xs = true) (d : Int) (o : Bool) :
    CS Tryz.prog envS 128 [.ptr 0 0, .agg cs] [some (.box [.slice (.tok 1) 34 m xs, .nilPtr, .int .i64 d, .bool o]), some (.tok m)] (.tup []) [some (.box [.slice (.tok 1) 34 (m + 1) (xs ++ cs), .nilPtr, .int .i64 d, .bool o]), some (.tok (m + 1))] := by
  refine CS.of_TrN (H0 := [some (.box [.slice (.tok 1) 34 m xs, .nilPtr, .int .i64 d, .bool o]), some (.tok m)]) (H1 := [some (.box [.slice (.tok 1) 34 (m + 1) (xs ++ cs), .nilPtr, .int .i64 d, .bool o]), some (.tok (m + 1))]) 2 (by simp) (c := bodyOf Tryz.f128) Tryz.func128 (by kernel_rfl) 0 (by simp [Tryz.f128]) (fun B hB hG => ?_) (by simp) (by simp [lowH, lowE, lowL_mono (Nat.zero_le 2) cs hc, lowL_mono (Nat.zero_le 2) xs hx])
  refine Tr.post ?_
  refine Tr.goD oNilS hG (by kernel_rfl) ?_
  simp [Tryz.f128]
  refine LpD.turns oNilS hG [7, 9, 12] [(8, 12), (9, 10), (9, 11), (9, 12)] (by kernel_rfl) ?_
  have happ := fun H fid ow ys (hk : AH.at H 1 = some (.tok m)) (h : ys.all AV.one = true) => aappendL_tok (P := Tryz.prog) (H := H) (fid := fid) (k := 1) (n := m) (xs := xs) (ow := ow) (ys := ys) elemNdP hk (by omega) h
  have ht : cs.take 34 = cs := List.take_of_length_le (by omega)
  have ho2 : ∀ x ∈ cs, AV.one x = true := fun x hx => List.all_eq_true.1 ho x hx
  simp only [AV.one] at ho2
  simp [hl, ht, aapp_soft softSN, happ]
  rw [if_pos ho2]
  simp [hl, ht]
  refine ⟨mkT 103 [], [some (.box [.slice (.tok 1) 34 (m + 1) (xs ++ cs), .nilPtr, .int .i64 d, .bool o]), some (.tok (m + 1))], Less.put 1 m cs rfl (fun i => i) 2 (by simp [hB]) (by
    intro i j hi hj h
    exact h) (by simp) rfl (by
    intro i hi
    rcases (by omega : i = 0 ∨ i = 1) with rfl | rfl
    · simp [AH.at, meltE, meltV, renE, ren, renL, renL_low _ _ hc, renL_low _ _ hx, renL_low _ (xs ++ cs) (by simp [lowL_append, hc, hx])]
    · simp [AH.at, meltE, renE]) (by simp [lowL_mono (Nat.zero_le 2) cs hc, lowL_mono (Nat.zero_le 2) xs hx]), rfl⟩
end
end Go.Proofs.YtejjlojfgcgopaaGreatDoor

namespace Go.Proofs.Fw
open Go.RowKit
abbrev coinO (a c : Tmp) (tb : TypeId) (p : String) : Array Oper :=
  #[{ dst := some a, op := .alloc tb, type := 0, pos := p, after := #[], guard := none },
    { dst := none, op := .store tb (.tmp a) (.const (.bool true)), type := 0, pos := p, after := #[⟨0, .data⟩, ⟨2, .gcOnly .appendInPlace⟩], guard := none },
    { dst := none, op := .store tb (.tmp a) (.const (.bool false)), type := 0, pos := p, after := #[⟨0, .data⟩, ⟨1, .textOnly .appendInPlace⟩], guard := none },
    { dst := some c, op := .load tb (.tmp a), type := tb, pos := p, after := #[⟨0, .data⟩, ⟨0, .phase⟩, ⟨1, .phase⟩, ⟨2, .phase⟩], guard := none }]
section
variable {a c : Tmp} {tb : TypeId} {p : String}
theorem coin_r0 : Region.ready .any (coinO a c tb p) (Array.replicate 4 false) = [0] := by kernel_rfl
theorem coin_r1 : Region.ready .any (coinO a c tb p) ((Array.replicate 4 false).setIfInBounds 0 true) = [1, 2] := by kernel_rfl
theorem coin_r2 : Region.ready .any (coinO a c tb p) (((Array.replicate 4 false).setIfInBounds 0 true).setIfInBounds 1 true) = [2] := by kernel_rfl
theorem coin_r3 : Region.ready .any (coinO a c tb p) (((Array.replicate 4 false).setIfInBounds 0 true).setIfInBounds 2 true) = [1] := by kernel_rfl
theorem coin_r4 : Region.ready .any (coinO a c tb p) ((((Array.replicate 4 false).setIfInBounds 0 true).setIfInBounds 1 true).setIfInBounds 2 true) = [3] := by kernel_rfl
theorem coin_r5 : Region.ready .any (coinO a c tb p) ((((Array.replicate 4 false).setIfInBounds 0 true).setIfInBounds 2 true).setIfInBounds 1 true) = [3] := by kernel_rfl
theorem coin_r6 : Region.ready .any (coinO a c tb p) (((((Array.replicate 4 false).setIfInBounds 0 true).setIfInBounds 1 true).setIfInBounds 2 true).setIfInBounds 3 true) = [] := by kernel_rfl
theorem coin_r7 : Region.ready .any (coinO a c tb p) (((((Array.replicate 4 false).setIfInBounds 0 true).setIfInBounds 2 true).setIfInBounds 1 true).setIfInBounds 3 true) = [] := by kernel_rfl
variable {O : Orc} {P : Program} {E : Env} {t : List AV} {H : AH} {K : List AV → AH → Prop}
theorem coin_ord (hz : zeroAV P tb = some (.bool false)) (hs : szOf P tb = some 1) (hg : aggB P tb = some false) (ha : a < t.length)
    (h : ∀ x y : Bool, K (putT (putT t (some a) (.ptr H.length 0)) (some c) (.bool x)) (H ++ [some (.box [.bool y])])) :
    OrdT O P E (coinO a c tb p) ((withIds E (coinO a c tb p).toList H.length).map (·.2)) 4 (Array.replicate 4 false) t (H ++ [none]) K := by
  have hH : AH.at (H ++ [none]) H.length = none := by simp [AH.at]
  have ht : (putT t (some a) (.ptr H.length 0))[a]? = some (.ptr H.length 0) := by simp [putT, ha]
  generalize hT : putT t (some a) (.ptr H.length 0) = T at h ht
  have hev : ∀ e : Env, aeval e T (.tmp a) = .ptr H.length 0 := fun e => by simp [aeval, List.getD_eq_getElem?_getD, ht]
  have hset : ∀ (e : Option Ent) (x : Option Ent), (H ++ [e]).set H.length x = H ++ [x] := fun e x => by rw [List.set_append_right _ _ (Nat.le_refl _)]; simp
  have hatb : ∀ x : Ent, AH.at (H ++ [some x]) H.length = some x := fun x => by simp [AH.at]
  have load : ∀ (x : Bool) (fid : Nat), dstep O P E (coinO a c tb p) T (H ++ [some (.box [.bool x])]) ({ dst := some c, op := .load tb (.tmp a), type := tb, pos := p, after := #[⟨0, .data⟩, ⟨0, .phase⟩, ⟨1, .phase⟩, ⟨2, .phase⟩], guard := none }, fid) = some (.bool x, [], [H.length]) := by
    intro x fid
    have hv : visIds E (H ++ [some (.box [.bool x])]) (aeval E T) ({ dst := some c, op := .load tb (.tmp a), type := tb, pos := p, after := #[⟨0, .data⟩, ⟨0, .phase⟩, ⟨1, .phase⟩, ⟨2, .phase⟩], guard := none }, fid) = [H.length] := by
      show clos (H ++ [some (.box [.bool x])]) 0 (idsOfL [aeval E T (.tmp a)]) = _
      rw [hev, clos_zero]
      rfl
    have hl : aload P (mask (H ++ [some (.box [.bool x])]) [H.length]) tb (.ptr H.length 0) = some (.bool x) := by
      rw [aload_mask P tb (by intro i hi; exact hi)]
      unfold aload
      simp only [hatb]
      unfold ldAt
      rw [hg]
      rfl
    have hst : stepU O P E (aeval E T) (mask (H ++ [some (.box [.bool x])]) [H.length]) fid [H.length] { dst := some c, op := .load tb (.tmp a), type := tb, pos := p, after := #[⟨0, .data⟩, ⟨0, .phase⟩, ⟨1, .phase⟩, ⟨2, .phase⟩], guard := none } = (aload P (mask (H ++ [some (.box [.bool x])]) [H.length]) tb (aeval E T (.tmp a))).map (fun a => (a, [])) := rfl
    rw [hev, hl] at hst
    unfold dstep
    simp only [wantedA, hv, hst]
    rfl
  have store : ∀ (x y : Bool) (fid : Nat) (af : Array Edge), dstep O P E (coinO a c tb p) T (H ++ [some (.box [.bool x])]) ({ dst := none, op := .store tb (.tmp a) (.const (.bool y)), type := 0, pos := p, after := af, guard := none }, fid) = some (.nothing, [(H.length, .box [.bool y])], [H.length]) := by
    intro x y fid af
    have hv : visIds E (H ++ [some (.box [.bool x])]) (aeval E T) ({ dst := none, op := .store tb (.tmp a) (.const (.bool y)), type := 0, pos := p, after := af, guard := none }, fid) = [H.length] := by
      show idsOfL [aeval E T (.tmp a)] = _
      rw [hev]
      rfl
    have hl : astore P (mask (H ++ [some (.box [.bool x])]) [H.length]) tb (.ptr H.length 0) (.bool y) = some (.nothing, [(H.length, .box [.bool y])]) := by
      rw [astore_mask P tb (by intro i hi; exact hi)]
      unfold astore
      simp only [hatb, hs]
      rfl
    have hst : stepU O P E (aeval E T) (mask (H ++ [some (.box [.bool x])]) [H.length]) fid [H.length] { dst := none, op := .store tb (.tmp a) (.const (.bool y)), type := 0, pos := p, after := af, guard := none } = astore P (mask (H ++ [some (.box [.bool x])]) [H.length]) tb (aeval E T (.tmp a)) (.bool y) := rfl
    rw [hev, hl] at hst
    unfold dstep
    simp only [wantedA, hv, hst]
    simp
  have alloc : dstep O P E (coinO a c tb p) t (H ++ [none]) ({ dst := some a, op := .alloc tb, type := 0, pos := p, after := #[], guard := none }, H.length) = some (.ptr H.length 0, [(H.length, .box [.bool false])], [H.length]) := by
    have hst : ∀ S, stepU O P E (aeval E t) (mask (H ++ [none]) S) H.length S { dst := some a, op := .alloc tb, type := 0, pos := p, after := #[], guard := none } = (match zeroAV P tb with | some z => some (.ptr H.length 0, [(H.length, .box (cellsAV z))]) | none => none) := fun _ => rfl
    have hv : visIds E (H ++ [none]) (aeval E t) ({ dst := some a, op := .alloc tb, type := 0, pos := p, after := #[], guard := none }, H.length) = [H.length] := by
      show H.length :: clos (H ++ [none]) 4 [] = _
      rw [clos_nil]
    unfold dstep
    simp only [wantedA, hv, hst, hz]
    simp [cellsAV]
  have fin : ∀ (x : Bool) (l : Array Bool), Region.ready .any (coinO a c tb p) l = [3] → Region.ready .any (coinO a c tb p) (l.setIfInBounds 3 true) = [] → OrdT O P E (coinO a c tb p) ((withIds E (coinO a c tb p).toList H.length).map (·.2)) 1 l T (H ++ [some (.box [.bool x])]) K := by
    intro x l h1 h2
    refine ⟨by rw [h1]; simp, fun i hi => ?_⟩
    rw [h1] at hi
    simp only [List.mem_singleton] at hi
    subst hi
    exact ⟨{ dst := some c, op := .load tb (.tmp a), type := tb, pos := p, after := #[⟨0, .data⟩, ⟨0, .phase⟩, ⟨1, .phase⟩, ⟨2, .phase⟩], guard := none }, _, _, _, rfl, fun hn => by simp [needsId] at hn, load x _, h2, h x x⟩
  refine ⟨by rw [coin_r0]; simp, fun i hi => ?_⟩
  rw [coin_r0] at hi
  simp only [List.mem_singleton] at hi
  subst hi
  refine ⟨{ dst := some a, op := .alloc tb, type := 0, pos := p, after := #[], guard := none }, _, _, _, rfl, fun _ => ?_, alloc, ?_⟩
  · exact ⟨by simp [coinO, withIds], by first | (simp [coinO, withIds]; done) | (simpa [coinO, withIds] using hH)⟩
  simp only [hT, applyUps, hset]
  refine ⟨by rw [coin_r1]; simp, fun i hi => ?_⟩
  rw [coin_r1] at hi
  simp only [List.mem_cons, List.not_mem_nil, or_false] at hi
  rcases hi with rfl | rfl
  · refine ⟨{ dst := none, op := .store tb (.tmp a) (.const (.bool true)), type := 0, pos := p, after := #[⟨0, .data⟩, ⟨2, .gcOnly .appendInPlace⟩], guard := none }, _, _, _, rfl, fun hn => by simp [needsId] at hn, store _ true _ _, ?_⟩
    simp only [putT, applyUps, hset]
    refine ⟨by rw [coin_r2]; simp, fun i hi => ?_⟩
    rw [coin_r2] at hi
    simp only [List.mem_singleton] at hi
    subst hi
    refine ⟨{ dst := none, op := .store tb (.tmp a) (.const (.bool false)), type := 0, pos := p, after := #[⟨0, .data⟩, ⟨1, .textOnly .appendInPlace⟩], guard := none }, _, _, _, rfl, fun hn => by simp [needsId] at hn, store _ false _ _, ?_⟩
    simp only [putT, applyUps, hset]
    exact fin false _ coin_r4 coin_r6
  · refine ⟨{ dst := none, op := .store tb (.tmp a) (.const (.bool false)), type := 0, pos := p, after := #[⟨0, .data⟩, ⟨1, .textOnly .appendInPlace⟩], guard := none }, _, _, _, rfl, fun hn => by simp [needsId] at hn, store _ false _ _, ?_⟩
    simp only [putT, applyUps, hset]
    refine ⟨by rw [coin_r3]; simp, fun i hi => ?_⟩
    rw [coin_r3] at hi
    simp only [List.mem_singleton] at hi
    subst hi
    refine ⟨{ dst := none, op := .store tb (.tmp a) (.const (.bool true)), type := 0, pos := p, after := #[⟨0, .data⟩, ⟨2, .gcOnly .appendInPlace⟩], guard := none }, _, _, _, rfl, fun hn => by simp [needsId] at hn, store _ true _ _, ?_⟩
    simp only [putT, applyUps, hset]
    exact fin true _ coin_r5 coin_r7
theorem LpD.coin {B : Bs} {Lp : LoopP} {ks0 : List Fr} (X : Cx O P E) (hG : GlobOk E B.g) {id : Nat} {Q : AEx → List AV → AH → Prop} (hz : zeroAV P tb = some (.bool false)) (hs : szOf P tb = some 1) (hg : aggB P tb = some false) (ha : a < t.length)
    (h : ∀ x y : Bool, Go O P E Lp .skip ks0 (putT (putT t (some a) (.ptr H.length 0)) (some c) (.bool x)) (H ++ [some (.box [.bool y])]) Q) : LpD P B (.scope (.region id (coinO a c tb p) true)) t H (unwind O P E Lp ks0 Q) := by
  refine LpD.orders X hG ?_
  have hn : idCount E (coinO a c tb p).toList = 1 := rfl
  rw [hn, grow_eq]
  exact coin_ord hz hs hg ha h
end
end Go.Proofs.Fw

namespace Go.Proofs.YtejjlojfgcgopaaGreatDoor
open Go.RowKit Go.Proofs.Fw
set_option maxRecDepth 100000
set_option maxHeartbeats 4000000
theorem put_body_nil (cs pre : List AV) (X Y Z : AV) (e2 e3 e4 : Option Ent) (mid : Int) (hmid : mid < 0) (hp : pre.length = 31) (hl : cs.length = 34) (ho : cs.all AV.one = true) (hc : lowL 0 cs = true) (hx : low 5 X = true) (hy : low 5 Y = true) (hz : low 5 Z = true)
    (hpre : lowL 0 pre = true) (h2 : lowE 5 e2 = true) (h3 : lowE 5 e3 = true) (h4 : lowE 5 e4 = true) (d : Int) (o : Bool) :
    CS Tryz.prog envS 128 [.ptr 0 0, .agg cs] [some (.box [X, .ptr 1 0, .int .i64 d, .bool o]), some (.box (pre ++ [.nilSlice, Y, .int .i64 mid, Z])), e2, e3, e4] (.tup []) [some (.box [X, .ptr 1 0, .int .i64 d, .bool o]), some (.box (pre ++ [.slice (.tok 5) 34 1 cs, Y, .int .i64 mid, Z])), e2, e3, e4, some (.tok 1)] := by
  have lE6 : ∀ {e : Option Ent}, lowE 5 e = true → lowE 6 e = true := fun {e} h => by
    cases e with
    | none => rfl
    | some e => cases e with
      | box cs => exact lowL_mono (by omega) _ h
      | loose n cs => exact lowL_mono (by omega) _ h
      | _ => rfl
  have hlow : lowH 6 [some (.box [X, .ptr 1 0, .int .i64 d, .bool o]), some (.box (pre ++ [.slice (.tok 5) 34 1 cs, Y, .int .i64 mid, Z])), e2, e3, e4, some (.tok 1)] = true := by
    simp only [lowH, lE6 h2, lE6 h3, lE6 h4, Bool.and_true, Bool.true_and]
    simp [low_mono (by omega : 5 ≤ 6) X hx, low_mono (by omega : 5 ≤ 6) Y hy, low_mono (by omega : 5 ≤ 6) Z hz, lowL_mono (Nat.zero_le 6) pre hpre, lowL_mono (Nat.zero_le 6) cs hc]
  refine CS.of_TrN (H0 := [some (.box [X, .ptr 1 0, .int .i64 d, .bool o]), some (.box (pre ++ [.nilSlice, Y, .int .i64 mid, Z])), e2, e3, e4]) (H1 := [some (.box [X, .ptr 1 0, .int .i64 d, .bool o]), some (.box (pre ++ [.slice (.tok 5) 34 1 cs, Y, .int .i64 mid, Z])), e2, e3, e4, some (.tok 1)]) 6 (by simp) (c := bodyOf Tryz.f128) Tryz.func128 (by kernel_rfl) 0 (by simp [Tryz.f128]) (fun B hB hG => ?_) (by simp) hlow
  refine Tr.post ?_
  refine Tr.goD oNilS hG (by kernel_rfl) ?_
  have hm1 : ¬ (0 ≤ mid) := by omega
  simp [Tryz.f128, hp, hm1]
  have hf : ∀ i, i < 5 → (fun i : Nat => if i = 5 then 7 else i) i = i := fun i hi => if_neg (by omega)
  have l7 : ∀ {a : AV}, low 5 a = true → low 7 a = true := fun h => low_mono (by omega) _ h
  have mX := meltV_id (t := 7) (n := 0) (xs := cs) (l7 hx)
  have mY := meltV_id (t := 7) (n := 0) (xs := cs) (l7 hy)
  have mZ := meltV_id (t := 7) (n := 0) (xs := cs) (l7 hz)
  have mP := meltL_id (t := 7) (n := 0) (xs := cs) (lowL_mono (Nat.zero_le 7) pre hpre)
  have lE : ∀ {e : Option Ent}, lowE 5 e = true → lowE 7 e = true := fun {e} h => by
    cases e with
    | none => rfl
    | some e => cases e with
      | box cs => exact lowL_mono (by omega) _ h
      | loose n cs => exact lowL_mono (by omega) _ h
      | _ => rfl
  have m2 := meltE_id (t := 7) (n := 0) (xs := cs) (lE h2)
  have m3 := meltE_id (t := 7) (n := 0) (xs := cs) (lE h3)
  have m4 := meltE_id (t := 7) (n := 0) (xs := cs) (lE h4)
  have rX := ren_fix hf X hx
  have rY := ren_fix hf Y hy
  have rZ := ren_fix hf Z hz
  have rP := renL_low (fun i : Nat => if i = 5 then 7 else i) pre hpre
  have rC := renL_low (fun i : Nat => if i = 5 then 7 else i) cs hc
  skip
  have r2 := renE_fix hf h2
  have r3 := renE_fix hf h3
  have r4 := renE_fix hf h4
  have renL_app : ∀ (φ : Nat → Nat) (a b : List AV), renL φ (a ++ b) = renL φ a ++ renL φ b := fun φ a b => by induction a with
    | nil => rfl
    | cons x a ih => simp [renL, ih]
  have hdrop : ∀ (r : AV), List.drop 32 (pre ++ [r, Y, .int .i64 mid, Z]) = [Y, .int .i64 mid, Z] := fun r => by
    rw [List.drop_append, List.drop_eq_nil_of_le (by omega), hp]; rfl
  have htake : ∀ (a b c e : AV), List.take 32 (pre ++ [a, b, c, e]) = pre ++ [a] := fun a b c e => by
    rw [List.take_append, List.take_of_length_le (by omega), hp]; rfl
  have happ := fun H fid ow ys (h : ys.all AV.one = true) => aappendL_nil (P := Tryz.prog) (H := H) (fid := fid) (ow := ow) (ys := ys) elemNdP h
  have ht : cs.take 34 = cs := List.take_of_length_le (by omega)
  have ho2 : ∀ x ∈ cs, AV.one x = true := fun x hx => List.all_eq_true.1 ho x hx
  simp only [AV.one] at ho2
  refine LpD.coin oNilS hG (by kernel_rfl) (by kernel_rfl) (by kernel_rfl) (by simp [mkT]) ?_
  intro x y
  cases x with
  | true =>
    simp
    refine LpD.turns oNilS hG [11, 15] [] (by kernel_rfl) ?_
    simp [hl, ht, hp, aapp_soft softSN, happ]
    rw [if_pos ho2]
    simp [hl, ht, hp]
    refine ⟨mkT 103 [], [some (.box [X, .ptr 1 0, .int .i64 d, .bool o]), some (.box (pre ++ [.slice (.tok 5) 34 1 cs, Y, .int .i64 mid, Z])), e2, e3, e4, some (.tok 1)], Less.put 7 0 cs rfl (fun i : Nat => if i = 5 then 7 else i) 6 (by simp [hB]) (by
      intro i j hi hj h
      rcases (by omega : i = 0 ∨ i = 1 ∨ i = 2 ∨ i = 3 ∨ i = 4 ∨ i = 5) with rfl | rfl | rfl | rfl | rfl | rfl <;> rcases (by omega : j = 0 ∨ j = 1 ∨ j = 2 ∨ j = 3 ∨ j = 4 ∨ j = 5) with rfl | rfl | rfl | rfl | rfl | rfl <;> simp at h ⊢) (by
      intro i hi
      rw [hB] at hi
      simp at hi
      rw [if_neg (by omega)]) rfl (by
      intro i hi
      rcases (by omega : i = 0 ∨ i = 1 ∨ i = 2 ∨ i = 3 ∨ i = 4 ∨ i = 5) with rfl | rfl | rfl | rfl | rfl | rfl
      · simp [AH.at, meltE, meltV, renE, ren, renL, rX]
        exact mX
      · simp [AH.at, meltE, meltV, renE, ren, renL, mY, mZ, mP, rY, rZ, rP, rC, renL_app, hdrop, htake]
        exact ⟨mY, mZ⟩
      · simp [AH.at, m2, r2]
      · simp [AH.at, m3, r3]
      · simp [AH.at, m4, r4]
      · simp [AH.at, meltE, renE]) hlow, rfl⟩
  | false =>
    have happC := fun H fid ow => aappendL_nil (P := Tryz.prog) (H := H) (fid := fid) (ow := ow) (ys := cs) elemNdP ho
    simp
    refine LpD.turns oNilS hG [14, 18] [(0, 14), (1, 14), (2, 14), (3, 14)] (by kernel_rfl) ?_
    simp [hl, ht, hp, aapp_soft softSN, happC]
    refine ⟨mkT 103 [], [some (.box [X, .ptr 1 0, .int .i64 d, .bool o]), some (.box (pre ++ [.slice (.tok 5) 34 1 cs, Y, .int .i64 mid, Z])), e2, e3, e4, some (.tok 1)], Less.put 7 0 cs rfl (fun i : Nat => if i = 5 then 7 else i) 6 (by simp [hB]) (by
      intro i j hi hj h
      rcases (by omega : i = 0 ∨ i = 1 ∨ i = 2 ∨ i = 3 ∨ i = 4 ∨ i = 5) with rfl | rfl | rfl | rfl | rfl | rfl <;> rcases (by omega : j = 0 ∨ j = 1 ∨ j = 2 ∨ j = 3 ∨ j = 4 ∨ j = 5) with rfl | rfl | rfl | rfl | rfl | rfl <;> simp at h ⊢) (by
      intro i hi
      rw [hB] at hi
      simp at hi
      rw [if_neg (by omega)]) rfl (by
      intro i hi
      rcases (by omega : i = 0 ∨ i = 1 ∨ i = 2 ∨ i = 3 ∨ i = 4 ∨ i = 5) with rfl | rfl | rfl | rfl | rfl | rfl
      · simp [AH.at, meltE, meltV, renE, ren, renL, rX]
        exact mX
      · simp [AH.at, meltE, meltV, renE, ren, renL, mY, mZ, mP, rY, rZ, rP, rC, renL_app, hdrop, htake]
        exact ⟨mY, mZ⟩
      · simp [AH.at, m2, r2]
      · simp [AH.at, m3, r3]
      · simp [AH.at, m4, r4]
      · simp [AH.at, meltE, renE]) hlow, rfl⟩
theorem put_body_tok (cs pre : List AV) (xs : List AV) (m : Nat) (hm : m < 137438953472) (hxs : lowL 0 xs = true) (X Y Z : AV) (e2 e3 e4 : Option Ent) (mid : Int) (hmid : mid < 0) (hp : pre.length = 31) (hl : cs.length = 34) (ho : cs.all AV.one = true) (hc : lowL 0 cs = true) (hx : low 5 X = true) (hy : low 5 Y = true) (hz : low 5 Z = true)
    (hpre : lowL 0 pre = true) (h2 : lowE 5 e2 = true) (h3 : lowE 5 e3 = true) (h4 : lowE 5 e4 = true) (d : Int) (o : Bool) :
    CS Tryz.prog envS 128 [.ptr 0 0, .agg cs] [some (.box [X, .ptr 1 0, .int .i64 d, .bool o]), some (.box (pre ++ [.slice (.tok 5) 34 m xs, Y, .int .i64 mid, Z])), e2, e3, e4, some (.tok m)] (.tup []) [some (.box [X, .ptr 1 0, .int .i64 d, .bool o]), some (.box (pre ++ [.slice (.tok 5) 34 (m + 1) (xs ++ cs), Y, .int .i64 mid, Z])), e2, e3, e4, some (.tok (m + 1))] := by
  have lE6 : ∀ {e : Option Ent}, lowE 5 e = true → lowE 6 e = true := fun {e} h => by
    cases e with
    | none => rfl
    | some e => cases e with
      | box cs => exact lowL_mono (by omega) _ h
      | loose n cs => exact lowL_mono (by omega) _ h
      | _ => rfl
  have hlow : lowH 6 [some (.box [X, .ptr 1 0, .int .i64 d, .bool o]), some (.box (pre ++ [.slice (.tok 5) 34 (m + 1) (xs ++ cs), Y, .int .i64 mid, Z])), e2, e3, e4, some (.tok (m + 1))] = true := by
    simp only [lowH, lE6 h2, lE6 h3, lE6 h4, Bool.and_true, Bool.true_and]
    simp [low_mono (by omega : 5 ≤ 6) X hx, low_mono (by omega : 5 ≤ 6) Y hy, low_mono (by omega : 5 ≤ 6) Z hz, lowL_mono (Nat.zero_le 6) pre hpre, lowL_mono (Nat.zero_le 6) cs hc, lowL_mono (Nat.zero_le 6) xs hxs]
  refine CS.of_TrN (H0 := [some (.box [X, .ptr 1 0, .int .i64 d, .bool o]), some (.box (pre ++ [.slice (.tok 5) 34 m xs, Y, .int .i64 mid, Z])), e2, e3, e4, some (.tok m)]) (H1 := [some (.box [X, .ptr 1 0, .int .i64 d, .bool o]), some (.box (pre ++ [.slice (.tok 5) 34 (m + 1) (xs ++ cs), Y, .int .i64 mid, Z])), e2, e3, e4, some (.tok (m + 1))]) 6 (by simp) (c := bodyOf Tryz.f128) Tryz.func128 (by kernel_rfl) 0 (by simp [Tryz.f128]) (fun B hB hG => ?_) (by simp) hlow
  refine Tr.post ?_
  refine Tr.goD oNilS hG (by kernel_rfl) ?_
  have hm1 : ¬ (0 ≤ mid) := by omega
  simp [Tryz.f128, hp, hm1]
  have hf : ∀ i, i < 5 → (fun i : Nat => i) i = i := fun i hi => rfl
  have l7 : ∀ {a : AV}, low 5 a = true → low 5 a = true := fun h => low_mono (by omega) _ h
  have mX := meltV_id (t := 5) (n := m) (xs := cs) (l7 hx)
  have mY := meltV_id (t := 5) (n := m) (xs := cs) (l7 hy)
  have mZ := meltV_id (t := 5) (n := m) (xs := cs) (l7 hz)
  have mP := meltL_id (t := 5) (n := m) (xs := cs) (lowL_mono (Nat.zero_le 5) pre hpre)
  have lE : ∀ {e : Option Ent}, lowE 5 e = true → lowE 5 e = true := fun {e} h => by
    cases e with
    | none => rfl
    | some e => cases e with
      | box cs => exact lowL_mono (by omega) _ h
      | loose n cs => exact lowL_mono (by omega) _ h
      | _ => rfl
  have m2 := meltE_id (t := 5) (n := m) (xs := cs) (lE h2)
  have m3 := meltE_id (t := 5) (n := m) (xs := cs) (lE h3)
  have m4 := meltE_id (t := 5) (n := m) (xs := cs) (lE h4)
  have rX := ren_fix hf X hx
  have rY := ren_fix hf Y hy
  have rZ := ren_fix hf Z hz
  have rP := renL_low (fun i : Nat => i) pre hpre
  have rC := renL_low (fun i : Nat => i) cs hc
  have rS := renL_low (fun i : Nat => i) xs hxs
  have r2 := renE_fix hf h2
  have r3 := renE_fix hf h3
  have r4 := renE_fix hf h4
  have renL_app : ∀ (φ : Nat → Nat) (a b : List AV), renL φ (a ++ b) = renL φ a ++ renL φ b := fun φ a b => by induction a with
    | nil => rfl
    | cons x a ih => simp [renL, ih]
  have hdrop : ∀ (r : AV), List.drop 32 (pre ++ [r, Y, .int .i64 mid, Z]) = [Y, .int .i64 mid, Z] := fun r => by
    rw [List.drop_append, List.drop_eq_nil_of_le (by omega), hp]; rfl
  have htake : ∀ (a b c e : AV), List.take 32 (pre ++ [a, b, c, e]) = pre ++ [a] := fun a b c e => by
    rw [List.take_append, List.take_of_length_le (by omega), hp]; rfl
  have happ := fun H fid ow ys (hk : AH.at H 5 = some (.tok m)) (h : ys.all AV.one = true) => aappendL_tok (P := Tryz.prog) (H := H) (fid := fid) (k := 5) (n := m) (xs := xs) (ow := ow) (ys := ys) elemNdP hk (by omega) h
  have ht : cs.take 34 = cs := List.take_of_length_le (by omega)
  have ho2 : ∀ x ∈ cs, AV.one x = true := fun x hx => List.all_eq_true.1 ho x hx
  simp only [AV.one] at ho2
  refine LpD.coin oNilS hG (by kernel_rfl) (by kernel_rfl) (by kernel_rfl) (by simp [mkT]) ?_
  intro x y
  cases x with
  | true =>
    simp
    refine LpD.turns oNilS hG [11, 15] [] (by kernel_rfl) ?_
    simp [hl, ht, hp, aapp_soft softSN, happ]
    rw [if_pos ho2]
    simp [hl, ht, hp]
    refine ⟨mkT 103 [], [some (.box [X, .ptr 1 0, .int .i64 d, .bool o]), some (.box (pre ++ [.slice (.tok 5) 34 (m + 1) (xs ++ cs), Y, .int .i64 mid, Z])), e2, e3, e4, some (.tok (m + 1))], Less.put 5 m cs rfl (fun i : Nat => i) 6 (by simp [hB]) (by
      intro i j hi hj h
      exact h) (by
      intro i hi
      rfl) rfl (by
      intro i hi
      rcases (by omega : i = 0 ∨ i = 1 ∨ i = 2 ∨ i = 3 ∨ i = 4 ∨ i = 5) with rfl | rfl | rfl | rfl | rfl | rfl
      · simp [AH.at, meltE, meltV, renE, ren, renL, rX]
        exact mX
      · simp [AH.at, meltE, meltV, renE, ren, renL, mY, mZ, mP, rY, rZ, rP, rC, rS, renL_app, hdrop, htake]
        exact ⟨mY, mZ⟩
      · simp [AH.at, m2, r2]
      · simp [AH.at, m3, r3]
      · simp [AH.at, m4, r4]
      · simp [AH.at, meltE, renE]) hlow, rfl⟩
  | false =>
    have happC := fun H fid ow (hk : AH.at H 5 = some (.tok m)) => aappendL_tok (P := Tryz.prog) (H := H) (fid := fid) (k := 5) (n := m) (xs := xs) (ow := ow) (ys := cs) elemNdP hk (by omega) ho
    simp
    refine LpD.turns oNilS hG [14, 18] [(0, 14), (1, 14), (2, 14), (3, 14)] (by kernel_rfl) ?_
    simp [hl, ht, hp, aapp_soft softSN, happC]
    refine ⟨mkT 103 [], [some (.box [X, .ptr 1 0, .int .i64 d, .bool o]), some (.box (pre ++ [.slice (.tok 5) 34 (m + 1) (xs ++ cs), Y, .int .i64 mid, Z])), e2, e3, e4, some (.tok (m + 1))], Less.put 5 m cs rfl (fun i : Nat => i) 6 (by simp [hB]) (by
      intro i j hi hj h
      exact h) (by
      intro i hi
      rfl) rfl (by
      intro i hi
      rcases (by omega : i = 0 ∨ i = 1 ∨ i = 2 ∨ i = 3 ∨ i = 4 ∨ i = 5) with rfl | rfl | rfl | rfl | rfl | rfl
      · simp [AH.at, meltE, meltV, renE, ren, renL, rX]
        exact mX
      · simp [AH.at, meltE, meltV, renE, ren, renL, mY, mZ, mP, rY, rZ, rP, rC, rS, renL_app, hdrop, htake]
        exact ⟨mY, mZ⟩
      · simp [AH.at, m2, r2]
      · simp [AH.at, m3, r3]
      · simp [AH.at, m4, r4]
      · simp [AH.at, meltE, renE]) hlow, rfl⟩
theorem put_else_nil (cs pre : List AV) (X Y Z : AV) (e2 e3 e4 : Option Ent) (mid : Int) (hmid : 0 ≤ mid) (hp : pre.length = 31) (hl : cs.length = 34) (ho : cs.all AV.one = true) (hc : lowL 0 cs = true) (hx : low 5 X = true) (hy : low 5 Y = true) (hz : low 5 Z = true)
    (hpre : lowL 0 pre = true) (h2 : lowE 5 e2 = true) (h3 : lowE 5 e3 = true) (h4 : lowE 5 e4 = true) (d : Int) (o : Bool) :
    CS Tryz.prog envS 128 [.ptr 0 0, .agg cs] [some (.box [X, .ptr 1 0, .int .i64 d, .bool o]), some (.box (pre ++ [Y, .nilSlice, .int .i64 mid, Z])), e2, e3, e4] (.tup []) [some (.box [X, .ptr 1 0, .int .i64 d, .bool o]), some (.box (pre ++ [Y, .slice (.tok 5) 34 1 cs, .int .i64 mid, Z])), e2, e3, e4, some (.tok 1)] := by
  have lE6 : ∀ {e : Option Ent}, lowE 5 e = true → lowE 6 e = true := fun {e} h => by
    cases e with
    | none => rfl
    | some e => cases e with
      | box cs => exact lowL_mono (by omega) _ h
      | loose n cs => exact lowL_mono (by omega) _ h
      | _ => rfl
  have hlow : lowH 6 [some (.box [X, .ptr 1 0, .int .i64 d, .bool o]), some (.box (pre ++ [Y, .slice (.tok 5) 34 1 cs, .int .i64 mid, Z])), e2, e3, e4, some (.tok 1)] = true := by
    simp only [lowH, lE6 h2, lE6 h3, lE6 h4, Bool.and_true, Bool.true_and]
    simp [low_mono (by omega : 5 ≤ 6) X hx, low_mono (by omega : 5 ≤ 6) Y hy, low_mono (by omega : 5 ≤ 6) Z hz, lowL_mono (Nat.zero_le 6) pre hpre, lowL_mono (Nat.zero_le 6) cs hc]
  refine CS.of_TrN (H0 := [some (.box [X, .ptr 1 0, .int .i64 d, .bool o]), some (.box (pre ++ [Y, .nilSlice, .int .i64 mid, Z])), e2, e3, e4]) (H1 := [some (.box [X, .ptr 1 0, .int .i64 d, .bool o]), some (.box (pre ++ [Y, .slice (.tok 5) 34 1 cs, .int .i64 mid, Z])), e2, e3, e4, some (.tok 1)]) 6 (by simp) (c := bodyOf Tryz.f128) Tryz.func128 (by kernel_rfl) 0 (by simp [Tryz.f128]) (fun B hB hG => ?_) (by simp) hlow
  refine Tr.post ?_
  refine Tr.goD oNilS hG (by kernel_rfl) ?_
  have hm1 : 0 ≤ mid := hmid
  simp [Tryz.f128, hp, hm1]
  have hf : ∀ i, i < 5 → (fun i : Nat => if i = 5 then 7 else i) i = i := fun i hi => if_neg (by omega)
  have l7 : ∀ {a : AV}, low 5 a = true → low 7 a = true := fun h => low_mono (by omega) _ h
  have mX := meltV_id (t := 7) (n := 0) (xs := cs) (l7 hx)
  have mY := meltV_id (t := 7) (n := 0) (xs := cs) (l7 hy)
  have mZ := meltV_id (t := 7) (n := 0) (xs := cs) (l7 hz)
  have mP := meltL_id (t := 7) (n := 0) (xs := cs) (lowL_mono (Nat.zero_le 7) pre hpre)
  have lE : ∀ {e : Option Ent}, lowE 5 e = true → lowE 7 e = true := fun {e} h => by
    cases e with
    | none => rfl
    | some e => cases e with
      | box cs => exact lowL_mono (by omega) _ h
      | loose n cs => exact lowL_mono (by omega) _ h
      | _ => rfl
  have m2 := meltE_id (t := 7) (n := 0) (xs := cs) (lE h2)
  have m3 := meltE_id (t := 7) (n := 0) (xs := cs) (lE h3)
  have m4 := meltE_id (t := 7) (n := 0) (xs := cs) (lE h4)
  have rX := ren_fix hf X hx
  have rY := ren_fix hf Y hy
  have rZ := ren_fix hf Z hz
  have rP := renL_low (fun i : Nat => if i = 5 then 7 else i) pre hpre
  have rC := renL_low (fun i : Nat => if i = 5 then 7 else i) cs hc
  skip
  have r2 := renE_fix hf h2
  have r3 := renE_fix hf h3
  have r4 := renE_fix hf h4
  have renL_app : ∀ (φ : Nat → Nat) (a b : List AV), renL φ (a ++ b) = renL φ a ++ renL φ b := fun φ a b => by induction a with
    | nil => rfl
    | cons x a ih => simp [renL, ih]
  have hdrop : ∀ (r : AV), List.drop 33 (pre ++ [Y, r, .int .i64 mid, Z]) = [.int .i64 mid, Z] := fun r => by
    rw [List.drop_append, List.drop_eq_nil_of_le (by omega), hp]; rfl
  have htake : ∀ (a b c e : AV), List.take 32 (pre ++ [a, b, c, e]) = pre ++ [a] := fun a b c e => by
    rw [List.take_append, List.take_of_length_le (by omega), hp]; rfl
  have happ := fun H fid ow ys (h : ys.all AV.one = true) => aappendL_nil (P := Tryz.prog) (H := H) (fid := fid) (ow := ow) (ys := ys) elemNdP h
  have ht : cs.take 34 = cs := List.take_of_length_le (by omega)
  have ho2 : ∀ x ∈ cs, AV.one x = true := fun x hx => List.all_eq_true.1 ho x hx
  simp only [AV.one] at ho2
  refine LpD.coin oNilS hG (by kernel_rfl) (by kernel_rfl) (by kernel_rfl) (by simp [mkT]) ?_
  intro x y
  cases x with
  | true =>
    simp
    refine LpD.turns oNilS hG [11, 15] [] (by kernel_rfl) ?_
    simp [hl, ht, hp, aapp_soft softSN, happ]
    rw [if_pos ho2]
    simp [hl, ht, hp]
    refine ⟨mkT 103 [], [some (.box [X, .ptr 1 0, .int .i64 d, .bool o]), some (.box (pre ++ [Y, .slice (.tok 5) 34 1 cs, .int .i64 mid, Z])), e2, e3, e4, some (.tok 1)], Less.put 7 0 cs rfl (fun i : Nat => if i = 5 then 7 else i) 6 (by simp [hB]) (by
      intro i j hi hj h
      rcases (by omega : i = 0 ∨ i = 1 ∨ i = 2 ∨ i = 3 ∨ i = 4 ∨ i = 5) with rfl | rfl | rfl | rfl | rfl | rfl <;> rcases (by omega : j = 0 ∨ j = 1 ∨ j = 2 ∨ j = 3 ∨ j = 4 ∨ j = 5) with rfl | rfl | rfl | rfl | rfl | rfl <;> simp at h ⊢) (by
      intro i hi
      rw [hB] at hi
      simp at hi
      rw [if_neg (by omega)]) rfl (by
      intro i hi
      rcases (by omega : i = 0 ∨ i = 1 ∨ i = 2 ∨ i = 3 ∨ i = 4 ∨ i = 5) with rfl | rfl | rfl | rfl | rfl | rfl
      · simp [AH.at, meltE, meltV, renE, ren, renL, rX]
        exact mX
      · simp [AH.at, meltE, meltV, renE, ren, renL, mY, mZ, mP, rY, rZ, rP, rC, renL_app, hdrop, htake]
        exact ⟨mY, mZ⟩
      · simp [AH.at, m2, r2]
      · simp [AH.at, m3, r3]
      · simp [AH.at, m4, r4]
      · simp [AH.at, meltE, renE]) hlow, rfl⟩
  | false =>
    have happC := fun H fid ow => aappendL_nil (P := Tryz.prog) (H := H) (fid := fid) (ow := ow) (ys := cs) elemNdP ho
    simp
    refine LpD.turns oNilS hG [14, 18] [(0, 14), (1, 14), (2, 14), (3, 14)] (by kernel_rfl) ?_
    simp [hl, ht, hp, aapp_soft softSN, happC]
    refine ⟨mkT 103 [], [some (.box [X, .ptr 1 0, .int .i64 d, .bool o]), some (.box (pre ++ [Y, .slice (.tok 5) 34 1 cs, .int .i64 mid, Z])), e2, e3, e4, some (.tok 1)], Less.put 7 0 cs rfl (fun i : Nat => if i = 5 then 7 else i) 6 (by simp [hB]) (by
      intro i j hi hj h
      rcases (by omega : i = 0 ∨ i = 1 ∨ i = 2 ∨ i = 3 ∨ i = 4 ∨ i = 5) with rfl | rfl | rfl | rfl | rfl | rfl <;> rcases (by omega : j = 0 ∨ j = 1 ∨ j = 2 ∨ j = 3 ∨ j = 4 ∨ j = 5) with rfl | rfl | rfl | rfl | rfl | rfl <;> simp at h ⊢) (by
      intro i hi
      rw [hB] at hi
      simp at hi
      rw [if_neg (by omega)]) rfl (by
      intro i hi
      rcases (by omega : i = 0 ∨ i = 1 ∨ i = 2 ∨ i = 3 ∨ i = 4 ∨ i = 5) with rfl | rfl | rfl | rfl | rfl | rfl
      · simp [AH.at, meltE, meltV, renE, ren, renL, rX]
        exact mX
      · simp [AH.at, meltE, meltV, renE, ren, renL, mY, mZ, mP, rY, rZ, rP, rC, renL_app, hdrop, htake]
        exact ⟨mY, mZ⟩
      · simp [AH.at, m2, r2]
      · simp [AH.at, m3, r3]
      · simp [AH.at, m4, r4]
      · simp [AH.at, meltE, renE]) hlow, rfl⟩
theorem put_else_tok (cs pre : List AV) (xs : List AV) (m : Nat) (hm : m < 137438953472) (hxs : lowL 0 xs = true) (X Y Z : AV) (e2 e3 e4 : Option Ent) (mid : Int) (hmid : 0 ≤ mid) (hp : pre.length = 31) (hl : cs.length = 34) (ho : cs.all AV.one = true) (hc : lowL 0 cs = true) (hx : low 5 X = true) (hy : low 5 Y = true) (hz : low 5 Z = true)
    (hpre : lowL 0 pre = true) (h2 : lowE 5 e2 = true) (h3 : lowE 5 e3 = true) (h4 : lowE 5 e4 = true) (d : Int) (o : Bool) :
    CS Tryz.prog envS 128 [.ptr 0 0, .agg cs] [some (.box [X, .ptr 1 0, .int .i64 d, .bool o]), some (.box (pre ++ [Y, .slice (.tok 5) 34 m xs, .int .i64 mid, Z])), e2, e3, e4, some (.tok m)] (.tup []) [some (.box [X, .ptr 1 0, .int .i64 d, .bool o]), some (.box (pre ++ [Y, .slice (.tok 5) 34 (m + 1) (xs ++ cs), .int .i64 mid, Z])), e2, e3, e4, some (.tok (m + 1))] := by
  have lE6 : ∀ {e : Option Ent}, lowE 5 e = true → lowE 6 e = true := fun {e} h => by
    cases e with
    | none => rfl
    | some e => cases e with
      | box cs => exact lowL_mono (by omega) _ h
      | loose n cs => exact lowL_mono (by omega) _ h
      | _ => rfl
  have hlow : lowH 6 [some (.box [X, .ptr 1 0, .int .i64 d, .bool o]), some (.box (pre ++ [Y, .slice (.tok 5) 34 (m + 1) (xs ++ cs), .int .i64 mid, Z])), e2, e3, e4, some (.tok (m + 1))] = true := by
    simp only [lowH, lE6 h2, lE6 h3, lE6 h4, Bool.and_true, Bool.true_and]
    simp [low_mono (by omega : 5 ≤ 6) X hx, low_mono (by omega : 5 ≤ 6) Y hy, low_mono (by omega : 5 ≤ 6) Z hz, lowL_mono (Nat.zero_le 6) pre hpre, lowL_mono (Nat.zero_le 6) cs hc, lowL_mono (Nat.zero_le 6) xs hxs]
  refine CS.of_TrN (H0 := [some (.box [X, .ptr 1 0, .int .i64 d, .bool o]), some (.box (pre ++ [Y, .slice (.tok 5) 34 m xs, .int .i64 mid, Z])), e2, e3, e4, some (.tok m)]) (H1 := [some (.box [X, .ptr 1 0, .int .i64 d, .bool o]), some (.box (pre ++ [Y, .slice (.tok 5) 34 (m + 1) (xs ++ cs), .int .i64 mid, Z])), e2, e3, e4, some (.tok (m + 1))]) 6 (by simp) (c := bodyOf Tryz.f128) Tryz.func128 (by kernel_rfl) 0 (by simp [Tryz.f128]) (fun B hB hG => ?_) (by simp) hlow
  refine Tr.post ?_
  refine Tr.goD oNilS hG (by kernel_rfl) ?_
  have hm1 : 0 ≤ mid := hmid
  simp [Tryz.f128, hp, hm1]
  have hf : ∀ i, i < 5 → (fun i : Nat => i) i = i := fun i hi => rfl
  have l7 : ∀ {a : AV}, low 5 a = true → low 5 a = true := fun h => low_mono (by omega) _ h
  have mX := meltV_id (t := 5) (n := m) (xs := cs) (l7 hx)
  have mY := meltV_id (t := 5) (n := m) (xs := cs) (l7 hy)
  have mZ := meltV_id (t := 5) (n := m) (xs := cs) (l7 hz)
  have mP := meltL_id (t := 5) (n := m) (xs := cs) (lowL_mono (Nat.zero_le 5) pre hpre)
  have lE : ∀ {e : Option Ent}, lowE 5 e = true → lowE 5 e = true := fun {e} h => by
    cases e with
    | none => rfl
    | some e => cases e with
      | box cs => exact lowL_mono (by omega) _ h
      | loose n cs => exact lowL_mono (by omega) _ h
      | _ => rfl
  have m2 := meltE_id (t := 5) (n := m) (xs := cs) (lE h2)
  have m3 := meltE_id (t := 5) (n := m) (xs := cs) (lE h3)
  have m4 := meltE_id (t := 5) (n := m) (xs := cs) (lE h4)
  have rX := ren_fix hf X hx
  have rY := ren_fix hf Y hy
  have rZ := ren_fix hf Z hz
  have rP := renL_low (fun i : Nat => i) pre hpre
  have rC := renL_low (fun i : Nat => i) cs hc
  have rS := renL_low (fun i : Nat => i) xs hxs
  have r2 := renE_fix hf h2
  have r3 := renE_fix hf h3
  have r4 := renE_fix hf h4
  have renL_app : ∀ (φ : Nat → Nat) (a b : List AV), renL φ (a ++ b) = renL φ a ++ renL φ b := fun φ a b => by induction a with
    | nil => rfl
    | cons x a ih => simp [renL, ih]
  have hdrop : ∀ (r : AV), List.drop 33 (pre ++ [Y, r, .int .i64 mid, Z]) = [.int .i64 mid, Z] := fun r => by
    rw [List.drop_append, List.drop_eq_nil_of_le (by omega), hp]; rfl
  have htake : ∀ (a b c e : AV), List.take 32 (pre ++ [a, b, c, e]) = pre ++ [a] := fun a b c e => by
    rw [List.take_append, List.take_of_length_le (by omega), hp]; rfl
  have happ := fun H fid ow ys (hk : AH.at H 5 = some (.tok m)) (h : ys.all AV.one = true) => aappendL_tok (P := Tryz.prog) (H := H) (fid := fid) (k := 5) (n := m) (xs := xs) (ow := ow) (ys := ys) elemNdP hk (by omega) h
  have ht : cs.take 34 = cs := List.take_of_length_le (by omega)
  have ho2 : ∀ x ∈ cs, AV.one x = true := fun x hx => List.all_eq_true.1 ho x hx
  simp only [AV.one] at ho2
  refine LpD.coin oNilS hG (by kernel_rfl) (by kernel_rfl) (by kernel_rfl) (by simp [mkT]) ?_
  intro x y
  cases x with
  | true =>
    simp
    refine LpD.turns oNilS hG [11, 15] [] (by kernel_rfl) ?_
    simp [hl, ht, hp, aapp_soft softSN, happ]
    rw [if_pos ho2]
    simp [hl, ht, hp]
    refine ⟨mkT 103 [], [some (.box [X, .ptr 1 0, .int .i64 d, .bool o]), some (.box (pre ++ [Y, .slice (.tok 5) 34 (m + 1) (xs ++ cs), .int .i64 mid, Z])), e2, e3, e4, some (.tok (m + 1))], Less.put 5 m cs rfl (fun i : Nat => i) 6 (by simp [hB]) (by
      intro i j hi hj h
      exact h) (by
      intro i hi
      rfl) rfl (by
      intro i hi
      rcases (by omega : i = 0 ∨ i = 1 ∨ i = 2 ∨ i = 3 ∨ i = 4 ∨ i = 5) with rfl | rfl | rfl | rfl | rfl | rfl
      · simp [AH.at, meltE, meltV, renE, ren, renL, rX]
        exact mX
      · simp [AH.at, meltE, meltV, renE, ren, renL, mY, mZ, mP, rY, rZ, rP, rC, rS, renL_app, hdrop, htake]
        exact ⟨mY, mZ⟩
      · simp [AH.at, m2, r2]
      · simp [AH.at, m3, r3]
      · simp [AH.at, m4, r4]
      · simp [AH.at, meltE, renE]) hlow, rfl⟩
  | false =>
    have happC := fun H fid ow (hk : AH.at H 5 = some (.tok m)) => aappendL_tok (P := Tryz.prog) (H := H) (fid := fid) (k := 5) (n := m) (xs := xs) (ow := ow) (ys := cs) elemNdP hk (by omega) ho
    simp
    refine LpD.turns oNilS hG [14, 18] [(0, 14), (1, 14), (2, 14), (3, 14)] (by kernel_rfl) ?_
    simp [hl, ht, hp, aapp_soft softSN, happC]
    refine ⟨mkT 103 [], [some (.box [X, .ptr 1 0, .int .i64 d, .bool o]), some (.box (pre ++ [Y, .slice (.tok 5) 34 (m + 1) (xs ++ cs), .int .i64 mid, Z])), e2, e3, e4, some (.tok (m + 1))], Less.put 5 m cs rfl (fun i : Nat => i) 6 (by simp [hB]) (by
      intro i j hi hj h
      exact h) (by
      intro i hi
      rfl) rfl (by
      intro i hi
      rcases (by omega : i = 0 ∨ i = 1 ∨ i = 2 ∨ i = 3 ∨ i = 4 ∨ i = 5) with rfl | rfl | rfl | rfl | rfl | rfl
      · simp [AH.at, meltE, meltV, renE, ren, renL, rX]
        exact mX
      · simp [AH.at, meltE, meltV, renE, ren, renL, mY, mZ, mP, rY, rZ, rP, rC, rS, renL_app, hdrop, htake]
        exact ⟨mY, mZ⟩
      · simp [AH.at, m2, r2]
      · simp [AH.at, m3, r3]
      · simp [AH.at, m4, r4]
      · simp [AH.at, meltE, renE]) hlow, rfl⟩
end Go.Proofs.YtejjlojfgcgopaaGreatDoor

namespace Go.Proofs.Fw
open Go.RowKit
theorem CS.unmask {P : Program} {E : Env} {f : FuncId} {args : List AV} {v : AV} {H K H' : AH} (S : List Nat) (h : CS P E f args (mask H S) v K) (h1 : ∀ id, (id ∈ S ∨ H.length ≤ id) → H'.at id = K.at id)
    (h2 : ∀ id, id ∉ S → id < H.length → H'.at id = H.at id) : CS P E f args H v H' := by
  intro g w cargs R hG hA
  refine (h g w cargs (R.mask S) hG hA).mono ?_
  rintro e w1 ⟨g1, cv, rfl, R1, p1, hr⟩
  have dec : ∀ id, (id ∈ S ∨ H.length ≤ id) ∨ (id ∉ S ∧ id < H.length) := fun id => by
    by_cases hs : id ∈ S
    · exact .inl (.inl hs)
    · rcases Nat.lt_or_ge id H.length with hl | hl
      · exact .inr ⟨hs, hl⟩
      · exact .inl (.inr hl)
  have hout : ∀ id, id ∉ S → id < H.length → g1.M id = g.M id ∧ K.at id = some .hid := fun id hs hl => p1.hid id (mask_at_out hs hl)
  have hvis : ∀ b, (∀ id e ge, H.at id = some e → e ≠ .hid → g.M id = some ge → ge.block ≠ b) → ∀ id e ge, (mask H S).at id = some e → e ≠ .hid → g.M id = some ge → ge.block ≠ b := fun b hn id e ge he hne hM => by
    have : H.at id = some e := by
      rw [mask_at] at he
      split at he
      · split at he
        · exact he
        · injection he with he; exact absurd he.symm hne
      · cases he
    exact hn id e ge this hne hM
  refine ⟨g1, cv, rfl, ⟨R1.imm, ?_, ?_, R1.inj, R1.blk⟩, ⟨p1.le, ?_, p1.new, ?_, p1.size, p1.os, p1.tape, p1.output⟩, hr⟩
  · intro id hn
    rcases dec id with hd | ⟨hs, hl⟩
    · rw [h1 id hd] at hn
      exact R1.free id hn
    · rw [h2 id hs hl] at hn
      rw [(hout id hs hl).1]
      exact R.free id hn
  · intro id e he hne
    rcases dec id with hd | ⟨hs, hl⟩
    · rw [h1 id hd] at he
      exact R1.ent id e he hne
    · rw [h2 id hs hl] at he
      obtain ⟨ge, hM, hrep⟩ := R.ent id e he hne
      obtain ⟨h4, h5⟩ := hout id hs hl
      obtain ⟨h6, h7⟩ := p1.old ge.block (R.blk id ge hM) (fun id2 e2 ge2 he2 hne2 hM2 hb => by
        have := R.inj id2 id ge2 ge hM2 hM hb
        subst this
        rw [mask_at_out hs hl] at he2
        injection he2 with he2
        exact hne2 he2.symm)
      exact ⟨ge, h4.trans hM, hrep.keep p1.le h6 h7⟩
  · intro id hh
    rcases dec id with hd | ⟨hs, hl⟩
    · have hl := at_lt hh
      rcases hd with hs | hge
      · have hm : (mask H S).at id = some .hid := by rw [mask_at_in hs hl, hh]
        obtain ⟨h3, h4⟩ := p1.hid id hm
        exact ⟨h3, by rw [h1 id (.inl hs), h4]⟩
      · omega
    · obtain ⟨h3, h4⟩ := hout id hs hl
      exact ⟨h3, by rw [h2 id hs hl, hh]⟩
  · exact fun b hb hn => p1.old b hb (hvis b hn)
theorem CS.graft {P : Program} {E : Env} {f : FuncId} {args : List AV} {v : AV} {k n : Nat} (φ : Nat → Nat) (S : List Nat) {H0 H0' H H' : AH} (h : CS P E f args H0 v H0') (hk : H0.length = k) (hk' : H0'.length = n) (hkn : k ≤ n)
    (hφ : ∀ i j, i < n → j < n → φ i = φ j → i = j) (hE : ∀ i, low 0 (E.glob i) = true) (ha : lowL k args = true) (hv : low n v = true) (hl : lowH k H0 = true) (hl' : lowH n H0' = true) (hlen : H'.length = H.length)
    (hH : ∀ i, i < k → (mask H S).at (φ i) = (H0.at i).map (renE φ)) (hN : ∀ i, k ≤ i → i < n → (mask H S).at (φ i) = none) (hH' : ∀ i, i < n → (mask H' S).at (φ i) = (H0'.at i).map (renE φ))
    (hO : ∀ j, (∀ i, i < n → φ i ≠ j) → H'.at j = H.at j) (hS : ∀ j, j ∉ S → j < H.length → H'.at j = H.at j) : CS P E f (renL φ args) H (ren φ v) H' := by
  have h1 := CS.grow φ (H := mask H S) (H' := mask H' S) h hk hk' hkn hφ hE ha hv hl hl' hH hN hH' (by
    intro j hj
    rw [mask_at, mask_at, hlen, hO j hj])
  refine CS.unmask S h1 ?_ hS
  intro id hid
  rw [mask_at, hlen]
  rcases hid with hid | hid
  · by_cases hl : id < H.length
    · rw [if_pos hl, if_pos (by simpa using hid)]
    · rw [if_neg hl, at_ge (by omega)]
  · rw [if_neg (by omega), at_ge (by omega)]
end Go.Proofs.Fw

namespace Go.Proofs.YtejjlojfgcgopaaGreatDoor
open Go.RowKit Go.Proofs.Fw
set_option maxRecDepth 100000
set_option maxHeartbeats 4000000
theorem put_top_tok {H : AH} {b T : Nat} (cs xs : List AV) (m : Nat) (hm : m < 137438953472) (hl : cs.length = 34) (ho : cs.all AV.one = true) (hc : lowL 0 cs = true) (hx : lowL 0 xs = true) (d : Int) (o : Bool)
    (hb : H.at b = some (.box [.slice (.tok T) 34 m xs, .nilPtr, .int .i64 d, .bool o])) (hT : H.at T = some (.tok m)) :
    CS Tryz.prog envS 128 [.ptr b 0, .agg cs] H (.tup []) ((H.set b (some (.box [.slice (.tok T) 34 (m + 1) (xs ++ cs), .nilPtr, .int .i64 d, .bool o]))).set T (some (.tok (m + 1)))) := by
  have hne : b ≠ T := fun h => by subst h; rw [hb] at hT; cases hT
  have hbl := at_lt hb
  have hTl := at_lt hT
  have two : ∀ {i : Nat}, i < 2 → i = 0 ∨ i = 1 := fun h => by omega
  have l2 := fun (l : List AV) (h : lowL 0 l = true) => lowL_mono (Nat.zero_le 2) l h
  have r0 := fun (l : List AV) (h : lowL 0 l = true) => renL_low (fun i : Nat => if i = 0 then b else T) l h
  have hxc : lowL 0 (xs ++ cs) = true := by rw [lowL_append, hx, hc]; rfl
  have := CS.embed (k := 2) (fun i => if i = 0 then b else T) (H := H) (H' := (H.set b (some (.box [.slice (.tok T) 34 (m + 1) (xs ++ cs), .nilPtr, .int .i64 d, .bool o]))).set T (some (.tok (m + 1))))
    (put1_cs m hm hl ho hc hx d o) rfl rfl (by
      intro i j hi hj h
      rcases two hi with rfl | rfl <;> rcases two hj with rfl | rfl
      · rfl
      · exact absurd h hne
      · exact absurd h.symm hne
      · rfl) lowS (by simp [l2 cs hc]) rfl (by simp [lowH, lowE, l2 xs hx]) (by simp [lowH, lowE, l2 xs hx, l2 cs hc]) (by
      intro i hi
      rcases two hi with rfl | rfl
      · rw [if_pos rfl, hb]
        simp [AH.at, renE, renL, ren, r0 xs hx]
      · rw [if_neg (by decide), hT]
        simp [AH.at, renE]) (by
      intro i hi
      rcases two hi with rfl | rfl
      · rw [if_pos rfl, at_set_ne (fun h => hne h.symm), at_set_self hb]
        simp [AH.at, renE, renL, ren, r0 _ hxc]
      · have : AH.at (H.set b (some (.box [.slice (.tok T) 34 (m + 1) (xs ++ cs), .nilPtr, .int .i64 d, .bool o]))) T = some (.tok m) := by rw [at_set_ne hne, hT]
        rw [if_neg (by decide), at_set_self this]
        simp [AH.at, renE]) (by
      intro j hj
      have h0 := hj 0 (by decide)
      have h1 := hj 1 (by decide)
      simp at h0 h1
      rw [at_set_ne h1, at_set_ne h0])
  simpa [renL, ren, r0 cs hc] using this
end Go.Proofs.YtejjlojfgcgopaaGreatDoor
