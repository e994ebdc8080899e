/- expr.Text, expr.CondText: what they write. -/
import Derived.Test.YtpmonaempgjgbaaGreatDoorEyB
set_option linter.unusedSimpArgs false
set_option linter.unusedVariables false
namespace Go.Proofs.YtpmonaempgjgbaaGreatDoor
open Go.RowKit Go.Proofs.Fw
set_option maxRecDepth 100000
set_option maxHeartbeats 4000000

def wordsT (nt : Int → List UInt8) (k n : Int) (s : List UInt8) (a : List Tn) (x : List (List UInt8)) : List UInt8 :=
  if k = 1 then nt n else if k = 2 then s else if k = 3 then s ++ [40] ++ Lib.join x [44, 32] ++ [41]
  else if k = 4 then [45] ++ brackT (x.getD 0 []) (decide (levelT (a.getD 0 default).k < 3))
  else brackT (x.getD 0 []) (decide (levelT (a.getD 0 default).k < levelT k)) ++ signT k ++ brackT (x.getD 1 []) (decide (levelT (a.getD 1 default).k ≤ levelT k) || (a.getD 1 default).k == 4)
mutual
def txt (nt : Int → List UInt8) : Tn → List UInt8
  | .lf k n s => wordsT nt k n s [] []
  | .nd k n s a => wordsT nt k n s a (txts nt a)
def txts (nt : Int → List UInt8) : List Tn → List (List UInt8)
  | [] => []
  | t :: l => txt nt t :: txts nt l
end
theorem txt_eq (nt : Int → List UInt8) (t : Tn) : txt nt t = wordsT nt t.k t.n t.s t.kids (txts nt t.kids) := by cases t <;> rfl
theorem txts_map (nt : Int → List UInt8) : ∀ l : List Tn, txts nt l = l.map (txt nt)
  | [] => rfl
  | t :: l => by rw [txts, txts_map nt l, List.map_cons]
def gk (S : Int → Prop) (k n : Int) (m : Nat) : Prop := (k = 1 ∧ S n) ∨ k = 2 ∨ (k = 3 ∧ 0 < m) ∨ (k = 4 ∧ m = 1) ∨ ((k < 1 ∨ 4 < k) ∧ m = 2)
mutual
/-- A tree that can be written. -/
def good (S : Int → Prop) : Tn → Prop
  | .lf k n _ => gk S k n 0
  | .nd k n _ a => gk S k n a.length ∧ ((k = 1 ∨ k = 2) ∨ goods S a)
def goods (S : Int → Prop) : List Tn → Prop
  | [] => True
  | t :: l => good S t ∧ goods S l
end
theorem goods_mem {S : Int → Prop} : ∀ {l : List Tn}, goods S l → ∀ t ∈ l, good S t
  | [], _, _, h => by cases h
  | u :: l, h, t, ht => by
    rcases List.mem_cons.1 ht with rfl | ht
    · exact h.1
    · exact goods_mem h.2 t ht
theorem good_gk {S : Int → Prop} {t : Tn} (h : good S t) : gk S t.k t.n t.kids.length := by
  cases t with
  | lf => exact h
  | nd => exact h.1
theorem good_kid {S : Int → Prop} {t u : Tn} (h : good S t) (hk : ¬ (t.k = 1 ∨ t.k = 2)) (hu : u ∈ t.kids) : good S u := by
  cases t with
  | lf => cases hu
  | nd k n s a =>
    rcases h.2 with h1 | h1
    · exact absurd h1 hk
    · exact goods_mem h1 u hu
theorem join_len {sep : List UInt8} : ∀ {x : List (List UInt8)} {s : List UInt8}, s ∈ x → s.length ≤ (Lib.join x sep).length
  | [], _, h => by cases h
  | [y], s, h => by
    rcases List.mem_cons.1 h with rfl | h
    · rw [Lib.join_one]; exact Nat.le_refl _
    · cases h
  | y :: z :: x, s, h => by
    have e : Lib.join (y :: z :: x) sep = y ++ sep ++ Lib.join (z :: x) sep := by simp [Lib.join, List.intercalate]
    rw [e]
    simp only [List.length_append]
    rcases List.mem_cons.1 h with rfl | h
    · omega
    · have := join_len (sep := sep) h
      omega
theorem brack_le (s : List UInt8) (b : Bool) : s.length ≤ (brackT s b).length := by
  cases b with
  | true => simp [brackT]; omega
  | false => simp [brackT]

open Classical in
noncomputable def oNum (S : Int → Prop) (nt : Int → List UInt8) (n : Int) : Orc := fun f args H => if f = 65 ∧ args = [.int .i64 n] ∧ S n then some (.str (nt n), H) else none
theorem oNum_sound {S : Int → Prop} {nt : Int → List UInt8} (hS : NumOk S nt) (n : Int) : Sound Tryz.prog envF (oNum S nt n) := by
  intro f args H v H' ho
  unfold oNum at ho
  split at ho
  · rename_i hx
    obtain ⟨rfl, rfl, hs⟩ := hx
    injection ho with ho
    simp only [Prod.mk.injEq] at ho
    obtain ⟨rfl, rfl⟩ := ho
    exact ⟨hS n hs _, Nat.le_refl _, fun _ _ h => h⟩
  · cases ho
def oBrk : Orc := oPure 67 (fun args => match args with
  | [.str s, .bool b] => if s.length < 1099511627776 then some (s, b) else none
  | _ => none) fun x => .str (brackT x.1 x.2)
theorem oBrk_sound : Sound Tryz.prog envF oBrk := oPure_sound fun args x H h => by
  split at h
  · split at h
    · injection h with h
      subst h
      exact brack_cs _ _ ‹_› H
    · cases h
  · cases h
structure TxO (O : Orc) (S : Int → Prop) (nt : Int → List UInt8) (L : List Tn) (n : Int) : Prop where
  text : ∀ u ∈ L, good S u → okT u = true → (txt nt u).length < 1099511627776 → ∀ H, O 26 [.agg (tC u)] H = some (.str (txt nt u), H)
  num : S n → ∀ H, O 65 [.int .i64 n] H = some (.str (nt n), H)
  join : ∀ (ow : Own) (m : Nat) (xs : List (List UInt8)) (H : AH), m = xs.length → xs ≠ [] → xs.length ≤ 140737488355328 → (Lib.join xs [44, 32]).length ≤ 140737488355328 → O 66 [.slice ow 1 m (xs.map .str), .str [44, 32]] H = some (.str (Lib.join xs [44, 32]), H)
  brk : ∀ (s : List UInt8) (b : Bool) (H : AH), s.length < 1099511627776 → O 67 [.str s, .bool b] H = some (.str (brackT s b), H)
  lev : ∀ (u : Tn) (H : AH), O 68 [.agg (tC u)] H = some (.int .i64 (levelT u.k), H)

noncomputable def oTx (S : Int → Prop) (nt : Int → List UInt8) (L : List Tn) (n : Int) : Orc := oTab [(26, oTn 26 (fun u => u ∈ L ∧ good S u ∧ okT u = true ∧ (txt nt u).length < 1099511627776) (fun u => .str (txt nt u))),
  (65, oNum S nt n), (66, oJoin), (67, oBrk), (68, oTn 68 (fun _ => True) (fun u => .int .i64 (levelT u.k)))]
theorem oTx_ok (S : Int → Prop) (nt : Int → List UInt8) (L : List Tn) (n : Int) : TxO (oTx S nt L n) S nt L n where
  text := fun u hu hg ho hl H => by
    have : oTx S nt L n 26 [.agg (tC u)] H = oTn 26 (fun u => u ∈ L ∧ good S u ∧ okT u = true ∧ (txt nt u).length < 1099511627776) (fun u => .str (txt nt u)) 26 [.agg (tC u)] H := by simp only [oTx, oTab, List.lookup]; rfl
    rw [this, oTn_at ⟨hu, hg, ho, hl⟩]
  num := fun hs H => by
    have : oTx S nt L n 65 [.int .i64 n] H = oNum S nt n 65 [.int .i64 n] H := by simp only [oTx, oTab, List.lookup]; rfl
    rw [this]
    unfold oNum
    rw [if_pos ⟨rfl, rfl, hs⟩]
  join := fun ow m xs H hm h0 hn hl => by
    have : oTx S nt L n 66 [.slice ow 1 m (xs.map .str), .str [44, 32]] H = oJoin 66 [.slice ow 1 m (xs.map .str), .str [44, 32]] H := by simp only [oTx, oTab, List.lookup]; rfl
    rw [this, oJoin_at hm h0 hn hl]
  brk := fun s b H hs => by
    have : oTx S nt L n 67 [.str s, .bool b] H = oBrk 67 [.str s, .bool b] H := by simp only [oTx, oTab, List.lookup]; rfl
    rw [this]
    simp [oBrk, oPure, hs]
  lev := fun u H => by
    have : oTx S nt L n 68 [.agg (tC u)] H = oTn 68 (fun _ => True) (fun u => .int .i64 (levelT u.k)) 68 [.agg (tC u)] H := by simp only [oTx, oTab, List.lookup]; rfl
    rw [this, oTn_at trivial]
theorem oTx_cx {S : Int → Prop} {nt : Int → List UInt8} (hS : NumOk S nt) {L : List Tn} (n : Int) (h : ∀ u ∈ L, good S u → okT u = true → (txt nt u).length < 1099511627776 → ∀ H, CS Tryz.prog envF 26 [.agg (tC u)] H (.str (txt nt u)) H) : Cx (oTx S nt L n) Tryz.prog envF := ⟨oTab_sound (by
  intro p hp
  simp only [List.mem_cons, List.not_mem_nil, or_false] at hp
  rcases hp with rfl | rfl | rfl | rfl | rfl
  · exact oTn_sound fun u hu H => h u hu.1 hu.2.1 hu.2.2.1 hu.2.2.2 H
  · exact oNum_sound hS n
  · exact oJoin_sound
  · exact oBrk_sound
  · exact oTn_sound fun u _ H => level_cs u H), methFOk, mixed⟩

def outS (l : List (List UInt8)) : AV := if l = [] then .nilSlice else .slice (.tok 1) 1 l.length (l.map .str)
theorem elemS : elemChk Tryz.prog 76 1 = true := by kernel_rfl
def textH (l : List Tn) (i : Nat) : AH := match l with
  | [] => []
  | u :: _ => [some (.box (tC u)), some (.tok i)]
theorem sign_find (k : Int) : ∃ r, findA (.int .i64 k) [(.int .i64 5, .str [32, 43, 32]), (.int .i64 6, .str [32, 45, 32]), (.int .i64 7, .str [32, 42, 32]), (.int .i64 8, .str [32, 47, 32])] = some r ∧ ((r = none ∧ signT k = []) ∨ r = some (.str (signT k))) := by
  by_cases h5 : k = 5
  · subst h5; exact ⟨_, rfl, .inr rfl⟩
  by_cases h6 : k = 6
  · subst h6; exact ⟨_, rfl, .inr rfl⟩
  by_cases h7 : k = 7
  · subst h7; exact ⟨_, rfl, .inr rfl⟩
  by_cases h8 : k = 8
  · subst h8; exact ⟨_, rfl, .inr rfl⟩
  exact ⟨none, by simp [findA, keyEq, h5, h6, h7, h8], .inl ⟨rfl, by simp [signT, h5, h6, h7, h8]⟩⟩
theorem find_1 : findA (.int .i64 5) [] = some none := rfl
theorem find_2 (v : AV) : findA (.int .i64 6) [(.int .i64 5, v)] = some none := rfl
theorem find_3 (v w : AV) : findA (.int .i64 7) [(.int .i64 5, v), (.int .i64 6, w)] = some none := rfl
theorem find_4 (v w x : AV) : findA (.int .i64 8) [(.int .i64 5, v), (.int .i64 6, w), (.int .i64 7, x)] = some none := rfl
theorem kdOk_i (n : Int) : kdOk (.int .i64) (.int .i64 n) = true := rfl
def TextI (nt : Int → List UInt8) (t : Tn) (k : Nat) (tt : List AV) (H : AH) : Prop :=
  ∃ i, i + k = t.kids.length ∧ tt = mkT 94 [(1, .vptr (tC t) 0), (3, outS ((t.kids.take i).map (txt nt))), (23, t.ar), (24, .int .i64 (t.kids.length : Int)), (25, .int .i64 ((i : Nat) : Int))] ∧
    H = textH (t.kids.take i) i
@[simp] theorem keyDesc_map : keyDesc Tryz.prog 147 = some (.int .i64, 9) := by kernel_rfl
@[simp] theorem bsStr (a : List UInt8) : abuildSlice Tryz.prog 76 1 [(0, .str a)] = some (.slice .full 1 1 [.str a]) := by kernel_rfl
theorem len2 : ∀ {l : List Tn}, l.length = 2 → ∃ u v, l = [u, v]
  | [u, v], _ => ⟨u, v, rfl⟩
@[simp] theorem zeroAV_str : zeroAV Tryz.prog 9 = some (.str []) := by kernel_rfl

theorem text_cs {S : Int → Prop} {nt : Int → List UInt8} (hS : NumOk S nt) (t : Tn) (ht : okT t = true) (hg : good S t) (hl : (txt nt t).length < 1099511627776) (H : AH) : CS Tryz.prog envF 26 [.agg (tC t)] H (.str (txt nt t)) H := by
  have X : Cx (oTx S nt t.kids t.n) Tryz.prog envF := oTx_cx hS t.n fun u hu g o l H => text_cs hS u o g l H
  have hO := oTx_ok S nt t.kids t.n
  generalize oTx S nt t.kids t.n = O at X hO
  have hgk := good_gk hg
  rw [txt_eq] at hl ⊢
  refine CS.tr0 lowF Tryz.func26 (by kernel_rfl) 0 (by simp [Tryz.f26]) (fun B hB hG => ?_) (by simp) (by simp) H
  refine Tr.goM X hG (by kernel_rfl) ?_
  by_cases h1 : t.k = 1
  · have hs : S t.n := by rcases hgk with h | h | h | h | h <;> first | exact h.2 | omega
    simp [Tryz.f26, h1, hO.num hs, wordsT]
  by_cases h2 : t.k = 2
  · simp [Tryz.f26, h2, wordsT]
  have hgd : ∀ u ∈ t.kids, good S u := fun u hu => good_kid hg (by omega) hu
  have hok : ∀ u ∈ t.kids, okT u = true := fun u hu => okT_kid ht hu
  by_cases h3 : t.k = 3
  · have hm : 0 < t.kids.length := by rcases hgk with h | h | h | h | h <;> omega
    have hw : wordsT nt t.k t.n t.s t.kids (txts nt t.kids) = t.s ++ [40] ++ Lib.join (t.kids.map (txt nt)) [44, 32] ++ [41] := by unfold wordsT; rw [if_neg h1, if_neg h2, if_pos h3, txts_map]
    rw [hw] at hl ⊢
    simp only [List.length_append, List.length_cons, List.length_nil] at hl
    have hkl : ∀ u ∈ t.kids, (txt nt u).length < 1099511627776 := fun u hu => by
      have := join_len (sep := [44, 32]) (x := t.kids.map (txt nt)) (List.mem_map_of_mem hu)
      omega
    have hlen := okT_len ht
    simp [Tryz.f26, h3]
    refine LpD.loopN X hG (by kernel_rfl) (TextI nt t) t.kids.length (t' := mkT 94 [(1, .vptr (tC t) 0), (3, .nilSlice), (23, t.ar), (24, .int .i64 (t.kids.length : Int)), (25, .int .i64 ((0 : Nat) : Int))]) (H' := [])
      (Less.mk0 hB (by simp [h3])) ⟨0, by omega, rfl, rfl⟩ ?_
    rintro k tt H ⟨i, hik, rfl, rfl⟩
    cases k with
    | zero =>
      obtain rfl : i = t.kids.length := by omega
      rw [List.take_length]
      obtain ⟨u, hH⟩ : ∃ u, textH t.kids t.kids.length = [some (.box (tC u)), some (.tok t.kids.length)] := by
        cases hk : t.kids with
        | nil => rw [hk] at hm; simp at hm
        | cons u l => exact ⟨u, rfl⟩
      rw [hH]
      have hxl : (t.kids.map (txt nt)).length = t.kids.length := by simp
      generalize t.kids.map (txt nt) = xs at *
      have hx0 : xs ≠ [] := fun h => by rw [h] at hxl; simp at hxl; omega
      have hj := fun ow H => hO.join ow xs.length xs H rfl hx0 (by omega) (by omega)
      have e1 : t.s.length ≤ 9223372036854775806 := by omega
      have e2 : t.s.length + 1 ≤ 9223372036854775807 := by omega
      have e3 : t.s.length + ((Lib.join xs [44, 32]).length + 1) ≤ 9223372036854775807 := by omega
      have e4 : t.s.length + (1 + (Lib.join xs [44, 32]).length) ≤ 9223372036854775807 := by omega
      have e5 : t.s.length + 1 + (Lib.join xs [44, 32]).length ≤ 9223372036854775807 := by omega
      have e6 : t.s.length + 1 + (Lib.join xs [44, 32]).length + 1 ≤ 9223372036854775807 := by omega
      have e7 : t.s.length + ((Lib.join xs [44, 32]).length + 1 + 1) ≤ 9223372036854775807 := by omega
      have e8 : t.s.length + (Lib.join xs [44, 32]).length + 1 ≤ 9223372036854775807 := by omega
      have e9 : t.s.length + ((Lib.join xs [44, 32]).length + 1) ≤ 9223372036854775806 := by omega
      simp [Blk_exit, outS, hx0]
      refine LpD.turns X hG [4] [(0, 4), (1, 4), (2, 4)] (by kernel_rfl) ?_
      simp [hj, e1, e2, e3, e4, e5, e6, e7, e8, e9]
    | succ k =>
      have hi : i < t.kids.length := by omega
      have hi' : (i : Int) < t.kids.length := by omega
      obtain ⟨a, ha⟩ : ∃ a, t.kids[i]? = some a := ⟨_, List.getElem?_eq_getElem hi⟩
      obtain ⟨ca1, ca2⟩ := tsC_at t.kids i ha
      have hmm : a ∈ t.kids := List.mem_of_getElem? ha
      have htk1 : t.kids.take (i + 1) = t.kids.take i ++ [a] := by rw [List.take_add_one, ha, Option.toList_some]
      have htk : (t.kids.take (i + 1)).map (txt nt) = (t.kids.take i).map (txt nt) ++ [txt nt a] := by rw [htk1, List.map_append]; rfl
      have hol : ((t.kids.take i).map (txt nt)).length = i := by rw [List.length_map, List.length_take]; omega
      have w1 : IntKind.i64.wrap ((i : Int) + 1) = (i : Int) + 1 := wrap_i64 (by omega) (by omega)
      have hc := fun H => hO.text a hmm (hgd a hmm) (hok a hmm) (hkl a hmm) H
      simp only [tC_eq] at hc ca1
      have hcase : (i = 0 ∧ (t.kids.take i).map (txt nt) = [] ∧ textH (t.kids.take i) i = [] ∧ textH (t.kids.take (i + 1)) (i + 1) = [some (.box (tC a)), some (.tok (i + 1))]) ∨
          (∃ u0, ¬ (t.kids.take i).map (txt nt) = [] ∧ textH (t.kids.take i) i = [some (.box (tC u0)), some (.tok i)] ∧ textH (t.kids.take (i + 1)) (i + 1) = [some (.box (tC u0)), some (.tok (i + 1))]) := by
        rw [htk1]
        cases hq : t.kids.take i with
        | nil =>
          rw [hq] at hol
          exact .inl ⟨by simpa using hol.symm, rfl, rfl, rfl⟩
        | cons u0 l => exact .inr ⟨u0, by simp, rfl, rfl⟩
      generalize hxs : (t.kids.take i).map (txt nt) = l at *
      rcases hcase with ⟨hi0, hl0, hH, hH'⟩ | ⟨u0, hl0, hH, hH'⟩
      · subst hl0
        rw [hH]
        have happ := fun H => aappend_nil (P := Tryz.prog) (t := 76) (sz := 1) (m := 1) (H := H) (fid := 1) (ow := .full) (ys := [.str (txt nt a)]) elemS (by decide) (by decide) (by simp)
        simp [hi, hi', ca1, ca2, hc, outS, happ, w1]
        refine Nxt.mk k (by omega) (Less.mkK 2 (l' := [(1, .vptr (tC t) 0), (3, outS [txt nt a]), (23, t.ar), (24, .int .i64 (t.kids.length : Int)), (25, .int .i64 ((i + 1 : Nat) : Int))])
          (H' := [some (.box (tC a)), some (.tok (i + 1))]) (by simp [hB]) (by simp [outS]) (by simp [hi0]) (by simp)) ⟨i + 1, by omega, by rw [htk]; rfl, hH'.symm⟩
      · rw [hH]
        have happ := fun H (h : AH.at H 1 = some (.tok i)) => aappend_tok (P := Tryz.prog) (t := 76) (sz := 1) (m := 1) (H := H) (fid := 3) (ow := .full) (xs := l.map .str) (ys := [.str (txt nt a)]) elemS h (by decide) (by omega) (by simp)
        have hlow : lowL 2 (l.map AV.str) = true := by
          clear happ hl0 hol htk hxs
          induction l with
          | nil => rfl
          | cons x l ih => simp [ih]
        simp [hi, hi', ca1, ca2, hc, outS, hl0, hol, happ, w1]
        refine Nxt.mk k (by omega) (Less.mkK 2 (l' := [(1, .vptr (tC t) 0), (3, outS (l ++ [txt nt a])), (23, t.ar), (24, .int .i64 (t.kids.length : Int)), (25, .int .i64 ((i + 1 : Nat) : Int))])
          (H' := [some (.box (tC u0)), some (.tok (i + 1))]) (by simp [hB]) (by simp [outS, hol, hlow]) (by simp) (by simp)) ⟨i + 1, by omega, by rw [htk], hH'.symm⟩
  by_cases h4 : t.k = 4
  · have hm : t.kids.length = 1 := by rcases hgk with h | h | h | h | h <;> omega
    obtain ⟨u, hu⟩ := List.length_eq_one_iff.1 hm
    have hts : tsC t.kids = [.int .i64 u.k, .int .i64 u.n, .str u.s, u.ar] := by rw [hu]; simp [tsC]
    have hmem : u ∈ t.kids := by rw [hu]; simp
    have hx0 := aidxT1 (t := t) (i := 0) (by omega)
    have hw : wordsT nt t.k t.n t.s t.kids (txts nt t.kids) = [45] ++ brackT (txt nt u) (decide (levelT u.k < 3)) := by unfold wordsT; rw [if_neg h1, if_neg h2, if_neg h3, if_pos h4, hu]; rfl
    rw [hw] at hl ⊢
    simp only [List.length_append, List.length_cons, List.length_nil] at hl
    have hb := brack_le (txt nt u) (decide (levelT u.k < 3))
    have hc := fun H => hO.text u hmem (hgd u hmem) (hok u hmem) (by omega) H
    have hlv := fun H => hO.lev u H
    have hbk := fun b H => hO.brk (txt nt u) b H (by omega)
    have e1 : (brackT (txt nt u) (decide (levelT u.k < 3))).length ≤ 9223372036854775806 := by omega
    have e2 : (brackT (txt nt u) (decide (levelT u.k < 3))).length + 1 ≤ 9223372036854775807 := by omega
    have e3 : 1 + (brackT (txt nt u) (decide (levelT u.k < 3))).length ≤ 9223372036854775807 := by omega
    simp at hx0
    simp only [tC_eq] at hc hlv
    simp [Tryz.f26, h4]
    refine LpD.turns X hG [4, 9, 11] [(4, 5), (4, 6), (4, 7), (4, 8)] (by kernel_rfl) ?_
    simp [hx0, hts, hc, hlv, hbk, e1, e2, e3]
  have hm : t.kids.length = 2 := by rcases hgk with h | h | h | h | h <;> omega
  obtain ⟨u, v, hu⟩ := len2 hm
  have hts : tsC t.kids = [.int .i64 u.k, .int .i64 u.n, .str u.s, u.ar, .int .i64 v.k, .int .i64 v.n, .str v.s, v.ar] := by rw [hu]; simp [tsC]
  have hmu : u ∈ t.kids := by rw [hu]; simp
  have hmv : v ∈ t.kids := by rw [hu]; simp
  have hx0 := aidxT1 (t := t) (i := 0) (by omega)
  have hx1 := aidxT1 (t := t) (i := 1) (by omega)
  have hw : wordsT nt t.k t.n t.s t.kids (txts nt t.kids) = brackT (txt nt u) (decide (levelT u.k < levelT t.k)) ++ signT t.k ++ brackT (txt nt v) (decide (levelT v.k ≤ levelT t.k) || v.k == 4) := by unfold wordsT; rw [if_neg h1, if_neg h2, if_neg h3, if_neg h4, hu]; rfl
  rw [hw] at hl ⊢
  simp only [List.length_append] at hl
  have hbu := brack_le (txt nt u) (decide (levelT u.k < levelT t.k))
  have hbv := brack_le (txt nt v) (decide (levelT v.k ≤ levelT t.k) || v.k == 4)
  have hcu := fun H => hO.text u hmu (hgd u hmu) (hok u hmu) (by omega) H
  have hcv := fun H => hO.text v hmv (hgd v hmv) (hok v hmv) (by omega) H
  have hlt := fun H => hO.lev t H
  have hlu := fun H => hO.lev u H
  have hlv := fun H => hO.lev v H
  have hku := fun b H => hO.brk (txt nt u) b H (by omega)
  have hkv := fun b H => hO.brk (txt nt v) b H (by omega)
  simp at hx0 hx1
  simp only [tC_eq] at hcu hcv hlt hlu hlv
  generalize hbU : brackT (txt nt u) (decide (levelT u.k < levelT t.k)) = bU at *
  generalize hbV : brackT (txt nt v) (decide (levelT v.k ≤ levelT t.k) || v.k == 4) = bV at *
  have e0 : bU.length ≤ 9223372036854775807 := by omega
  have e4 : bU.length + bV.length ≤ 9223372036854775807 := by omega
  have e1 : bU.length + (signT t.k).length ≤ 9223372036854775807 := by omega
  have e2 : bU.length + (signT t.k).length + bV.length ≤ 9223372036854775807 := by omega
  have e3 : bU.length + ((signT t.k).length + bV.length) ≤ 9223372036854775807 := by omega
  simp [Tryz.f26, h1, h2, h3, h4]
  refine LpD.mapR X hG ?_
  obtain ⟨r, hfr, hr⟩ := sign_find t.k
  rcases hr with ⟨rfl, hsg⟩ | rfl
  all_goals simp [evMR, evM, find_1, find_2, find_3, find_4, kdOk_i, hfr, withIds, needsId, idCount, grow, stepO, callee, aop, h1, mkT_length]
  all_goals refine LpD.turns X hG [8, 9, 10, 11] [(0, 8), (0, 9), (1, 8), (1, 9), (2, 8), (2, 9), (3, 8), (3, 9), (4, 8), (4, 9), (4, 10), (5, 8), (5, 9), (5, 10), (6, 8), (6, 9), (6, 10), (7, 8), (7, 9), (7, 10), (8, 9)] (by kernel_rfl) ?_
  all_goals simp [hx0, hx1, hts]
  all_goals refine LpD.turns X hG [1, 3, 5, 7, 11, 13, 15, 22] [(1, 2), (1, 4), (1, 8), (1, 10), (1, 12), (1, 14), (3, 4), (3, 8), (3, 10), (3, 12), (3, 14), (5, 8), (5, 10), (5, 12), (5, 14), (7, 8), (7, 10), (7, 12), (7, 14), (8, 11), (8, 13), (8, 15), (8, 22), (9, 11), (9, 13), (9, 15), (9, 22), (11, 12), (11, 14), (13, 14)] (by kernel_rfl) ?_
  all_goals by_cases hle : levelT v.k ≤ levelT t.k
  all_goals simp [hle] at hbV
  all_goals first
    | simp [hcu, hcv, hlt, hlu, hlv, hku, hkv, hbU, hbV, hle, hsg, e0, e1, e2, e3, e4]; done
    | simp [hcu, hcv, hlt, hlu, hlv, hku, hkv, hbU, hbV, hle, e0, e1, e2, e3, e4]; done
termination_by SizeOf.sizeOf t
decreasing_by exact kid_lt hu
end Go.Proofs.YtpmonaempgjgbaaGreatDoor
