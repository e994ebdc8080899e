/- TokBlanks: what the law's text returns. -/
import Derived.Test.YtpmonaempgjgbaaDoorTbA
import Derived.Test.YtpmonaempgjgbaaDoorTz
set_option linter.unusedSimpArgs false
set_option linter.unusedVariables false
namespace Go.Proofs.YtpmonaempgjgbaaDoor
open Go.RowKit Go.Proofs.Fw
set_option maxRecDepth 100000
set_option maxHeartbeats 4000000
-- 

def blkCh (z : UInt8) : UInt8 := if z.toNat / 4 % 2 = 0 then 32 else 9
def blkOf (lb : List UInt8) (i : Nat) : List UInt8 := match lb[i]? with
  | some z => List.replicate (z.toNat % 4) (blkCh z)
  | none => []
/-- The words with their blanks. -/
def prs (a : List Wd) (lb : List UInt8) : List (List UInt8 × Wd) := (List.range a.length).map fun i => (blkOf lb i, a.getD i ⟨0, [], 0, 0⟩)

theorem prs_take (a : List Wd) (lb : List UInt8) (i : Nat) (h : i < a.length) : (prs a lb).take (i + 1) = (prs a lb).take i ++ [(blkOf lb i, a[i])] := by
  have hl : i < (prs a lb).length := by simp [prs, h]
  rw [List.take_add_one, List.getElem?_eq_getElem hl]
  simp [prs, h]

theorem spread_append : ∀ (l m : List (List UInt8 × Wd)), spread (l ++ m) = spread l ++ spread m
  | [], m => rfl
  | (b, w) :: l, m => by simp [spread, spread_append l m]

theorem blkOf_blank (lb : List UInt8) (i : Nat) : ∀ d ∈ blkOf lb i, isBlank d = true := by
  intro d hd
  unfold blkOf at hd
  split at hd
  · have := List.eq_of_mem_replicate hd
    subst this
    unfold blkCh
    split <;> rfl
  · cases hd
theorem blkOf_len (lb : List UInt8) (i : Nat) : (blkOf lb i).length ≤ 3 := by
  unfold blkOf
  split
  · simp; omega
  · simp

theorem spread_len : ∀ (l : List (List UInt8 × Wd)) (m : Nat), (∀ x ∈ l, x.1.length ≤ 3 ∧ x.2.text.length ≤ m) → (spread l).length ≤ l.length * (m + 4)
  | [], m, _ => by simp [spread]
  | (b, w) :: l, m, h => by
    have h1 := h (b, w) List.mem_cons_self
    have h2 := spread_len l m fun x hx => h x (List.mem_cons_of_mem _ hx)
    simp only [spread, List.length_cons, List.length_append] at h1 ⊢
    rw [Nat.add_mul, Nat.one_mul]
    omega

theorem bsBl : abuildSlice Tryd.prog 32 2 [(0, .str [32]), (1, .str [9])] = some (.slice .full 1 2 [.str [32], .str [9]]) := by kernel_rfl

/-- A row of bytes, as it comes in. -/
def bytesOf (lv : AV) (lb : List UInt8) : Prop := (lv = .nilSlice ∧ lb = []) ∨ lv = .slice .unk 1 lb.length (strCells lb)

theorem strCells_low (lb : List UInt8) : lowL 0 (strCells lb) = true := by
  unfold strCells
  induction lb with
  | nil => rfl
  | cons b lb ih => simp [ih]

def TbI (a : List Wd) (lv : AV) (lb : List UInt8) (k : Nat) (t : List AV) (H : AH) : Prop :=
  ∃ i, i + k = a.length ∧ t = mkT 128 [(1, lv), (5, wdsAV a), (7, .str (spread ((prs a lb).take i))), (8, .int .i64 ((i : Nat) : Int))] ∧ H = []
def TbJ (a : List Wd) (lv : AV) (T : List UInt8) (z : UInt8) (i : Nat) (k : Nat) (t : List AV) (H : AH) : Prop :=
  ∃ j, j + k = z.toNat % 4 ∧ t = mkT 128 [(1, lv), (5, wdsAV a), (7, .str (T ++ 32 :: List.replicate j (blkCh z))), (8, .int .i64 ((i : Nat) : Int)), (9, .int .i64 ((j : Nat) : Int))] ∧ H = []
def TbK (a b : List Wd) (k : Nat) (t : List AV) (H : AH) : Prop :=
  ∃ i, i + k = a.length ∧ t = mkT 128 [(5, wdsAV a), (10, wdsAV b), (12, .int .i64 ((i : Nat) : Int))] ∧ H = []

def oTb : Orc := oTab [(7, oKnown), (10, oToks), (11, oLine)]
theorem oTb_cx : Cx oTb Tryd.prog envT := ⟨oTab_sound fun p hp => by
  simp only [List.mem_cons, List.not_mem_nil, or_false] at hp
  rcases hp with rfl | rfl | rfl
  · exact oKnown_sound
  · exact oToks_sound
  · exact oLine_sound, methT, mixed⟩

theorem tb_last (B : Bs) (hB : B.H = []) (hG : GlobOk envT B.g) (a b : List Wd) (hlen : b.length = a.length) (hkey : b.map wdKey = a.map wdKey) (ha : a.length < 1000) (L : Code) (hd : okDraws envT L = true) (Q : AEx → List AV → AH → Prop)
    (t : List AV) (H : AH) (hl : Less B t H (mkT 128 [(5, wdsAV a), (10, wdsAV b), (12, .int .i64 ((0 : Nat) : Int))]) [])
    (h : ∀ i, i ≤ a.length → Go oTb Tryd.prog envT (LpT Tryd.prog B) L [] (mkT 128 [(5, wdsAV a), (10, wdsAV b), (12, .int .i64 ((i : Nat) : Int))]) [] (Goes (Nxt B (TbK a b) (a.length - i)) Q)) : LpT Tryd.prog B L t H Q := by
  refine LpT.loopN oTb_cx hG hd (TbK a b) a.length hl ⟨0, by omega, rfl, rfl⟩ ?_
  rintro k t H ⟨i, hik, rfl, rfl⟩
  have := h i (by omega)
  rwa [show a.length - i = k by omega] at this

theorem blanksLaw_cs (s : List UInt8) (lv : AV) (lb : List UInt8) (hlv : bytesOf lv lb) : CS Tryd.prog envT 4 [.str s, lv] [] (.bool true) [] := by
  have hlow : low 0 lv = true := by
    rcases hlv with ⟨rfl, _⟩ | rfl
    · rfl
    · simp [strCells_low]
  refine CS.tr0 lowT Tryd.func4 (by kernel_rfl) 0 (by simp [Tryd.f4]) (fun B hB hG => ?_) rfl (by simp [hlow]) []
  refine Tr.go oTb_cx hG (by kernel_rfl) ?_
  have h7 : ∀ H, oTb 7 [] H = some (.bool true, H) := fun H => by simp [oTb, oTab, oKnown, call0]
  have hlen : alen Tryd.prog 25 lv = some (.int .i64 lb.length) := by
    rcases hlv with ⟨rfl, rfl⟩ | rfl <;> simp [alen]
  by_cases h1 : s.length ≤ 200
  rotate_left
  · have i1 : (200 : Int) < s.length := by omega
    simp [Tryd.f4, h7, i1]
  have i1 : ¬ (200 : Int) < s.length := by omega
  by_cases h2 : lb.length ≤ 60
  rotate_left
  · have i2 : (60 : Int) < lb.length := by omega
    rcases hlv with ⟨rfl, rfl⟩ | rfl
    · simp at h2
    · simp [Tryd.f4, h7, i1, i2]
  have i2 : ¬ (60 : Int) < lb.length := by omega
  have h10 : ∀ H, oTb 10 [.str s] H = some (toksAV (lex (s.length + 1) s 0 false), H) := fun H => by
    have : s.length < maxS := by rw [maxS_eq]; omega
    simp [oTb, oTab, oToks, oPure, this]
  cases hx : lex (s.length + 1) s 0 false with
  | error x =>
    obtain ⟨p, e⟩ := x
    have he : e ≠ 0 := lex_err _ _ _ _ _ _ hx
    rcases hlv with ⟨rfl, rfl⟩ | rfl
    · simp [Tryd.f4, h7, i1, h10, hx, toksAV, atAV, he]
    · simp [Tryd.f4, h7, i1, i2, h10, hx, toksAV, atAV, he]
  | ok a =>
    obtain ⟨hin, hal⟩ := lex_in _ _ _ _ _ (by omega) hx
    rw [Nat.zero_add] at hin
    have hwd := lex_isWd _ _ _ _ _ hx
    have htx : ∀ w ∈ a, w.text.length ≤ 200 := by
      intro w hw
      have key : ∀ (l : List Wd) (p : Nat), wdsIn p s.length l → w ∈ l → w.text.length ≤ s.length := by
        intro l
        induction l with
        | nil => intro p _ h; cases h
        | cons x l ih =>
          intro p h hm
          rcases List.mem_cons.1 hm with rfl | hm
          · have := wdsIn_le h.2; omega
          · exact ih _ h.2 hm
      have := key a 0 hin hw
      omega
    have hpl : (prs a lb).length = a.length := by simp [prs]
    have hmem : ∀ x ∈ prs a lb, x.1.length ≤ 3 ∧ x.2.text.length ≤ 200 ∧ (∀ d ∈ x.1, isBlank d = true) ∧ x.2 ∈ a := by
      intro x hx
      obtain ⟨i, hi, rfl⟩ := List.mem_map.1 hx
      have hi' : i < a.length := by simpa using hi
      have hg : a.getD i ⟨0, [], 0, 0⟩ = a[i] := by simp [hi']
      exact ⟨blkOf_len lb i, by rw [hg]; exact htx _ (List.getElem_mem hi'), blkOf_blank lb i, by rw [hg]; exact List.getElem_mem hi'⟩
    have hspl : ∀ i, (spread ((prs a lb).take i)).length ≤ 40800 := fun i => by
      have h3 := spread_len ((prs a lb).take i) 200 fun x hx => ⟨(hmem x (List.mem_of_mem_take hx)).1, (hmem x (List.mem_of_mem_take hx)).2.1⟩
      have h4 : ((prs a lb).take i).length ≤ 200 := by rw [List.length_take]; omega
      have h5 : ((prs a lb).take i).length * (200 + 4) ≤ 200 * (200 + 4) := Nat.mul_le_mul_right _ h4
      omega
    obtain ⟨b, hlb, hkb⟩ := lex_spread (prs a lb) (fun x hx => ⟨(hmem x hx).2.2.1, hwd _ (hmem x hx).2.2.2⟩) ((spread (prs a lb)).length + 1) 0 (by omega)
    have hkey : b.map wdKey = a.map wdKey := by
      rw [hkb]
      apply List.ext_getElem
      · simp [prs]
      · intro i h1 h2
        have hi' : i < a.length := by simpa using h2
        simp [prs, hi']
    have hbl : b.length = a.length := by
      have := congrArg List.length hkey
      simpa using this
    have h11 : ∀ H, oTb 11 [.str (spread (prs a lb))] H = some (.tup [wdsAV b, .nilIface], H) := fun H => by
      have hsp := hspl a.length
      rw [List.take_of_length_le (by omega)] at hsp
      have : (spread (prs a lb)).length < maxS := by rw [maxS_eq]; omega
      simp [oTb, oTab, oLine, oPure, this, hlb, lineAV]
    have hT : (prs a lb).take a.length = prs a lb := List.take_of_length_le (by omega)
    have hz : blkOf lb = fun i => match lb[i]? with
      | some z => List.replicate (z.toNat % 4) (blkCh z)
      | none => [] := rfl
    have hnil : spread ((prs a lb).take 0) = [] := rfl
    have keyAt : ∀ i (h1 : i < a.length) (h2 : i < b.length), b[i].kind = a[i].kind ∧ b[i].text = a[i].text ∧ b[i].n = a[i].n := fun i h1 h2 => by
      have h3 : (b.map wdKey)[i]? = (a.map wdKey)[i]? := by rw [hkey]
      rw [List.getElem?_map, List.getElem?_map, List.getElem?_eq_getElem h1, List.getElem?_eq_getElem h2] at h3
      simp only [Option.map_some, Option.some.injEq, wdKey, Prod.mk.injEq] at h3
      exact h3
    have main : (lv = .nilSlice ∧ lb = []) ∨ lv = .slice .unk 1 lb.length (strCells lb) := hlv
    clear hlv
    rcases main with ⟨hv, hl0⟩ | hv
    all_goals
      have hlow2 := hlow
      rw [hv] at hlow2 ⊢
      try rw [hl0] at i2
      simp [Tryd.f4, h7, i1, i2, h10, hx, toksAV, noneAV]
      refine LpT.loopN oTb_cx hG (by kernel_rfl) (TbI a lv lb) a.length (t' := mkT 128 [(1, lv), (5, wdsAV a), (7, .str (spread ((prs a lb).take 0))), (8, .int .i64 ((0 : Nat) : Int))]) (H' := []) (Less.mk0 hB (by simp [wdsAV_low, hlow, hv, hnil, spread]; try simp [strCells_low])) ⟨0, by omega, rfl, rfl⟩ ?_
      rintro k t H ⟨i, hik, rfl, rfl⟩
      have hsp := hspl i
      cases k with
      | zero =>
        obtain rfl : i = a.length := by omega
        rw [hT]
        simp [Blk_exit, h11, hbl]
        refine LpT.loopN oTb_cx hG (by kernel_rfl) (TbK a b) a.length (t' := mkT 128 [(5, wdsAV a), (10, wdsAV b), (12, .int .i64 ((0 : Nat) : Int))]) (H' := []) (Less.mk0 hB (by simp [wdsAV_low])) ⟨0, by omega, rfl, rfl⟩ ?_
        rintro k t H ⟨i, hik, rfl, rfl⟩
        cases k with
        | zero =>
          obtain rfl : i = a.length := by omega
          simp [Blk_exit]
        | succ k =>
          have e1 : i < a.length := by omega
          have e2 : i < b.length := by omega
          have e3 : (i : Int) < a.length := by omega
          have w1 : IntKind.i64.wrap ((i : Int) + 1) = (i : Int) + 1 := wrap_i64 (by omega) (by omega)
          obtain ⟨k1, k2, k3⟩ := keyAt i e1 e2
          simp [e1, e2, e3, k1, k2, k3, w1]
          exact Nxt.mk k (by omega) (Less.mk0 (l' := [(5, wdsAV a), (10, wdsAV b), (12, .int .i64 ((i + 1 : Nat) : Int))]) hB (by simp [wdsAV_low])) ⟨i + 1, by omega, rfl, rfl⟩
      | succ k =>
        have e1 : i < a.length := by omega
        have e3 : (i : Int) < a.length := by omega
        have w1 : IntKind.i64.wrap ((i : Int) + 1) = (i : Int) + 1 := wrap_i64 (by omega) (by omega)
        have f1 : (spread ((prs a lb).take i)).length ≤ 9223372036854775806 := by omega
        have f1' : (spread ((prs a lb).take i)).length + 1 ≤ 9223372036854775807 := by omega
        have hai := htx a[i] (List.getElem_mem e1)
        have nxt : ∀ (l' : List (Nat × AV)) (H : AH), ((l'.lookup 1).getD .undef = lv ∧ (l'.lookup 5).getD .undef = wdsAV a ∧ (l'.lookup 7).getD .undef = .str (spread ((prs a lb).take i) ++ 32 :: (blkOf lb i ++ a[i].text)) ∧ (l'.lookup 8).getD .undef = .int .i64 ((i : Int) + 1)) → Nxt B (TbI a lv lb) (k + 1) (mkT 128 l') H := by
          rintro l' H ⟨g1, g5, g7, g8⟩
          have h9 : spread ((prs a lb).take (i + 1)) = spread ((prs a lb).take i) ++ 32 :: (blkOf lb i ++ a[i].text) := by
            rw [prs_take a lb i e1, spread_append]
            simp [spread, bl]
          refine Nxt.mk k (by omega) (Less.mk0 (l' := [(1, lv), (5, wdsAV a), (7, .str (spread ((prs a lb).take (i + 1)))), (8, .int .i64 ((i + 1 : Nat) : Int))]) hB ?_) ⟨i + 1, by omega, rfl, rfl⟩
          rw [h9]
          simp [g1, g5, g7, g8, wdsAV_low, hlow]
        rw [hv] at nxt
        by_cases hi : i < lb.length
        · have hne : lb ≠ [] := by rintro rfl; simp at hi
          first
            | exact absurd hl0 hne
            | (obtain ⟨z, hzz⟩ : ∃ z, lb[i] = z := ⟨_, rfl⟩
               have hbo : blkOf lb i = List.replicate (z.toNat % 4) (blkCh z) := by simp [blkOf, hi, hzz]
               obtain ⟨q, hq⟩ : ∃ q : Nat, q = z.toNat % 4 := ⟨_, rfl⟩
               obtain ⟨r, hr⟩ : ∃ r : Nat, r = z.toNat / 4 := ⟨_, rfl⟩
               obtain ⟨u, hu⟩ : ∃ u : Nat, u = r % 2 := ⟨_, rfl⟩
               have hz256 := UInt8.toNat_lt z
               have g1 : (z.toNat : Int).tmod 4 = (q : Int) := by rw [Int.tmod_eq_emod_of_nonneg (by omega)]; omega
               have g2 : (z.toNat : Int).tdiv 4 = (r : Int) := by rw [Int.tdiv_eq_ediv_of_nonneg (by omega)]; omega
               have g3 : IntKind.u8.wrap (r : Int) = (r : Int) := by simp [IntKind.wrap, IntKind.bits, IntKind.signed]; omega
               have g4 : (r : Int).tmod 2 = (u : Int) := by rw [Int.tmod_eq_emod_of_nonneg (by omega)]; omega
               have g5 : IntKind.i64.wrap (q : Int) = (q : Int) := wrap_i64 (by omega) (by omega)
               have hi' : (i : Int) < lb.length := by omega
               simp [hv, e1, e3, hi, hi', f1']
               have hq4 : q < 4 := by omega
               have hcell : (strCells lb)[i]? = some (.int .u8 z.toNat) := by simp [strCells, hi, hzz]
               refine LpT.loopN oTb_cx hG (by kernel_rfl) (TbJ a lv (spread ((prs a lb).take i)) z i) q (t' := mkT 128 [(1, lv), (5, wdsAV a), (7, .str (spread ((prs a lb).take i) ++ 32 :: List.replicate 0 (blkCh z))), (8, .int .i64 ((i : Nat) : Int)), (9, .int .i64 ((0 : Nat) : Int))]) (H' := []) (Less.mk0 hB (by simp [wdsAV_low, hlow, hv, strCells_low])) ⟨0, by omega, rfl, rfl⟩ ?_
               rintro k2 t H ⟨j, hjk, rfl, rfl⟩
               have hrl : (List.replicate j (blkCh z)).length = j := List.length_replicate
               cases k2 with
               | zero =>
                 obtain rfl : j = q := by omega
                 have f2 : (spread ((prs a lb).take i)).length + (j + 1) + a[i].text.length ≤ 9223372036854775807 := by omega
                 have f3 : (spread ((prs a lb).take i)).length + (j + (a[i].text.length + 1)) ≤ 9223372036854775807 := by omega
                 simp [Blk_exit, hv, e1, e3, hi, hi', hzz, hcell, g1, g5, w1, f2, f3]
                 refine nxt _ _ ?_
                 rw [hbo, ← hq]
                 simp [hv]
               | succ k2 =>
                 have hj : (j : Int) < (q : Int) := by omega
                 have w2 : IntKind.i64.wrap ((j : Int) + 1) = (j : Int) + 1 := wrap_i64 (by omega) (by omega)
                 have f4 : (spread ((prs a lb).take i)).length + (j + 1) + 1 ≤ 9223372036854775807 := by omega
                 have f5 : (spread ((prs a lb).take i)).length + (j + 1 + 1) ≤ 9223372036854775807 := by omega
                 have hu2 : u = 0 ∨ u = 1 := by omega
                 rcases hu2 with rfl | rfl
                 · have hbc : blkCh z = 32 := by unfold blkCh; rw [← hr, ← hu]; rfl
                   simp [hv, e1, e3, hi, hi', hzz, hcell, g1, g2, g3, g4, g5, hj, w2, f4, f5, bsBl]
                   exact Nxt.mk k2 (by omega) (Less.mk0 (l' := [(1, lv), (5, wdsAV a), (7, .str (spread ((prs a lb).take i) ++ 32 :: List.replicate (j + 1) (blkCh z))), (8, .int .i64 ((i : Nat) : Int)), (9, .int .i64 ((j + 1 : Nat) : Int))]) hB (by simp [wdsAV_low, hlow, hv, strCells_low, hbc, List.replicate_succ'])) ⟨j + 1, by omega, by rw [hv], rfl⟩
                 · have hbc : blkCh z = 9 := by unfold blkCh; rw [← hr, ← hu]; rfl
                   simp [hv, e1, e3, hi, hi', hzz, hcell, g1, g2, g3, g4, g5, hj, w2, f4, f5, bsBl]
                   exact Nxt.mk k2 (by omega) (Less.mk0 (l' := [(1, lv), (5, wdsAV a), (7, .str (spread ((prs a lb).take i) ++ 32 :: List.replicate (j + 1) (blkCh z))), (8, .int .i64 ((i : Nat) : Int)), (9, .int .i64 ((j + 1 : Nat) : Int))]) hB (by simp [wdsAV_low, hlow, hv, strCells_low, hbc, List.replicate_succ'])) ⟨j + 1, by omega, by rw [hv], rfl⟩)
        · have hi' : ¬ (i : Int) < lb.length := by omega
          have hbo : blkOf lb i = [] := by simp [blkOf, List.getElem?_eq_none (Nat.le_of_not_lt hi)]
          have f2 : (spread ((prs a lb).take i)).length + 1 + a[i].text.length ≤ 9223372036854775807 := by omega
          have f3 : (spread ((prs a lb).take i)).length + (a[i].text.length + 1) ≤ 9223372036854775807 := by omega
          have hi0 : ¬ (i : Int) < 0 := by omega
          first
            | (subst hl0; simp [hv, e1, e3, f1, f1', f2, f3, w1, hi0])
            | simp [hv, e1, e3, hi, hi', f1, f1', f2, f3, w1]
          refine nxt _ _ ?_
          rw [hbo]
          simp [hv]
end Go.Proofs.YtpmonaempgjgbaaDoor
