/- furrowlaw5.known returns true. -/
import Derived.Test.YtpmonaempgjgbaaGreatDoorEyD
set_option linter.unusedSimpArgs false
set_option linter.unusedVariables false
namespace Go.Proofs.YtpmonaempgjgbaaGreatDoor
open Go.RowKit Go.Proofs.Fw
set_option maxRecDepth 100000
set_option maxHeartbeats 4000000
-- 

open Classical in
/-- One fact. -/
noncomputable def oFact (f0 : FuncId) (a0 : List AV) (v : AV) : Orc := fun f args H => if f = f0 ∧ args = a0 then some (v, H) else none
theorem oFact_at {f0 : FuncId} {a0 : List AV} {v : AV} (H : AH) : oFact f0 a0 v f0 a0 H = some (v, H) := by
  unfold oFact
  rw [if_pos (And.intro rfl rfl)]
theorem oFact_sound {E : Env} {f0 : FuncId} {a0 : List AV} {v : AV} (h : ∀ H, CS Tryz.prog E f0 a0 H v H) : Sound Tryz.prog E (oFact f0 a0 v) := by
  intro f args H v' H' ho
  unfold oFact at ho
  split at ho
  · rename_i hx
    obtain ⟨rfl, rfl⟩ := hx
    injection ho with ho
    simp only [Prod.mk.injEq] at ho
    obtain ⟨rfl, rfl⟩ := ho
    exact ⟨h _, Nat.le_refl _, fun _ _ h => h⟩
  · cases ho

def sA : List UInt8 := [45, 40, 120, 32, 43, 32, 50, 41, 42, 97, 40, 105, 44, 32, 40, 106, 41, 41, 47, 40, 51, 42, 52, 41]
def sB : List UInt8 := [49, 32, 45, 32, 40, 50, 32, 45, 32, 45, 51, 41]
def sC : List UInt8 := [120, 32, 43, 32, 41, 32, 50]
def sD : List UInt8 := [120, 42, 50, 32, 47, 61, 32, 121, 41]
def tsOf (s : List UInt8) : List Wd := match lex (s.length + 1) s 0 false with
  | .ok ts => ts
  | .error _ => []
def exA : Ex := (readP sA).1
def exB : Ex := (readP sB).1
theorem rdA : (readP sA).2 = true := by kernel_rfl
theorem rdB : (readP sB).2 = true := by kernel_rfl
theorem txA : txt numG exA.tn = [45, 40, 120, 32, 43, 32, 50, 41, 32, 42, 32, 97, 40, 105, 44, 32, 106, 41, 32, 47, 32, 40, 51, 32, 42, 32, 52, 41] := by kernel_rfl
theorem txB : txt numG exB.tn = [49, 32, 45, 32, 40, 50, 32, 45, 32, 40, 45, 51, 41, 41] := by kernel_rfl
theorem lnC : lex (sC.length + 1) sC 0 false = .ok (tsOf sC) := by kernel_rfl
theorem lnD : lex (sD.length + 1) sD 0 false = .ok (tsOf sD) := by kernel_rfl
theorem prC : (parseX (tsOf sC)).2.2 = some (2, 2) := by kernel_rfl
theorem prD : (parseC (tsOf sD)).2 = (5, none) := by kernel_rfl
def cD : List UInt8 × Ex × Ex := (parseC (tsOf sD)).1
theorem opD : cD.1 = [47, 61] := by kernel_rfl
theorem txD1 : txt numG cD.2.1.tn = [120, 32, 42, 32, 50] := by kernel_rfl
theorem txD2 : txt numG cD.2.2.tn = [121] := by kernel_rfl
theorem smAA : run fzN oNil Tryz.prog envF 100 14 47 [.agg (tC exA.tn), .agg (tC exA.tn)] [] = some (.bool true, []) := by kernel_rfl
theorem smAB : run fzN oNil Tryz.prog envF 100 14 47 [.agg (tC exA.tn), .agg (tC exB.tn)] [] = some (.bool false, []) := by kernel_rfl

def gkB (S : Int → Bool) (k n : Int) (m : Nat) : Bool := (decide (k = 1) && S n) || decide (k = 2) || (decide (k = 3) && decide (0 < m)) || (decide (k = 4) && decide (m = 1)) || ((decide (k < 1) || decide (4 < k)) && decide (m = 2))
mutual
def goodB (S : Int → Bool) : Tn → Bool
  | .lf k n _ => gkB S k n 0
  | .nd k n _ a => gkB S k n a.length && ((decide (k = 1) || decide (k = 2)) || goodsB S a)
def goodsB (S : Int → Bool) : List Tn → Bool
  | [] => true
  | t :: l => goodB S t && goodsB S l
end
theorem gkB_ok {S : Int → Bool} {k n : Int} {m : Nat} (h : gkB S k n m = true) : gk (fun n => S n = true) k n m := by
  simp only [gkB, Bool.or_eq_true, Bool.and_eq_true, decide_eq_true_eq] at h
  unfold gk
  rcases h with (((h | h) | h) | h) | h
  · exact .inl h
  · exact .inr (.inl h)
  · exact .inr (.inr (.inl h))
  · exact .inr (.inr (.inr (.inl h)))
  · exact .inr (.inr (.inr (.inr h)))
mutual
theorem goodB_ok {S : Int → Bool} : ∀ t : Tn, goodB S t = true → good (fun n => S n = true) t
  | .lf k n s, h => gkB_ok h
  | .nd k n s a, h => by
    simp only [goodB, Bool.or_eq_true, Bool.and_eq_true, decide_eq_true_eq] at h
    refine ⟨gkB_ok h.1, ?_⟩
    rcases h.2 with h2 | h2
    · exact .inl h2
    · exact .inr (goodsB_ok a h2)
theorem goodsB_ok {S : Int → Bool} : ∀ l : List Tn, goodsB S l = true → goods (fun n => S n = true) l
  | [], _ => trivial
  | t :: l, h => by
    simp only [goodsB, Bool.and_eq_true] at h
    exact ⟨goodB_ok t h.1, goodsB_ok l h.2⟩
end
def numB (n : Int) : Bool := decide (n = -4) || decide (n = 1) || decide (n = 2) || decide (n = 3) || decide (n = 4)
theorem numB_ok : NumOk (fun n => numB n = true) numG := fun n h H => numS_ok n (by
  simp only [numB, Bool.or_eq_true, decide_eq_true_eq] at h
  unfold numS
  rcases h with (((h | h) | h) | h) | h
  · exact .inl h
  · exact .inr (.inl h)
  · exact .inr (.inr (.inl h))
  · exact .inr (.inr (.inr (.inl h)))
  · exact .inr (.inr (.inr (.inr h)))) H
def exM : Tn := .lf 1 (-4) []

noncomputable def oKn : Orc := oTab [
  (29, oPure 29 (fun args => match args with
    | [.str s] => if s.length < 1000000 then some s else none
    | _ => none) fun s => .tup [.agg (tC (readP s).1.tn), .bool (readP s).2]),
  (45, oLnF), (17, oW 17 fun ts => parseT (parseX ts)), (19, oW 19 fun ts => parseCT (parseC ts)),
  (26, oTn 26 (fun u => u = exA.tn ∨ u = exB.tn ∨ u = exM) (fun u => .str (txt numG u))), (31, oRat), (21, oTells),
  (46, oFact 46 [condT cD] (.str (txt numG cD.2.1.tn ++ [32] ++ cD.1 ++ [32] ++ txt numG cD.2.2.tn))),
  (47, orElse (oFact 47 [.agg (tC exA.tn), .agg (tC exA.tn)] (.bool true)) (oFact 47 [.agg (tC exA.tn), .agg (tC exB.tn)] (.bool false)))]
theorem oKn_cx : Cx oKn Tryz.prog envF := ⟨oTab_sound (by
  intro p hp
  simp only [List.mem_cons, List.not_mem_nil, or_false] at hp
  rcases hp with rfl | rfl | rfl | rfl | rfl | rfl | rfl | rfl | rfl
  · refine oPure_sound fun args x H h => ?_
    split at h
    · split at h
      · injection h with h
        subst h
        exact read_cs _ ‹_› H
      · cases h
    · cases h
  · exact oLnF_sound
  · exact oW_sound parseT_cs
  · exact oW_sound parseCT_cs
  · refine oTn_sound (f0 := 26) (S := fun u => u = exA.tn ∨ u = exB.tn ∨ u = exM) (out := fun u => .str (txt numG u)) fun u hu H => ?_
    rcases hu with rfl | rfl | rfl
    · exact text_cs numB_ok _ (by kernel_rfl) (goodB_ok _ (by kernel_rfl)) (by rw [txA]; decide) H
    · exact text_cs numB_ok _ (by kernel_rfl) (goodB_ok _ (by kernel_rfl)) (by rw [txB]; decide) H
    · exact text_cs numB_ok _ (by kernel_rfl) (goodB_ok _ (by kernel_rfl)) (by decide) H
  · exact Sound.toF (Sound.toX (Sound.toN oRat_sound))
  · exact oTells_sound
  · exact oFact_sound fun H => condText_cs numB_ok _ _ _ (by kernel_rfl) (by kernel_rfl) (goodB_ok _ (by kernel_rfl)) (goodB_ok _ (by kernel_rfl)) (by rw [txD1]; decide) (by rw [txD2]; decide) (by rw [opD]; decide) H
  · exact Sound.orElse (oFact_sound fun H => (run_sound (base := oNil) oNil_sound methFOk mixed 100 14 _ _ _ _ _ smAA).1.frame lowF (by simp) H) (oFact_sound fun H => (run_sound (base := oNil) oNil_sound methFOk mixed 100 14 _ _ _ _ _ smAB).1.frame lowF (by simp) H)), methFOk, mixed⟩

theorem known_cs (H : AH) : CS Tryz.prog envF 14 [] H (.bool true) H := by
  have X := oKn_cx
  have hA : ∀ H, oKn 29 [.str sA] H = some (.tup [.agg (tC exA.tn), .bool true], H) := fun H => by
    have := rdA
    have hl : sA.length < 1000000 := by decide
    simp [oKn, oTab, oPure, hl, exA, this]
  have hB : ∀ H, oKn 29 [.str sB] H = some (.tup [.agg (tC exB.tn), .bool true], H) := fun H => by
    have := rdB
    have hl : sB.length < 1000000 := by decide
    simp [oKn, oTab, oPure, hl, exB, this]
  have hC : ∀ H, oKn 45 [.str sC] H = some (.tup [wdsAV (tsOf sC), .nilIface], H) := fun H => by
    have h1 : oKn 45 [.str sC] H = oLnF 45 [.str sC] H := by simp only [oKn, oTab, List.lookup]; rfl
    rw [h1, oLnF_at (by rw [maxS_eq]; decide), lnC]; rfl
  have hD : ∀ H, oKn 45 [.str sD] H = some (.tup [wdsAV (tsOf sD), .nilIface], H) := fun H => by
    have h1 : oKn 45 [.str sD] H = oLnF 45 [.str sD] H := by simp only [oKn, oTab, List.lookup]; rfl
    rw [h1, oLnF_at (by rw [maxS_eq]; decide), lnD]; rfl
  have pC : ∃ e n, ∀ H, oKn 17 [wdsAV (tsOf sC)] H = some (.tup [.agg (tC e), .int .i64 n, eAV (some (2, 2))], H) := ⟨(parseX (tsOf sC)).1.tn, (parseX (tsOf sC)).2.1, fun H => by
    have h1 : oKn 17 [wdsAV (tsOf sC)] H = oW 17 (fun ts => parseT (parseX ts)) 17 [wdsAV (tsOf sC)] H := by simp only [oKn, oTab, List.lookup]; rfl
    rw [h1, oW_at (by decide +kernel), parseT, prC]⟩
  have pD : ∀ H, oKn 19 [wdsAV (tsOf sD)] H = some (.tup [.agg (.str cD.1 :: (tC cD.2.1.tn ++ tC cD.2.2.tn)), .int .i64 5, .nilIface], H) := fun H => by
    have h1 : oKn 19 [wdsAV (tsOf sD)] H = oW 19 (fun ts => parseCT (parseC ts)) 19 [wdsAV (tsOf sD)] H := by simp only [oKn, oTab, List.lookup]; rfl
    rw [h1, oW_at (by decide +kernel), parseCT, prD]; rfl
  have tA : ∀ H, oKn 26 [.agg (tC exA.tn)] H = some (.str (txt numG exA.tn), H) := fun H => by
    have h1 : oKn 26 [.agg (tC exA.tn)] H = oTn 26 (fun u => u = exA.tn ∨ u = exB.tn ∨ u = exM) (fun u => .str (txt numG u)) 26 [.agg (tC exA.tn)] H := by simp only [oKn, oTab, List.lookup]; rfl
    rw [h1, oTn_at (.inl rfl)]
  have tB : ∀ H, oKn 26 [.agg (tC exB.tn)] H = some (.str (txt numG exB.tn), H) := fun H => by
    have h1 : oKn 26 [.agg (tC exB.tn)] H = oTn 26 (fun u => u = exA.tn ∨ u = exB.tn ∨ u = exM) (fun u => .str (txt numG u)) 26 [.agg (tC exB.tn)] H := by simp only [oKn, oTab, List.lookup]; rfl
    rw [h1, oTn_at (.inr (.inl rfl))]
  have tM : ∀ H, oKn 26 [.agg [.int .i64 1, .int .i64 (-4), .str [], .nilSlice]] H = some (.str [40, 45, 52, 41], H) := fun H => by
    have h1 : oKn 26 [.agg (tC exM)] H = oTn 26 (fun u => u = exA.tn ∨ u = exB.tn ∨ u = exM) (fun u => .str (txt numG u)) 26 [.agg (tC exM)] H := by simp only [oKn, oTab, List.lookup]; rfl
    exact h1.trans (oTn_at (.inr (.inr rfl)) H)
  have hat : ∀ (w : List UInt8) (p e : Int) H, oKn 31 [.str w, .int .i64 p, .int .i64 e] H = some (.agg [.slice .full 2 1 [.str w, .int .i64 p], .int .i64 e], H) := fun w p e H => by
    have h1 : oKn 31 [.str w, .int .i64 p, .int .i64 e] H = oRat 31 [.str w, .int .i64 p, .int .i64 e] H := by simp only [oKn, oTab, List.lookup]; rfl
    rw [h1, oRat_at]
  have hte : ∀ H, oKn 21 [eAV (some (2, 2)), .agg [.slice .full 2 1 [.str exprTxt, .int .i64 2], .int .i64 2]] H = some (.bool true, H) := fun H => by
    have h1 : oKn 21 [eAV (some (2, 2)), wrAV (some (2, 2))] H = oTells 21 [eAV (some (2, 2)), wrAV (some (2, 2))] H := by simp only [oKn, oTab, List.lookup]; rfl
    exact h1.trans (oTells_at (errOk_some (by decide)) H)
  have hct : ∀ H, oKn 46 [.agg (.str cD.1 :: (tC cD.2.1.tn ++ tC cD.2.2.tn))] H = some (.str (txt numG cD.2.1.tn ++ [32] ++ cD.1 ++ [32] ++ txt numG cD.2.2.tn), H) := fun H => by
    have h1 : oKn 46 [condT cD] H = oFact 46 [condT cD] (.str (txt numG cD.2.1.tn ++ [32] ++ cD.1 ++ [32] ++ txt numG cD.2.2.tn)) 46 [condT cD] H := by simp only [oKn, oTab, List.lookup]; rfl
    exact h1.trans (oFact_at H)
  have hs1 : ∀ H, oKn 47 [.agg (tC exA.tn), .agg (tC exA.tn)] H = some (.bool true, H) := fun H => by
    have h1 : oKn 47 [.agg (tC exA.tn), .agg (tC exA.tn)] H = orElse (oFact 47 [.agg (tC exA.tn), .agg (tC exA.tn)] (.bool true)) (oFact 47 [.agg (tC exA.tn), .agg (tC exB.tn)] (.bool false)) 47 [.agg (tC exA.tn), .agg (tC exA.tn)] H := by simp only [oKn, oTab, List.lookup]; rfl
    rw [h1]
    unfold orElse
    rw [oFact_at]
  have hne : exA.tn ≠ exB.tn := fun h => by
    have h1 : exA.tn.k = 8 := by kernel_rfl
    have h2 : exB.tn.k = 6 := by kernel_rfl
    rw [h, h2] at h1
    cases h1
  have hs2 : ∀ H, oKn 47 [.agg (tC exA.tn), .agg (tC exB.tn)] H = some (.bool false, H) := fun H => by
    have h1 : oKn 47 [.agg (tC exA.tn), .agg (tC exB.tn)] H = orElse (oFact 47 [.agg (tC exA.tn), .agg (tC exA.tn)] (.bool true)) (oFact 47 [.agg (tC exA.tn), .agg (tC exB.tn)] (.bool false)) 47 [.agg (tC exA.tn), .agg (tC exB.tn)] H := by simp only [oKn, oTab, List.lookup]; rfl
    rw [h1]
    unfold orElse
    rw [show oFact 47 [.agg (tC exA.tn), .agg (tC exA.tn)] (.bool true) 47 [.agg (tC exA.tn), .agg (tC exB.tn)] H = none by
      unfold oFact
      rw [if_neg]
      rintro ⟨_, h⟩
      injection h with _ h
      injection h with h _
      injection h with h
      exact hne (tC_inj _ _ h).symm]
    exact oFact_at H
  have tAx := txA
  have tBx := txB
  have d1 := txD1
  have d2 := txD2
  have d3 := opD
  generalize oKn = O at *
  generalize hq : exA.tn = A at *
  generalize hq2 : exB.tn = Bx at *
  generalize cD = cd at *
  obtain ⟨e, n, pC⟩ := pC
  generalize tsOf sC = tc at *
  generalize tsOf sD = td at *
  obtain ⟨op, e1, e2⟩ := cd
  simp only at d1 d2 d3 hct pD
  subst d3
  rw [d1, d2] at hct
  rw [tAx] at tA
  rw [tBx] at tB
  generalize e1.tn = t1 at *
  generalize e2.tn = t2 at *
  clear tAx tBx d1 d2 hq hq2 hne
  refine CS.tr0 lowF Tryz.func14 (by kernel_rfl) 0 (by simp [Tryz.f14]) (fun B hBs hG => ?_) rfl rfl H
  refine Tr.goD X hG (by kernel_rfl) ?_
  simp only [sA, sB, sC, sD, exprTxt, tC_eq, List.cons_append, List.nil_append] at *
  simp [Tryz.f14, hA, hB, hC, hD, pC, pD, tA, tB, tM, hat, hte, hct, hs1, hs2]
end Go.Proofs.YtpmonaempgjgbaaGreatDoor
