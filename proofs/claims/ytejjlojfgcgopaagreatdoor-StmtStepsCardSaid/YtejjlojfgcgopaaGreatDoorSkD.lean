/- StmtSteps: what the law's text returns. -/
import Derived.Test.YtejjlojfgcgopaaGreatDoorSkB
import Derived.Test.YtejjlojfgcgopaaGreatDoorEyI
set_option linter.unusedSimpArgs false
set_option linter.unusedVariables false
namespace Go.Proofs.YtejjlojfgcgopaaGreatDoor
open Go.RowKit Go.Proofs.Fw
set_option maxRecDepth 100000
set_option maxHeartbeats 4000000
-- 

noncomputable def fDec : Fact Tryz.prog envF := Fact.pure 18 (fun n : Nat => n < 1000000000000) (fun n => [.int .i64 (n : Int)]) (fun n => .str (dd n)) (fun n h H => dec_cs n h H) (fun x y _ _ h => by
  simp only [List.cons.injEq, AV.int.injEq, true_and, and_true] at h
  have : x = y := by omega
  rw [this])
theorem cutNl_plain {s : List UInt8} (h : ∀ c ∈ s, c ≠ 10) : cutNl s = s := by
  unfold cutNl
  rw [if_neg]
  intro hn
  unfold hasNl at hn
  simp only [Bool.and_eq_true, decide_eq_true_eq, beq_iff_eq] at hn
  have : (10 : UInt8) ∈ s.drop (s.length - 1) := by rw [hn.2]; simp
  exact h 10 (List.mem_of_mem_drop this) rfl
theorem body_plain {s : List UInt8} (h : ∀ c ∈ s, c ≠ 10 ∧ c ≠ 33) : bodyOfLine s = s := by
  have h1 := cutNl_plain fun c hc => (h c hc).1
  have h2 : noteLen s = s.length := by
    have := front_end (p := notBang) (s := s) (fun b hb => by
      have := (h b hb).2
      simp only [notBang, Bool.not_eq_true', beq_eq_false_iff_ne]
      intro h3
      exact this (UInt8.toNat_inj.1 (by rw [h3]; rfl))) (r := []) (fun c l h => by cases h)
    rw [List.append_nil] at this
    exact this
  unfold bodyOfLine
  rw [h1, h2, List.take_length]
theorem dd_plain (n : Nat) : ∀ c ∈ dd n, c ≠ 10 ∧ c ≠ 33 := fun c hc => by
  have := (dd_ok n).2.1 c hc
  simp only [isDigit, Bool.and_eq_true, decide_eq_true_eq] at this
  constructor
  · rintro rfl; revert this; decide
  · rintro rfl; revert this; decide
theorem lex_end (n p : Nat) (b : Bool) : lex n [] p b = .ok [] := by cases n <;> rfl
theorem lex_numE {v : Nat} (hv : v < 9223372036854775808) (n p : Nat) : lex (n + 1) (dd v) p false = .ok [⟨2, dd v, p, v⟩] := by
  have := lex_num hv (r := []) (fun c l h => by cases h) n p
  rw [List.append_nil, lex_end] at this
  rw [this]
  rfl

def stP : List UInt8 := [100, 111, 32, 105, 32, 61, 32, 49, 44, 32, 50, 44, 32]
def stW : List Wd := [⟨4, [100, 111], 0, 0⟩, ⟨1, [105], 3, 0⟩, ⟨3, [61], 5, 0⟩, ⟨2, [49], 7, 1⟩, ⟨3, [44], 8, 0⟩, ⟨2, [50], 10, 2⟩, ⟨3, [44], 11, 0⟩]
theorem behind_cons (w : Wd) (l : List Wd) (x : Except (Nat × Nat) (List Wd)) : behind [w] (behind l x) = behind (w :: l) x := by cases x <;> rfl
theorem behind_fold : ∀ (l : List Wd) (x : Except (Nat × Nat) (List Wd)), behind l x = l.foldr (fun w x => behind [w] x) x
  | [], x => by cases x <;> rfl
  | w :: l, x => by rw [List.foldr_cons, ← behind_fold l x, behind_cons]
theorem stLex (m : Nat) (r : List UInt8) : lex (m + 14) (stP ++ r) 0 false = behind stW (lex (m + 2) r 13 false) := by
  rw [behind_fold]
  kernel_rfl
def stSm (z : Int) : Sm := { kind := 3, name := [105], lo := .num 1, hi := .num 2, step := z }
theorem stPar (n p : Nat) (s : List UInt8) : parseW (stW ++ [⟨2, s, p, n⟩]) = (stSm n, none) := by kernel_rfl
theorem stParN (n p : Nat) (s : List UInt8) : parseW (stW ++ [⟨3, [45], 13, 0⟩] ++ [⟨2, s, p, n⟩]) = (stSm (negW n), none) := by kernel_rfl
theorem stP_plain : ∀ c ∈ stP, c ≠ 10 ∧ c ≠ 33 := by decide
theorem st_read (n : Nat) (hn : n < 9223372036854775808) : parseS (bodyOfLine (stP ++ dd n)) = (stSm n, none) := by
  have hb : bodyOfLine (stP ++ dd n) = stP ++ dd n := body_plain fun c hc => by
    rcases List.mem_append.1 hc with h | h
    · exact stP_plain c h
    · exact dd_plain n c h
  have hlx : lex ((stP ++ dd n).length + 1) (stP ++ dd n) 0 false = .ok (stW ++ [⟨2, dd n, 13, n⟩]) := by
    have h1 := stLex (dd n).length (dd n)
    rw [lex_numE hn] at h1
    rw [List.length_append, show stP.length + (dd n).length + 1 = (dd n).length + 14 by have : stP.length = 13 := rfl; omega, h1]
    rfl
  unfold parseS
  rw [hb, hlx]
  exact stPar n 13 (dd n)
theorem st_readN (n : Nat) (hn : n < 9223372036854775808) (sp : List UInt8) (hs : sp = [] ∨ sp = [32]) : parseS (bodyOfLine (stP ++ 45 :: (sp ++ dd n))) = (stSm (negW n), none) := by
  have hb : bodyOfLine (stP ++ 45 :: (sp ++ dd n)) = stP ++ 45 :: (sp ++ dd n) := body_plain fun c hc => by
    rcases List.mem_append.1 hc with h | h
    · exact stP_plain c h
    · rcases List.mem_cons.1 h with h | h
      · subst h; decide
      · rcases List.mem_append.1 h with h | h
        · rcases hs with rfl | rfl
          · cases h
          · rw [List.mem_singleton.1 h]; decide
        · exact dd_plain n c h
  obtain ⟨p, hlx⟩ : ∃ p, lex ((stP ++ 45 :: (sp ++ dd n)).length + 1) (stP ++ 45 :: (sp ++ dd n)) 0 false = .ok (stW ++ [⟨3, [45], 13, 0⟩] ++ [⟨2, dd n, p, n⟩]) := by
    have h1 := stLex (sp ++ dd n).length.succ (45 :: (sp ++ dd n))
    rw [lex_sign (.inr (.inl rfl))] at h1
    have hl : (stP ++ 45 :: (sp ++ dd n)).length + 1 = (sp ++ dd n).length.succ + 14 := by
      rw [List.length_append, List.length_cons]
      have : stP.length = 13 := rfl
      omega
    rw [hl, h1]
    rcases hs with rfl | rfl
    · rw [List.nil_append, lex_numE hn]
      exact ⟨14, rfl⟩
    · rw [List.cons_append, List.nil_append, lex_blank (by decide), List.length_cons, lex_numE hn]
      exact ⟨15, rfl⟩
  unfold parseS
  rw [hb, hlx]
  exact stParN n p (dd n)
def stQ : List UInt8 := [100, 111, 32, 105, 32, 61, 32, 49, 44, 32, 50]
theorem st_read1 : parseS (bodyOfLine stQ) = (stSm 1, none) := by kernel_rfl
theorem stOk (z : Int) (h : I64 z) : SxOk (stSm z).x := by
  have h1 := (tnB_ok (t := (stSm z).x.lo) (by kernel_rfl)).1
  have h2 := (tnB_ok (t := (stSm z).x.hi) (by kernel_rfl)).1
  refine ⟨fun k => ?_, fun k => ?_, fun k => ?_, fun _ => h1, fun _ => h2, fun _ => h, fun _ => (show (1 : Nat) < 1099511627776 by decide), fun k => ?_, fun k => ?_, fun k => ?_⟩
  all_goals (first | (cases k; done) | (rcases k with k | k <;> cases k))
theorem stTxt (z : Int) (h : I64 z) : stmtT (stSm z).x = stQ ++ (if z = 1 then [] else [44, 32] ++ Lib.itoa z) := by
  have e1 : txt numT (stSm z).x.lo = [49] := by rw [(tnB_ok (t := (stSm z).x.lo) (by kernel_rfl)).2]; kernel_rfl
  have e2 : txt numT (stSm z).x.hi = [50] := by rw [(tnB_ok (t := (stSm z).x.hi) (by kernel_rfl)).2]; kernel_rfl
  have e3 : stmtT (stSm z).x = tDo ++ ((stSm z).x.name ++ (tIs ++ (txt numT (stSm z).x.lo ++ (csT ++ (txt numT (stSm z).x.hi ++ (if z = 1 then [] else csT ++ Lib.itoa z)))))) := rfl
  rw [e3, e1, e2]
  rfl
/-- What is read of the text again. -/
theorem st_again (z : Int) (h1 : -4611686018427387904 < z) (h2 : z < 4611686018427387904) : parseS (bodyOfLine (stmtT (stSm z).x)) = (stSm z, none) := by
  rw [stTxt z ⟨by omega, by omega⟩]
  by_cases hz : z = 1
  · subst hz
    rw [if_pos rfl, List.append_nil]
    exact st_read1
  · rw [if_neg hz]
    have hq : ∀ l, stQ ++ ([44, 32] ++ l) = stP ++ l := fun l => rfl
    rw [hq]
    unfold Lib.itoa
    by_cases hn : z < 0
    · rw [if_pos hn]
      obtain ⟨u, rfl⟩ : ∃ u : Nat, z = -(u : Int) := ⟨z.natAbs, by omega⟩
      have hu : (-(u : Int)).natAbs = u := by simp
      rw [hu]
      have := st_readN u (by omega) [] (.inl rfl)
      rw [List.nil_append] at this
      rw [this]
      have : negW u = -(u : Int) := by unfold negW; simp [IntKind.wrap, IntKind.bits, IntKind.signed]; omega
      rw [this]
    · rw [if_neg hn]
      obtain ⟨n, rfl⟩ : ∃ n : Nat, z = n := ⟨z.toNat, by omega⟩
      exact st_read n (by omega)

theorem stepsLaw_cs (n : Nat) (hn : n < 4294967296) (b : Bool) (H : AH) : CS Tryz.prog envF 5 [.int .u32 (n : Int), .bool b] H (.bool true) H := by
  have hL : ([fPparse, fPtext, fKn6, fDec].map (·.f)).Nodup := show ([16, 17, 15, 18] : List Nat).Nodup by decide
  have X := oOf_cx [fPparse, fPtext, fKn6, fDec] methFOk mixed
  have f1 := fun (s : List UInt8) (h : s.length < 1000000) H => oOf_pure hL (show fPparse ∈ [fPparse, fPtext, fKn6, fDec] by simp) s h H
  have f2 := fun x (h : SxOk x) H => oOf_pure hL (show fPtext ∈ [fPparse, fPtext, fKn6, fDec] by simp) x h H
  have f3 := fun H => oOf_pure hL (show fKn6 ∈ [fPparse, fPtext, fKn6, fDec] by simp) () trivial H
  have f4 := fun H => oOf_pure hL (show fDec ∈ [fPparse, fPtext, fKn6, fDec] by simp) n (by omega) H
  generalize oOf [fPparse, fPtext, fKn6, fDec] = O at X f1 f2 f3 f4
  have dl : (dd n).length ≤ 20 := dec_len (by omega)
  have w1 : IntKind.i64.wrap (n : Int) = (n : Int) := wrap_i64 (by omega) (by omega)
  have w2 : IntKind.i64.wrap (-(n : Int)) = -(n : Int) := by simp [IntKind.wrap, IntKind.bits, IntKind.signed]; omega
  have hs : ∀ z : Int, (stSm z).x.step = z := fun _ => rfl
  have hk : ∀ z : Int, (stSm z).x.kind = 3 := fun _ => rfl
  have q1 := f1 stQ (by decide)
  simp only [pstmtAV, st_read1, erI_none] at q1
  refine CS.tr0 lowF Tryz.func5 (by kernel_rfl) 0 (by simp [Tryz.f5]) (fun B hB hG => ?_) (by simp) (by simp) H
  refine Tr.goD X hG (by kernel_rfl) ?_
  have hx : ∀ z : Int, (stSm z).x.c = Sx.c ⟨3, [], t0, t0, [], t0, t0, [105], (Ex.num 1).tn, (Ex.num 2).tn, z⟩ := fun z => rfl
  have key : ∀ z : Int, -4611686018427387904 < z → z < 4611686018427387904 → (∀ H, O 17 [.agg (stSm z).x.c] H = some (.str (stmtT (stSm z).x), H)) ∧ (stmtT (stSm z).x).length < 1000 ∧ ∀ H, O 16 [.str (stmtT (stSm z).x)] H = some (.tup [.agg (stSm z).x.c, .nilIface], H) := fun z h1 h2 => by
    have hi : I64 z := ⟨by omega, by omega⟩
    have hl : (stmtT (stSm z).x).length < 1000 := by
      rw [stTxt z hi]
      have := itoa_len hi
      split
      · decide
      · simp only [List.length_append]
        have : stQ.length = 11 := rfl
        have : ([44, 32] : List UInt8).length = 2 := rfl
        omega
    refine ⟨f2 _ (stOk z hi), hl, fun H => ?_⟩
    have := f1 _ (Nat.lt_trans hl (by decide)) H
    simp only [pstmtAV, st_again z h1 h2, erI_none] at this
    exact this
  cases b with
  | false =>
    have g1 := f1 (stP ++ dd n) (by rw [List.length_append]; have : stP.length = 13 := rfl; omega)
    simp only [pstmtAV, st_read n (by omega), erI_none] at g1
    obtain ⟨g2, g3, g4⟩ := key n (by omega) (by omega)
    generalize stmtT (stSm n).x = T at *
    simp only [hx, Sx.c] at g1 g2 g4 q1
    simp only [hs, hk] at g1 g2 g4 q1
    simp only [stP, stQ, List.cons_append, List.nil_append] at g1 q1
    generalize dd n = D at *
    have e1 : 13 + D.length ≤ 9223372036854775807 := by omega
    simp [Tryz.f5, f3, f4, w1, e1, g1, q1, g2, g4, hs, hk]
  | true =>
    have hz : -4611686018427387904 < negW n ∧ negW n < 4611686018427387904 ∧ negW n = -(n : Int) := by
      have : negW n = -(n : Int) := by unfold negW; simp [IntKind.wrap, IntKind.bits, IntKind.signed]; omega
      omega
    have g1 := f1 (stP ++ 45 :: ([32] ++ dd n)) (by simp only [List.length_append, List.length_cons, List.length_nil]; have : stP.length = 13 := rfl; omega)
    simp only [pstmtAV, st_readN n (by omega) [32] (.inr rfl), erI_none] at g1
    obtain ⟨g2, g3, g4⟩ := key (negW n) hz.1 hz.2.1
    rw [hz.2.2] at g1 g2 g3 g4
    generalize stmtT (stSm (-(n : Int))).x = T at *
    simp only [hx, Sx.c] at g1 g2 g4 q1
    simp only [hs, hk] at g1 g2 g4 q1
    simp only [stP, stQ, List.cons_append, List.nil_append] at g1 q1
    generalize dd n = D at *
    have e1 : 15 + D.length ≤ 9223372036854775807 := by omega
    simp [Tryz.f5, f3, f4, w1, w2, e1, g1, q1, g2, g4, hs, hk]
end Go.Proofs.YtejjlojfgcgopaaGreatDoor
