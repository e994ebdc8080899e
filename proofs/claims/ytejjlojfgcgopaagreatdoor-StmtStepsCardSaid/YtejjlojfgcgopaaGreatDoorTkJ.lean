/- tok.Line: the words of a text, by one function on what is left of it. -/
import Derived.Test.YtejjlojfgcgopaaGreatDoorTkH
import Derived.Test.YtejjlojfgcgopaaGreatDoorTy
set_option linter.unusedSimpArgs false
set_option linter.unusedVariables false
namespace Go.Proofs.YtejjlojfgcgopaaGreatDoor
open Go.RowKit Go.Proofs.Fw
set_option maxRecDepth 100000
set_option maxHeartbeats 4000000
-- 

/-- A word of a text. -/
structure Wd where
  kind : Nat
  text : List UInt8
  at_ : Nat
  n : Nat
  deriving DecidableEq

/-- The word that a text begins with, and what is wrong with it. -/
def wordOf (s : List UInt8) : (Nat × List UInt8 × Nat) × Nat :=
  match s with
  | [] => ((0, [], 0), 3)
  | c :: _ =>
    if isSmall c then ((if isKey (s.take (frontLen isInner s)) then 4 else 1, s.take (frontLen isInner s), 0), if 31 < frontLen isInner s then 4 else 0)
    else if isDigit c then (if numOf (s.take (frontLen isDigit s)) < 9223372036854775808 then ((2, s.take (frontLen isDigit s), numOf (s.take (frontLen isDigit s))), 0) else ((2, s.take (frontLen isDigit s), 0), 5))
    else if signLen s = 0 then ((0, [], 0), 3) else ((3, s.take (signLen s), 0), 0)

def isBlank (c : UInt8) : Bool := c.toNat == 32 || c.toNat == 9

/-- The words of what is left of a text: its place; does a number end just here? Or the first place that is wrong. -/
def lex : Nat → List UInt8 → Nat → Bool → Except (Nat × Nat) (List Wd)
  | 0, _, _, _ => .ok []
  | _ + 1, [], _, _ => .ok []
  | n + 1, c :: r, p, num =>
    if isBlank c then lex n r (p + 1) false
    else
      let w := wordOf (c :: r)
      let e := if num && isSmall c then 3 else w.2
      if e ≠ 0 then .error (p, e)
      else match lex n ((c :: r).drop w.1.2.1.length) (p + w.1.2.1.length) (w.1.1 == 2) with
        | .ok l => .ok (⟨w.1.1, w.1.2.1, p, w.1.2.2⟩ :: l)
        | .error x => .error x

def wdCells (t : Wd) : List AV := [.int .i64 t.kind, .str t.text, .int .i64 t.at_, .int .i64 t.n]
def wdsCells (l : List Wd) : List AV := l.flatMap wdCells
/-- A row of words, nobody's. -/
def wdsAV (l : List Wd) : AV := if l = [] then .nilSlice else .slice .unk 4 l.length (wdsCells l)
/-- A Fault of one part. -/
def faultAV (w : List UInt8) (p e : Nat) : AV := .iface 152 (.vptr [.str w, .int .i64 p, .iface 134 (.int .i64 e)] 0)
def wordTxt : List UInt8 := [119, 111, 114, 100]
def lineAV : Except (Nat × Nat) (List Wd) → AV
  | .ok l => .tup [wdsAV l, .nilIface]
  | .error (p, e) => .tup [.nilSlice, faultAV wordTxt p e]

theorem wdCells_low (t : Wd) : lowL 0 (wdCells t) = true := rfl
theorem wdsCells_low (l : List Wd) : lowL 0 (wdsCells l) = true := lowL_flatMap 0 wdCells wdCells_low l
theorem wdsCells_length : ∀ l : List Wd, (wdsCells l).length = l.length * 4
  | [] => rfl
  | t :: l => by
    have := wdsCells_length l
    simp only [wdsCells, List.flatMap_cons, List.length_append, List.length_cons] at this ⊢
    rw [this]
    simp [wdCells]
    omega

noncomputable def c11 : Code := bodyOf Tryz.f51
/-- The word of a text, as the evaluator tells it. -/
def wordAV (s : List UInt8) : AV := .tup [.agg [.int .i64 (wordOf s).1.1, .str (wordOf s).1.2.1, .int .i64 0, .int .i64 (wordOf s).1.2.2], .int .i64 (wordOf s).2]

/-- The row of words of the run. -/
def outAV (l : List Wd) : AV := if l = [] then .nilSlice else .slice (.tok 0) 4 l.length (wdsCells l)
def outH (l : List Wd) : AH := if l = [] then [] else [some (.tok l.length)]
/-- Does a number end at a place? -/
def numAt (l : List Wd) (i : Nat) : Bool := match l.getLast? with
  | some t => t.kind == 2 && t.at_ + t.text.length == i
  | none => false

/-- What holds at the head of the loop. -/
def LineI (s : List UInt8) (k : Nat) (t : List AV) (H : AH) : Prop :=
  ∃ i l, i + k = s.length ∧ t = mkT 89 [(0, .str s), (4, outAV l), (5, .int .i64 i)] ∧ H = outH l ∧ (∀ x ∈ l, x.at_ + x.text.length ≤ i) ∧
    lex (s.length + 1) s 0 false = (match lex (k + 1) (s.drop i) i (numAt l i) with
      | .ok r => .ok (l ++ r)
      | .error x => .error x)

noncomputable def loop11 : Code := fstC (sndC (sndC c11))
noncomputable def body11 : Code := inC (inC (sndC loop11))
theorem draws11 : okDraws envT body11 = true := by kernel_rfl

theorem bsTok (a : Nat) (b : List UInt8) (c d : Nat) : abuildSlice Tryz.prog 125 1 [(0, .agg [.int .i64 a, .str b, .int .i64 c, .int .i64 d])] = some (.slice .full 4 1 [.int .i64 a, .str b, .int .i64 c, .int .i64 d]) := by kernel_rfl
theorem buFault (w : List UInt8) (p e : Int) : abuild Tryz.prog 156 [(0, .str w), (1, .int .i64 p), (2, .iface 134 (.int .i64 e))] = some (.agg [.str w, .int .i64 p, .iface 134 (.int .i64 e)]) := by kernel_rfl

theorem imm_T : envT.imm 156 = true := rfl
/-- A blank is passed by. -/
theorem line_bl (B : Bs) (hB : B.H = []) (O : Orc) (s : List UInt8) (i : Nat) (v4 : AV) (H : AH) (hi : i < s.length) (hs : s.length < 9223372036854775807) (hb : s[i].toNat = 32 ∨ s[i].toNat = 9) (Q : AEx → List AV → AH → Prop)
    (hQ : ∀ t : List AV, Less B t H (mkT 89 [(0, .str s), (4, v4), (5, .int .i64 ((i + 1 : Nat) : Int))]) H → Q .normal t H) (hl : low H.length v4 = true) (hH : lowH H.length H = true) :
    Wx O Tryz.prog envT body11 (mkT 89 [(0, .str s), (4, v4), (5, .int .i64 i)]) H Q := by
  have hi' : (i : Int) < s.length := by omega
  have w7 : IntKind.i64.wrap ((i : Int) + 1) = (i : Int) + 1 := wrap_i64 (by omega) (by omega)
  rw [Go_of]
  rcases hb with hb | hb <;>
    simp [body11, loop11, c11, Tryz.f51, hi, hi', hb, w7]
  all_goals
    refine hQ _ ?_
    refine Less.mkT H.length (by simp [hB]) ?_ (by simp) hH
    simp
    exact ⟨.same rfl rfl, .same rfl hl, .same rfl rfl⟩

/-- The first word of a text. -/
theorem line_w0 (B : Bs) (hB : B.H = []) (O : Orc) (s : List UInt8) (i : Nat) (K : Nat) (T : List UInt8) (M e : Nat) (hi : i < s.length) (hs : s.length < 9223372036854775807) (hb1 : ((s[i].toNat : Int) == 32) = false) (hb2 : ((s[i].toNat : Int) == 9) = false)
    (h24 : ∀ H, O 87 [.str (s.drop i)] H = some (.tup [.agg [.int .i64 K, .str T, .int .i64 0, .int .i64 M], .int .i64 e], H)) (hT : i + T.length < 9223372036854775807) (Q : AEx → List AV → AH → Prop)
    (hN : e = 0 → ∀ t H, Less B t H (mkT 89 [(0, .str s), (4, outAV [⟨K, T, i, M⟩]), (5, .int .i64 ((i + T.length : Nat) : Int))]) (outH [⟨K, T, i, M⟩]) → Q .normal t H)
    (hE : e ≠ 0 → ∀ t H, Fin Tryz.prog Tryz.f51 0 4 (lineAV (.error (i, e))) [] .ret t H → Q .ret t H) :
    Wx O Tryz.prog envT body11 (mkT 89 [(0, .str s), (4, .nilSlice), (5, .int .i64 i)]) [] Q := by
  have hi' : (i : Int) < s.length := by omega
  have hi'' : (i : Int) ≤ s.length := by omega
  have w7 : IntKind.i64.wrap ((i : Int) + (T.length : Int)) = (i : Int) + (T.length : Int) := wrap_i64 (by omega) (by omega)
  rw [Go_of]
  simp [body11, loop11, c11, Tryz.f51, hi, hi', hi'', hb1, hb2, h24]
  refine GoD_split (fun he => ?_) (fun he => ?_)
  · simp [buFault, imm_T]
    refine hE he _ _ ?_
    rw [Fin_ret]
    simp [lineAV, faultAV, wordTxt, Tryz.f51]
  · simp [bsTok, aappend_nil (Ty.ec125), w7]
    refine hN (by simpa using he) _ _ ?_
    refine Less.view (fun _ => 1) 1 (by simp [hB]) (by omega) (by simp [hB]) (by simp [outH]) ?_ (by simp [outH]) (WkVL.mkT ?_)
    · intro j hj
      obtain rfl : j = 0 := by omega
      simp [outH, renE]
    · simp [outAV, wdsCells, wdCells]
      exact ⟨.same rfl rfl, .view 9 _ _ (by simp) (by simp [ren, renL]), .same rfl rfl⟩

/-- A further word: 'cs' are the cells of those ahead; kd, tx, pl: the last one's kind, text, place. -/
theorem line_w1 (B : Bs) (hB : B.H = []) (O : Orc) (s : List UInt8) (i m : Nat) (cs : List AV) (kd pl : Nat) (tx : List UInt8) (sm : Bool) (K : Nat) (T : List UInt8) (M e : Nat) (hi : i < s.length) (hs : s.length < 137438953472)
    (hb1 : ((s[i].toNat : Int) == 32) = false) (hb2 : ((s[i].toNat : Int) == 9) = false)
    (c0 : cs[m * 4]? = some (.int .i64 kd)) (c1 : cs[m * 4 + 1]? = some (.str tx)) (c2 : cs[m * 4 + 2]? = some (.int .i64 pl)) (hcs : lowL 0 cs = true) (hm : m < 137438953470) (hpl : pl + tx.length ≤ s.length)
    (h25 : ∀ H, O 88 [.int .u8 (s[i].toNat : Int)] H = some (.bool sm, H))
    (h24 : ∀ H, O 87 [.str (s.drop i)] H = some (.tup [.agg [.int .i64 K, .str T, .int .i64 0, .int .i64 M], .int .i64 e], H)) (hT : i + T.length < 9223372036854775807) (Q : AEx → List AV → AH → Prop) (e' : Nat) (he' : e' = if sm = true ∧ kd = 2 ∧ pl + tx.length = i then 3 else e)
    (hN : e' = 0 → ∀ t H, Less B t H (mkT 89 [(0, .str s), (4, .slice (.tok 0) 4 (m + 2) (cs ++ wdCells ⟨K, T, i, M⟩)), (5, .int .i64 ((i + T.length : Nat) : Int))]) [some (.tok (m + 2))] → Q .normal t H)
    (hE : e' ≠ 0 → ∀ t H, Fin Tryz.prog Tryz.f51 0 4 (lineAV (.error (i, e'))) [] .ret t H → Q .ret t H) :
    Wx O Tryz.prog envT body11 (mkT 89 [(0, .str s), (4, .slice (.tok 0) 4 (m + 1) cs), (5, .int .i64 i)]) [some (.tok (m + 1))] Q := by
  have hi' : (i : Int) < s.length := by omega
  have hi'' : (i : Int) ≤ s.length := by omega
  have w7 : IntKind.i64.wrap ((i : Int) + (T.length : Int)) = (i : Int) + (T.length : Int) := wrap_i64 (by omega) (by omega)
  have w8 : IntKind.i64.wrap (m : Int) = (m : Int) := wrap_i64 (by omega) (by omega)
  have w9 : IntKind.i64.wrap ((pl : Int) + (tx.length : Int)) = (pl : Int) + (tx.length : Int) := wrap_i64 (by omega) (by omega)
  have p1 : (0 : Int) < (m : Int) + 1 := by omega
  have w10 : IntKind.i64.wrap (i : Int) = (i : Int) := wrap_i64 (by omega) (by omega)
  have p2 : (m : Int) < (m : Int) + 1 := by omega
  have hlow : lowL 1 cs = true := lowL_mono (Nat.zero_le 1) cs hcs
  have hb : m + 1 + 1 ≤ 137438953472 := by omega
  rw [Go_of]
  have done : ∀ (t : List AV) (l : List (Nat × AV)) (H : AH), t = mkT 89 l → e' = 0 → l.lookup 0 = some (.str s) → l.lookup 4 = some (.slice (.tok 0) 4 (m + 1 + 1) (cs ++ [.int .i64 K, .str T, .int .i64 i, .int .i64 M])) →
      l.lookup 5 = some (.int .i64 ((i : Int) + T.length)) → H.take 1 = [some (.tok (m + 1 + 1))] → Q .normal t H := by
    rintro t l H rfl h0 h1 h2 h3 h4
    refine hN h0 _ _ ?_
    refine Less.mkT 1 (by simp [hB]) ?_ h4 (by simp)
    simp [h1, h2, h3, wdCells]
    exact ⟨.same rfl rfl, .same rfl (by simp [hlow]), .same rfl rfl⟩
  cases sm
  · simp at he'
    subst he'
    simp [body11, loop11, c11, Tryz.f51, hi, hi', hi'', hb1, hb2, h24, h25, c0, c1, c2, w8, w9, w10, p1, p2]
    refine GoD_split (fun he => ?_) (fun he => ?_)
    · simp [buFault, imm_T]
      refine hE he _ _ ?_
      rw [Fin_ret]
      simp [lineAV, faultAV, wordTxt, Tryz.f51]
    · simp [bsTok, aappend_tok (Ty.ec125), w7, hb]
      refine done _ _ _ rfl (by simpa using he) ?_ ?_ ?_ ?_ <;> simp
  · by_cases hk : (kd : Int) = 2
    · by_cases ha : (pl : Int) + (tx.length : Int) = (i : Int)
      · rw [if_pos ⟨rfl, by omega, by omega⟩] at he'
        subst he'
        simp [body11, loop11, c11, Tryz.f51, hi, hi', hi'', hb1, hb2, h24, h25, c0, c1, c2, w8, w9, w10, p1, p2, hk, ha, buFault, imm_T]
        refine hE (by decide) _ _ ?_
        rw [Fin_ret]
        simp [lineAV, faultAV, wordTxt, Tryz.f51]
      · rw [if_neg (fun h => ha (by omega))] at he'
        subst he'
        simp [body11, loop11, c11, Tryz.f51, hi, hi', hi'', hb1, hb2, h24, h25, c0, c1, c2, w8, w9, w10, p1, p2, hk, ha]
        refine GoD_split (fun he => ?_) (fun he => ?_)
        · simp [buFault, imm_T]
          refine hE he _ _ ?_
          rw [Fin_ret]
          simp [lineAV, faultAV, wordTxt, Tryz.f51]
        · simp [bsTok, aappend_tok (Ty.ec125), w7, hb]
          refine done _ _ _ rfl (by simpa using he) ?_ ?_ ?_ ?_ <;> simp
    · rw [if_neg (fun h => hk (by omega))] at he'
      subst he'
      simp [body11, loop11, c11, Tryz.f51, hi, hi', hi'', hb1, hb2, h24, h25, c0, c1, c2, w8, w9, w10, p1, p2, hk]
      refine GoD_split (fun he => ?_) (fun he => ?_)
      · simp [buFault, imm_T]
        refine hE he _ _ ?_
        rw [Fin_ret]
        simp [lineAV, faultAV, wordTxt, Tryz.f51]
      · simp [bsTok, aappend_tok (Ty.ec125), w7, hb]
        refine done _ _ _ rfl (by simpa using he) ?_ ?_ ?_ ?_ <;> simp
end Go.Proofs.YtejjlojfgcgopaaGreatDoor
