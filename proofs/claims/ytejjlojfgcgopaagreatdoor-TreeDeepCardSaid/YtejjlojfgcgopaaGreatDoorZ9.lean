/- tok.Line: the words of a text, by one function on what is le .. Statements: what the program's reader makes of words, as pla -/
import Derived.Test.YtejjlojfgcgopaaGreatDoorZ8
import Derived.Test.YtejjlojfgcgopaaGreatDoorZ7
set_option linter.unusedSimpArgs false
set_option linter.unusedVariables false
namespace Go.Proofs.YtejjlojfgcgopaaGreatDoor
open Go.RowKit Go.Proofs.Fw
set_option maxRecDepth 100000
set_option maxHeartbeats 4000000
structure Wd where
  kind : Nat
  text : List UInt8
  at_ : Nat
  n : Nat
  deriving DecidableEq
def wordOf (s : List UInt8) : (Nat × List UInt8 × Nat) × Nat :=
  match s with
  | [] => ((0, [], 0), 3)
  | c :: _ =>
    if isSmall c then ((if isKey (s.take (frontLen isInner s)) then 4 else 1, s.take (frontLen isInner s), 0), if 31 < frontLen isInner s then 4 else 0)
    else if isDigit c then (if numOf (s.take (frontLen isDigit s)) < 9223372036854775808 then ((2, s.take (frontLen isDigit s), numOf (s.take (frontLen isDigit s))), 0) else ((2, s.take (frontLen isDigit s), 0), 5))
    else if signLen s = 0 then ((0, [], 0), 3) else ((3, s.take (signLen s), 0), 0)
def isBlank (c : UInt8) : Bool := c.toNat == 32 || c.toNat == 9
def lex : Nat → List UInt8 → Nat → Bool → Except (Nat × Nat) (List Wd)
  | 0, _, _, _ => .ok []
  | _ + 1, [], _, _ => .ok []
  | n + 1, c :: r, p, num =>
    if isBlank c then lex n r (p + 1) false
    else
      let w := wordOf (c :: r)
      let e := if num && isSmall c then 3 else w.2
      if e ≠ 0 then .error (p, e)
      else match lex n ((c :: r).drop w.1.2.1.length) (p + w.1.2.1.length) (w.1.1 == 2) with
        | .ok l => .ok (⟨w.1.1, w.1.2.1, p, w.1.2.2⟩ :: l)
        | .error x => .error x
def wdCells (t : Wd) : List AV := [.int .i64 t.kind, .str t.text, .int .i64 t.at_, .int .i64 t.n]
def wdsCells (l : List Wd) : List AV := l.flatMap wdCells
def wdsAV (l : List Wd) : AV := if l = [] then .nilSlice else .slice .unk 4 l.length (wdsCells l)
def faultAV (w : List UInt8) (p e : Nat) : AV := .iface 152 (.vptr [.str w, .int .i64 p, .iface 134 (.int .i64 e)] 0)
def wordTxt : List UInt8 := [119, 111, 114, 100]
def lineAV : Except (Nat × Nat) (List Wd) → AV
  | .ok l => .tup [wdsAV l, .nilIface]
  | .error (p, e) => .tup [.nilSlice, faultAV wordTxt p e]
theorem wdCells_low (t : Wd) : lowL 0 (wdCells t) = true := rfl
theorem wdsCells_low (l : List Wd) : lowL 0 (wdsCells l) = true := lowL_flatMap 0 wdCells wdCells_low l
theorem wdsCells_length : ∀ l : List Wd, (wdsCells l).length = l.length * 4
  | [] => rfl
  | t :: l => by
    have := wdsCells_length l
    simp only [wdsCells, List.flatMap_cons, List.length_append, List.length_cons] at this ⊢
    rw [this]
    simp [wdCells]
    omega
noncomputable def c11 : Code := bodyOf Tryz.f51
def wordAV (s : List UInt8) : AV := .tup [.agg [.int .i64 (wordOf s).1.1, .str (wordOf s).1.2.1, .int .i64 0, .int .i64 (wordOf s).1.2.2], .int .i64 (wordOf s).2]
def outAV (l : List Wd) : AV := if l = [] then .nilSlice else .slice (.tok 0) 4 l.length (wdsCells l)
def outH (l : List Wd) : AH := if l = [] then [] else [some (.tok l.length)]
def numAt (l : List Wd) (i : Nat) : Bool := match l.getLast? with
  | some t => t.kind == 2 && t.at_ + t.text.length == i
  | none => false
noncomputable def loop11 : Code := fstC (sndC (sndC c11))
noncomputable def body11 : Code := inC (inC (sndC loop11))
theorem draws11 : okDraws envT body11 = true := by kernel_rfl
theorem bsTok (a : Nat) (b : List UInt8) (c d : Nat) : abuildSlice Tryz.prog 125 1 [(0, .agg [.int .i64 a, .str b, .int .i64 c, .int .i64 d])] = some (.slice .full 4 1 [.int .i64 a, .str b, .int .i64 c, .int .i64 d]) := by kernel_rfl
theorem buFault (w : List UInt8) (p e : Int) : abuild Tryz.prog 156 [(0, .str w), (1, .int .i64 p), (2, .iface 134 (.int .i64 e))] = some (.agg [.str w, .int .i64 p, .iface 134 (.int .i64 e)]) := by kernel_rfl
theorem imm_T : envT.imm 156 = true := rfl
theorem line_bl (B : Bs) (hB : B.H = []) (O : Orc) (s : List UInt8) (i : Nat) (v4 : AV) (H : AH) (hi : i < s.length) (hs : s.length < 9223372036854775807) (hb : s[i].toNat = 32 ∨ s[i].toNat = 9) (Q : AEx → List AV → AH → Prop)
    (hQ : ∀ t : List AV, Less B t H (mkT 89 [(0, .str s), (4, v4), (5, .int .i64 ((i + 1 : Nat) : Int))]) H → Q .normal t H) (hl : low H.length v4 = true) (hH : lowH H.length H = true) :
    Wx O Tryz.prog envT body11 (mkT 89 [(0, .str s), (4, v4), (5, .int .i64 i)]) H Q := by
  have hi' : (i : Int) < s.length := by omega
  have w7 : IntKind.i64.wrap ((i : Int) + 1) = (i : Int) + 1 := wrap_i64 (by omega) (by omega)
  rw [Go_of]
  rcases hb with hb | hb <;>
    simp [body11, loop11, c11, Tryz.f51, hi, hi', hb, w7]
  all_goals
    refine hQ _ ?_
    refine Less.mkT H.length (by simp [hB]) ?_ (by simp) hH
    simp
    exact ⟨.same rfl rfl, .same rfl hl, .same rfl rfl⟩
theorem line_w0 (B : Bs) (hB : B.H = []) (O : Orc) (s : List UInt8) (i : Nat) (K : Nat) (T : List UInt8) (M e : Nat) (hi : i < s.length) (hs : s.length < 9223372036854775807) (hb1 : ((s[i].toNat : Int) == 32) = false) (hb2 : ((s[i].toNat : Int) == 9) = false)
    (h24 : ∀ H, O 87 [.str (s.drop i)] H = some (.tup [.agg [.int .i64 K, .str T, .int .i64 0, .int .i64 M], .int .i64 e], H)) (hT : i + T.length < 9223372036854775807) (Q : AEx → List AV → AH → Prop)
    (hN : e = 0 → ∀ t H, Less B t H (mkT 89 [(0, .str s), (4, outAV [⟨K, T, i, M⟩]), (5, .int .i64 ((i + T.length : Nat) : Int))]) (outH [⟨K, T, i, M⟩]) → Q .normal t H)
    (hE : e ≠ 0 → ∀ t H, Fin Tryz.prog Tryz.f51 0 4 (lineAV (.error (i, e))) [] .ret t H → Q .ret t H) :
    Wx O Tryz.prog envT body11 (mkT 89 [(0, .str s), (4, .nilSlice), (5, .int .i64 i)]) [] Q := by
  have hi' : (i : Int) < s.length := by omega
  have hi'' : (i : Int) ≤ s.length := by omega
  have w7 : IntKind.i64.wrap ((i : Int) + (T.length : Int)) = (i : Int) + (T.length : Int) := wrap_i64 (by omega) (by omega)
  rw [Go_of]
  simp [body11, loop11, c11, Tryz.f51, hi, hi', hi'', hb1, hb2, h24]
  refine GoD_split (fun he => ?_) (fun he => ?_)
  · simp [buFault, imm_T]
    refine hE he _ _ ?_
    rw [Fin_ret]
    simp [lineAV, faultAV, wordTxt, Tryz.f51]
  · simp [bsTok, aappend_nil (Ty.ec125), w7]
    refine hN (by simpa using he) _ _ ?_
    refine Less.view (fun _ => 1) 1 (by simp [hB]) (by omega) (by simp [hB]) (by simp [outH]) ?_ (by simp [outH]) (WkVL.mkT ?_)
    · intro j hj
      obtain rfl : j = 0 := by omega
      simp [outH, renE]
    · simp [outAV, wdsCells, wdCells]
      exact ⟨.same rfl rfl, .view 9 _ _ (by simp) (by simp [ren, renL]), .same rfl rfl⟩
theorem line_w1 (B : Bs) (hB : B.H = []) (O : Orc) (s : List UInt8) (i m : Nat) (cs : List AV) (kd pl : Nat) (tx : List UInt8) (sm : Bool) (K : Nat) (T : List UInt8) (M e : Nat) (hi : i < s.length) (hs : s.length < 137438953472)
    (hb1 : ((s[i].toNat : Int) == 32) = false) (hb2 : ((s[i].toNat : Int) == 9) = false)
    (c0 : cs[m * 4]? = some (.int .i64 kd)) (c1 : cs[m * 4 + 1]? = some (.str tx)) (c2 : cs[m * 4 + 2]? = some (.int .i64 pl)) (hcs : lowL 0 cs = true) (hm : m < 137438953470) (hpl : pl + tx.length ≤ s.length)
    (h25 : ∀ H, O 88 [.int .u8 (s[i].toNat : Int)] H = some (.bool sm, H))
    (h24 : ∀ H, O 87 [.str (s.drop i)] H = some (.tup [.agg [.int .i64 K, .str T, .int .i64 0, .int .i64 M], .int .i64 e], H)) (hT : i + T.length < 9223372036854775807) (Q : AEx → List AV → AH → Prop) (e' : Nat) (he' : e' = if sm = true ∧ kd = 2 ∧ pl + tx.length = i then 3 else e)
    (hN : e' = 0 → ∀ t H, Less B t H (mkT 89 [(0, .str s), (4, .slice (.tok 0) 4 (m + 2) (cs ++ wdCells ⟨K, T, i, M⟩)), (5, .int .i64 ((i + T.length : Nat) : Int))]) [some (.tok (m + 2))] → Q .normal t H)
    (hE : e' ≠ 0 → ∀ t H, Fin Tryz.prog Tryz.f51 0 4 (lineAV (.error (i, e'))) [] .ret t H → Q .ret t H) :
    Wx O Tryz.prog envT body11 (mkT 89 [(0, .str s), (4, .slice (.tok 0) 4 (m + 1) cs), (5, .int .i64 i)]) [some (.tok (m + 1))] Q := by
  have hi' : (i : Int) < s.length := by omega
  have hi'' : (i : Int) ≤ s.length := by omega
  have w7 : IntKind.i64.wrap ((i : Int) + (T.length : Int)) = (i : Int) + (T.length : Int) := wrap_i64 (by omega) (by omega)
  have w8 : IntKind.i64.wrap (m : Int) = (m : Int) := wrap_i64 (by omega) (by omega)
  have w9 : IntKind.i64.wrap ((pl : Int) + (tx.length : Int)) = (pl : Int) + (tx.length : Int) := wrap_i64 (by omega) (by omega)
  have p1 : (0 : Int) < (m : Int) + 1 := by omega
  have w10 : IntKind.i64.wrap (i : Int) = (i : Int) := wrap_i64 (by omega) (by omega)
  have p2 : (m : Int) < (m : Int) + 1 := by omega
  have hlow : lowL 1 cs = true := lowL_mono (Nat.zero_le 1) cs hcs
  have hb : m + 1 + 1 ≤ 137438953472 := by omega
  rw [Go_of]
  have done : ∀ (t : List AV) (l : List (Nat × AV)) (H : AH), t = mkT 89 l → e' = 0 → l.lookup 0 = some (.str s) → l.lookup 4 = some (.slice (.tok 0) 4 (m + 1 + 1) (cs ++ [.int .i64 K, .str T, .int .i64 i, .int .i64 M])) →
      l.lookup 5 = some (.int .i64 ((i : Int) + T.length)) → H.take 1 = [some (.tok (m + 1 + 1))] → Q .normal t H := by
    rintro t l H rfl h0 h1 h2 h3 h4
    refine hN h0 _ _ ?_
    refine Less.mkT 1 (by simp [hB]) ?_ h4 (by simp)
    simp [h1, h2, h3, wdCells]
    exact ⟨.same rfl rfl, .same rfl (by simp [hlow]), .same rfl rfl⟩
  cases sm
  · simp at he'
    subst he'
    simp [body11, loop11, c11, Tryz.f51, hi, hi', hi'', hb1, hb2, h24, h25, c0, c1, c2, w8, w9, w10, p1, p2]
    refine GoD_split (fun he => ?_) (fun he => ?_)
    · simp [buFault, imm_T]
      refine hE he _ _ ?_
      rw [Fin_ret]
      simp [lineAV, faultAV, wordTxt, Tryz.f51]
    · simp [bsTok, aappend_tok (Ty.ec125), w7, hb]
      refine done _ _ _ rfl (by simpa using he) ?_ ?_ ?_ ?_ <;> simp
  · by_cases hk : (kd : Int) = 2
    · by_cases ha : (pl : Int) + (tx.length : Int) = (i : Int)
      · rw [if_pos ⟨rfl, by omega, by omega⟩] at he'
        subst he'
        simp [body11, loop11, c11, Tryz.f51, hi, hi', hi'', hb1, hb2, h24, h25, c0, c1, c2, w8, w9, w10, p1, p2, hk, ha, buFault, imm_T]
        refine hE (by decide) _ _ ?_
        rw [Fin_ret]
        simp [lineAV, faultAV, wordTxt, Tryz.f51]
      · rw [if_neg (fun h => ha (by omega))] at he'
        subst he'
        simp [body11, loop11, c11, Tryz.f51, hi, hi', hi'', hb1, hb2, h24, h25, c0, c1, c2, w8, w9, w10, p1, p2, hk, ha]
        refine GoD_split (fun he => ?_) (fun he => ?_)
        · simp [buFault, imm_T]
          refine hE he _ _ ?_
          rw [Fin_ret]
          simp [lineAV, faultAV, wordTxt, Tryz.f51]
        · simp [bsTok, aappend_tok (Ty.ec125), w7, hb]
          refine done _ _ _ rfl (by simpa using he) ?_ ?_ ?_ ?_ <;> simp
    · rw [if_neg (fun h => hk (by omega))] at he'
      subst he'
      simp [body11, loop11, c11, Tryz.f51, hi, hi', hi'', hb1, hb2, h24, h25, c0, c1, c2, w8, w9, w10, p1, p2, hk]
      refine GoD_split (fun he => ?_) (fun he => ?_)
      · simp [buFault, imm_T]
        refine hE he _ _ ?_
        rw [Fin_ret]
        simp [lineAV, faultAV, wordTxt, Tryz.f51]
      · simp [bsTok, aappend_tok (Ty.ec125), w7, hb]
        refine done _ _ _ rfl (by simpa using he) ?_ ?_ ?_ ?_ <;> simp
end Go.Proofs.YtejjlojfgcgopaaGreatDoor

namespace Go.Proofs.YtejjlojfgcgopaaGreatDoor
set_option maxHeartbeats 1000000
inductive Ex where
  | none
  | num (n : Nat)
  | var (s : List UInt8)
  | elem (s : List UInt8) (a : List Ex)
  | neg (e : Ex)
  | bin (k : Nat) (a b : Ex)
  deriving Inhabited
structure St where
  at_ : Nat
  deep : Nat
  err : Option (Nat × Nat)
def isS (ts : List Wd) (i : Nat) (s : List UInt8) : Bool := match ts[i]? with
  | some t => t.kind == 3 && t.text == s
  | none => false
def St.fail (r : St) (p e : Nat) : St := match r.err with
  | none => ⟨r.at_, r.deep, some (p, e)⟩
  | some _ => r
def St.step (r : St) : St := ⟨r.at_ + 1, r.deep, r.err⟩
def nextB (ts : List Wd) (r : St) (s : List UInt8) : Bool := r.err.isNone && isS ts r.at_ s
def mustS (ts : List Wd) (r : St) (s : List UInt8) : St := if nextB ts r s then r.step else r.fail r.at_ 2
abbrev Rd := St → Ex × St
def rowL (ts : List Wd) (of : Rd) (f : List UInt8) (one : Nat) (s : List UInt8) (two : Nat) : Nat → Ex → Rd
  | 0, e, r => (e, r)
  | n + 1, e, r =>
    if r.err.isSome then (.none, r)
    else if nextB ts r s then rowL ts of f one s two n (.bin two e (of r.step).1) (of r.step).2
    else if nextB ts r f then rowL ts of f one s two n (.bin one e (of r.step).1) (of r.step).2
    else (e, r)
def rowF (ts : List Wd) (of : Rd) (f : List UInt8) (one : Nat) (s : List UInt8) (two : Nat) : Rd := fun r =>
  rowL ts of f one s two (ts.length + 1) (of r).1 (of r).2
def plusT : List UInt8 := [43]
def minusT : List UInt8 := [45]
def starT : List UInt8 := [42]
def slashT : List UInt8 := [47]
def openT : List UInt8 := [40]
def shutT : List UInt8 := [41]
def commaT : List UInt8 := [44]
def termF (ts : List Wd) (fac : Rd) : Rd := rowF ts fac starT 7 slashT 8
def sumF (ts : List Wd) (fac : Rd) : Rd := rowF ts (termF ts fac) plusT 5 minusT 6
def inF (p : Nat) (of : Rd) : Rd := fun r =>
  let r2 := if r.deep + 1 > 20 then (⟨r.at_, r.deep + 1, r.err⟩ : St).fail p 4 else ⟨r.at_, r.deep + 1, r.err⟩
  if r2.err.isNone then ((of r2).1, ⟨(of r2).2.at_, (of r2).2.deep - 1, (of r2).2.err⟩) else (.none, ⟨r2.at_, r2.deep - 1, r2.err⟩)
def subL (ts : List Wd) (sum : Rd) : Nat → List Ex → St → List Ex × St
  | 0, a, r => (a, r)
  | n + 1, a, r =>
    if nextB ts (sum r).2 commaT then
      subL ts sum n (a ++ [(sum r).1]) (if a.length + 1 == 4 then (sum r).2.fail (sum r).2.at_ 4 else (sum r).2).step
    else (a ++ [(sum r).1], (sum r).2)
def nameF (ts : List Wd) (sum : Rd) (s : List UInt8) : Rd := fun r =>
  if nextB ts r.step openT then
    (.elem s (subL ts sum 6 [] r.step.step).1, mustS ts (subL ts sum 6 [] r.step.step).2 shutT)
  else (.var s, r.step)
def facF (ts : List Wd) (sum fac : Rd) : Rd := fun r =>
  match r.err, ts[r.at_]? with
  | none, some t =>
    if t.kind == 2 then (.num t.n, r.step)
    else if t.kind == 1 then nameF ts sum t.text r
    else if isS ts r.at_ minusT then (.neg (inF r.at_ fac r.step).1, (inF r.at_ fac r.step).2)
    else if isS ts r.at_ openT then ((inF r.at_ sum r.step).1, mustS ts (inF r.at_ sum r.step).2 shutT)
    else (.none, r.fail r.at_ 2)
  | _, _ => (.none, r.fail r.at_ 2)
def fac (ts : List Wd) : Nat → Rd
  | 0 => fun r => (.none, r)
  | n + 1 => facF ts (sumF ts (fac ts n)) (fac ts n)
def sumAt (ts : List Wd) (r : St) : Ex × St := sumF ts (fac ts (ts.length + 1)) r
def parseX (ts : List Wd) : Ex × Nat × Option (Nat × Nat) :=
  match (sumAt ts ⟨0, 0, none⟩).2.err with
  | none => ((sumAt ts ⟨0, 0, none⟩).1, (sumAt ts ⟨0, 0, none⟩).2.at_, none)
  | some x => (.none, 0, some x)
def relTs : List (List UInt8) := [[60], [60, 61], [62], [62, 61], [61, 61], [47, 61]]
def relB (s : List UInt8) : Bool := relTs.contains s
def condMid (ts : List Wd) (r : St) : List UInt8 × St :=
  match r.err with
  | some _ => ([], r)
  | none => (match ts[r.at_]? with
    | some t => if t.kind == 3 && relB t.text then (t.text, r.step) else ([], r.fail r.at_ 2)
    | none => ([], r.fail r.at_ 2))
def parseC (ts : List Wd) : (List UInt8 × Ex × Ex) × Nat × Option (Nat × Nat) :=
  let a := sumAt ts ⟨0, 0, none⟩
  let m := condMid ts a.2
  let b := sumAt ts m.2
  match b.2.err with
  | none => ((m.1, a.1, b.1), b.2.at_, none)
  | some x => (([], .none, .none), 0, some x)
end Go.Proofs.YtejjlojfgcgopaaGreatDoor
namespace Go.Proofs.YtejjlojfgcgopaaGreatDoor
set_option maxHeartbeats 1000000
def rrowL (ts : List Wd) (of : Rd) (f : List UInt8) (one : Nat) (s : List UInt8) (two : Nat) : Nat → Ex → Rd
  | 0, e, r => (e, r)
  | n + 1, e, r =>
    if nextB ts r f then rrowL ts of f one s two n (.bin one e (of r.step).1) (of r.step).2
    else if nextB ts r s then rrowL ts of f one s two n (.bin two e (of r.step).1) (of r.step).2
    else (e, r)
def rrowF (ts : List Wd) (of : Rd) (f : List UInt8) (one : Nat) (s : List UInt8) (two : Nat) : Rd := fun r =>
  rrowL ts of f one s two (ts.length + 1) (of r).1 (of r).2
def rtermF (ts : List Wd) (fac : Rd) : Rd := rrowF ts fac starT 7 slashT 8
def rsumF (ts : List Wd) (fac : Rd) : Rd := rrowF ts (rtermF ts fac) plusT 5 minusT 6
def rdeep (of : Rd) : Rd := fun r => ((of ⟨r.at_, r.deep + 1, r.err⟩).1, ⟨(of ⟨r.at_, r.deep + 1, r.err⟩).2.at_, r.deep, (of ⟨r.at_, r.deep + 1, r.err⟩).2.err⟩)
def rsubL (ts : List Wd) (sum : Rd) : Nat → List Ex → St → List Ex × St
  | 0, a, r => (a, r)
  | n + 1, a, r =>
    if nextB ts r commaT then
      (if 4 ≤ a.length then (a, r.fail r.at_ 4) else rsubL ts sum n (a ++ [(sum r.step).1]) (sum r.step).2)
    else (a, mustS ts r shutT)
def rsubs (ts : List Wd) (sum : Rd) (r : St) : List Ex × St := rsubL ts sum 5 [(sum r).1] (sum r).2
def rfacF (ts : List Wd) (sum fac : Rd) : Rd := fun r =>
  match r.err, ts[r.at_]? with
  | none, some t =>
    if t.kind == 2 then (.num t.n, r.step)
    else if t.kind == 1 then
      (if nextB ts r.step openT then (.elem t.text (rsubs ts sum r.step.step).1, (rsubs ts sum r.step.step).2) else (.var t.text, r.step))
    else if isS ts r.at_ minusT || isS ts r.at_ openT then
      (if 20 ≤ r.deep then (.none, r.fail r.at_ 4)
      else if isS ts r.at_ minusT then (.neg (rdeep fac r.step).1, (rdeep fac r.step).2)
      else ((rdeep sum r.step).1, mustS ts (rdeep sum r.step).2 shutT))
    else (.none, r.fail r.at_ 2)
  | _, _ => (.none, r.fail r.at_ 2)
def rfac (ts : List Wd) : Nat → Rd
  | 0 => fun r => (.none, r)
  | n + 1 => rfacF ts (rsumF ts (rfac ts n)) (rfac ts n)
def okS (a b : St) : Prop := a.err = b.err ∧ (a.err = none → a = b)
def okX (x y : Ex × St) : Prop := okS x.2 y.2 ∧ (x.2.err = none → x.1 = y.1)
def keepsE (of : Rd) : Prop := ∀ r x, r.err = some x → (of r).2.err = some x
def okR (f g : Rd) : Prop := (∀ r, okX (f r) (g r)) ∧ keepsE f ∧ keepsE g ∧ (∀ r, (f r).2.deep = r.deep) ∧ (∀ r, (g r).2.deep = r.deep)
theorem okX.run {f g : Rd} (h : okR f g) {a b : St} (hs : okS a b) : okX (f a) (g b) := by
  obtain ⟨h1, h2, h3, _, _⟩ := h
  cases he : a.err with
  | none =>
    obtain rfl := hs.2 he
    exact h1 a
  | some x =>
    have hb : b.err = some x := by rw [← hs.1, he]
    have e1 := h2 a x he
    have e2 := h3 b x hb
    exact ⟨⟨by rw [e1, e2], fun h => by rw [e1] at h; cases h⟩, fun h => by rw [e1] at h; cases h⟩
theorem fail_err (r : St) (p e : Nat) : (r.fail p e).err = some (r.err.getD (p, e)) := by
  unfold St.fail; split <;> simp_all
theorem fail_some {r : St} {x : Nat × Nat} (h : r.err = some x) (p e : Nat) : r.fail p e = r := by
  unfold St.fail; simp [h]
theorem fail_deep (r : St) (p e : Nat) : (r.fail p e).deep = r.deep := by unfold St.fail; split <;> rfl
theorem nextB_err {ts : List Wd} {r : St} {x : Nat × Nat} (h : r.err = some x) (s : List UInt8) : nextB ts r s = false := by simp [nextB, h]
theorem mustS_err {ts : List Wd} {r : St} {x : Nat × Nat} (h : r.err = some x) (s : List UInt8) : mustS ts r s = r := by simp [mustS, nextB_err h, fail_some h]
theorem mustS_deep (ts : List Wd) (r : St) (s : List UInt8) : (mustS ts r s).deep = r.deep := by unfold mustS; split <;> simp [St.step, fail_deep]
theorem okS.must {ts : List Wd} {a b : St} (h : okS a b) (s : List UInt8) : okS (mustS ts a s) (mustS ts b s) := by
  cases he : a.err with
  | none => obtain rfl := h.2 he; exact ⟨rfl, fun _ => rfl⟩
  | some x =>
    have hb : b.err = some x := by rw [← h.1, he]
    rw [mustS_err he, mustS_err hb]; exact h
theorem two_signs {ts : List Wd} {i : Nat} {f s : List UInt8} (hne : f ≠ s) (h1 : isS ts i f = true) : isS ts i s = false := by
  unfold isS at h1 ⊢
  split at h1
  · simp at h1 ⊢; intro _; rw [h1.2]; exact hne
  · cases h1
theorem rowL_ok {ts : List Wd} {of og : Rd} (ho : okR of og) {f s : List UInt8} (hne : f ≠ s) (one two : Nat) : ∀ (n : Nat) {e1 e2 : Ex} {a b : St}, okX (e1, a) (e2, b) →
    okX (rowL ts of f one s two n e1 a) (rrowL ts og f one s two n e2 b)
  | 0, _, _, _, _, h => h
  | n + 1, e1, e2, a, b, h => by
    cases he : a.err with
    | some x =>
      have hb : b.err = some x := by rw [← h.1.1, he]
      simp only [rowL, rrowL, he, Option.isSome_some, if_true, nextB_err hb, Bool.false_eq_true, if_false]
      exact ⟨⟨by rw [he, hb], fun h => by rw [he] at h; cases h⟩, fun h => by rw [he] at h; cases h⟩
    | none =>
      obtain rfl := h.1.2 he
      obtain rfl := h.2 he
      have key := okX.run ho (a := a.step) (b := a.step) ⟨rfl, fun _ => rfl⟩
      simp only [rowL, rrowL, he, Option.isSome_none, Bool.false_eq_true, if_false]
      by_cases h1 : nextB ts a f = true
      · have h2 : nextB ts a s = false := by
          simp only [nextB, he, Option.isNone_none, Bool.true_and] at h1 ⊢
          exact two_signs hne h1
        rw [h1, h2]
        simp only [Bool.false_eq_true, if_false, if_true]
        exact rowL_ok ho hne one two n ⟨key.1, fun h => by rw [key.2 h]⟩
      · rw [Bool.not_eq_true] at h1
        rw [h1]
        simp only [Bool.false_eq_true, if_false]
        split
        · exact rowL_ok ho hne one two n ⟨key.1, fun h => by rw [key.2 h]⟩
        · exact ⟨⟨rfl, fun _ => rfl⟩, fun _ => rfl⟩
theorem rowL_keeps {ts : List Wd} {of : Rd} {f s : List UInt8} {one two : Nat} (n : Nat) (e : Ex) {r : St} {x : Nat × Nat} (h : r.err = some x) : (rowL ts of f one s two n e r).2.err = some x := by
  cases n with
  | zero => exact h
  | succ n => simp [rowL, h]
theorem rrowL_keeps {ts : List Wd} {of : Rd} {f s : List UInt8} {one two : Nat} (n : Nat) (e : Ex) {r : St} {x : Nat × Nat} (h : r.err = some x) : (rrowL ts of f one s two n e r).2.err = some x := by
  cases n with
  | zero => exact h
  | succ n => simp [rrowL, nextB_err h, h]
theorem rowL_deep {ts : List Wd} {of : Rd} (ho : ∀ r, (of r).2.deep = r.deep) {f s : List UInt8} {one two : Nat} : ∀ (n : Nat) (e : Ex) (r : St), (rowL ts of f one s two n e r).2.deep = r.deep
  | 0, _, _ => rfl
  | n + 1, e, r => by
    simp only [rowL]
    split
    · rfl
    · split
      · rw [rowL_deep ho n, ho]; rfl
      · split
        · rw [rowL_deep ho n, ho]; rfl
        · rfl
theorem rrowL_deep {ts : List Wd} {of : Rd} (ho : ∀ r, (of r).2.deep = r.deep) {f s : List UInt8} {one two : Nat} : ∀ (n : Nat) (e : Ex) (r : St), (rrowL ts of f one s two n e r).2.deep = r.deep
  | 0, _, _ => rfl
  | n + 1, e, r => by
    simp only [rrowL]
    split
    · rw [rrowL_deep ho n, ho]; rfl
    · split
      · rw [rrowL_deep ho n, ho]; rfl
      · rfl
theorem rowF_ok {ts : List Wd} {of og : Rd} (ho : okR of og) {f s : List UInt8} (hne : f ≠ s) (one two : Nat) : okR (rowF ts of f one s two) (rrowF ts og f one s two) :=
  ⟨fun r => rowL_ok ho hne one two _ (ho.1 r), fun r x h => rowL_keeps _ _ (ho.2.1 r x h), fun r x h => rrowL_keeps _ _ (ho.2.2.1 r x h),
    fun r => by rw [rowF, rowL_deep ho.2.2.2.1]; exact ho.2.2.2.1 r, fun r => by rw [rrowF, rrowL_deep ho.2.2.2.2]; exact ho.2.2.2.2 r⟩
theorem sumF_ok {ts : List Wd} {f g : Rd} (h : okR f g) : okR (sumF ts f) (rsumF ts g) :=
  rowF_ok (rowF_ok h (by decide) 7 8) (by decide) 5 6
theorem inF_ok {f g : Rd} (h : okR f g) (p : Nat) (r : St) (hd : ¬ 20 ≤ r.deep) : okX (inF p f r) (rdeep g r) := by
  have h1 : ¬ r.deep + 1 > 20 := by omega
  have key := okX.run h (a := ⟨r.at_, r.deep + 1, r.err⟩) (b := ⟨r.at_, r.deep + 1, r.err⟩) ⟨rfl, fun _ => rfl⟩
  have d1 := h.2.2.2.1 ⟨r.at_, r.deep + 1, r.err⟩
  have d2 := h.2.2.2.2 ⟨r.at_, r.deep + 1, r.err⟩
  simp only [inF, if_neg h1, rdeep]
  cases he : r.err with
  | none =>
    rw [he] at key d1 d2
    simp only [Option.isNone_none, if_true]
    refine ⟨⟨key.1.1, fun h => ?_⟩, fun h => key.2 h⟩
    have := key.1.2 h
    simp only at d1
    simp [this, d2]
  | some x =>
    rw [he] at key
    have e2 := h.2.2.1 ⟨r.at_, r.deep + 1, some x⟩ x rfl
    simp only [Option.isNone_some, Bool.false_eq_true, if_false]
    exact ⟨⟨by simp [e2], fun h => by cases h⟩, fun h => by cases h⟩
theorem inF_deep (p : Nat) {f : Rd} (hf : ∀ r, (f r).2.deep = r.deep) (r : St) : (inF p f r).2.deep = r.deep := by
  by_cases hd : r.deep + 1 > 20
  · cases h : r.err with
    | none => simp [inF, hd, h, St.fail]
    | some x => simp [inF, hd, h, St.fail]
  · cases h : r.err with
    | none => simp [inF, hd, h, hf]
    | some x => simp [inF, hd, h]
theorem inF_over (p : Nat) (f : Rd) (r : St) (hd : 20 ≤ r.deep) (he : r.err = none) : (inF p f r).2.err = some (p, 4) := by
  have h1 : r.deep + 1 > 20 := by omega
  simp [inF, h1, St.fail, he]
theorem subL_ok {ts : List Wd} {f g : Rd} (h : okR f g) : ∀ (n : Nat) (a1 a2 : List Ex) (r q : St), okS r q → (r.err = none → a1 = a2) → a1.length = a2.length → a1.length < 4 → n + a1.length = 5 →
    okS (mustS ts (subL ts f (n + 1) a1 r).2 shutT) (rsubL ts g n (a2 ++ [(g q).1]) (g q).2).2 ∧
    ((mustS ts (subL ts f (n + 1) a1 r).2 shutT).err = none → (subL ts f (n + 1) a1 r).1 = (rsubL ts g n (a2 ++ [(g q).1]) (g q).2).1)
  | 0, a1, _, _, _, _, _, _, h4, h5 => by omega
  | n + 1, a1, a2, r, q, hs, ha, hl, h4, h5 => by
    have key := okX.run h hs
    cases he : (f r).2.err with
    | some x =>
      have hb : (g q).2.err = some x := by rw [← key.1.1, he]
      simp only [subL, rsubL, nextB_err he, nextB_err hb, Bool.false_eq_true, if_false, mustS_err he, mustS_err hb]
      exact ⟨key.1, fun hh => by rw [he] at hh; cases hh⟩
    | none =>
      have er : r.err = none := by
        cases hr : r.err with
        | none => rfl
        | some x => rw [h.2.1 r x hr] at he; cases he
      obtain rfl := ha er
      have e1 := key.2 he
      have e2 := key.1.2 he
      rw [← e1, ← e2]
      generalize hst : (f r).2 = st
      generalize hex : (f r).1 = e
      rw [hst] at he
      simp only [subL, rsubL, hst, hex]
      by_cases hc : nextB ts st commaT = true
      · simp only [hc, if_true]
        by_cases h3 : a1.length + 1 = 4
        · have h3' : (a1.length + 1 == 4) = true := by simp [h3]
          have h3'' : 4 ≤ (a1 ++ [e]).length := by simp; omega
          simp only [h3', if_true, h3'']
          have e3 : (st.fail st.at_ 4).step.err = some (st.at_, 4) := by simp [St.step, fail_err, he]
          have e4 := h.2.1 _ _ e3
          simp only [subL, nextB_err e4, Bool.false_eq_true, if_false, mustS_err e4]
          exact ⟨⟨by simp [e4, fail_err, he], fun hh => by rw [e4] at hh; cases hh⟩, fun hh => by rw [e4] at hh; cases hh⟩
        · have h3' : (a1.length + 1 == 4) = false := by rw [beq_eq_false_iff_ne]; exact h3
          have h3'' : ¬ 4 ≤ (a1 ++ [e]).length := by simp; omega
          simp only [h3', if_neg h3'', Bool.false_eq_true, if_false]
          refine subL_ok h n (a1 ++ [e]) (a1 ++ [e]) st.step st.step ⟨rfl, fun _ => rfl⟩ (fun _ => rfl) rfl ?_ ?_
          · rw [List.length_append]; simp only [List.length_cons, List.length_nil]; omega
          · rw [List.length_append]; simp only [List.length_cons, List.length_nil]; omega
      · rw [Bool.not_eq_true] at hc
        simp only [hc, Bool.false_eq_true, if_false]
        exact ⟨⟨rfl, fun _ => rfl⟩, by simp⟩
theorem subL_deep {ts : List Wd} {f : Rd} (h : ∀ r, (f r).2.deep = r.deep) : ∀ (n : Nat) (a : List Ex) (r : St), (subL ts f n a r).2.deep = r.deep
  | 0, _, _ => rfl
  | n + 1, a, r => by
    simp only [subL]
    split
    · rw [subL_deep h n]
      split
      · simp [St.step, fail_deep, h]
      · simp [St.step, h]
    · exact h r
theorem rsubL_deep {ts : List Wd} {f : Rd} (h : ∀ r, (f r).2.deep = r.deep) : ∀ (n : Nat) (a : List Ex) (r : St), (rsubL ts f n a r).2.deep = r.deep
  | 0, _, _ => rfl
  | n + 1, a, r => by
    simp only [rsubL]
    split
    · split
      · simp [fail_deep]
      · rw [rsubL_deep h n, h]; rfl
    · simp [mustS_deep]
theorem facF_ok {ts : List Wd} {f g sf sg : Rd} (h : okR f g) (hs : okR sf sg) : okR (facF ts sf f) (rfacF ts sg g) := by
  refine ⟨fun r => ?_, fun r x he => ?_, fun r x he => ?_, fun r => ?_, fun r => ?_⟩
  · have same : ∀ x : Ex × St, okX x x := fun x => ⟨⟨rfl, fun _ => rfl⟩, fun _ => rfl⟩
    have odd : ∀ x, r.err = some x ∨ ts[r.at_]? = Option.none → okX (facF ts sf f r) (rfacF ts sg g r) := by
      intro x hx
      have e1 : facF ts sf f r = (.none, r.fail r.at_ 2) := by
        unfold facF; split
        · rcases hx with hx | hx <;> simp_all
        · rfl
      have e2 : rfacF ts sg g r = (.none, r.fail r.at_ 2) := by
        unfold rfacF; split
        · rcases hx with hx | hx <;> simp_all
        · rfl
      rw [e1, e2]; exact same _
    cases he : r.err with
    | some x => exact odd x (.inl he)
    | none =>
    cases ht : ts[r.at_]? with
    | none => exact odd (0, 0) (.inr ht)
    | some t =>
      simp only [facF, rfacF, he, ht]
      split
      · exact same _
      · split
        · unfold nameF
          split
          · have key := subL_ok (ts := ts) hs 5 [] [] r.step.step r.step.step ⟨rfl, fun _ => rfl⟩ (fun _ => rfl) rfl (by decide) rfl
            exact ⟨key.1, fun hh => by rw [key.2 hh]; rfl⟩
          · exact same _
        · by_cases hm : isS ts r.at_ minusT = true
          · simp only [hm, Bool.true_or, if_true]
            by_cases hd : 20 ≤ r.deep
            · have e1 := inF_over r.at_ f r.step hd (by simpa [St.step] using he)
              simp only [if_pos hd]
              exact ⟨⟨by simp [e1, fail_err, he], fun hh => by rw [e1] at hh; cases hh⟩, fun hh => by rw [e1] at hh; cases hh⟩
            · simp only [if_neg hd]
              have key := inF_ok h r.at_ r.step hd
              exact ⟨key.1, fun hh => by rw [key.2 hh]⟩
          · rw [Bool.not_eq_true] at hm
            simp only [hm, Bool.false_or, Bool.false_eq_true, if_false]
            split
            · by_cases hd : 20 ≤ r.deep
              · have e1 := inF_over r.at_ sf r.step hd (by simpa [St.step] using he)
                simp only [if_pos hd, mustS_err e1]
                exact ⟨⟨by simp [e1, fail_err, he], fun hh => by rw [e1] at hh; cases hh⟩, fun hh => by rw [e1] at hh; cases hh⟩
              · simp only [if_neg hd]
                have key := inF_ok hs r.at_ r.step hd
                refine ⟨key.1.must _, fun hh => key.2 ?_⟩
                cases hx : (inF r.at_ sf r.step).2.err with
                | none => rfl
                | some x => rw [mustS_err hx, hx] at hh; cases hh
            · exact same _
  · simp only [facF, he, fail_some he]
  · simp only [rfacF, he, fail_some he]
  · unfold facF
    split
    · split
      · rfl
      · split
        · unfold nameF
          split
          · simp [mustS_deep, subL_deep hs.2.2.2.1, St.step]
          · rfl
        · split
          · simp [inF_deep _ h.2.2.2.1, St.step]
          · split
            · simp [mustS_deep, inF_deep _ hs.2.2.2.1, St.step]
            · simp [fail_deep]
    · simp [fail_deep]
  · unfold rfacF
    split
    · split
      · rfl
      · split
        · split
          · simp [rsubs, rsubL_deep hs.2.2.2.2, hs.2.2.2.2, St.step]
          · rfl
        · split
          · split
            · simp [fail_deep]
            · split
              · simp [rdeep, St.step]
              · simp [mustS_deep, rdeep, St.step]
          · simp [fail_deep]
    · simp [fail_deep]
theorem fac_ok (ts : List Wd) : ∀ n, okR (fac ts n) (rfac ts n)
  | 0 => ⟨fun _ => ⟨⟨rfl, fun _ => rfl⟩, fun _ => rfl⟩, fun _ _ h => h, fun _ _ h => h, fun _ => rfl, fun _ => rfl⟩
  | n + 1 => facF_ok (fac_ok ts n) (sumF_ok (fac_ok ts n))
end Go.Proofs.YtejjlojfgcgopaaGreatDoor

namespace Go.Proofs.YtejjlojfgcgopaaGreatDoor
set_option maxHeartbeats 1000000
abbrev Er := Option (List (List UInt8 × Nat) × Nat)
def stmtTxt : List UInt8 := [115, 116, 109, 116]
def exprTx : List UInt8 := [101, 120, 112, 114]
def wordTx : List UInt8 := [119, 111, 114, 100]
structure Sr where
  at_ : Nat
  err : Er
  deriving DecidableEq
def Sr.fail (r : Sr) (p e : Nat) : Sr := ⟨r.at_, some (r.err.getD ([(stmtTxt, p)], e))⟩
def Sr.step (r : Sr) : Sr := ⟨r.at_ + 1, r.err⟩
def isK (ts : List Wd) (i : Nat) (k : Nat) (s : List UInt8) : Bool := match ts[i]? with
  | some w => w.kind == k && (s == [] || w.text == s)
  | none => false
def isW (ts : List Wd) (r : Sr) (k : Nat) (s : List UInt8) : Bool := r.err.isNone && isK ts r.at_ k s
def takesW (ts : List Wd) (r : Sr) (k : Nat) (s : List UInt8) : Sr := if isW ts r k s then r.step else r
def wd0 : Wd := ⟨0, [], 0, 0⟩
def mustW (ts : List Wd) (r : Sr) (k : Nat) (s : List UInt8) : Wd × Sr := if isW ts r k s then ((ts[r.at_]?).getD wd0, r.step) else (wd0, r.fail r.at_ 2)
def withinW {α : Type} (ts : List Wd) (none_ : α) (of : List Wd → α × Nat × Option (Nat × Nat)) (r : Sr) : α × Sr :=
  match r.err with
  | some _ => (none_, r)
  | none => (match (of (ts.drop r.at_)).2.2 with
    | some (p, c) => (none_, ⟨r.at_, some ([(stmtTxt, r.at_ + p), (exprTx, p)], c)⟩)
    | none => ((of (ts.drop r.at_)).1, ⟨r.at_ + (of (ts.drop r.at_)).2.1, none⟩))
def exprW (ts : List Wd) (r : Sr) : Ex × Sr := withinW ts .none parseX r
def condW (ts : List Wd) (r : Sr) : (List UInt8 × Ex × Ex) × Sr := withinW ts ([], .none, .none) parseC r
def closeN : List Wd → Nat → Nat
  | [], _ => 0
  | w :: l, d =>
    if w.kind = 3 then
      (if (if w.text = openT then d + 1 else if w.text = shutT then d - 1 else d) = 0 then 1
       else 1 + closeN l (if w.text = openT then d + 1 else if w.text = shutT then d - 1 else d))
    else 1 + closeN l d
def endW (ts : List Wd) (i : Nat) : Nat := if isK ts (i + 1) 3 openT then i + 1 + closeN (ts.drop (i + 1)) 0 else i + 1
def toW (ts : List Wd) (r : Sr) : Ex × Sr :=
  if isW ts r 1 [] then withinW ts .none (fun l => parseX (l.take (endW ts r.at_ - r.at_))) r
  else (.none, r.fail r.at_ 2)
structure It where
  name : List UInt8
  dims : List Int
  deriving DecidableEq
def dimL (ts : List Wd) : Nat → List Int → Sr → List Int × Sr
  | 0, d, r => (d, r)
  | n + 1, d, r =>
    match r.err with
    | some _ => (d, r)
    | none =>
      let m := mustW ts r 2 []
      let r1 := if m.1.n = 0 then m.2.fail r.at_ 1 else m.2
      let d1 := d ++ [(m.1.n : Int)]
      if isW ts r1 3 commaT then dimL ts n d1 (if d1.length = 4 then r1.fail r1.at_ 4 else r1).step else (d1, r1)
def itemW (ts : List Wd) (r : Sr) : It × Sr :=
  let m := mustW ts r 1 []
  if isW ts m.2 3 openT then
    (⟨m.1.text, (dimL ts 5 [] m.2.step).1⟩, (mustW ts (dimL ts 5 [] m.2.step).2 3 shutT).2)
  else (⟨m.1.text, []⟩, m.2)
def itemL (ts : List Wd) : Nat → List It → Sr → List It × Sr
  | 0, l, r => (l, r)
  | n + 1, l, r => if isW ts r 3 commaT then itemL ts n (l ++ [(itemW ts r.step).1]) (itemW ts r.step).2 else (l, r)
def itemsW (ts : List Wd) (r : Sr) : List It × Sr := itemL ts (ts.length + 1) [(itemW ts r).1] (itemW ts r).2
def negW (n : Nat) : Int := IntKind.i64.wrap (0 - (n : Int))
def stepW (ts : List Wd) (r : Sr) : Int × Sr :=
  if isW ts r 3 commaT then
    (if isW ts r.step 3 minusT then (negW (mustW ts r.step.step 2 []).1.n, (mustW ts r.step.step 2 []).2)
     else (((mustW ts r.step 2 []).1.n : Int), (mustW ts r.step 2 []).2))
  else (1, r)
structure Sm where
  kind : Nat := 0
  items : List It := []
  to : Ex := .none
  e : Ex := .none
  op : List UInt8 := []
  ca : Ex := .none
  cb : Ex := .none
  name : List UInt8 := []
  lo : Ex := .none
  hi : Ex := .none
  step : Int := 0
  deriving Inhabited
def integerT : List UInt8 := [105, 110, 116, 101, 103, 101, 114]
def doT : List UInt8 := [100, 111]
def endT : List UInt8 := [101, 110, 100]
def ifT : List UInt8 := [105, 102]
def thenT : List UInt8 := [116, 104, 101, 110]
def elseT : List UInt8 := [101, 108, 115, 101]
def readT : List UInt8 := [114, 101, 97, 100]
def printT : List UInt8 := [112, 114, 105, 110, 116]
def isT : List UInt8 := [61]
def doW (ts : List Wd) (r : Sr) : Sm × Sr :=
  let m := mustW ts r 1 []
  let a := exprW ts (mustW ts m.2 3 isT).2
  let b := exprW ts (mustW ts a.2 3 commaT).2
  let s := stepW ts b.2
  ({ kind := 3, name := m.1.text, lo := a.1, hi := b.1, step := s.1 }, s.2)
def ifW (ts : List Wd) (r : Sr) : Sm × Sr :=
  let c := condW ts (mustW ts r 3 openT).2
  ({ kind := 5, op := c.1.1, ca := c.1.2.1, cb := c.1.2.2 }, (mustW ts (mustW ts c.2 3 shutT).2 4 thenT).2)
def keyW (ts : List Wd) (word : List UInt8) (r : Sr) : Sm × Sr :=
  if word = integerT then ({ kind := 1, items := (itemsW ts r).1 }, (itemsW ts r).2)
  else if word = doT then doW ts r
  else if word = endT then (if isW ts r 4 ifT then ({ kind := 7 }, r.step) else ({ kind := 4 }, (mustW ts r 4 doT).2))
  else if word = ifT then ifW ts r
  else if word = elseT then ({ kind := 6 }, r)
  else if word = readT then ({ kind := 8, to := (toW ts r).1 }, (toW ts r).2)
  else if word = printT then ({ kind := 9, e := (exprW ts r).1 }, (exprW ts r).2)
  else ({}, r.fail 0 2)
def setW (ts : List Wd) (r : Sr) : Sm × Sr :=
  let a := toW ts r
  let b := exprW ts (mustW ts a.2 3 isT).2
  ({ kind := 2, to := a.1, e := b.1 }, b.2)
def stmtW (ts : List Wd) : Sm × Sr :=
  match ts[0]? with
  | none => ({}, ⟨0, none⟩)
  | some w => if w.kind = 4 then keyW ts w.text ⟨1, none⟩ else if w.kind = 1 then setW ts ⟨0, none⟩ else ({}, ⟨0, some ([(stmtTxt, 0)], 2)⟩)
def parseW (ts : List Wd) : Sm × Er :=
  if ts = [] then ({}, none)
  else
    let r := if (stmtW ts).2.at_ < ts.length then (stmtW ts).2.fail (stmtW ts).2.at_ 2 else (stmtW ts).2
    match r.err with
    | some x => ({}, some x)
    | none => ((stmtW ts).1, none)
def parseS (body : List UInt8) : Sm × Er := match lex (body.length + 1) body 0 false with
  | .error (p, e) => ({}, some ([(stmtTxt, 0), (wordTx, p)], e))
  | .ok ts => parseW ts
end Go.Proofs.YtejjlojfgcgopaaGreatDoor
