/- Expressions: what the program's reader, and the reference's, make of words: two plain functions, and that they tell the same. The reference's reader of expressions as a plain function, and that it tells what the program's tells. -/
import Derived.Test.YtejjlojfgcgopaaGreatDoorTkJ
set_option linter.unusedSimpArgs false
set_option linter.unusedVariables false
namespace Go.Proofs.YtejjlojfgcgopaaGreatDoor
set_option maxHeartbeats 1000000

/-- An expression. -/
inductive Ex where
  | none
  | num (n : Nat)
  | var (s : List UInt8)
  | elem (s : List UInt8) (a : List Ex)
  | neg (e : Ex)
  | bin (k : Nat) (a b : Ex)
  deriving Inhabited

/-- A reader: at which word, how deep, the first error: where, which. -/
structure St where
  at_ : Nat
  deep : Nat
  err : Option (Nat × Nat)

def isS (ts : List Wd) (i : Nat) (s : List UInt8) : Bool := match ts[i]? with
  | some t => t.kind == 3 && t.text == s
  | none => false
def St.fail (r : St) (p e : Nat) : St := match r.err with
  | none => ⟨r.at_, r.deep, some (p, e)⟩
  | some _ => r
def St.step (r : St) : St := ⟨r.at_ + 1, r.deep, r.err⟩
def nextB (ts : List Wd) (r : St) (s : List UInt8) : Bool := r.err.isNone && isS ts r.at_ s
def mustS (ts : List Wd) (r : St) (s : List UInt8) : St := if nextB ts r s then r.step else r.fail r.at_ 2

abbrev Rd := St → Ex × St

/-- Things with signs between: the program's loop. -/
def rowL (ts : List Wd) (of : Rd) (f : List UInt8) (one : Nat) (s : List UInt8) (two : Nat) : Nat → Ex → Rd
  | 0, e, r => (e, r)
  | n + 1, e, r =>
    if r.err.isSome then (.none, r)
    else if nextB ts r s then rowL ts of f one s two n (.bin two e (of r.step).1) (of r.step).2
    else if nextB ts r f then rowL ts of f one s two n (.bin one e (of r.step).1) (of r.step).2
    else (e, r)
def rowF (ts : List Wd) (of : Rd) (f : List UInt8) (one : Nat) (s : List UInt8) (two : Nat) : Rd := fun r =>
  rowL ts of f one s two (ts.length + 1) (of r).1 (of r).2
def plusT : List UInt8 := [43]
def minusT : List UInt8 := [45]
def starT : List UInt8 := [42]
def slashT : List UInt8 := [47]
def openT : List UInt8 := [40]
def shutT : List UInt8 := [41]
def commaT : List UInt8 := [44]
def termF (ts : List Wd) (fac : Rd) : Rd := rowF ts fac starT 7 slashT 8
def sumF (ts : List Wd) (fac : Rd) : Rd := rowF ts (termF ts fac) plusT 5 minusT 6

/-- A step deeper. -/
def inF (p : Nat) (of : Rd) : Rd := fun r =>
  let r2 := if r.deep + 1 > 20 then (⟨r.at_, r.deep + 1, r.err⟩ : St).fail p 4 else ⟨r.at_, r.deep + 1, r.err⟩
  if r2.err.isNone then ((of r2).1, ⟨(of r2).2.at_, (of r2).2.deep - 1, (of r2).2.err⟩) else (.none, ⟨r2.at_, r2.deep - 1, r2.err⟩)

/-- Subscripts. -/
def subL (ts : List Wd) (sum : Rd) : Nat → List Ex → St → List Ex × St
  | 0, a, r => (a, r)
  | n + 1, a, r =>
    if nextB ts (sum r).2 commaT then
      subL ts sum n (a ++ [(sum r).1]) (if a.length + 1 == 4 then (sum r).2.fail (sum r).2.at_ 4 else (sum r).2).step
    else (a ++ [(sum r).1], (sum r).2)

def nameF (ts : List Wd) (sum : Rd) (s : List UInt8) : Rd := fun r =>
  if nextB ts r.step openT then
    (.elem s (subL ts sum 6 [] r.step.step).1, mustS ts (subL ts sum 6 [] r.step.step).2 shutT)
  else (.var s, r.step)

def facF (ts : List Wd) (sum fac : Rd) : Rd := fun r =>
  match r.err, ts[r.at_]? with
  | none, some t =>
    if t.kind == 2 then (.num t.n, r.step)
    else if t.kind == 1 then nameF ts sum t.text r
    else if isS ts r.at_ minusT then (.neg (inF r.at_ fac r.step).1, (inF r.at_ fac r.step).2)
    else if isS ts r.at_ openT then ((inF r.at_ sum r.step).1, mustS ts (inF r.at_ sum r.step).2 shutT)
    else (.none, r.fail r.at_ 2)
  | _, _ => (.none, r.fail r.at_ 2)

def fac (ts : List Wd) : Nat → Rd
  | 0 => fun r => (.none, r)
  | n + 1 => facF ts (sumF ts (fac ts n)) (fac ts n)

def sumAt (ts : List Wd) (r : St) : Ex × St := sumF ts (fac ts (ts.length + 1)) r

/-- expr.Parse. -/
def parseX (ts : List Wd) : Ex × Nat × Option (Nat × Nat) :=
  match (sumAt ts ⟨0, 0, none⟩).2.err with
  | none => ((sumAt ts ⟨0, 0, none⟩).1, (sumAt ts ⟨0, 0, none⟩).2.at_, none)
  | some x => (.none, 0, some x)

def relTs : List (List UInt8) := [[60], [60, 61], [62], [62, 61], [61, 61], [47, 61]]
def relB (s : List UInt8) : Bool := relTs.contains s

/-- expr.ParseCond's reader behind the sign. -/
def condMid (ts : List Wd) (r : St) : List UInt8 × St :=
  match r.err with
  | some _ => ([], r)
  | none => (match ts[r.at_]? with
    | some t => if t.kind == 3 && relB t.text then (t.text, r.step) else ([], r.fail r.at_ 2)
    | none => ([], r.fail r.at_ 2))
def parseC (ts : List Wd) : (List UInt8 × Ex × Ex) × Nat × Option (Nat × Nat) :=
  let a := sumAt ts ⟨0, 0, none⟩
  let m := condMid ts a.2
  let b := sumAt ts m.2
  match b.2.err with
  | none => ((m.1, a.1, b.1), b.2.at_, none)
  | some x => (([], .none, .none), 0, some x)
end Go.Proofs.YtejjlojfgcgopaaGreatDoor

namespace Go.Proofs.YtejjlojfgcgopaaGreatDoor
set_option maxHeartbeats 1000000

/-- The reference's loops: a term's, an expression's. -/
def rrowL (ts : List Wd) (of : Rd) (f : List UInt8) (one : Nat) (s : List UInt8) (two : Nat) : Nat → Ex → Rd
  | 0, e, r => (e, r)
  | n + 1, e, r =>
    if nextB ts r f then rrowL ts of f one s two n (.bin one e (of r.step).1) (of r.step).2
    else if nextB ts r s then rrowL ts of f one s two n (.bin two e (of r.step).1) (of r.step).2
    else (e, r)
def rrowF (ts : List Wd) (of : Rd) (f : List UInt8) (one : Nat) (s : List UInt8) (two : Nat) : Rd := fun r =>
  rrowL ts of f one s two (ts.length + 1) (of r).1 (of r).2
def rtermF (ts : List Wd) (fac : Rd) : Rd := rrowF ts fac starT 7 slashT 8
def rsumF (ts : List Wd) (fac : Rd) : Rd := rrowF ts (rtermF ts fac) plusT 5 minusT 6

/-- A step deeper: the depth is the reader's alone in this function. -/
def rdeep (of : Rd) : Rd := fun r => ((of ⟨r.at_, r.deep + 1, r.err⟩).1, ⟨(of ⟨r.at_, r.deep + 1, r.err⟩).2.at_, r.deep, (of ⟨r.at_, r.deep + 1, r.err⟩).2.err⟩)

def rsubL (ts : List Wd) (sum : Rd) : Nat → List Ex → St → List Ex × St
  | 0, a, r => (a, r)
  | n + 1, a, r =>
    if nextB ts r commaT then
      (if 4 ≤ a.length then (a, r.fail r.at_ 4) else rsubL ts sum n (a ++ [(sum r.step).1]) (sum r.step).2)
    else (a, mustS ts r shutT)
def rsubs (ts : List Wd) (sum : Rd) (r : St) : List Ex × St := rsubL ts sum 5 [(sum r).1] (sum r).2

def rfacF (ts : List Wd) (sum fac : Rd) : Rd := fun r =>
  match r.err, ts[r.at_]? with
  | none, some t =>
    if t.kind == 2 then (.num t.n, r.step)
    else if t.kind == 1 then
      (if nextB ts r.step openT then (.elem t.text (rsubs ts sum r.step.step).1, (rsubs ts sum r.step.step).2) else (.var t.text, r.step))
    else if isS ts r.at_ minusT || isS ts r.at_ openT then
      (if 20 ≤ r.deep then (.none, r.fail r.at_ 4)
      else if isS ts r.at_ minusT then (.neg (rdeep fac r.step).1, (rdeep fac r.step).2)
      else ((rdeep sum r.step).1, mustS ts (rdeep sum r.step).2 shutT))
    else (.none, r.fail r.at_ 2)
  | _, _ => (.none, r.fail r.at_ 2)

def rfac (ts : List Wd) : Nat → Rd
  | 0 => fun r => (.none, r)
  | n + 1 => rfacF ts (rsumF ts (rfac ts n)) (rfac ts n)
def rsumAt (ts : List Wd) (r : St) : Ex × St := rsumF ts (rfac ts (ts.length + 1)) r

def okS (a b : St) : Prop := a.err = b.err ∧ (a.err = none → a = b)
def okX (x y : Ex × St) : Prop := okS x.2 y.2 ∧ (x.2.err = none → x.1 = y.1)
def keepsE (of : Rd) : Prop := ∀ r x, r.err = some x → (of r).2.err = some x
def okR (f g : Rd) : Prop := (∀ r, okX (f r) (g r)) ∧ keepsE f ∧ keepsE g ∧ (∀ r, (f r).2.deep = r.deep) ∧ (∀ r, (g r).2.deep = r.deep)

theorem okX.run {f g : Rd} (h : okR f g) {a b : St} (hs : okS a b) : okX (f a) (g b) := by
  obtain ⟨h1, h2, h3, _, _⟩ := h
  cases he : a.err with
  | none =>
    obtain rfl := hs.2 he
    exact h1 a
  | some x =>
    have hb : b.err = some x := by rw [← hs.1, he]
    have e1 := h2 a x he
    have e2 := h3 b x hb
    exact ⟨⟨by rw [e1, e2], fun h => by rw [e1] at h; cases h⟩, fun h => by rw [e1] at h; cases h⟩

theorem fail_err (r : St) (p e : Nat) : (r.fail p e).err = some (r.err.getD (p, e)) := by
  unfold St.fail; split <;> simp_all
theorem fail_some {r : St} {x : Nat × Nat} (h : r.err = some x) (p e : Nat) : r.fail p e = r := by
  unfold St.fail; simp [h]
theorem fail_deep (r : St) (p e : Nat) : (r.fail p e).deep = r.deep := by unfold St.fail; split <;> rfl
theorem nextB_err {ts : List Wd} {r : St} {x : Nat × Nat} (h : r.err = some x) (s : List UInt8) : nextB ts r s = false := by simp [nextB, h]
theorem mustS_err {ts : List Wd} {r : St} {x : Nat × Nat} (h : r.err = some x) (s : List UInt8) : mustS ts r s = r := by simp [mustS, nextB_err h, fail_some h]
theorem mustS_deep (ts : List Wd) (r : St) (s : List UInt8) : (mustS ts r s).deep = r.deep := by unfold mustS; split <;> simp [St.step, fail_deep]
theorem okS.must {ts : List Wd} {a b : St} (h : okS a b) (s : List UInt8) : okS (mustS ts a s) (mustS ts b s) := by
  cases he : a.err with
  | none => obtain rfl := h.2 he; exact ⟨rfl, fun _ => rfl⟩
  | some x =>
    have hb : b.err = some x := by rw [← h.1, he]
    rw [mustS_err he, mustS_err hb]; exact h
theorem two_signs {ts : List Wd} {i : Nat} {f s : List UInt8} (hne : f ≠ s) (h1 : isS ts i f = true) : isS ts i s = false := by
  unfold isS at h1 ⊢
  split at h1
  · simp at h1 ⊢; intro _; rw [h1.2]; exact hne
  · cases h1

theorem rowL_ok {ts : List Wd} {of og : Rd} (ho : okR of og) {f s : List UInt8} (hne : f ≠ s) (one two : Nat) : ∀ (n : Nat) {e1 e2 : Ex} {a b : St}, okX (e1, a) (e2, b) →
    okX (rowL ts of f one s two n e1 a) (rrowL ts og f one s two n e2 b)
  | 0, _, _, _, _, h => h
  | n + 1, e1, e2, a, b, h => by
    cases he : a.err with
    | some x =>
      have hb : b.err = some x := by rw [← h.1.1, he]
      simp only [rowL, rrowL, he, Option.isSome_some, if_true, nextB_err hb, Bool.false_eq_true, if_false]
      exact ⟨⟨by rw [he, hb], fun h => by rw [he] at h; cases h⟩, fun h => by rw [he] at h; cases h⟩
    | none =>
      obtain rfl := h.1.2 he
      obtain rfl := h.2 he
      have key := okX.run ho (a := a.step) (b := a.step) ⟨rfl, fun _ => rfl⟩
      simp only [rowL, rrowL, he, Option.isSome_none, Bool.false_eq_true, if_false]
      by_cases h1 : nextB ts a f = true
      · have h2 : nextB ts a s = false := by
          simp only [nextB, he, Option.isNone_none, Bool.true_and] at h1 ⊢
          exact two_signs hne h1
        rw [h1, h2]
        simp only [Bool.false_eq_true, if_false, if_true]
        exact rowL_ok ho hne one two n ⟨key.1, fun h => by rw [key.2 h]⟩
      · rw [Bool.not_eq_true] at h1
        rw [h1]
        simp only [Bool.false_eq_true, if_false]
        split
        · exact rowL_ok ho hne one two n ⟨key.1, fun h => by rw [key.2 h]⟩
        · exact ⟨⟨rfl, fun _ => rfl⟩, fun _ => rfl⟩

theorem rowL_keeps {ts : List Wd} {of : Rd} {f s : List UInt8} {one two : Nat} (n : Nat) (e : Ex) {r : St} {x : Nat × Nat} (h : r.err = some x) : (rowL ts of f one s two n e r).2.err = some x := by
  cases n with
  | zero => exact h
  | succ n => simp [rowL, h]
theorem rrowL_keeps {ts : List Wd} {of : Rd} {f s : List UInt8} {one two : Nat} (n : Nat) (e : Ex) {r : St} {x : Nat × Nat} (h : r.err = some x) : (rrowL ts of f one s two n e r).2.err = some x := by
  cases n with
  | zero => exact h
  | succ n => simp [rrowL, nextB_err h, h]
theorem rowL_deep {ts : List Wd} {of : Rd} (ho : ∀ r, (of r).2.deep = r.deep) {f s : List UInt8} {one two : Nat} : ∀ (n : Nat) (e : Ex) (r : St), (rowL ts of f one s two n e r).2.deep = r.deep
  | 0, _, _ => rfl
  | n + 1, e, r => by
    simp only [rowL]
    split
    · rfl
    · split
      · rw [rowL_deep ho n, ho]; rfl
      · split
        · rw [rowL_deep ho n, ho]; rfl
        · rfl
theorem rrowL_deep {ts : List Wd} {of : Rd} (ho : ∀ r, (of r).2.deep = r.deep) {f s : List UInt8} {one two : Nat} : ∀ (n : Nat) (e : Ex) (r : St), (rrowL ts of f one s two n e r).2.deep = r.deep
  | 0, _, _ => rfl
  | n + 1, e, r => by
    simp only [rrowL]
    split
    · rw [rrowL_deep ho n, ho]; rfl
    · split
      · rw [rrowL_deep ho n, ho]; rfl
      · rfl
theorem rowF_ok {ts : List Wd} {of og : Rd} (ho : okR of og) {f s : List UInt8} (hne : f ≠ s) (one two : Nat) : okR (rowF ts of f one s two) (rrowF ts og f one s two) :=
  ⟨fun r => rowL_ok ho hne one two _ (ho.1 r), fun r x h => rowL_keeps _ _ (ho.2.1 r x h), fun r x h => rrowL_keeps _ _ (ho.2.2.1 r x h),
    fun r => by rw [rowF, rowL_deep ho.2.2.2.1]; exact ho.2.2.2.1 r, fun r => by rw [rrowF, rrowL_deep ho.2.2.2.2]; exact ho.2.2.2.2 r⟩
theorem sumF_ok {ts : List Wd} {f g : Rd} (h : okR f g) : okR (sumF ts f) (rsumF ts g) :=
  rowF_ok (rowF_ok h (by decide) 7 8) (by decide) 5 6

theorem inF_ok {f g : Rd} (h : okR f g) (p : Nat) (r : St) (hd : ¬ 20 ≤ r.deep) : okX (inF p f r) (rdeep g r) := by
  have h1 : ¬ r.deep + 1 > 20 := by omega
  have key := okX.run h (a := ⟨r.at_, r.deep + 1, r.err⟩) (b := ⟨r.at_, r.deep + 1, r.err⟩) ⟨rfl, fun _ => rfl⟩
  have d1 := h.2.2.2.1 ⟨r.at_, r.deep + 1, r.err⟩
  have d2 := h.2.2.2.2 ⟨r.at_, r.deep + 1, r.err⟩
  simp only [inF, if_neg h1, rdeep]
  cases he : r.err with
  | none =>
    rw [he] at key d1 d2
    simp only [Option.isNone_none, if_true]
    refine ⟨⟨key.1.1, fun h => ?_⟩, fun h => key.2 h⟩
    have := key.1.2 h
    simp only at d1
    simp [this, d2]
  | some x =>
    rw [he] at key
    have e2 := h.2.2.1 ⟨r.at_, r.deep + 1, some x⟩ x rfl
    simp only [Option.isNone_some, Bool.false_eq_true, if_false]
    exact ⟨⟨by simp [e2], fun h => by cases h⟩, fun h => by cases h⟩
theorem inF_keeps (p : Nat) (f : Rd) (r : St) (x : Nat × Nat) (h : r.err = some x) : (inF p f r).2.err = some x := by
  by_cases hd : r.deep + 1 > 20
  · simp [inF, hd, h, St.fail]
  · simp [inF, hd, h]
theorem inF_deep (p : Nat) {f : Rd} (hf : ∀ r, (f r).2.deep = r.deep) (r : St) : (inF p f r).2.deep = r.deep := by
  by_cases hd : r.deep + 1 > 20
  · cases h : r.err with
    | none => simp [inF, hd, h, St.fail]
    | some x => simp [inF, hd, h, St.fail]
  · cases h : r.err with
    | none => simp [inF, hd, h, hf]
    | some x => simp [inF, hd, h]
theorem inF_over (p : Nat) (f : Rd) (r : St) (hd : 20 ≤ r.deep) (he : r.err = none) : (inF p f r).2.err = some (p, 4) := by
  have h1 : r.deep + 1 > 20 := by omega
  simp [inF, h1, St.fail, he]

/-- Subscripts: the program's loop reads one ahead of its test, the reference's behind it. -/
theorem subL_ok {ts : List Wd} {f g : Rd} (h : okR f g) : ∀ (n : Nat) (a1 a2 : List Ex) (r q : St), okS r q → (r.err = none → a1 = a2) → a1.length = a2.length → a1.length < 4 → n + a1.length = 5 →
    okS (mustS ts (subL ts f (n + 1) a1 r).2 shutT) (rsubL ts g n (a2 ++ [(g q).1]) (g q).2).2 ∧
    ((mustS ts (subL ts f (n + 1) a1 r).2 shutT).err = none → (subL ts f (n + 1) a1 r).1 = (rsubL ts g n (a2 ++ [(g q).1]) (g q).2).1)
  | 0, a1, _, _, _, _, _, _, h4, h5 => by omega
  | n + 1, a1, a2, r, q, hs, ha, hl, h4, h5 => by
    have key := okX.run h hs
    cases he : (f r).2.err with
    | some x =>
      have hb : (g q).2.err = some x := by rw [← key.1.1, he]
      simp only [subL, rsubL, nextB_err he, nextB_err hb, Bool.false_eq_true, if_false, mustS_err he, mustS_err hb]
      exact ⟨key.1, fun hh => by rw [he] at hh; cases hh⟩
    | none =>
      have er : r.err = none := by
        cases hr : r.err with
        | none => rfl
        | some x => rw [h.2.1 r x hr] at he; cases he
      obtain rfl := ha er
      have e1 := key.2 he
      have e2 := key.1.2 he
      rw [← e1, ← e2]
      generalize hst : (f r).2 = st
      generalize hex : (f r).1 = e
      rw [hst] at he
      simp only [subL, rsubL, hst, hex]
      by_cases hc : nextB ts st commaT = true
      · simp only [hc, if_true]
        by_cases h3 : a1.length + 1 = 4
        · have h3' : (a1.length + 1 == 4) = true := by simp [h3]
          have h3'' : 4 ≤ (a1 ++ [e]).length := by simp; omega
          simp only [h3', if_true, h3'']
          have e3 : (st.fail st.at_ 4).step.err = some (st.at_, 4) := by simp [St.step, fail_err, he]
          have e4 := h.2.1 _ _ e3
          simp only [subL, nextB_err e4, Bool.false_eq_true, if_false, mustS_err e4]
          exact ⟨⟨by simp [e4, fail_err, he], fun hh => by rw [e4] at hh; cases hh⟩, fun hh => by rw [e4] at hh; cases hh⟩
        · have h3' : (a1.length + 1 == 4) = false := by rw [beq_eq_false_iff_ne]; exact h3
          have h3'' : ¬ 4 ≤ (a1 ++ [e]).length := by simp; omega
          simp only [h3', if_neg h3'', Bool.false_eq_true, if_false]
          refine subL_ok h n (a1 ++ [e]) (a1 ++ [e]) st.step st.step ⟨rfl, fun _ => rfl⟩ (fun _ => rfl) rfl ?_ ?_
          · rw [List.length_append]; simp only [List.length_cons, List.length_nil]; omega
          · rw [List.length_append]; simp only [List.length_cons, List.length_nil]; omega
      · rw [Bool.not_eq_true] at hc
        simp only [hc, Bool.false_eq_true, if_false]
        exact ⟨⟨rfl, fun _ => rfl⟩, by simp⟩

theorem subL_keeps {ts : List Wd} {f : Rd} (h : keepsE f) (n : Nat) (a : List Ex) (r : St) (x : Nat × Nat) (he : r.err = some x) : (subL ts f n a r).2.err = some x := by
  cases n with
  | zero => exact he
  | succ n => simp [subL, nextB_err (h r x he), h r x he]
theorem rsubL_keeps {ts : List Wd} {f : Rd} (n : Nat) (a : List Ex) (r : St) (x : Nat × Nat) (he : r.err = some x) : (rsubL ts f n a r).2.err = some x := by
  cases n with
  | zero => exact he
  | succ n => simp [rsubL, nextB_err he, mustS_err he, he]
theorem subL_deep {ts : List Wd} {f : Rd} (h : ∀ r, (f r).2.deep = r.deep) : ∀ (n : Nat) (a : List Ex) (r : St), (subL ts f n a r).2.deep = r.deep
  | 0, _, _ => rfl
  | n + 1, a, r => by
    simp only [subL]
    split
    · rw [subL_deep h n]
      split
      · simp [St.step, fail_deep, h]
      · simp [St.step, h]
    · exact h r
theorem rsubL_deep {ts : List Wd} {f : Rd} (h : ∀ r, (f r).2.deep = r.deep) : ∀ (n : Nat) (a : List Ex) (r : St), (rsubL ts f n a r).2.deep = r.deep
  | 0, _, _ => rfl
  | n + 1, a, r => by
    simp only [rsubL]
    split
    · split
      · simp [fail_deep]
      · rw [rsubL_deep h n, h]; rfl
    · simp [mustS_deep]

theorem facF_ok {ts : List Wd} {f g sf sg : Rd} (h : okR f g) (hs : okR sf sg) : okR (facF ts sf f) (rfacF ts sg g) := by
  refine ⟨fun r => ?_, fun r x he => ?_, fun r x he => ?_, fun r => ?_, fun r => ?_⟩
  · have same : ∀ x : Ex × St, okX x x := fun x => ⟨⟨rfl, fun _ => rfl⟩, fun _ => rfl⟩
    have odd : ∀ x, r.err = some x ∨ ts[r.at_]? = Option.none → okX (facF ts sf f r) (rfacF ts sg g r) := by
      intro x hx
      have e1 : facF ts sf f r = (.none, r.fail r.at_ 2) := by
        unfold facF; split
        · rcases hx with hx | hx <;> simp_all
        · rfl
      have e2 : rfacF ts sg g r = (.none, r.fail r.at_ 2) := by
        unfold rfacF; split
        · rcases hx with hx | hx <;> simp_all
        · rfl
      rw [e1, e2]; exact same _
    cases he : r.err with
    | some x => exact odd x (.inl he)
    | none =>
    cases ht : ts[r.at_]? with
    | none => exact odd (0, 0) (.inr ht)
    | some t =>
      simp only [facF, rfacF, he, ht]
      split
      · exact same _
      · split
        · unfold nameF
          split
          · have key := subL_ok (ts := ts) hs 5 [] [] r.step.step r.step.step ⟨rfl, fun _ => rfl⟩ (fun _ => rfl) rfl (by decide) rfl
            exact ⟨key.1, fun hh => by rw [key.2 hh]; rfl⟩
          · exact same _
        · by_cases hm : isS ts r.at_ minusT = true
          · simp only [hm, Bool.true_or, if_true]
            by_cases hd : 20 ≤ r.deep
            · have e1 := inF_over r.at_ f r.step hd (by simpa [St.step] using he)
              simp only [if_pos hd]
              exact ⟨⟨by simp [e1, fail_err, he], fun hh => by rw [e1] at hh; cases hh⟩, fun hh => by rw [e1] at hh; cases hh⟩
            · simp only [if_neg hd]
              have key := inF_ok h r.at_ r.step hd
              exact ⟨key.1, fun hh => by rw [key.2 hh]⟩
          · rw [Bool.not_eq_true] at hm
            simp only [hm, Bool.false_or, Bool.false_eq_true, if_false]
            split
            · by_cases hd : 20 ≤ r.deep
              · have e1 := inF_over r.at_ sf r.step hd (by simpa [St.step] using he)
                simp only [if_pos hd, mustS_err e1]
                exact ⟨⟨by simp [e1, fail_err, he], fun hh => by rw [e1] at hh; cases hh⟩, fun hh => by rw [e1] at hh; cases hh⟩
              · simp only [if_neg hd]
                have key := inF_ok hs r.at_ r.step hd
                refine ⟨key.1.must _, fun hh => key.2 ?_⟩
                cases hx : (inF r.at_ sf r.step).2.err with
                | none => rfl
                | some x => rw [mustS_err hx, hx] at hh; cases hh
            · exact same _
  · simp only [facF, he, fail_some he]
  · simp only [rfacF, he, fail_some he]
  · unfold facF
    split
    · split
      · rfl
      · split
        · unfold nameF
          split
          · simp [mustS_deep, subL_deep hs.2.2.2.1, St.step]
          · rfl
        · split
          · simp [inF_deep _ h.2.2.2.1, St.step]
          · split
            · simp [mustS_deep, inF_deep _ hs.2.2.2.1, St.step]
            · simp [fail_deep]
    · simp [fail_deep]
  · unfold rfacF
    split
    · split
      · rfl
      · split
        · split
          · simp [rsubs, rsubL_deep hs.2.2.2.2, hs.2.2.2.2, St.step]
          · rfl
        · split
          · split
            · simp [fail_deep]
            · split
              · simp [rdeep, St.step]
              · simp [mustS_deep, rdeep, St.step]
          · simp [fail_deep]
    · simp [fail_deep]

theorem fac_ok (ts : List Wd) : ∀ n, okR (fac ts n) (rfac ts n)
  | 0 => ⟨fun _ => ⟨⟨rfl, fun _ => rfl⟩, fun _ => rfl⟩, fun _ _ h => h, fun _ _ h => h, fun _ => rfl, fun _ => rfl⟩
  | n + 1 => facF_ok (fac_ok ts n) (sumF_ok (fac_ok ts n))
theorem sumAt_ok (ts : List Wd) {r q : St} (h : okS r q) : okX (sumAt ts r) (rsumAt ts q) := okX.run (sumF_ok (fac_ok ts _)) h

/-- The reference's ParseExpr. -/
def rparseX (ts : List Wd) : Ex × Nat × Option (Nat × Nat) :=
  match (rsumAt ts ⟨0, 0, none⟩).2.err with
  | none => ((rsumAt ts ⟨0, 0, none⟩).1, (rsumAt ts ⟨0, 0, none⟩).2.at_, none)
  | some x => (.none, 0, some x)
theorem rparseX_eq (ts : List Wd) : rparseX ts = parseX ts := by
  have h := sumAt_ok ts (r := ⟨0, 0, none⟩) (q := ⟨0, 0, none⟩) ⟨rfl, fun _ => rfl⟩
  unfold rparseX parseX
  cases he : (sumAt ts ⟨0, 0, none⟩).2.err with
  | none =>
    rw [← h.1.1, he, h.2 he, h.1.2 he]
  | some x => rw [← h.1.1, he]

/-- The reference's ParseCond. -/
def rparseC (ts : List Wd) : (List UInt8 × Ex × Ex) × Nat × Option (Nat × Nat) :=
  match (condMid ts (rsumAt ts ⟨0, 0, none⟩).2).2.err with
  | some x => (([], .none, .none), 0, some x)
  | none => (match (rsumAt ts (condMid ts (rsumAt ts ⟨0, 0, none⟩).2).2).2.err with
    | none => (((condMid ts (rsumAt ts ⟨0, 0, none⟩).2).1, (rsumAt ts ⟨0, 0, none⟩).1, (rsumAt ts (condMid ts (rsumAt ts ⟨0, 0, none⟩).2).2).1), (rsumAt ts (condMid ts (rsumAt ts ⟨0, 0, none⟩).2).2).2.at_, none)
    | some x => (([], .none, .none), 0, some x))
theorem condMid_some {ts : List Wd} {r : St} {x : Nat × Nat} (h : r.err = some x) : condMid ts r = ([], r) := by simp [condMid, h]
theorem rparseC_eq (ts : List Wd) : rparseC ts = parseC ts := by
  have h := sumAt_ok ts (r := ⟨0, 0, none⟩) (q := ⟨0, 0, none⟩) ⟨rfl, fun _ => rfl⟩
  have keep : keepsE (sumAt ts) := (sumF_ok (ts := ts) (fac_ok ts (ts.length + 1))).2.1
  unfold rparseC parseC
  simp only
  cases he : (sumAt ts ⟨0, 0, none⟩).2.err with
  | some x =>
    have he' : (rsumAt ts ⟨0, 0, none⟩).2.err = some x := by rw [← h.1.1, he]
    rw [condMid_some he, condMid_some he']
    simp only [he']
    rw [show (sumAt ts (sumAt ts ⟨0, 0, none⟩).2).2.err = some x from keep _ _ he]
  | none =>
    rw [← h.1.2 he, ← h.2 he]
    cases hm : (condMid ts (sumAt ts ⟨0, 0, none⟩).2).2.err with
    | some x =>
      simp only
      rw [show (sumAt ts (condMid ts (sumAt ts ⟨0, 0, none⟩).2).2).2.err = some x from keep _ _ hm]
    | none =>
      have h2 := sumAt_ok ts (r := (condMid ts (sumAt ts ⟨0, 0, none⟩).2).2) (q := (condMid ts (sumAt ts ⟨0, 0, none⟩).2).2) ⟨rfl, fun _ => rfl⟩
      simp only
      rw [← h2.1.1]
      cases h3 : (sumAt ts (condMid ts (sumAt ts ⟨0, 0, none⟩).2).2).2.err with
      | some x => rfl
      | none =>
        simp only
        rw [h2.2 h3, h2.1.2 h3]
end Go.Proofs.YtejjlojfgcgopaaGreatDoor
