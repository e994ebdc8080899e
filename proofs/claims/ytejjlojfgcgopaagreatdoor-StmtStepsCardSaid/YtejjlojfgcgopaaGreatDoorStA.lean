/- Statements: what the program's reader makes of words, as plain functions. -/
import Derived.Test.YtejjlojfgcgopaaGreatDoorExB
set_option linter.unusedSimpArgs false
set_option linter.unusedVariables false
namespace Go.Proofs.YtejjlojfgcgopaaGreatDoor
set_option maxHeartbeats 1000000

/-- An error: the parts from the outside in, each with its place; the number. -/
abbrev Er := Option (List (List UInt8 × Nat) × Nat)
def stmtTxt : List UInt8 := [115, 116, 109, 116]
def exprTx : List UInt8 := [101, 120, 112, 114]
def wordTx : List UInt8 := [119, 111, 114, 100]

/-- A reader of a statement: at which word, the first error. -/
structure Sr where
  at_ : Nat
  err : Er
  deriving DecidableEq
def Sr.fail (r : Sr) (p e : Nat) : Sr := ⟨r.at_, some (r.err.getD ([(stmtTxt, p)], e))⟩
def Sr.step (r : Sr) : Sr := ⟨r.at_ + 1, r.err⟩
def isK (ts : List Wd) (i : Nat) (k : Nat) (s : List UInt8) : Bool := match ts[i]? with
  | some w => w.kind == k && (s == [] || w.text == s)
  | none => false
def isW (ts : List Wd) (r : Sr) (k : Nat) (s : List UInt8) : Bool := r.err.isNone && isK ts r.at_ k s
def takesW (ts : List Wd) (r : Sr) (k : Nat) (s : List UInt8) : Sr := if isW ts r k s then r.step else r
def wd0 : Wd := ⟨0, [], 0, 0⟩
def mustW (ts : List Wd) (r : Sr) (k : Nat) (s : List UInt8) : Wd × Sr := if isW ts r k s then ((ts[r.at_]?).getD wd0, r.step) else (wd0, r.fail r.at_ 2)

/-- Something of words, read by another reader; an error of it is where it is. -/
def withinW {α : Type} (ts : List Wd) (none_ : α) (of : List Wd → α × Nat × Option (Nat × Nat)) (r : Sr) : α × Sr :=
  match r.err with
  | some _ => (none_, r)
  | none => (match (of (ts.drop r.at_)).2.2 with
    | some (p, c) => (none_, ⟨r.at_, some ([(stmtTxt, r.at_ + p), (exprTx, p)], c)⟩)
    | none => ((of (ts.drop r.at_)).1, ⟨r.at_ + (of (ts.drop r.at_)).2.1, none⟩))
def exprW (ts : List Wd) (r : Sr) : Ex × Sr := withinW ts .none parseX r
def condW (ts : List Wd) (r : Sr) : (List UInt8 × Ex × Ex) × Sr := withinW ts ([], .none, .none) parseC r

/-- How many words, up to the bracket that ends the first one. -/
def closeN : List Wd → Nat → Nat
  | [], _ => 0
  | w :: l, d =>
    if w.kind = 3 then
      (if (if w.text = openT then d + 1 else if w.text = shutT then d - 1 else d) = 0 then 1
       else 1 + closeN l (if w.text = openT then d + 1 else if w.text = shutT then d - 1 else d))
    else 1 + closeN l d
/-- Where what may be set ends. -/
def endW (ts : List Wd) (i : Nat) : Nat := if isK ts (i + 1) 3 openT then i + 1 + closeN (ts.drop (i + 1)) 0 else i + 1
def toW (ts : List Wd) (r : Sr) : Ex × Sr :=
  if isW ts r 1 [] then withinW ts .none (fun l => parseX (l.take (endW ts r.at_ - r.at_))) r
  else (.none, r.fail r.at_ 2)

/-- What is declared. -/
structure It where
  name : List UInt8
  dims : List Int
  deriving DecidableEq
def dimL (ts : List Wd) : Nat → List Int → Sr → List Int × Sr
  | 0, d, r => (d, r)
  | n + 1, d, r =>
    match r.err with
    | some _ => (d, r)
    | none =>
      let m := mustW ts r 2 []
      let r1 := if m.1.n = 0 then m.2.fail r.at_ 1 else m.2
      let d1 := d ++ [(m.1.n : Int)]
      if isW ts r1 3 commaT then dimL ts n d1 (if d1.length = 4 then r1.fail r1.at_ 4 else r1).step else (d1, r1)
def itemW (ts : List Wd) (r : Sr) : It × Sr :=
  let m := mustW ts r 1 []
  if isW ts m.2 3 openT then
    (⟨m.1.text, (dimL ts 5 [] m.2.step).1⟩, (mustW ts (dimL ts 5 [] m.2.step).2 3 shutT).2)
  else (⟨m.1.text, []⟩, m.2)
def itemL (ts : List Wd) : Nat → List It → Sr → List It × Sr
  | 0, l, r => (l, r)
  | n + 1, l, r => if isW ts r 3 commaT then itemL ts n (l ++ [(itemW ts r.step).1]) (itemW ts r.step).2 else (l, r)
def itemsW (ts : List Wd) (r : Sr) : List It × Sr := itemL ts (ts.length + 1) [(itemW ts r).1] (itemW ts r).2

def negW (n : Nat) : Int := IntKind.i64.wrap (0 - (n : Int))
def stepW (ts : List Wd) (r : Sr) : Int × Sr :=
  if isW ts r 3 commaT then
    (if isW ts r.step 3 minusT then (negW (mustW ts r.step.step 2 []).1.n, (mustW ts r.step.step 2 []).2)
     else (((mustW ts r.step 2 []).1.n : Int), (mustW ts r.step 2 []).2))
  else (1, r)

/-- A statement. -/
structure Sm where
  kind : Nat := 0
  items : List It := []
  to : Ex := .none
  e : Ex := .none
  op : List UInt8 := []
  ca : Ex := .none
  cb : Ex := .none
  name : List UInt8 := []
  lo : Ex := .none
  hi : Ex := .none
  step : Int := 0
  deriving Inhabited

def integerT : List UInt8 := [105, 110, 116, 101, 103, 101, 114]
def doT : List UInt8 := [100, 111]
def endT : List UInt8 := [101, 110, 100]
def ifT : List UInt8 := [105, 102]
def thenT : List UInt8 := [116, 104, 101, 110]
def elseT : List UInt8 := [101, 108, 115, 101]
def readT : List UInt8 := [114, 101, 97, 100]
def printT : List UInt8 := [112, 114, 105, 110, 116]
def isT : List UInt8 := [61]

def doW (ts : List Wd) (r : Sr) : Sm × Sr :=
  let m := mustW ts r 1 []
  let a := exprW ts (mustW ts m.2 3 isT).2
  let b := exprW ts (mustW ts a.2 3 commaT).2
  let s := stepW ts b.2
  ({ kind := 3, name := m.1.text, lo := a.1, hi := b.1, step := s.1 }, s.2)
def ifW (ts : List Wd) (r : Sr) : Sm × Sr :=
  let c := condW ts (mustW ts r 3 openT).2
  ({ kind := 5, op := c.1.1, ca := c.1.2.1, cb := c.1.2.2 }, (mustW ts (mustW ts c.2 3 shutT).2 4 thenT).2)
def keyW (ts : List Wd) (word : List UInt8) (r : Sr) : Sm × Sr :=
  if word = integerT then ({ kind := 1, items := (itemsW ts r).1 }, (itemsW ts r).2)
  else if word = doT then doW ts r
  else if word = endT then (if isW ts r 4 ifT then ({ kind := 7 }, r.step) else ({ kind := 4 }, (mustW ts r 4 doT).2))
  else if word = ifT then ifW ts r
  else if word = elseT then ({ kind := 6 }, r)
  else if word = readT then ({ kind := 8, to := (toW ts r).1 }, (toW ts r).2)
  else if word = printT then ({ kind := 9, e := (exprW ts r).1 }, (exprW ts r).2)
  else ({}, r.fail 0 2)
def setW (ts : List Wd) (r : Sr) : Sm × Sr :=
  let a := toW ts r
  let b := exprW ts (mustW ts a.2 3 isT).2
  ({ kind := 2, to := a.1, e := b.1 }, b.2)
def stmtW (ts : List Wd) : Sm × Sr :=
  match ts[0]? with
  | none => ({}, ⟨0, none⟩)
  | some w => if w.kind = 4 then keyW ts w.text ⟨1, none⟩ else if w.kind = 1 then setW ts ⟨0, none⟩ else ({}, ⟨0, some ([(stmtTxt, 0)], 2)⟩)
/-- The words of a statement, all of them. -/
def parseW (ts : List Wd) : Sm × Er :=
  if ts = [] then ({}, none)
  else
    let r := if (stmtW ts).2.at_ < ts.length then (stmtW ts).2.fail (stmtW ts).2.at_ 2 else (stmtW ts).2
    match r.err with
    | some x => ({}, some x)
    | none => ((stmtW ts).1, none)
/-- stmt.Parse of a line's statement. -/
def parseS (body : List UInt8) : Sm × Er := match lex (body.length + 1) body 0 false with
  | .error (p, e) => ({}, some ([(stmtTxt, 0), (wordTx, p)], e))
  | .ok ts => parseW ts
end Go.Proofs.YtejjlojfgcgopaaGreatDoor
