/- The evaluator over abstract values. -/
import Derived.Test.YtpmonaempgjgbaaDoorFwTok
namespace Go.Proofs.Fw
open Go.RowKit

/-- What an evaluation is told of the program: its package-level variables' pointers, its methods, the struct types whose boxes are never written. -/
structure Env where
  glob : Nat → AV
  meth : TypeId → String → Option FuncId
  imm : TypeId → Bool

def AV.nothing : AV := .tup []

def ofVal : Value → Option AV
  | .bool b => some (.bool b)
  | .int k n => some (.int k n)
  | .string s => some (.str s.data.toList)
  | .pointer none => some .nilPtr
  | .slice none 0 0 => some .nilSlice
  | .map none => some .nilMap
  | .nilFunc => some .nilFunc
  | .nilIface => some .nilIface
  | _ => none

def ofVals : List Value → Option (List AV)
  | [] => some []
  | v :: vs => match ofVal v, ofVals vs with
    | some a, some as => some (a :: as)
    | _, _ => none

def ofValC : Value → Option AV
  | .agg cs => (ofVals cs.toList).map .agg
  | v => ofVal v

def aeval (E : Env) (tmps : List AV) : Operand → AV
  | .tmp t => tmps.getD t .nothing
  | .const v => (ofValC v).getD .undef
  | .global g => E.glob g
  | .func f => .func (.func f) [] []

def cellsAV : AV → List AV
  | .agg cs => cs
  | v => [v]

def AV.one : AV → Bool
  | .undef | .agg _ | .tup _ => false
  | _ => true

def AV.known : AV → Bool
  | .undef => false
  | _ => true

def szOf (P : Program) (t : TypeId) : Option Nat := (P.info? t).map (·.size)

def aggB (P : Program) (t : TypeId) : Option Bool :=
  match P.underlying t with
  | some (.struct _) | some (.array _ _) => some true
  | some _ => some false
  | none => none

def zeroAV (P : Program) (t : TypeId) : Option AV :=
  match P.info? t with
  | some i => (match i.zero with
    | some z => ofValC z
    | none => none)
  | none => none

def ldAt (P : Program) (t : TypeId) (cs : List AV) (off : Nat) : Option AV :=
  match aggB P t with
  | some true => (match szOf P t with
    | some n => if off + n ≤ cs.length then some (.agg ((cs.drop off).take n)) else none
    | none => none)
  | some false => cs[off]?
  | none => none

def aload (P : Program) (H : AH) (t : TypeId) (x : AV) : Option AV :=
  match x with
  | .ptr id off => (match H.at id with
    | some (.box cs) => ldAt P t cs off
    | _ => none)
  | .vptr cs off => ldAt P t cs off
  | _ => none

def putAt (cs : List AV) (off : Nat) (vs : List AV) : List AV := cs.take off ++ vs ++ cs.drop (off + vs.length)

abbrev Ups := List (Nat × Ent)

def astore (P : Program) (H : AH) (t : TypeId) (x v : AV) : Option (AV × Ups) :=
  match x with
  | .ptr id off => (match H.at id, szOf P t with
    | some (.box cs), some n =>
      if v.known = true ∧ (cellsAV v).length = n ∧ (cellsAV v).all AV.one = true ∧ off + n ≤ cs.length then some (.nothing, [(id, .box (putAt cs off (cellsAV v)))]) else none
    | _, _ => none)
  | _ => none

def fillAV (place : Nat → Option (Nat × Nat)) (cells : List AV) : List (Nat × AV) → Option (List AV)
  | [] => some cells
  | (i, v) :: rest =>
    match place i with
    | none => none
    | some (off, size) =>
      if v.known = true ∧ (cellsAV v).length = size ∧ off + (cellsAV v).length ≤ cells.length then fillAV place (putAt cells off (cellsAV v)) rest else none

/-- Where a struct's fields lie. -/
def fieldPlaces (P : Program) : List Field → Option (List (Nat × Nat))
  | [] => some []
  | f :: fs => match szOf P f.type, fieldPlaces P fs with
    | some n, some l => some ((f.offset, n) :: l)
    | _, _ => none

def abuild (P : Program) (t : TypeId) (parts : List (Nat × AV)) : Option AV :=
  match zeroAV P t, P.underlying t with
  | some z, some (.struct fields) => (match fieldPlaces P fields.toList with
    | some l => (fillAV (fun i => l[i]?) (cellsAV z) parts).map .agg
    | none => none)
  | some z, some (.array _ elem) => (match szOf P elem with
    | some n => (fillAV (fun i => some (i * n, n)) (cellsAV z) parts).map .agg
    | none => none)
  | _, _ => none

def reps (zs : List AV) : Nat → List AV
  | 0 => []
  | n + 1 => zs ++ reps zs n

def abuildSlice (P : Program) (t : TypeId) (len : Nat) (parts : List (Nat × AV)) : Option AV :=
  match P.underlying t with
  | some (.slice elem) => (match szOf P elem, zeroAV P elem with
    | some n, some z =>
      if (cellsAV z).length = n ∧ 0 < n ∧ len * n ≤ 16777216 then
        (fillAV (fun i => some (i * n, n)) (reps (cellsAV z) len) parts).map (.slice .full n len)
      else none
    | _, _ => none)
  | _ => none

def abits (op : BinOp) (k : IntKind) (a b : Int) : Option AV :=
  match op with
  | .and => some (.int k (k.wrap ((BitVec.ofInt k.bits a &&& BitVec.ofInt k.bits b).toNat : Int)))
  | .or => some (.int k (k.wrap ((BitVec.ofInt k.bits a ||| BitVec.ofInt k.bits b).toNat : Int)))
  | .xor => some (.int k (k.wrap ((BitVec.ofInt k.bits a ^^^ BitVec.ofInt k.bits b).toNat : Int)))
  | .andNot => some (.int k (k.wrap ((BitVec.ofInt k.bits a &&& ~~~ (BitVec.ofInt k.bits b)).toNat : Int)))
  | _ => none

def abinInt (op : BinOp) (k : IntKind) (a b : Int) : Option AV :=
  match op with
  | .add => some (.int k (k.wrap (a + b)))
  | .sub => some (.int k (k.wrap (a - b)))
  | .mul => some (.int k (k.wrap (a * b)))
  | .quo => if b = 0 then none else some (.int k (k.wrap (a.tdiv b)))
  | .rem => if b = 0 then none else some (.int k (a.tmod b))
  | .eql => some (.bool (a == b))
  | .neq => some (.bool (a != b))
  | .lss => some (.bool (decide (a < b)))
  | .leq => some (.bool (decide (a ≤ b)))
  | .gtr => some (.bool (decide (a > b)))
  | .geq => some (.bool (decide (a ≥ b)))
  | op => abits op k a b

def abinStr (op : BinOp) (a b : List UInt8) : Option AV :=
  match op with
  | .add => if a.length + b.length ≤ 9223372036854775807 then some (.str (a ++ b)) else none
  | .eql => some (.bool (a == b))
  | .neq => some (.bool !(a == b))
  | .lss => some (.bool (Op.bytesLess a b))
  | .leq => some (.bool (Op.bytesLess a b || a == b))
  | .gtr => some (.bool !(Op.bytesLess a b || a == b))
  | .geq => some (.bool !(Op.bytesLess a b))
  | _ => none

/-- '==' of values of a type, one level deep. -/
def aeq (P : Program) (t : TypeId) (x y : AV) : Option Bool :=
  match P.underlying t, x, y with
  | some .bool, .bool a, .bool b => some (a == b)
  | some (.pointer _), .nilPtr, .nilPtr => some true
  | some (.pointer _), .nilPtr, .ptr _ _ => some false
  | some (.pointer _), .nilPtr, .vptr _ _ => some false
  | some (.pointer _), .ptr _ _, .nilPtr => some false
  | some (.pointer _), .vptr _ _, .nilPtr => some false
  | some (.slice _), .nilSlice, .nilSlice => some true
  | some (.slice _), .nilSlice, .slice _ _ _ _ => some false
  | some (.slice _), .slice _ _ _ _, .nilSlice => some false
  | some (.slice _), .nilSlice, .bsl _ _ _ _ _ => some false
  | some (.slice _), .bsl _ _ _ _ _, .nilSlice => some false
  | some (.func _ _ _), .nilFunc, .nilFunc => some true
  | some (.func _ _ _), .nilFunc, .func _ _ _ => some false
  | some (.func _ _ _), .func _ _ _, .nilFunc => some false
  | some (.interface _), .nilIface, .nilIface => some true
  | some (.interface _), .nilIface, .iface _ _ => some false
  | some (.interface _), .iface _ _, .nilIface => some false
  | some (.interface _), .iface tx vx, .iface ty vy =>
    if tx = ty then
      (match P.info? tx, P.underlying tx, vx, vy with
      | some i, some (.int _), .int k a, .int k' b => if i.comparable = true ∧ k = k' then some (a == b) else none
      | _, _, _, _ => none)
    else some false
  | _, _, _ => none

def isConstO : Operand → Bool
  | .const _ => true
  | _ => false

def abin (P : Program) (op : BinOp) (t : TypeId) (cst : Bool) (x y : AV) : Option AV :=
  match x, y with
  | .int k a, .int k' b =>
    (match op with
    | .shl => if 0 ≤ b then some (.int k (k.wrap (a * 2 ^ (min b.toNat k.bits)))) else none
    | .shr => if 0 ≤ b then some (.int k (a.fdiv (2 ^ (min b.toNat k.bits)))) else none
    | op => if k = k' then abinInt op k a b else none)
  | .str a, .str b => abinStr op a b
  | .nilIface, .nilIface =>
    if cst = true then
      (match op with
      | .eql => (aeq P t .nilIface .nilIface).map .bool
      | .neq => (aeq P t .nilIface .nilIface).map (.bool !·)
      | _ => none)
    else none
  | .agg _, .agg _ => none
  | x, y =>
    (match op with
    | .eql => (aeq P t x y).map .bool
    | .neq => (aeq P t x y).map (.bool !·)
    | _ => none)

def aun (op : UnOp) (x : AV) : Option AV :=
  match op, x with
  | .neg, .int k n => some (.int k (k.wrap (0 - n)))
  | .not, .bool b => some (.bool !b)
  | .xor, .int k n => abits .xor k (if k.signed then -1 else k.max) n
  | _, _ => none

/-- A row of bytes as a string. -/
def bytesAV : List AV → Option (List UInt8)
  | [] => some []
  | a :: r => (match a, bytesAV r with
    | .int .u8 n, some s => some (UInt8.ofNat n.toNat :: s)
    | _, _ => none)

def strCells (s : List UInt8) : List AV := s.map fun b => .int .u8 (b.toNat : Int)

def aconvert (P : Program) (H : AH) (src dst : TypeId) (x : AV) : Option AV :=
  match P.underlying src, P.underlying dst, x with
  | some _, some (.int k), .int _ n => some (.int k (k.wrap n))
  | some _, some .string, .str s => some (.str s)
  | some .string, some (.slice e), .str s => (match P.underlying e with
    | some (.int .u8) => if s.length ≤ 9223372036854775807 then some (.slice .unk 1 s.length (strCells s)) else none
    | _ => none)
  | some (.slice e), some .string, .nilSlice => (match P.underlying e with
    | some (.int .u8) => some (.str [])
    | _ => none)
  | some (.slice e), some .string, .slice _ 1 _ cs => (match P.underlying e with
    | some (.int .u8) => (bytesAV cs).map .str
    | _ => none)
  | some (.slice e), some .string, .bsl id off 1 n _ => (match P.underlying e, H.at id with
    | some (.int .u8), some (.box cs) => if off + n ≤ cs.length then (bytesAV ((cs.drop off).take n)).map .str else none
    | _, _ => none)
  | _, _, _ => none

def optInt : Option AV → Option (Option Int)
  | none => some none
  | some (.int _ n) => some (some n)
  | _ => none

def aslice (P : Program) (t : TypeId) (x : AV) (lo hi mx : Option AV) : Option AV :=
  match optInt lo, optInt hi, optInt mx with
  | some l, some h, some m =>
    (match P.underlying t, x with
    | some .string, .str s =>
      if m = none ∧ 0 ≤ l.getD 0 ∧ l.getD 0 ≤ h.getD s.length ∧ h.getD s.length ≤ s.length then
        some (.str ((s.take (h.getD s.length).toNat).drop (l.getD 0).toNat)) else none
    | some (.slice e), .nilSlice => if m = none ∧ l.getD 0 = 0 ∧ h.getD 0 = 0 ∧ (szOf P e).isSome = true then some .nilSlice else none
    | some (.slice e), .slice ow sz n cs =>
      (match szOf P e with
      | some sz' =>
        if sz' = sz ∧ m = none ∧ 0 ≤ l.getD 0 ∧ l.getD 0 ≤ h.getD n ∧ h.getD n ≤ n then
          let a := (l.getD 0).toNat
          let b := (h.getD n).toNat
          some (.slice (if b = n then (if a = 0 then ow else if ow = .full then .full else .unk) else .unk) sz (b - a) ((cs.drop (a * sz)).take ((b - a) * sz)))
        else if sz' = sz ∧ m = h ∧ h ≠ none ∧ 0 ≤ l.getD 0 ∧ l.getD 0 ≤ h.getD n ∧ h.getD n ≤ n then
          let a := (l.getD 0).toNat
          let b := (h.getD n).toNat
          some (.slice .full sz (b - a) ((cs.drop (a * sz)).take ((b - a) * sz)))
        else none
      | none => none)
    | some (.slice e), .bsl id off sz n c =>
      (match szOf P e with
      | some sz' =>
        if sz' = sz ∧ m = none ∧ 0 ≤ l.getD 0 ∧ l.getD 0 ≤ h.getD n ∧ h.getD n ≤ n then
          let a := (l.getD 0).toNat
          let b := (h.getD n).toNat
          some (.bsl id (if c = a then off else off + a * sz) sz (b - a) (c - a))
        else none
      | none => none)
    | some (.pointer q), .ptr id off =>
      (match P.underlying q with
      | some (.array n e) => (match szOf P e with
        | some sz =>
          if m = none ∧ 0 ≤ l.getD 0 ∧ l.getD 0 ≤ h.getD n ∧ h.getD n ≤ n then
            let a := (l.getD 0).toNat
            let b := (h.getD n).toNat
            some (.bsl id (if n = a then off else off + a * sz) sz (b - a) (n - a))
          else none
        | none => none)
      | _ => none)
    | _, _ => none)
  | _, _, _ => none

def afieldAddr (P : Program) (t : TypeId) (x : AV) (i : Nat) : Option AV :=
  match P.underlying t with
  | some (.struct fields) => (match fields[i]? with
    | some f => (match szOf P f.type with
      | some n =>
        if n = 0 then none else (match x with
          | .ptr id off => some (.ptr id (off + f.offset))
          | .vptr cs off => some (.vptr cs (off + f.offset))
          | _ => none)
      | none => none)
    | none => none)
  | _ => none

def afield (P : Program) (t : TypeId) (x : AV) (i : Nat) : Option AV :=
  match P.underlying t, x with
  | some (.struct fields), .agg cs => (match fields[i]? with
    | some f => ldAt P f.type cs f.offset
    | none => none)
  | _, _ => none

def aindexAddr (P : Program) (t : TypeId) (x i : AV) : Option AV :=
  match i with
  | .int _ i =>
    (match P.underlying t, x with
    | some (.slice e), .slice _ sz n cs =>
      (match szOf P e with
      | some sz' => if sz' = sz ∧ 0 ≤ i ∧ i < (n : Int) then some (.vptr cs (i.toNat * sz)) else none
      | none => none)
    | some (.slice e), .bsl id off sz n _ =>
      (match szOf P e with
      | some sz' => if sz' = sz ∧ 0 ≤ i ∧ i < (n : Int) then some (.ptr id (off + i.toNat * sz)) else none
      | none => none)
    | some (.array n e), .ptr id off =>
      (match szOf P e with
      | some sz => if 0 ≤ i ∧ i < (n : Int) then some (.ptr id (off + i.toNat * sz)) else none
      | none => none)
    | some (.array n e), .vptr cs off =>
      (match szOf P e with
      | some sz => if 0 ≤ i ∧ i < (n : Int) then some (.vptr cs (off + i.toNat * sz)) else none
      | none => none)
    | _, _ => none)
  | _ => none

def aindex (P : Program) (t : TypeId) (x i : AV) : Option AV :=
  match i with
  | .int _ i =>
    (match P.underlying t, x with
    | some .string, .str s => if 0 ≤ i then (match s[i.toNat]? with
      | some b => some (.int .u8 (b.toNat : Int))
      | none => none) else none
    | some (.array n e), .agg cs => (match szOf P e with
      | some sz => if 0 ≤ i ∧ i < (n : Int) then ldAt P e cs (i.toNat * sz) else none
      | none => none)
    | _, _ => none)
  | _ => none

def aextract (x : AV) (i : Nat) : Option AV :=
  match x with
  | .tup vs => vs[i]?
  | _ => none

def anilCheck (x : AV) : Option AV :=
  match x with
  | .ptr id off => some (.ptr id off)
  | .vptr cs off => some (.vptr cs off)
  | .func (.func f) a b => some (.func (.func f) a b)
  | .iface t v => some (.iface t v)
  | _ => none

def atypeAssert (P : Program) (x : AV) (asserted : TypeId) (ok : Bool) : Option AV :=
  let fails : Option AV := if ok then (match zeroAV P asserted with
    | some z => some (.tup [z, .bool false])
    | none => none) else none
  let holds (v : AV) : Option AV := some (if ok then .tup [v, .bool true] else v)
  match P.underlying asserted, x with
  | some _, .nilIface => fails
  | some (.interface want), .iface t v => (match P.info? t with
    | some i => (match Instr.missingMethod want i.methods with
      | none => holds (.iface t v)
      | some _ => fails)
    | none => none)
  | some _, .iface t v => if t = asserted then holds v else fails
  | _, _ => none

def alen (P : Program) (t : TypeId) (x : AV) : Option AV :=
  match P.underlying t, x with
  | some .string, .str s => some (.int .i64 s.length)
  | some (.slice _), .nilSlice => some (.int .i64 0)
  | some (.slice _), .slice _ _ n _ => some (.int .i64 n)
  | some (.slice _), .bsl _ _ _ n _ => some (.int .i64 n)
  | some (.array n _), _ => some (.int .i64 n)
  | _, _ => none

def acap (P : Program) (t : TypeId) (x : AV) : Option AV :=
  match P.underlying t, x with
  | some (.slice _), .nilSlice => some (.int .i64 0)
  | some (.slice _), .bsl _ _ _ _ c => some (.int .i64 c)
  | _, _ => none

def amakeSlice (P : Program) (fid : Nat) (t : TypeId) (x y : AV) : Option (AV × Ups) :=
  match P.underlying t, x, y with
  | some (.slice e), .int _ l, .int _ c => (match szOf P e, zeroAV P e, P.info? e with
    | some n, some z, some i =>
      if (cellsAV z).length = n ∧ 0 < n ∧ 0 ≤ l ∧ l ≤ c ∧ c * i.bytes ≤ 140737488355328 ∧ c ≤ 9223372036854775807 ∧ 0 < i.bytes then
        some (.bsl fid 0 n l.toNat c.toNat, [(fid, .box (reps (cellsAV z) c.toNat))])
      else none
    | _, _, _ => none)
  | _, _, _ => none

/-- The first cells of what is copied from. -/
def copied (H : AH) (sz : Nat) (x : AV) : Option (Nat × List AV) :=
  match x with
  | .nilSlice => some (0, [])
  | .slice _ sz' n cs => if sz' = sz then some (n, cs) else none
  | .bsl id off sz' n _ => (match H.at id with
    | some (.box cs) => if sz' = sz ∧ off + n * sz ≤ cs.length then some (n, (cs.drop off).take (n * sz)) else none
    | _ => none)
  | .str s => if sz = 1 then some (s.length, strCells s) else none
  | _ => none

def isByteStr (P : Program) (t u e : TypeId) : Bool := t == u || (match P.underlying u, P.underlying e with
  | some .string, some (.int .u8) => true
  | _, _ => false)

def aappend (P : Program) (H : AH) (fid : Nat) (t u : TypeId) (s x : AV) : Option (AV × Ups) :=
  match P.underlying t with
  | some (.slice e) => (match P.info? e with
    | some i => (match i.zero with
      | some z =>
        if z.cells.size = i.size ∧ 0 < i.size ∧ isByteStr P t u e = true then
          (match copied H i.size x with
          | some (m, ys) =>
            if ys.all AV.one = true then
              (match s with
              | .nilSlice => if m = 0 then some (.nilSlice, []) else if m * i.bytes ≤ 140737488355328 ∧ m ≤ 4611686018427387904 then some (.slice (.tok fid) i.size m ys, [(fid, .tok m)]) else none
              | .slice ow sz n xs =>
                if sz = i.size then
                  (if m = 0 then some (.slice ow sz n xs, []) else
                  if (n + m) * i.bytes ≤ 140737488355328 ∧ n + m ≤ 4611686018427387904 then
                    (match ow with
                    | .full => some (.slice (.tok fid) sz (n + m) (xs ++ ys), [(fid, .tok (n + m))])
                    | .tok k => (match H.at k with
                      | some (.tok n') => if n' = n then some (.slice (.tok k) sz (n + m) (xs ++ ys), [(k, .tok (n + m))]) else none
                      | _ => none)
                    | .unk => none)
                  else none)
                else none
              | .bsl id off sz n c => (match H.at id with
                | some (.box cs) =>
                  if sz = i.size ∧ off + n * sz ≤ cs.length then
                    (if m = 0 then some (.bsl id off sz n c, []) else
                    if c < n + m ∧ (n + m) * i.bytes ≤ 140737488355328 ∧ n + m ≤ 4611686018427387904 then
                      some (.slice (.tok fid) sz (n + m) ((cs.drop off).take (n * sz) ++ ys), [(fid, .tok (n + m))])
                    else none)
                  else none
                | _ => none)
              | _ => none)
            else none
          | none => none)
        else none
      | none => none)
    | none => none)
  | _ => none

def amax2 (x y : AV) : Option AV :=
  match x, y with
  | .int k a, .int _ b => some (.int k (if b > a then b else a))
  | _, _ => none

def amin2 (x y : AV) : Option AV :=
  match x, y with
  | .int k a, .int _ b => some (.int k (if b < a then b else a))
  | _, _ => none

def acopy (P : Program) (H : AH) (t : TypeId) (d x : AV) : Option (AV × Ups) :=
  match P.underlying t, d with
  | some (.slice e), .bsl id off sz n _ =>
    (match szOf P e, copied H sz x, H.at id with
    | some sz', some (m, ys), some (.box cs) =>
      let k := min m n
      if sz' = sz ∧ ys.all AV.one = true ∧ off + k * sz ≤ cs.length then
        some (.int .i64 k, [(id, .box (putAt cs off (ys.take (k * sz))))])
      else none
    | _, _, _ => none)
  | _, _ => none

/-- The operations that call nothing: a value, and what turns in the heap. -/
def aop (P : Program) (E : Env) (ρ : Operand → AV) (H : AH) (fid : Nat) (o : Oper) : Option (AV × Ups) :=
  let v (x : Option AV) : Option (AV × Ups) := x.map fun a => (a, [])
  match o.op with
  | .move x | .assign x => some (ρ x, [])
  | .pick c a b => (match ρ c with
    | .bool t => some (if t then ρ a else ρ b, [])
    | _ => none)
  | .alloc t => (match zeroAV P t with
    | some z => some (.ptr fid 0, [(fid, .box (cellsAV z))])
    | none => none)
  | .box t x =>
    if E.imm t = true then (if (ρ x).known = true then some (.vptr (cellsAV (ρ x)) 0, []) else none)
    else if (ρ x).known = true then some (.ptr fid 0, [(fid, .box (cellsAV (ρ x)))]) else none
  | .build t parts => v (abuild P t (parts.toList.map fun p => (p.1, ρ p.2)))
  | .buildSlice t len parts => v (abuildSlice P t len (parts.toList.map fun p => (p.1, ρ p.2)))
  | .load t a => v (aload P H t (ρ a))
  | .store t a x => astore P H t (ρ a) (ρ x)
  | .nilCheck x => v (anilCheck (ρ x))
  | .binOp op t x y _ => v (abin P op t (isConstO x || isConstO y) (ρ x) (ρ y))
  | .unOp op _ x => v (aun op (ρ x))
  | .convert src dst x => v (aconvert P H src dst (ρ x))
  | .makeInterface t x => (match P.underlying t with
    | some (.interface _) => none
    | some _ => some (.iface t (ρ x), [])
    | none => none)
  | .makeFunc fn first captured => some (.func fn (first.toList.map ρ) (captured.toList.map ρ), [])
  | .slice t x lo hi mx => v (aslice P t (ρ x) (lo.map ρ) (hi.map ρ) (mx.map ρ))
  | .fieldAddr t x f => v (afieldAddr P t (ρ x) f)
  | .field t x f => v (afield P t (ρ x) f)
  | .indexAddr t x i => v (aindexAddr P t (ρ x) (ρ i))
  | .index t x i => v (aindex P t (ρ x) (ρ i))
  | .typeAssert x _ t ok => v (atypeAssert P (ρ x) t ok)
  | .makeSlice t x y => amakeSlice P fid t (ρ x) (ρ y)
  | .extract x i => v (aextract (ρ x) i)
  | .call { callee := .builtin b, args, argTypes } =>
    (match b with
    | .len => (match argTypes[0]?, args[0]? with
      | some t, some x => v (alen P t (ρ x))
      | _, _ => none)
    | .cap => (match argTypes[0]?, args[0]? with
      | some t, some x => v (acap P t (ρ x))
      | _, _ => none)
    | .max => (match args.toList with
      | [x, y] => v (amax2 (ρ x) (ρ y))
      | _ => none)
    | .min => (match args.toList with
      | [x, y] => v (amin2 (ρ x) (ρ y))
      | _ => none)
    | .copy => (match argTypes[0]?, args[0]?, args[1]? with
      | some t, some d, some x => acopy P H t (ρ d) (ρ x)
      | _, _, _ => none)
    | .append => (match argTypes[0]?, argTypes[1]?, args[0]?, args[1]? with
      | some t, some u, some s, some x => aappend P H fid t u (ρ s) (ρ x)
      | _, _, _, _ => none)
    | _ => none)
  | _ => none

/-- Does an operation want a number of its own? -/
def needsId (E : Env) : Op → Bool
  | .alloc _ => true
  | .box t _ => !(E.imm t)
  | .call { callee := .builtin .append, .. } => true
  | .makeSlice _ _ _ => true
  | _ => false

end Go.Proofs.Fw
