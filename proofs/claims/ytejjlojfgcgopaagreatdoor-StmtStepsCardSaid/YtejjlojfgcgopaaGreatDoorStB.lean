/- Facts on the types of this program, and which functions are its own text. Errors; statements as values; how far a reader of expressions goes. -/
import Derived.Test.YtejjlojfgcgopaaGreatDoorTu
import Derived.Test.YtejjlojfgcgopaaGreatDoorStA
import Derived.Test.YtejjlojfgcgopaaGreatDoorEyF
import Derived.Test.YtejjlojfgcgopaaGreatDoorFwG6
set_option linter.unusedSimpArgs false
set_option linter.unusedVariables false
namespace Go.Proofs.YtejjlojfgcgopaaGreatDoor.Tp
open Go.RowKit Go.Proofs.Fw
set_option maxRecDepth 100000
theorem sz24 : szOf Tryz.prog 24 = some 1 := by kernel_rfl
theorem ag24 : aggB Tryz.prog 24 = some false := by kernel_rfl
theorem zv24 : zeroAV Tryz.prog 24 = some (.nilSlice) := by kernel_rfl
theorem ec24 : elemChk Tryz.prog 24 2 = true := by kernel_rfl
theorem sz31 : szOf Tryz.prog 31 = some 29 := by kernel_rfl
theorem ag31 : aggB Tryz.prog 31 = some true := by kernel_rfl
theorem zv31 : zeroAV Tryz.prog 31 = some (.agg [.int .i64 0, .nilSlice, .int .i64 0, .int .i64 0, .str [], .nilSlice, .int .i64 0, .int .i64 0, .str [], .nilSlice, .str [], .int .i64 0, .int .i64 0, .str [], .nilSlice, .int .i64 0, .int .i64 0, .str [], .nilSlice, .str [], .int .i64 0, .int .i64 0, .str [], .nilSlice, .int .i64 0, .int .i64 0, .str [], .nilSlice, .int .i64 0]) := by kernel_rfl
theorem fa31_0 (id off : Nat) : afieldAddr Tryz.prog 31 (.ptr id off) 0 = some (.ptr id (off + 0)) := by kernel_rfl
theorem fv31_0 (cs : List AV) (off : Nat) : afieldAddr Tryz.prog 31 (.vptr cs off) 0 = some (.vptr cs (off + 0)) := by kernel_rfl
theorem fl31_0 (cs : List AV) : afield Tryz.prog 31 (.agg cs) 0 = ldAt Tryz.prog 3 cs 0 := by kernel_rfl
theorem fa31_1 (id off : Nat) : afieldAddr Tryz.prog 31 (.ptr id off) 1 = some (.ptr id (off + 1)) := by kernel_rfl
theorem fv31_1 (cs : List AV) (off : Nat) : afieldAddr Tryz.prog 31 (.vptr cs off) 1 = some (.vptr cs (off + 1)) := by kernel_rfl
theorem fl31_1 (cs : List AV) : afield Tryz.prog 31 (.agg cs) 1 = ldAt Tryz.prog 24 cs 1 := by kernel_rfl
theorem fa31_2 (id off : Nat) : afieldAddr Tryz.prog 31 (.ptr id off) 2 = some (.ptr id (off + 2)) := by kernel_rfl
theorem fv31_2 (cs : List AV) (off : Nat) : afieldAddr Tryz.prog 31 (.vptr cs off) 2 = some (.vptr cs (off + 2)) := by kernel_rfl
theorem fl31_2 (cs : List AV) : afield Tryz.prog 31 (.agg cs) 2 = ldAt Tryz.prog 27 cs 2 := by kernel_rfl
theorem fa31_3 (id off : Nat) : afieldAddr Tryz.prog 31 (.ptr id off) 3 = some (.ptr id (off + 6)) := by kernel_rfl
theorem fv31_3 (cs : List AV) (off : Nat) : afieldAddr Tryz.prog 31 (.vptr cs off) 3 = some (.vptr cs (off + 6)) := by kernel_rfl
theorem fl31_3 (cs : List AV) : afield Tryz.prog 31 (.agg cs) 3 = ldAt Tryz.prog 27 cs 6 := by kernel_rfl
theorem fa31_4 (id off : Nat) : afieldAddr Tryz.prog 31 (.ptr id off) 4 = some (.ptr id (off + 10)) := by kernel_rfl
theorem fv31_4 (cs : List AV) (off : Nat) : afieldAddr Tryz.prog 31 (.vptr cs off) 4 = some (.vptr cs (off + 10)) := by kernel_rfl
theorem fl31_4 (cs : List AV) : afield Tryz.prog 31 (.agg cs) 4 = ldAt Tryz.prog 29 cs 10 := by kernel_rfl
theorem fa31_5 (id off : Nat) : afieldAddr Tryz.prog 31 (.ptr id off) 5 = some (.ptr id (off + 19)) := by kernel_rfl
theorem fv31_5 (cs : List AV) (off : Nat) : afieldAddr Tryz.prog 31 (.vptr cs off) 5 = some (.vptr cs (off + 19)) := by kernel_rfl
theorem fl31_5 (cs : List AV) : afield Tryz.prog 31 (.agg cs) 5 = ldAt Tryz.prog 9 cs 19 := by kernel_rfl
theorem fa31_6 (id off : Nat) : afieldAddr Tryz.prog 31 (.ptr id off) 6 = some (.ptr id (off + 20)) := by kernel_rfl
theorem fv31_6 (cs : List AV) (off : Nat) : afieldAddr Tryz.prog 31 (.vptr cs off) 6 = some (.vptr cs (off + 20)) := by kernel_rfl
theorem fl31_6 (cs : List AV) : afield Tryz.prog 31 (.agg cs) 6 = ldAt Tryz.prog 27 cs 20 := by kernel_rfl
theorem fa31_7 (id off : Nat) : afieldAddr Tryz.prog 31 (.ptr id off) 7 = some (.ptr id (off + 24)) := by kernel_rfl
theorem fv31_7 (cs : List AV) (off : Nat) : afieldAddr Tryz.prog 31 (.vptr cs off) 7 = some (.vptr cs (off + 24)) := by kernel_rfl
theorem fl31_7 (cs : List AV) : afield Tryz.prog 31 (.agg cs) 7 = ldAt Tryz.prog 27 cs 24 := by kernel_rfl
theorem fa31_8 (id off : Nat) : afieldAddr Tryz.prog 31 (.ptr id off) 8 = some (.ptr id (off + 28)) := by kernel_rfl
theorem fv31_8 (cs : List AV) (off : Nat) : afieldAddr Tryz.prog 31 (.vptr cs off) 8 = some (.vptr cs (off + 28)) := by kernel_rfl
theorem fl31_8 (cs : List AV) : afield Tryz.prog 31 (.agg cs) 8 = ldAt Tryz.prog 2 cs 28 := by kernel_rfl
theorem sz121 : szOf Tryz.prog 121 = some 2 := by kernel_rfl
theorem ag121 : aggB Tryz.prog 121 = some true := by kernel_rfl
theorem zv121 : zeroAV Tryz.prog 121 = some (.agg [.str [], .nilSlice]) := by kernel_rfl
theorem fa121_0 (id off : Nat) : afieldAddr Tryz.prog 121 (.ptr id off) 0 = some (.ptr id (off + 0)) := by kernel_rfl
theorem fv121_0 (cs : List AV) (off : Nat) : afieldAddr Tryz.prog 121 (.vptr cs off) 0 = some (.vptr cs (off + 0)) := by kernel_rfl
theorem fl121_0 (cs : List AV) : afield Tryz.prog 121 (.agg cs) 0 = ldAt Tryz.prog 9 cs 0 := by kernel_rfl
theorem fa121_1 (id off : Nat) : afieldAddr Tryz.prog 121 (.ptr id off) 1 = some (.ptr id (off + 1)) := by kernel_rfl
theorem fv121_1 (cs : List AV) (off : Nat) : afieldAddr Tryz.prog 121 (.vptr cs off) 1 = some (.vptr cs (off + 1)) := by kernel_rfl
theorem fl121_1 (cs : List AV) : afield Tryz.prog 121 (.agg cs) 1 = ldAt Tryz.prog 49 cs 1 := by kernel_rfl
theorem sz129 : szOf Tryz.prog 129 = some 1 := by kernel_rfl
theorem ag129 : aggB Tryz.prog 129 = some false := by kernel_rfl
theorem zv129 : zeroAV Tryz.prog 129 = some (.nilPtr) := by kernel_rfl
theorem sz131 : szOf Tryz.prog 131 = some 3 := by kernel_rfl
theorem ag131 : aggB Tryz.prog 131 = some true := by kernel_rfl
theorem zv131 : zeroAV Tryz.prog 131 = some (.agg [.nilSlice, .int .i64 0, .nilIface]) := by kernel_rfl
theorem fa131_0 (id off : Nat) : afieldAddr Tryz.prog 131 (.ptr id off) 0 = some (.ptr id (off + 0)) := by kernel_rfl
theorem fv131_0 (cs : List AV) (off : Nat) : afieldAddr Tryz.prog 131 (.vptr cs off) 0 = some (.vptr cs (off + 0)) := by kernel_rfl
theorem fl131_0 (cs : List AV) : afield Tryz.prog 131 (.agg cs) 0 = ldAt Tryz.prog 125 cs 0 := by kernel_rfl
theorem fa131_1 (id off : Nat) : afieldAddr Tryz.prog 131 (.ptr id off) 1 = some (.ptr id (off + 1)) := by kernel_rfl
theorem fv131_1 (cs : List AV) (off : Nat) : afieldAddr Tryz.prog 131 (.vptr cs off) 1 = some (.vptr cs (off + 1)) := by kernel_rfl
theorem fl131_1 (cs : List AV) : afield Tryz.prog 131 (.agg cs) 1 = ldAt Tryz.prog 3 cs 1 := by kernel_rfl
theorem fa131_2 (id off : Nat) : afieldAddr Tryz.prog 131 (.ptr id off) 2 = some (.ptr id (off + 2)) := by kernel_rfl
theorem fv131_2 (cs : List AV) (off : Nat) : afieldAddr Tryz.prog 131 (.vptr cs off) 2 = some (.vptr cs (off + 2)) := by kernel_rfl
theorem fl131_2 (cs : List AV) : afield Tryz.prog 131 (.agg cs) 2 = ldAt Tryz.prog 33 cs 2 := by kernel_rfl
theorem sz260 : szOf Tryz.prog 260 = some 24 := by kernel_rfl
theorem ag260 : aggB Tryz.prog 260 = some true := by kernel_rfl
theorem zv260 : zeroAV Tryz.prog 260 = some (.agg [.int .u8 0, .int .u8 0, .int .u8 0, .int .u8 0, .int .u8 0, .int .u8 0, .int .u8 0, .int .u8 0, .int .u8 0, .int .u8 0, .int .u8 0, .int .u8 0, .int .u8 0, .int .u8 0, .int .u8 0, .int .u8 0, .int .u8 0, .int .u8 0, .int .u8 0, .int .u8 0, .int .u8 0, .int .u8 0, .int .u8 0, .int .u8 0]) := by kernel_rfl
theorem sz309 : szOf Tryz.prog 309 = some 20 := by kernel_rfl
theorem ag309 : aggB Tryz.prog 309 = some true := by kernel_rfl
theorem zv309 : zeroAV Tryz.prog 309 = some (.agg [.int .u64 0, .int .u64 0, .int .u64 0, .int .u64 0, .int .u64 0, .int .u64 0, .int .u64 0, .int .u64 0, .int .u64 0, .int .u64 0, .int .u64 0, .int .u64 0, .int .u64 0, .int .u64 0, .int .u64 0, .int .u64 0, .int .u64 0, .int .u64 0, .int .u64 0, .int .u64 0]) := by kernel_rfl
theorem go16 : goFn Tryz.prog 16 = true := by kernel_rfl
theorem go17 : goFn Tryz.prog 17 = true := by kernel_rfl
theorem go50 : goFn Tryz.prog 50 = true := by kernel_rfl
theorem go52 : goFn Tryz.prog 52 = true := by kernel_rfl
theorem go53 : goFn Tryz.prog 53 = true := by kernel_rfl
theorem go54 : goFn Tryz.prog 54 = true := by kernel_rfl
theorem go55 : goFn Tryz.prog 55 = true := by kernel_rfl
theorem go57 : goFn Tryz.prog 57 = true := by kernel_rfl
theorem go89 : goFn Tryz.prog 89 = true := by kernel_rfl
theorem go90 : goFn Tryz.prog 90 = true := by kernel_rfl
theorem go91 : goFn Tryz.prog 91 = true := by kernel_rfl
theorem go92 : goFn Tryz.prog 92 = true := by kernel_rfl
theorem go97 : goFn Tryz.prog 97 = true := by kernel_rfl
theorem go137 : goFn Tryz.prog 137 = true := by kernel_rfl
theorem go138 : goFn Tryz.prog 138 = true := by kernel_rfl
theorem go139 : goFn Tryz.prog 139 = true := by kernel_rfl
theorem go140 : goFn Tryz.prog 140 = true := by kernel_rfl
theorem go142 : goFn Tryz.prog 142 = true := by kernel_rfl
theorem go143 : goFn Tryz.prog 143 = true := by kernel_rfl
theorem go144 : goFn Tryz.prog 144 = true := by kernel_rfl
theorem go149 : goFn Tryz.prog 149 = true := by kernel_rfl
theorem go150 : goFn Tryz.prog 150 = true := by kernel_rfl
theorem go151 : goFn Tryz.prog 151 = true := by kernel_rfl
theorem go177 : goFn Tryz.prog 177 = true := by kernel_rfl
theorem go184 : goFn Tryz.prog 184 = true := by kernel_rfl
theorem go185 : goFn Tryz.prog 185 = true := by kernel_rfl
theorem go186 : goFn Tryz.prog 186 = true := by kernel_rfl
attribute [simp] sz24 ag24 zv24 ec24 Tryz.underlying24 sz31 ag31 zv31 fa31_0 fv31_0 fl31_0 fa31_1 fv31_1 fl31_1 fa31_2 fv31_2 fl31_2 fa31_3 fv31_3 fl31_3
attribute [simp] fa31_4 fv31_4 fl31_4 fa31_5 fv31_5 fl31_5 fa31_6 fv31_6 fl31_6 fa31_7 fv31_7 fl31_7 fa31_8 fv31_8 fl31_8 Tryz.underlying31 sz121 ag121 zv121 fa121_0
attribute [simp] fv121_0 fl121_0 fa121_1 fv121_1 fl121_1 Tryz.underlying121 sz129 ag129 zv129 Tryz.underlying129 sz131 ag131 zv131 fa131_0 fv131_0 fl131_0 fa131_1 fv131_1 fl131_1 fa131_2
attribute [simp] fv131_2 fl131_2 Tryz.underlying131 sz260 ag260 zv260 Tryz.underlying260 sz309 ag309 zv309 Tryz.underlying309 go16 go17 go50 go52 go53 go54 go55 go57 go89
attribute [simp] go90 go91 go92 go97 go137 go138 go139 go140 go142 go143 go144 go149 go150 go151 go177 go184 go185 go186
end Go.Proofs.YtejjlojfgcgopaaGreatDoor.Tp

namespace Go.Proofs.YtejjlojfgcgopaaGreatDoor
open Go.RowKit Go.Proofs.Fw
set_option maxRecDepth 100000
set_option maxHeartbeats 4000000

-- 
def castP (l : List (List UInt8 × Nat)) : List (List UInt8 × Int) := l.map fun x => (x.1, (x.2 : Int))
/-- An error that is one: it has a part, its number is not 0. -/
def erOk (e : Er) : Prop := ∀ l c, e = some (l, c) → l ≠ [] ∧ c ≠ 0
theorem erOk_none : erOk none := fun _ _ h => by cases h
theorem erOk_some {l : List (List UInt8 × Nat)} {c : Nat} (hl : l ≠ []) (hc : c ≠ 0) : erOk (some (l, c)) := fun l' c' h => by
  injection h with h
  injection h with h1 h2
  subst h1; subst h2
  exact ⟨hl, hc⟩
theorem erOk_getD {e : Er} (h : erOk e) {l : List (List UInt8 × Nat)} {c : Nat} (hl : l ≠ []) (hc : c ≠ 0) : erOk (some (e.getD (l, c))) := by
  cases e with
  | none => exact erOk_some hl hc
  | some x => exact h
theorem castP_inj : ∀ {a b : List (List UInt8 × Nat)}, castP a = castP b → a = b
  | [], [], _ => rfl
  | [], x :: b, h => by simp [castP] at h
  | x :: a, [], h => by simp [castP] at h
  | (w, p) :: a, (w', p') :: b, h => by
    simp only [castP, List.map_cons, List.cons.injEq, Prod.mk.injEq] at h
    obtain ⟨⟨rfl, h1⟩, h2⟩ := h
    have : p = p' := by omega
    rw [this, castP_inj h2]
/-! Sizes, what is declared. -/
def dimE : Enc Int where
  sz := 1
  c := fun n => [.int .i64 n]
  pos := by decide
  len := fun _ => rfl
  low := fun _ => rfl
  one := fun _ => rfl
  inj := fun x y h => by simpa using h
def itE : Enc It where
  sz := 2
  c := fun x => [.str x.name, dimE.av x.dims]
  pos := by decide
  len := fun _ => rfl
  low := fun x => by simp
  one := fun x => by simp
  inj := fun x y h => by
    simp only [List.cons.injEq, AV.str.injEq, and_true] at h
    obtain ⟨a, b⟩ := x
    obtain ⟨a', b'⟩ := y
    simp only at h
    rw [h.1, dimE.av_inj h.2]
/-! Texts in a row. -/
def strE : Enc (List UInt8) where
  sz := 1
  c := fun s => [.str s]
  pos := by decide
  len := fun _ => rfl
  low := fun _ => rfl
  one := fun _ => rfl
  inj := fun x y h => by simpa using h
theorem strE_row : ∀ l : List (List UInt8), strE.row l = l.map AV.str
  | [] => rfl
  | s :: l => by rw [Enc.row, strE_row l]; rfl
theorem dim_sz : dimE.sz = 1 := rfl
theorem it_sz : itE.sz = 2 := rfl
theorem dim_c (n : Int) : dimE.c n = [.int .i64 n] := rfl
theorem it_c (x : It) : itE.c x = [.str x.name, dimE.av x.dims] := rfl

/-- A statement, as it lies: its expressions are trees. -/
structure Sx where
  kind : Int
  items : List It
  to : Tn
  e : Tn
  op : List UInt8
  ca : Tn
  cb : Tn
  name : List UInt8
  lo : Tn
  hi : Tn
  step : Int
def Sm.x (m : Sm) : Sx := ⟨m.kind, m.items, m.to.tn, m.e.tn, m.op, m.ca.tn, m.cb.tn, m.name, m.lo.tn, m.hi.tn, m.step⟩
def Sx.c (x : Sx) : List AV := [.int .i64 x.kind, itE.av x.items, .int .i64 x.to.k, .int .i64 x.to.n, .str x.to.s, x.to.ar, .int .i64 x.e.k, .int .i64 x.e.n, .str x.e.s, x.e.ar, .str x.op,
  .int .i64 x.ca.k, .int .i64 x.ca.n, .str x.ca.s, x.ca.ar, .int .i64 x.cb.k, .int .i64 x.cb.n, .str x.cb.s, x.cb.ar, .str x.name, .int .i64 x.lo.k, .int .i64 x.lo.n, .str x.lo.s, x.lo.ar, .int .i64 x.hi.k, .int .i64 x.hi.n, .str x.hi.s, x.hi.ar, .int .i64 x.step]
theorem Sx.c_low (x : Sx) : lowL 0 x.c = true := by simp [Sx.c]
def sxE : Enc Sx where
  sz := 29
  c := Sx.c
  pos := by decide
  len := fun _ => rfl
  low := Sx.c_low
  one := fun x => by simp [Sx.c]
  inj := fun x y h => by
    have tn_ext : ∀ a b : Tn, a.k = b.k → a.n = b.n → a.s = b.s → a.ar = b.ar → a = b := fun a b h1 h2 h3 h4 => tC_inj a b (by rw [tC_eq, tC_eq, h1, h2, h3, h4])
    simp only [Sx.c, List.cons.injEq, AV.int.injEq, AV.str.injEq, true_and, and_true] at h
    obtain ⟨h1, h2, a1, a2, a3, a4, b1, b2, b3, b4, h3, c1, c2, c3, c4, d1, d2, d3, d4, h4, e1, e2, e3, e4, f1, f2, f3, f4, h5⟩ := h
    obtain ⟨_, _, _, _, _, _, _, _, _, _, _⟩ := x
    obtain ⟨_, _, _, _, _, _, _, _, _, _, _⟩ := y
    simp only at *
    rw [h1, itE.av_inj h2, tn_ext _ _ a1 a2 a3 a4, tn_ext _ _ b1 b2 b3 b4, h3, tn_ext _ _ c1 c2 c3 c4, tn_ext _ _ d1 d2 d3 d4, h4, tn_ext _ _ e1 e2 e3 e4, tn_ext _ _ f1 f2 f3 f4, h5]
def t0 : Tn := .lf 0 0 []
@[simp] theorem t0_k : t0.k = 0 := nrfl rfl
@[simp] theorem t0_n : t0.n = 0 := nrfl rfl
@[simp] theorem t0_s : t0.s = [] := nrfl rfl
@[simp] theorem t0_ar : t0.ar = .nilSlice := nrfl rfl
theorem exnone_tn : Ex.none.tn = t0 := rfl
theorem isK_eq {ts : List Wd} {i : Nat} {w : Wd} (hw : ts[i]? = some w) {s : List UInt8} (hs : s ≠ []) (k : Nat) : isK ts i k s = (w.kind == k && w.text == s) := by
  have : (s == []) = false := by rw [beq_eq_false_iff_ne]; exact hs
  simp only [isK, hw, this, Bool.false_or]
theorem Sr.fail_ok {r : Sr} (h : erOk r.err) (p : Nat) {c : Nat} (hc : c ≠ 0) : erOk (r.fail p c).err := erOk_getD h (by simp) hc

theorem isW_lt {ts : List Wd} {r : Sr} {k : Nat} {s : List UInt8} (h : isW ts r k s = true) : r.at_ < ts.length ∧ r.err = none := by
  simp only [isW, isK, Bool.and_eq_true, Option.isNone_iff_eq_none] at h
  refine ⟨?_, h.1⟩
  have h2 := h.2
  split at h2
  · rename_i hw; exact (List.getElem?_eq_some_iff.1 hw).1
  · cases h2

theorem isW_any {ts : List Wd} {r : Sr} (he : r.err = none) {w : Wd} (hw : ts[r.at_]? = some w) (k : Nat) : isW ts r k [] = (w.kind == k) := by
  simp [isW, isK, he, hw]
/-- An expression's error. -/
def xE (x : Option (Nat × Nat)) : Er := x.map fun y => ([(exprTx, y.1)], y.2)
theorem xE_ok {x : Option (Nat × Nat)} (h : errOk x) : erOk (xE x) := by
  cases x with
  | none => exact erOk_none
  | some y =>
    obtain ⟨p, c⟩ := y
    exact erOk_some (by simp) fun hc => h p (by simp only at hc; rw [hc])
theorem takesW_t {ts : List Wd} {r : Sr} {k : Nat} {s : List UInt8} (h : isW ts r k s = true) : takesW ts r k s = r.step := by simp [takesW, h]
theorem takesW_f {ts : List Wd} {r : Sr} {k : Nat} {s : List UInt8} (h : isW ts r k s = false) : takesW ts r k s = r := by simp [takesW, h]
theorem elemDim : elemChk Tryz.prog 49 1 = true := by kernel_rfl
@[simp] theorem bsDim (n : Int) : abuildSlice Tryz.prog 49 1 [(0, .int .i64 n)] = some (.slice .full 1 1 [.int .i64 n]) := by kernel_rfl
@[simp high] theorem alenDimT (k : Nat) (l : List Int) : alen Tryz.prog 49 (dimE.tk k l) = some (.int .i64 l.length) := dimE.tk_len Tryz.underlying49 k l


/-! A reader stays within its words. -/
def bS (ts : List Wd) (r : St) : Prop := r.at_ ≤ ts.length ∧ ∀ p c, r.err = some (p, c) → p ≤ ts.length
def bR (ts : List Wd) (of : Rd) : Prop := ∀ r, bS ts r → bS ts (of r).2
theorem bS.step {ts : List Wd} {r : St} (h : bS ts r) (hl : r.at_ < ts.length) : bS ts r.step := ⟨hl, h.2⟩
theorem bS.next {ts : List Wd} {r : St} (h : bS ts r) {s : List UInt8} (hn : nextB ts r s = true) : bS ts r.step := h.step (nextB_lt hn)
theorem bS.fail {ts : List Wd} {r : St} (h : bS ts r) {p : Nat} (hp : p ≤ ts.length) (e : Nat) : bS ts (r.fail p e) := by
  unfold St.fail
  split
  · refine ⟨h.1, fun q c hq => ?_⟩
    simp only [Option.some.injEq, Prod.mk.injEq] at hq
    omega
  · exact h
theorem bS.must {ts : List Wd} {r : St} (h : bS ts r) (s : List UInt8) : bS ts (mustS ts r s) := by
  unfold mustS
  split
  · exact h.next ‹_›
  · exact h.fail h.1 2
theorem rowL_b {ts : List Wd} {of : Rd} (ho : bR ts of) {f : List UInt8} {one : Nat} {s : List UInt8} {two : Nat} : ∀ (n : Nat) (e : Ex) (r : St), bS ts r → bS ts (rowL ts of f one s two n e r).2
  | 0, e, r, h => h
  | n + 1, e, r, h => by
    simp only [rowL]
    split
    · exact h
    · split
      · exact rowL_b ho n _ _ (ho _ (h.next ‹_›))
      · split
        · exact rowL_b ho n _ _ (ho _ (h.next ‹_›))
        · exact h
theorem rowF_b {ts : List Wd} {of : Rd} (ho : bR ts of) {f : List UInt8} {one : Nat} {s : List UInt8} {two : Nat} : bR ts (rowF ts of f one s two) := fun r h => rowL_b ho _ _ _ (ho r h)
theorem subL_b {ts : List Wd} {sum : Rd} (ho : bR ts sum) : ∀ (n : Nat) (a : List Ex) (r : St), bS ts r → bS ts (subL ts sum n a r).2
  | 0, a, r, h => h
  | n + 1, a, r, h => by
    have h1 := ho r h
    simp only [subL]
    split
    · rename_i hn
      refine subL_b ho n _ _ ?_
      split
      · have h2 := h1.fail h1.1 4
        have hl := nextB_lt hn
        refine h2.step ?_
        rw [show ((sum r).2.fail (sum r).2.at_ 4).at_ = (sum r).2.at_ by unfold St.fail; split <;> rfl]
        exact hl
      · exact h1.next hn
    · exact h1
theorem inF_b {ts : List Wd} {p : Nat} {of : Rd} (ho : bR ts of) (hp : p ≤ ts.length) : bR ts (inF p of) := fun r h => by
  simp only [inF]
  have h2 : bS ts (if r.deep + 1 > 20 then (⟨r.at_, r.deep + 1, r.err⟩ : St).fail p 4 else ⟨r.at_, r.deep + 1, r.err⟩) := by
    split
    · exact bS.fail (r := ⟨r.at_, r.deep + 1, r.err⟩) ⟨h.1, h.2⟩ hp 4
    · exact ⟨h.1, h.2⟩
  generalize (if r.deep + 1 > 20 then (⟨r.at_, r.deep + 1, r.err⟩ : St).fail p 4 else ⟨r.at_, r.deep + 1, r.err⟩) = r2 at *
  split
  · have := ho r2 h2
    exact ⟨this.1, this.2⟩
  · exact ⟨h2.1, h2.2⟩
theorem nameF_b {ts : List Wd} {sum : Rd} (ho : bR ts sum) (s : List UInt8) {r : St} (h : bS ts r) (hl : r.at_ < ts.length) : bS ts (nameF ts sum s r).2 := by
  simp only [nameF]
  split
  · rename_i hn
    exact (subL_b ho 6 [] _ ((h.step hl).next hn)).must _
  · exact h.step hl
theorem facF_b {ts : List Wd} {sum fac : Rd} (hs : bR ts sum) (hf : bR ts fac) : bR ts (facF ts sum fac) := fun r h => by
  unfold facF
  split
  · rename_i w he hw
    have hl : r.at_ < ts.length := (List.getElem?_eq_some_iff.1 hw).1
    split
    · exact h.step hl
    · split
      · exact nameF_b hs _ h hl
      · split
        · exact inF_b hf h.1 _ (h.step hl)
        · split
          · exact bS.must (inF_b hs h.1 _ (h.step hl)) _
          · exact h.fail h.1 2
  · exact h.fail h.1 2
theorem fac_b (ts : List Wd) : ∀ n, bR ts (fac ts n)
  | 0 => fun _ h => h
  | n + 1 => facF_b (rowF_b (rowF_b (fac_b ts n))) (fac_b ts n)
theorem sumAt_b (ts : List Wd) : bR ts (sumAt ts) := rowF_b (rowF_b (fac_b ts _))
theorem bS0 (ts : List Wd) : bS ts ⟨0, 0, none⟩ := ⟨Nat.zero_le _, fun p c h => by cases h⟩
theorem parseX_b (ts : List Wd) : (parseX ts).2.1 ≤ ts.length ∧ ∀ p c, (parseX ts).2.2 = some (p, c) → p ≤ ts.length := by
  have h := sumAt_b ts _ (bS0 ts)
  unfold parseX
  split
  · exact ⟨h.1, fun p c hq => by cases hq⟩
  · rename_i x hx
    exact ⟨Nat.zero_le _, fun p c hq => h.2 p c (by rw [hx]; exact hq)⟩
theorem condMid_b {ts : List Wd} {r : St} (h : bS ts r) : bS ts (condMid ts r).2 := by
  unfold condMid
  split
  · exact h
  · split
    · rename_i w hw
      split
      · exact h.step (List.getElem?_eq_some_iff.1 hw).1
      · exact h.fail h.1 2
    · exact h.fail h.1 2
theorem parseC_b (ts : List Wd) : (parseC ts).2.1 ≤ ts.length ∧ ∀ p c, (parseC ts).2.2 = some (p, c) → p ≤ ts.length := by
  have h := sumAt_b ts _ (condMid_b (sumAt_b ts _ (bS0 ts)))
  unfold parseC
  simp only
  split
  · exact ⟨h.1, fun p c hq => by cases hq⟩
  · rename_i x hx
    exact ⟨Nat.zero_le _, fun p c hq => h.2 p c (by rw [hx]; exact hq)⟩

end Go.Proofs.YtejjlojfgcgopaaGreatDoor
