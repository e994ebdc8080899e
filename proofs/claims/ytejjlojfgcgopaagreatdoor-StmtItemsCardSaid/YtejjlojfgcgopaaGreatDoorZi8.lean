/- Facts on the types of this program, and which functions are  .. StmtSteps: what the law's text returns. -/
import Derived.Test.YtejjlojfgcgopaaGreatDoorZi3
import Derived.Test.YtejjlojfgcgopaaGreatDoorZi4
import Derived.Test.YtejjlojfgcgopaaGreatDoorZi6
import Derived.Test.YtejjlojfgcgopaaGreatDoorZi7
import Derived.Test.YtejjlojfgcgopaaGreatDoorZi5
import Derived.Shelf.Strconv.Itoa2
import Derived.Shelf.Strconv.Itoa1
import Derived.Lib.ItoaMem
import Derived.Lib.ItoaNum
set_option linter.unusedSimpArgs false
set_option linter.unusedVariables false
namespace Go.Proofs.YtejjlojfgcgopaaGreatDoor.Tp
open Go.RowKit Go.Proofs.Fw
set_option maxRecDepth 100000
theorem sz24 : szOf Tryz.prog 24 = some 1 := by kernel_rfl
theorem ag24 : aggB Tryz.prog 24 = some false := by kernel_rfl
theorem zv24 : zeroAV Tryz.prog 24 = some (.nilSlice) := by kernel_rfl
theorem ec24 : elemChk Tryz.prog 24 2 = true := by kernel_rfl
theorem sz121 : szOf Tryz.prog 121 = some 2 := by kernel_rfl
theorem ag121 : aggB Tryz.prog 121 = some true := by kernel_rfl
theorem zv121 : zeroAV Tryz.prog 121 = some (.agg [.str [], .nilSlice]) := by kernel_rfl
theorem fa121_0 : fI Tryz.prog 121 0 = (0, 9, true) := by kernel_rfl
theorem fa121_1 : fI Tryz.prog 121 1 = (1, 49, true) := by kernel_rfl
theorem sz129 : szOf Tryz.prog 129 = some 1 := by kernel_rfl
theorem ag129 : aggB Tryz.prog 129 = some false := by kernel_rfl
theorem zv129 : zeroAV Tryz.prog 129 = some (.nilPtr) := by kernel_rfl
theorem sz131 : szOf Tryz.prog 131 = some 3 := by kernel_rfl
theorem ag131 : aggB Tryz.prog 131 = some true := by kernel_rfl
theorem zv131 : zeroAV Tryz.prog 131 = some (.agg [.nilSlice, .int .i64 0, .nilIface]) := by kernel_rfl
theorem fa131_0 : fI Tryz.prog 131 0 = (0, 125, true) := by kernel_rfl
theorem fa131_1 : fI Tryz.prog 131 1 = (1, 3, true) := by kernel_rfl
theorem fa131_2 : fI Tryz.prog 131 2 = (2, 33, true) := by kernel_rfl
theorem sz260 : szOf Tryz.prog 260 = some 24 := by kernel_rfl
theorem ag260 : aggB Tryz.prog 260 = some true := by kernel_rfl
theorem zv260 : zeroAV Tryz.prog 260 = some (.agg [.int .u8 0, .int .u8 0, .int .u8 0, .int .u8 0, .int .u8 0, .int .u8 0, .int .u8 0, .int .u8 0, .int .u8 0, .int .u8 0, .int .u8 0, .int .u8 0, .int .u8 0, .int .u8 0, .int .u8 0, .int .u8 0, .int .u8 0, .int .u8 0, .int .u8 0, .int .u8 0, .int .u8 0, .int .u8 0, .int .u8 0, .int .u8 0]) := by kernel_rfl
theorem sz309 : szOf Tryz.prog 309 = some 20 := by kernel_rfl
theorem ag309 : aggB Tryz.prog 309 = some true := by kernel_rfl
theorem zv309 : zeroAV Tryz.prog 309 = some (.agg [.int .u64 0, .int .u64 0, .int .u64 0, .int .u64 0, .int .u64 0, .int .u64 0, .int .u64 0, .int .u64 0, .int .u64 0, .int .u64 0, .int .u64 0, .int .u64 0, .int .u64 0, .int .u64 0, .int .u64 0, .int .u64 0, .int .u64 0, .int .u64 0, .int .u64 0, .int .u64 0]) := by kernel_rfl
theorem go16 : goFn Tryz.prog 16 = true := by kernel_rfl
theorem go17 : goFn Tryz.prog 17 = true := by kernel_rfl
theorem go50 : goFn Tryz.prog 50 = true := by kernel_rfl
theorem go52 : goFn Tryz.prog 52 = true := by kernel_rfl
theorem go53 : goFn Tryz.prog 53 = true := by kernel_rfl
theorem go54 : goFn Tryz.prog 54 = true := by kernel_rfl
theorem go55 : goFn Tryz.prog 55 = true := by kernel_rfl
theorem go57 : goFn Tryz.prog 57 = true := by kernel_rfl
theorem go89 : goFn Tryz.prog 89 = true := by kernel_rfl
theorem go90 : goFn Tryz.prog 90 = true := by kernel_rfl
theorem go91 : goFn Tryz.prog 91 = true := by kernel_rfl
theorem go92 : goFn Tryz.prog 92 = true := by kernel_rfl
theorem go97 : goFn Tryz.prog 97 = true := by kernel_rfl
theorem go137 : goFn Tryz.prog 137 = true := by kernel_rfl
theorem go138 : goFn Tryz.prog 138 = true := by kernel_rfl
theorem go139 : goFn Tryz.prog 139 = true := by kernel_rfl
theorem go140 : goFn Tryz.prog 140 = true := by kernel_rfl
theorem go142 : goFn Tryz.prog 142 = true := by kernel_rfl
theorem go143 : goFn Tryz.prog 143 = true := by kernel_rfl
theorem go144 : goFn Tryz.prog 144 = true := by kernel_rfl
theorem go149 : goFn Tryz.prog 149 = true := by kernel_rfl
theorem go150 : goFn Tryz.prog 150 = true := by kernel_rfl
theorem go151 : goFn Tryz.prog 151 = true := by kernel_rfl
theorem go177 : goFn Tryz.prog 177 = true := by kernel_rfl
theorem go184 : goFn Tryz.prog 184 = true := by kernel_rfl
theorem go185 : goFn Tryz.prog 185 = true := by kernel_rfl
theorem go186 : goFn Tryz.prog 186 = true := by kernel_rfl
attribute [simp] sz24 ag24 zv24 ec24 Tryz.underlying24 sz121 ag121 zv121 fa121_0 fa121_1 Tryz.underlying121 sz129 ag129 zv129 Tryz.underlying129 sz131 ag131 zv131 fa131_0 fa131_1
attribute [simp] fa131_2 Tryz.underlying131 sz260 ag260 zv260 Tryz.underlying260 sz309 ag309 zv309 Tryz.underlying309 go16 go17 go50 go52 go53 go54 go55 go57 go89 go90
attribute [simp] go91 go92 go97 go137 go138 go139 go140 go142 go143 go144 go149 go150 go151 go177 go184 go185 go186
end Go.Proofs.YtejjlojfgcgopaaGreatDoor.Tp
namespace Go.Proofs.YtejjlojfgcgopaaGreatDoor
open Go.RowKit Go.Proofs.Fw
set_option maxRecDepth 100000
set_option maxHeartbeats 4000000
def castP (l : List (List UInt8 × Nat)) : List (List UInt8 × Int) := l.map fun x => (x.1, (x.2 : Int))
def erOk (e : Er) : Prop := ∀ l c, e = some (l, c) → l ≠ [] ∧ c ≠ 0
theorem erOk_none : erOk none := fun _ _ h => by cases h
theorem erOk_some {l : List (List UInt8 × Nat)} {c : Nat} (hl : l ≠ []) (hc : c ≠ 0) : erOk (some (l, c)) := fun l' c' h => by
  injection h with h
  injection h with h1 h2
  subst h1; subst h2
  exact ⟨hl, hc⟩
theorem erOk_getD {e : Er} (h : erOk e) {l : List (List UInt8 × Nat)} {c : Nat} (hl : l ≠ []) (hc : c ≠ 0) : erOk (some (e.getD (l, c))) := by
  cases e with
  | none => exact erOk_some hl hc
  | some x => exact h
theorem castP_inj : ∀ {a b : List (List UInt8 × Nat)}, castP a = castP b → a = b
  | [], [], _ => rfl
  | [], x :: b, h => by simp [castP] at h
  | x :: a, [], h => by simp [castP] at h
  | (w, p) :: a, (w', p') :: b, h => by
    simp only [castP, List.map_cons, List.cons.injEq, Prod.mk.injEq] at h
    obtain ⟨⟨rfl, h1⟩, h2⟩ := h
    have : p = p' := by omega
    rw [this, castP_inj h2]
def dimE : Enc Int where
  sz := 1
  c := fun n => [.int .i64 n]
  pos := by decide
  len := fun _ => rfl
  low := fun _ => rfl
  one := fun _ => rfl
  inj := fun x y h => by simpa using h
def itE : Enc It where
  sz := 2
  c := fun x => [.str x.name, dimE.av x.dims]
  pos := by decide
  len := fun _ => rfl
  low := fun x => by simp
  one := fun x => by simp
  inj := fun x y h => by
    simp only [List.cons.injEq, AV.str.injEq, and_true] at h
    obtain ⟨a, b⟩ := x
    obtain ⟨a', b'⟩ := y
    simp only at h
    rw [h.1, dimE.av_inj h.2]
def strE : Enc (List UInt8) where
  sz := 1
  c := fun s => [.str s]
  pos := by decide
  len := fun _ => rfl
  low := fun _ => rfl
  one := fun _ => rfl
  inj := fun x y h => by simpa using h
theorem strE_row : ∀ l : List (List UInt8), strE.row l = l.map AV.str
  | [] => rfl
  | s :: l => by rw [Enc.row, strE_row l]; rfl
theorem dim_sz : dimE.sz = 1 := rfl
theorem it_sz : itE.sz = 2 := rfl
theorem dim_c (n : Int) : dimE.c n = [.int .i64 n] := rfl
theorem it_c (x : It) : itE.c x = [.str x.name, dimE.av x.dims] := rfl
structure Sx where
  kind : Int
  items : List It
  to : Tn
  e : Tn
  op : List UInt8
  ca : Tn
  cb : Tn
  name : List UInt8
  lo : Tn
  hi : Tn
  step : Int
def Sm.x (m : Sm) : Sx := ⟨m.kind, m.items, m.to.tn, m.e.tn, m.op, m.ca.tn, m.cb.tn, m.name, m.lo.tn, m.hi.tn, m.step⟩
def Sx.c (x : Sx) : List AV := [.int .i64 x.kind, itE.av x.items, .int .i64 x.to.k, .int .i64 x.to.n, .str x.to.s, x.to.ar, .int .i64 x.e.k, .int .i64 x.e.n, .str x.e.s, x.e.ar, .str x.op,
  .int .i64 x.ca.k, .int .i64 x.ca.n, .str x.ca.s, x.ca.ar, .int .i64 x.cb.k, .int .i64 x.cb.n, .str x.cb.s, x.cb.ar, .str x.name, .int .i64 x.lo.k, .int .i64 x.lo.n, .str x.lo.s, x.lo.ar, .int .i64 x.hi.k, .int .i64 x.hi.n, .str x.hi.s, x.hi.ar, .int .i64 x.step]
theorem Sx.c_low (x : Sx) : lowL 0 x.c = true := by simp [Sx.c]
def sxE : Enc Sx where
  sz := 29
  c := Sx.c
  pos := by decide
  len := fun _ => rfl
  low := Sx.c_low
  one := fun x => by simp [Sx.c]
  inj := fun x y h => by
    have tn_ext : ∀ a b : Tn, a.k = b.k → a.n = b.n → a.s = b.s → a.ar = b.ar → a = b := fun a b h1 h2 h3 h4 => tC_inj a b (by rw [tC_eq, tC_eq, h1, h2, h3, h4])
    simp only [Sx.c, List.cons.injEq, AV.int.injEq, AV.str.injEq, true_and, and_true] at h
    obtain ⟨h1, h2, a1, a2, a3, a4, b1, b2, b3, b4, h3, c1, c2, c3, c4, d1, d2, d3, d4, h4, e1, e2, e3, e4, f1, f2, f3, f4, h5⟩ := h
    obtain ⟨_, _, _, _, _, _, _, _, _, _, _⟩ := x
    obtain ⟨_, _, _, _, _, _, _, _, _, _, _⟩ := y
    simp only at *
    rw [h1, itE.av_inj h2, tn_ext _ _ a1 a2 a3 a4, tn_ext _ _ b1 b2 b3 b4, h3, tn_ext _ _ c1 c2 c3 c4, tn_ext _ _ d1 d2 d3 d4, h4, tn_ext _ _ e1 e2 e3 e4, tn_ext _ _ f1 f2 f3 f4, h5]
def t0 : Tn := .lf 0 0 []
@[simp] theorem t0_k : t0.k = 0 := nrfl rfl
@[simp] theorem t0_n : t0.n = 0 := nrfl rfl
@[simp] theorem t0_s : t0.s = [] := nrfl rfl
@[simp] theorem t0_ar : t0.ar = .nilSlice := nrfl rfl
theorem exnone_tn : Ex.none.tn = t0 := rfl
theorem Sr.fail_ok {r : Sr} (h : erOk r.err) (p : Nat) {c : Nat} (hc : c ≠ 0) : erOk (r.fail p c).err := erOk_getD h (by simp) hc
theorem isW_lt {ts : List Wd} {r : Sr} {k : Nat} {s : List UInt8} (h : isW ts r k s = true) : r.at_ < ts.length ∧ r.err = none := by
  simp only [isW, isK, Bool.and_eq_true, Option.isNone_iff_eq_none] at h
  refine ⟨?_, h.1⟩
  have h2 := h.2
  split at h2
  · rename_i hw; exact (List.getElem?_eq_some_iff.1 hw).1
  · cases h2
theorem takesW_t {ts : List Wd} {r : Sr} {k : Nat} {s : List UInt8} (h : isW ts r k s = true) : takesW ts r k s = r.step := by simp [takesW, h]
theorem takesW_f {ts : List Wd} {r : Sr} {k : Nat} {s : List UInt8} (h : isW ts r k s = false) : takesW ts r k s = r := by simp [takesW, h]
theorem elemDim : elemChk Tryz.prog 49 1 = true := by kernel_rfl
@[simp] theorem bsDim (n : Int) : abuildSlice Tryz.prog 49 1 [(0, .int .i64 n)] = some (.slice .full 1 1 [.int .i64 n]) := by kernel_rfl
@[simp high] theorem alenDimT (k : Nat) (l : List Int) : alen Tryz.prog 49 (dimE.tk k l) = some (.int .i64 l.length) := dimE.tk_len Tryz.underlying49 k l
def bS (ts : List Wd) (r : St) : Prop := r.at_ ≤ ts.length ∧ ∀ p c, r.err = some (p, c) → p ≤ ts.length
def bR (ts : List Wd) (of : Rd) : Prop := ∀ r, bS ts r → bS ts (of r).2
theorem bS.step {ts : List Wd} {r : St} (h : bS ts r) (hl : r.at_ < ts.length) : bS ts r.step := ⟨hl, h.2⟩
theorem bS.next {ts : List Wd} {r : St} (h : bS ts r) {s : List UInt8} (hn : nextB ts r s = true) : bS ts r.step := h.step (nextB_lt hn)
theorem bS.fail {ts : List Wd} {r : St} (h : bS ts r) {p : Nat} (hp : p ≤ ts.length) (e : Nat) : bS ts (r.fail p e) := by
  unfold St.fail
  split
  · refine ⟨h.1, fun q c hq => ?_⟩
    simp only [Option.some.injEq, Prod.mk.injEq] at hq
    omega
  · exact h
theorem bS.must {ts : List Wd} {r : St} (h : bS ts r) (s : List UInt8) : bS ts (mustS ts r s) := by
  unfold mustS
  split
  · exact h.next ‹_›
  · exact h.fail h.1 2
theorem rowL_b {ts : List Wd} {of : Rd} (ho : bR ts of) {f : List UInt8} {one : Nat} {s : List UInt8} {two : Nat} : ∀ (n : Nat) (e : Ex) (r : St), bS ts r → bS ts (rowL ts of f one s two n e r).2
  | 0, e, r, h => h
  | n + 1, e, r, h => by
    simp only [rowL]
    split
    · exact h
    · split
      · exact rowL_b ho n _ _ (ho _ (h.next ‹_›))
      · split
        · exact rowL_b ho n _ _ (ho _ (h.next ‹_›))
        · exact h
theorem rowF_b {ts : List Wd} {of : Rd} (ho : bR ts of) {f : List UInt8} {one : Nat} {s : List UInt8} {two : Nat} : bR ts (rowF ts of f one s two) := fun r h => rowL_b ho _ _ _ (ho r h)
theorem subL_b {ts : List Wd} {sum : Rd} (ho : bR ts sum) : ∀ (n : Nat) (a : List Ex) (r : St), bS ts r → bS ts (subL ts sum n a r).2
  | 0, a, r, h => h
  | n + 1, a, r, h => by
    have h1 := ho r h
    simp only [subL]
    split
    · rename_i hn
      refine subL_b ho n _ _ ?_
      split
      · have h2 := h1.fail h1.1 4
        have hl := nextB_lt hn
        refine h2.step ?_
        rw [show ((sum r).2.fail (sum r).2.at_ 4).at_ = (sum r).2.at_ by unfold St.fail; split <;> rfl]
        exact hl
      · exact h1.next hn
    · exact h1
theorem inF_b {ts : List Wd} {p : Nat} {of : Rd} (ho : bR ts of) (hp : p ≤ ts.length) : bR ts (inF p of) := fun r h => by
  simp only [inF]
  have h2 : bS ts (if r.deep + 1 > 20 then (⟨r.at_, r.deep + 1, r.err⟩ : St).fail p 4 else ⟨r.at_, r.deep + 1, r.err⟩) := by
    split
    · exact bS.fail (r := ⟨r.at_, r.deep + 1, r.err⟩) ⟨h.1, h.2⟩ hp 4
    · exact ⟨h.1, h.2⟩
  generalize (if r.deep + 1 > 20 then (⟨r.at_, r.deep + 1, r.err⟩ : St).fail p 4 else ⟨r.at_, r.deep + 1, r.err⟩) = r2 at *
  split
  · have := ho r2 h2
    exact ⟨this.1, this.2⟩
  · exact ⟨h2.1, h2.2⟩
theorem nameF_b {ts : List Wd} {sum : Rd} (ho : bR ts sum) (s : List UInt8) {r : St} (h : bS ts r) (hl : r.at_ < ts.length) : bS ts (nameF ts sum s r).2 := by
  simp only [nameF]
  split
  · rename_i hn
    exact (subL_b ho 6 [] _ ((h.step hl).next hn)).must _
  · exact h.step hl
theorem facF_b {ts : List Wd} {sum fac : Rd} (hs : bR ts sum) (hf : bR ts fac) : bR ts (facF ts sum fac) := fun r h => by
  unfold facF
  split
  · rename_i w he hw
    have hl : r.at_ < ts.length := (List.getElem?_eq_some_iff.1 hw).1
    split
    · exact h.step hl
    · split
      · exact nameF_b hs _ h hl
      · split
        · exact inF_b hf h.1 _ (h.step hl)
        · split
          · exact bS.must (inF_b hs h.1 _ (h.step hl)) _
          · exact h.fail h.1 2
  · exact h.fail h.1 2
theorem fac_b (ts : List Wd) : ∀ n, bR ts (fac ts n)
  | 0 => fun _ h => h
  | n + 1 => facF_b (rowF_b (rowF_b (fac_b ts n))) (fac_b ts n)
theorem sumAt_b (ts : List Wd) : bR ts (sumAt ts) := rowF_b (rowF_b (fac_b ts _))
theorem bS0 (ts : List Wd) : bS ts ⟨0, 0, none⟩ := ⟨Nat.zero_le _, fun p c h => by cases h⟩
theorem parseX_b (ts : List Wd) : (parseX ts).2.1 ≤ ts.length ∧ ∀ p c, (parseX ts).2.2 = some (p, c) → p ≤ ts.length := by
  have h := sumAt_b ts _ (bS0 ts)
  unfold parseX
  split
  · exact ⟨h.1, fun p c hq => by cases hq⟩
  · rename_i x hx
    exact ⟨Nat.zero_le _, fun p c hq => h.2 p c (by rw [hx]; exact hq)⟩
theorem condMid_b {ts : List Wd} {r : St} (h : bS ts r) : bS ts (condMid ts r).2 := by
  unfold condMid
  split
  · exact h
  · split
    · rename_i w hw
      split
      · exact h.step (List.getElem?_eq_some_iff.1 hw).1
      · exact h.fail h.1 2
    · exact h.fail h.1 2
theorem parseC_b (ts : List Wd) : (parseC ts).2.1 ≤ ts.length ∧ ∀ p c, (parseC ts).2.2 = some (p, c) → p ≤ ts.length := by
  have h := sumAt_b ts _ (condMid_b (sumAt_b ts _ (bS0 ts)))
  unfold parseC
  simp only
  split
  · exact ⟨h.1, fun p c hq => by cases hq⟩
  · rename_i x hx
    exact ⟨Nat.zero_le _, fun p c hq => h.2 p c (by rw [hx]; exact hq)⟩
end Go.Proofs.YtejjlojfgcgopaaGreatDoor

namespace Go.Proofs.YtejjlojfgcgopaaGreatDoor
open Go.RowKit Go.Proofs.Fw
set_option maxRecDepth 100000
set_option maxHeartbeats 4000000
@[simp] theorem immFSr : envF.imm 131 = false := by decide
@[simp] theorem immFFl : envF.imm 156 = true := by decide
theorem errAV_inj : ∀ {a b : List (List UInt8 × Int)} {c d : Int}, errAV a c = errAV b d → a = b ∧ c = d
  | [], [], c, d, h => by
    simp only [errAV, AV.iface.injEq, AV.int.injEq, true_and] at h
    exact ⟨rfl, h⟩
  | [], (w, p) :: b, c, d, h => by simp [errAV] at h
  | (w, p) :: a, [], c, d, h => by simp [errAV] at h
  | (w, p) :: a, (w', p') :: b, c, d, h => by
    simp only [errAV, AV.iface.injEq, AV.vptr.injEq, List.cons.injEq, AV.str.injEq, AV.int.injEq, true_and, and_true] at h
    obtain ⟨h1, h2, h3⟩ := h
    obtain ⟨h4, h5⟩ := errAV_inj h3
    rw [h1, h2, h4, h5]
    exact ⟨rfl, rfl⟩
def erI : Er → AV
  | none => .nilIface
  | some (l, c) => errAV (castP l) (c : Int)
@[simp] theorem erI_none : erI none = .nilIface := nrfl rfl
@[simp ↓ high] theorem errAV_lowm (m : Nat) (l : List (List UInt8 × Int)) (c : Int) : low m (errAV l c) = true := low_mono (Nat.zero_le m) _ (errAV_low l c)
@[simp ↓ high] theorem errAV_known (l : List (List UInt8 × Int)) (c : Int) : (errAV l c).known = true := by cases l <;> rfl
@[simp ↓ high] theorem errAV_one (l : List (List UInt8 × Int)) (c : Int) : (errAV l c).one = true := by cases l <;> rfl
@[simp ↓ high] theorem errAV_cells (l : List (List UInt8 × Int)) (c : Int) : cellsAV (errAV l c) = [errAV l c] := by cases l <;> rfl
@[simp ↓ high] theorem erI_low0 (e : Er) : low 0 (erI e) = true := by
  cases e with
  | none => rfl
  | some x => exact errAV_low _ _
@[simp ↓ high] theorem erI_low (m : Nat) (e : Er) : low m (erI e) = true := low_mono (Nat.zero_le m) _ (erI_low0 e)
@[simp ↓ high] theorem erI_ids (e : Er) : idsOf (erI e) = [] := ids_low0 _ (erI_low0 e)
@[simp ↓ high] theorem erI_known (e : Er) : (erI e).known = true := by cases e with
  | none => rfl
  | some x => exact errAV_known _ _
@[simp ↓ high] theorem erI_one (e : Er) : (erI e).one = true := by cases e with
  | none => rfl
  | some x => exact errAV_one _ _
@[simp ↓ high] theorem erI_cells (e : Er) : cellsAV (erI e) = [erI e] := by cases e with
  | none => rfl
  | some x => exact errAV_cells _ _
@[simp high] theorem erI_nil (e : Er) : aeq Tryz.prog 33 (erI e) .nilIface = some e.isNone := by
  cases e with
  | none => simp [erI, aeq]
  | some x => simp [erI]
@[simp high] theorem erI_eql (e : Er) : abin Tryz.prog .eql 33 true (erI e) .nilIface = some (.bool e.isNone) := by
  cases e with
  | none => simp [erI]
  | some x => simp [erI]
@[simp high] theorem erI_neq (e : Er) : abin Tryz.prog .neq 33 true (erI e) .nilIface = some (.bool e.isSome) := by
  cases e with
  | none => simp [erI]
  | some x => simp [erI]
theorem erI_inj {x y : Er} (h : erI x = erI y) : x = y := by
  cases x with
  | none => cases y with
    | none => rfl
    | some y => obtain ⟨l, c⟩ := y; cases l <;> simp [erI, errAV, castP] at h
  | some x => cases y with
    | none => obtain ⟨l, c⟩ := x; cases l <;> simp [erI, errAV, castP] at h
    | some y =>
      obtain ⟨l, c⟩ := x
      obtain ⟨m, d⟩ := y
      obtain ⟨h1, h2⟩ := errAV_inj h
      have e2 : c = d := by omega
      rw [castP_inj h1, e2]
def Sr.pc (ts : List Wd) (r : Sr) : List AV := [wdsAV ts, .int .i64 r.at_, erI r.err]
theorem spc_low (ts : List Wd) (r : Sr) : lowL 0 (r.pc ts) = true := by simp [Sr.pc]
theorem spc_inj (ts : List Wd) (r s : Sr) (h : r.pc ts = s.pc ts) : r = s := by
  obtain ⟨a, x⟩ := r
  obtain ⟨b, y⟩ := s
  simp only [Sr.pc, List.cons.injEq, AV.int.injEq, true_and, and_true] at h
  have := erI_inj h.2
  subst this
  have : a = b := by omega
  subst this
  rfl
abbrev pbx (ts : List Wd) (r : Sr) : Option Ent := some (.box [wdsAV ts, .int .i64 (r.at_ : Int), erI r.err])
@[simp] theorem buFaultE (w : List UInt8) (p : Int) (l : List (List UInt8 × Int)) (c : Int) : abuild Tryz.prog 156 [(0, .str w), (1, .int .i64 p), (2, errAV l c)] = some (.agg [.str w, .int .i64 p, errAV l c]) := by
  cases l <;> kernel_rfl
theorem spfault_cs (p : Int) (l : List (List UInt8 × Int)) (c : Int) (H : AH) : CS Tryz.prog envF 52 [.int .i64 p, errAV l c] H (errAV ((stmtTxt, p) :: l) c) H := by
  refine CS.tr0 lowF Tryz.func52 (by kernel_rfl) 0 (by simp [Tryz.f52]) (fun B hB hG => ?_) (by simp) (by simp) H
  refine Tr.goD oNilF hG ?_
  simp [Tryz.f52, errAV, stmtTxt]
noncomputable def fSfault : Fact Tryz.prog envF := Fact.pure 52 (fun _ : Int × List (List UInt8 × Int) × Int => True) (fun x => [.int .i64 x.1, errAV x.2.1 x.2.2]) (fun x => errAV ((stmtTxt, x.1) :: x.2.1) x.2.2)
  (fun x _ H => spfault_cs x.1 x.2.1 x.2.2 H) (fun x y _ _ h => by
    obtain ⟨a, b, c⟩ := x
    obtain ⟨a', b', c'⟩ := y
    simp only [List.cons.injEq, AV.int.injEq, true_and, and_true] at h
    obtain ⟨h1, h2⟩ := errAV_inj h.2
    simp only
    rw [h.1, h1, h2])
theorem spfail_cs (ts : List Wd) (r : Sr) (p c : Nat) {H : AH} {id : Nat} (hH : H.at id = some (.box (r.pc ts))) :
    CS Tryz.prog envF 54 [.ptr id 0, .int .i64 (p : Int), .int .i64 (c : Int)] H (.tup []) (H.set id (some (.box ((r.fail p c).pc ts)))) := by
  obtain ⟨a, e⟩ := r
  refine CS.rd lowF Tryz.func54 (by kernel_rfl) 0 (by simp [Tryz.f54]) (fun B hB hG => ?_) (by simp) rfl (spc_low _ _) (spc_low _ _) hH
  have hL : ([fSfault].map (·.f)).Nodup := show ([52] : List Nat).Nodup by decide
  have X := oOf_cx [fSfault] methFOk mixed
  have h1 := fun H => oOf_pure hL (show fSfault ∈ [fSfault] by simp) ((p : Int), [], (c : Int)) trivial H
  generalize oOf [fSfault] = O at X h1
  refine Tr.goD X hG ?_
  simp [errAV, stmtTxt] at h1
  cases e with
  | none => simp [Tryz.f54, Sr.pc, Sr.fail, h1, erI, errAV, castP, stmtTxt]
  | some y => simp [Tryz.f54, Sr.pc, Sr.fail]
noncomputable def fPfail (ts : List Wd) : Fact Tryz.prog envF := Fact.meth 54 (Sr.pc ts) (spc_inj ts) (fun (_ : Nat × Nat) _ => True) (fun _ x => [.int .i64 (x.1 : Int), .int .i64 (x.2 : Int)]) (fun _ _ => .tup []) (fun x r => r.fail x.1 x.2)
  (fun x r _ H id hH => spfail_cs ts r x.1 x.2 hH) (fun id x y r _ _ h => by
    obtain ⟨a, b⟩ := x
    obtain ⟨c, d⟩ := y
    simp only [List.cons.injEq, AV.int.injEq, true_and, and_true] at h
    have e1 : a = c := by omega
    have e2 : b = d := by omega
    rw [e1, e2]
    exact ⟨rfl, rfl⟩)
theorem spis_cs (ts : List Wd) (r : Sr) (k : Nat) (s : List UInt8) {H : AH} {id : Nat} (hH : H.at id = some (.box (r.pc ts))) :
    CS Tryz.prog envF 142 [.ptr id 0, .int .i64 (k : Int), .str s] H (.bool (isW ts r k s)) (H.set id (some (.box (r.pc ts)))) := by
  obtain ⟨a, e⟩ := r
  refine CS.rd lowF Tryz.func142 (by kernel_rfl) 0 (by simp [Tryz.f142]) (fun B hB hG => ?_) (by simp) rfl (spc_low _ _) (spc_low _ _) hH
  refine Tr.goD oNilF hG ?_
  simp [Tryz.f142, Sr.pc]
  refine LpD.turns oNilF hG [] [] ?_
  cases e with
  | some y => simp [isW]
  | none =>
    by_cases hl : a < ts.length
    · have hl' : (a : Int) < ts.length := by omega
      obtain ⟨w, hw⟩ : ∃ w, ts[a]? = some w := ⟨_, List.getElem?_eq_getElem hl⟩
      obtain ⟨c0, c1, c3⟩ := cellX hw
      have hwe : ts[a] = w := by rw [List.getElem?_eq_getElem hl] at hw; injection hw
      by_cases hk : w.kind = k
      · cases s with
        | nil => simp [isW, isK, hw, hwe, hl, hl', hk, c0, c1]
        | cons b s => simp [isW, isK, hw, hwe, hl, hl', hk, c0, c1]
      · have hk' : ((w.kind : Int) == (k : Int)) = false := by rw [beq_eq_false_iff_ne]; omega
        simp [isW, isK, hw, hwe, hl, hl', hk, hk', c0, c1]
    · have hl' : ¬ ((a : Int) < ts.length) := by omega
      have hw : ts[a]? = none := List.getElem?_eq_none (by omega)
      simp [isW, isK, hl', hw]
noncomputable def fPis (ts : List Wd) : Fact Tryz.prog envF := Fact.meth 142 (Sr.pc ts) (spc_inj ts) (fun (_ : Nat × List UInt8) _ => True) (fun _ x => [.int .i64 (x.1 : Int), .str x.2]) (fun x r => .bool (isW ts r x.1 x.2)) (fun _ r => r)
  (fun x r _ H id hH => spis_cs ts r x.1 x.2 hH) (fun id x y r _ _ h => by
    obtain ⟨a, b⟩ := x
    obtain ⟨c, d⟩ := y
    simp only [List.cons.injEq, AV.int.injEq, AV.str.injEq, true_and, and_true] at h
    have e1 : a = c := by omega
    rw [e1, h.2]
    exact ⟨rfl, rfl⟩)
section
variable {L : List (Fact Tryz.prog envF)} {ts : List Wd}
theorem pfail_s (hL : (L.map (·.f)).Nodup) (hF : fPfail ts ∈ L) (r : Sr) (p c : Nat) (H : AH) : oOf L 54 [.ptr 0 0, .int .i64 (p : Int), .int .i64 (c : Int)] (pbx ts r :: H) = some (.tup [], pbx ts (r.fail p c) :: H) := oOf_meth hL hF (p, c) r (H := pbx ts r :: H) (id := 0) rfl trivial
theorem pis_s (hL : (L.map (·.f)).Nodup) (hF : fPis ts ∈ L) (r : Sr) (k : Nat) (s : List UInt8) (H : AH) : oOf L 142 [.ptr 0 0, .int .i64 (k : Int), .str s] (pbx ts r :: H) = some (.bool (isW ts r k s), pbx ts r :: H) := oOf_meth hL hF (k, s) r (H := pbx ts r :: H) (id := 0) rfl trivial
end
theorem sptakes_cs (ts : List Wd) (hts : ts.length < 1000000) (r : Sr) (k : Nat) (s : List UInt8) {H : AH} {id : Nat} (hH : H.at id = some (.box (r.pc ts))) :
    CS Tryz.prog envF 139 [.ptr id 0, .int .i64 (k : Int), .str s] H (.bool (isW ts r k s)) (H.set id (some (.box ((takesW ts r k s).pc ts)))) := by
  refine CS.rd lowF Tryz.func139 (by kernel_rfl) 0 (by simp [Tryz.f139]) (fun B hB hG => ?_) (by simp) rfl (spc_low _ _) (spc_low _ _) hH
  have hL : ([fPis ts].map (·.f)).Nodup := show ([142] : List Nat).Nodup by decide
  have X := oOf_cx [fPis ts] methFOk mixed
  have h2 := fun H => pis_s (ts := ts) hL (by simp) r k s H
  generalize oOf [fPis ts] = O at X h2
  refine Tr.goD X hG ?_
  cases hw : isW ts r k s with
  | true =>
    have hl := (isW_lt hw).1
    have w1 : IntKind.i64.wrap ((r.at_ : Int) + 1) = (r.at_ : Int) + 1 := wrap_i64 (by omega) (by omega)
    rw [hw] at h2
    rw [takesW_t hw]
    simp [Tryz.f139, Sr.pc, h2, w1, Sr.step]
  | false =>
    rw [hw] at h2
    rw [takesW_f hw]
    simp [Tryz.f139, Sr.pc, h2]
noncomputable def fPtakes (ts : List Wd) (hts : ts.length < 1000000) : Fact Tryz.prog envF := Fact.meth 139 (Sr.pc ts) (spc_inj ts) (fun (_ : Nat × List UInt8) _ => True) (fun _ x => [.int .i64 (x.1 : Int), .str x.2]) (fun x r => .bool (isW ts r x.1 x.2)) (fun x r => takesW ts r x.1 x.2)
  (fun x r _ H id hH => sptakes_cs ts hts r x.1 x.2 hH) (fun id x y r _ _ h => by
    obtain ⟨a, b⟩ := x
    obtain ⟨c, d⟩ := y
    simp only [List.cons.injEq, AV.int.injEq, AV.str.injEq, true_and, and_true] at h
    have e1 : a = c := by omega
    rw [e1, h.2]
    exact ⟨rfl, rfl⟩)
section
variable {L : List (Fact Tryz.prog envF)} {ts : List Wd}
theorem ptakes_s (hts : ts.length < 1000000) (hL : (L.map (·.f)).Nodup) (hF : fPtakes ts hts ∈ L) (r : Sr) (k : Nat) (s : List UInt8) (H : AH) : oOf L 139 [.ptr 0 0, .int .i64 (k : Int), .str s] (pbx ts r :: H) = some (.bool (isW ts r k s), pbx ts (takesW ts r k s) :: H) := oOf_meth hL hF (k, s) r (H := pbx ts r :: H) (id := 0) rfl trivial
end
@[simp] theorem buTok0 : abuild Tryz.prog 192 [] = some (.agg [.int .i64 0, .str [], .int .i64 0, .int .i64 0]) := by kernel_rfl
theorem spmust_cs (ts : List Wd) (hts : ts.length < 1000000) (r : Sr) (k : Nat) (s : List UInt8) {H : AH} {id : Nat} (hH : H.at id = some (.box (r.pc ts))) :
    CS Tryz.prog envF 91 [.ptr id 0, .int .i64 (k : Int), .str s] H (.agg (wdCells (mustW ts r k s).1)) (H.set id (some (.box ((mustW ts r k s).2.pc ts)))) := by
  refine CS.rd lowF Tryz.func91 (by kernel_rfl) 0 (by simp [Tryz.f91]) (fun B hB hG => ?_) (by simp) rfl (spc_low _ _) (spc_low _ _) hH
  have hL : ([fPfail ts, fPtakes ts hts].map (·.f)).Nodup := show ([54, 139] : List Nat).Nodup by decide
  have X := oOf_cx [fPfail ts, fPtakes ts hts] methFOk mixed
  have h1 := fun H => pfail_s (ts := ts) hL (by simp) r r.at_ 2 H
  have h2 := fun H => ptakes_s (ts := ts) hts hL (by simp) r k s H
  generalize oOf [fPfail ts, fPtakes ts hts] = O at X h1 h2
  refine Tr.goD X hG ?_
  cases hw : isW ts r k s with
  | true =>
    obtain ⟨hl, he⟩ := isW_lt hw
    have w1 : IntKind.i64.wrap (r.at_ : Int) = (r.at_ : Int) := wrap_i64 (by omega) (by omega)
    rw [hw, takesW_t hw] at h2
    obtain ⟨w, hx⟩ : ∃ w, ts[r.at_]? = some w := ⟨_, List.getElem?_eq_getElem hl⟩
    obtain ⟨d1, d2⟩ := cells_atX _ _ _ hx
    have hm : mustW ts r k s = (w, r.step) := by simp [mustW, hw, hx]
    rw [hm]
    simp [pbx, Sr.step] at h2
    simp [Tryz.f91, Sr.pc, h2, Sr.step]
    refine LpD.turns X hG [11] [] ?_
    simp [hl, w1, d1, d2, wdCells]
  | false =>
    rw [hw, takesW_f hw] at h2
    have hm : mustW ts r k s = (wd0, r.fail r.at_ 2) := by simp [mustW, hw]
    rw [hm]
    simp [pbx] at h1 h2
    simp [Tryz.f91, Sr.pc, h1, h2, wdCells, wd0]
noncomputable def fPmust (ts : List Wd) (hts : ts.length < 1000000) : Fact Tryz.prog envF := Fact.meth 91 (Sr.pc ts) (spc_inj ts) (fun (_ : Nat × List UInt8) _ => True) (fun _ x => [.int .i64 (x.1 : Int), .str x.2]) (fun x r => .agg (wdCells (mustW ts r x.1 x.2).1)) (fun x r => (mustW ts r x.1 x.2).2)
  (fun x r _ H id hH => spmust_cs ts hts r x.1 x.2 hH) (fun id x y r _ _ h => by
    obtain ⟨a, b⟩ := x
    obtain ⟨c, d⟩ := y
    simp only [List.cons.injEq, AV.int.injEq, AV.str.injEq, true_and, and_true] at h
    have e1 : a = c := by omega
    rw [e1, h.2]
    exact ⟨rfl, rfl⟩)
section
variable {L : List (Fact Tryz.prog envF)} {ts : List Wd}
theorem pmust_s (hts : ts.length < 1000000) (hL : (L.map (·.f)).Nodup) (hF : fPmust ts hts ∈ L) (r : Sr) (k : Nat) (s : List UInt8) (H : AH) : oOf L 91 [.ptr 0 0, .int .i64 (k : Int), .str s] (pbx ts r :: H) = some (.agg (wdCells (mustW ts r k s).1), pbx ts (mustW ts r k s).2 :: H) := oOf_meth hL hF (k, s) r (H := pbx ts r :: H) (id := 0) rfl trivial
end
end Go.Proofs.YtejjlojfgcgopaaGreatDoor
namespace Go.Proofs.YtejjlojfgcgopaaGreatDoor
open Go.RowKit Go.Proofs.Fw
set_option maxRecDepth 100000
set_option maxHeartbeats 4000000
theorem asNil_cs {id : Nat} {x : AV} (hx : low 0 x = true) {H : AH} (hH : H.at id = some (.box [x])) : CS Tryz.prog envF 71 [.nilIface, .iface 154 (.ptr id 0)] H (.bool false) H := by
  have h := CS.rd1 (P := Tryz.prog) (E := envF) (f := 71) (args := [.nilIface, .iface 154 (.ptr 0 0)]) (cs := [x]) (cs' := [x]) (v := .bool false) (H := H) (id := id) lowF Tryz.func71 (by kernel_rfl) 0 (by simp [Tryz.f71]) (fun B hB hG => by
    refine Tr.goD oNilF hG ?_
    simp [Tryz.f71]) rfl rfl (by simp [hx]) (by simp [hx]) hH
  rw [AH.set_at hH] at h
  exact h
noncomputable def fAs : Fact Tryz.prog envF where
  f := 71
  α := Option (List AV) × Nat
  ok := fun x H => ∃ y, low 0 y = true ∧ H.at x.2 = some (.box [y])
  args := fun x => [match x.1 with
    | none => .nilIface
    | some cs => .iface 152 (.vptr cs 0), .iface 154 (.ptr x.2 0)]
  out := fun x => .bool x.1.isSome
  up := fun x H => match x.1 with
    | none => H
    | some cs => H.set x.2 (some (.box [.vptr cs 0]))
  cs := fun x H ⟨y, hy, h⟩ => by
    obtain ⟨o, id⟩ := x
    cases o with
    | none => exact ⟨asNil_cs hy h, Keeps.refl H⟩
    | some cs => exact ⟨CS.toF (CS.toX (asF_cs h)), Keeps.set h⟩
  same := fun x y H _ _ h => by
    obtain ⟨o, id⟩ := x
    obtain ⟨o', id'⟩ := y
    cases o <;> cases o' <;> simp at h ⊢
    · obtain ⟨rfl, rfl⟩ := h
      rfl
section
variable {L : List (Fact Tryz.prog envF)}
theorem as_at (hL : (L.map (·.f)).Nodup) (hF : fAs ∈ L) (o : Option (List AV)) (id : Nat) (y : AV) (hy : low 0 y = true) (H : AH) (hH : H.at id = some (.box [y])) :
    oOf L 71 [match o with | none => .nilIface | some cs => .iface 152 (.vptr cs 0), .iface 154 (.ptr id 0)] H = some (.bool o.isSome, match o with | none => H | some cs => H.set id (some (.box [.vptr cs 0]))) := oOf_mem hL fAs hF (x := (o, id)) ⟨y, hy, hH⟩
end
def tailAV (ts : List Wd) (a : Nat) : AV := if a = ts.length ∧ ts ≠ [] then .slice .unk 4 0 [] else wdsAV (ts.drop a)
theorem wdsCells_drop : ∀ (l : List Wd) (a : Nat), (wdsCells l).drop (a * 4) = wdsCells (l.drop a)
  | [], a => by simp [wdsCells]
  | w :: l, 0 => by simp
  | w :: l, a + 1 => by
    have hc : wdsCells (w :: l) = wdCells w ++ wdsCells l := rfl
    have hw : (wdCells w).length = 4 := rfl
    rw [hc, List.drop_append, List.drop_of_length_le (by omega), hw, List.nil_append, show (a + 1) * 4 - 4 = a * 4 by omega, wdsCells_drop l a, List.drop_succ_cons]
theorem wdsCells_take : ∀ (l : List Wd) (a : Nat), (wdsCells l).take (a * 4) = wdsCells (l.take a)
  | [], a => by simp [wdsCells]
  | w :: l, 0 => by simp [wdsCells]
  | w :: l, a + 1 => by
    have hc : wdsCells (w :: l) = wdCells w ++ wdsCells l := rfl
    have hd : wdsCells (w :: l.take a) = wdCells w ++ wdsCells (l.take a) := rfl
    have hw : (wdCells w).length = 4 := rfl
    rw [hc, List.take_append, List.take_of_length_le (by omega), hw, show (a + 1) * 4 - 4 = a * 4 by omega, wdsCells_take l a, List.take_succ_cons, hd]
@[simp high] theorem aslTail {ts : List Wd} {a : Nat} (h : a ≤ ts.length) : aslice Tryz.prog 125 (wdsAV ts) (some (.int .i64 (a : Int))) none none = some (tailAV ts a) := by
  unfold tailAV wdsAV
  have h1 : (a : Int) ≤ ts.length := by omega
  by_cases hts : ts = []
  · subst hts
    have : a = 0 := by simpa using h
    subst this
    simp [aslice]
  · by_cases ha : a = ts.length
    · subst ha
      simp [hts, aslice, wdsCells_length]
    · have hd : ts.drop a ≠ [] := by
        intro h2
        have := congrArg List.length h2
        rw [List.length_drop] at this
        simp at this
        omega
      have hl := List.length_drop (i := a) (l := ts)
      simp [hts, ha, hd, aslice, h1, hl]
      rw [wdsCells_drop, List.take_of_length_le (by rw [wdsCells_length, hl]; exact Nat.le_refl _)]
@[simp ↓ high] theorem tailAV_low (m : Nat) (ts : List Wd) (a : Nat) : low m (tailAV ts a) = true := by
  unfold tailAV
  split
  · rfl
  · exact low_mono (Nat.zero_le m) _ (wdsAV_low' _)
@[simp ↓ high] theorem tailAV_ids (ts : List Wd) (a : Nat) : idsOf (tailAV ts a) = [] := by
  unfold tailAV
  split
  · rfl
  · exact wdsAV_ids _
def nowds : AV := .slice .unk 4 0 []
set_option maxRecDepth 100000 in
theorem parse_run : run fzN oNil Tryz.prog envF 100 20 145 [nowds] [] = some (parseT (parseX []), []) := by kernel_rfl
set_option maxRecDepth 100000 in
theorem parsec_run : run fzN oNil Tryz.prog envF 100 20 141 [nowds] [] = some (parseCT (parseC []), []) := by kernel_rfl
theorem tail_inj {ts us : List Wd} {a b : Nat} (ha : a ≤ ts.length) (hb : b ≤ us.length) (h : tailAV ts a = tailAV us b) : ts.drop a = us.drop b := by
  unfold tailAV at h
  have key : ∀ l : List Wd, wdsAV l ≠ .slice .unk 4 0 [] := by
    intro l h
    unfold wdsAV at h
    split at h
    · cases h
    · rename_i hl
      injection h with _ _ h
      exact hl (List.length_eq_zero_iff.1 h)
  split at h
  · rename_i h1
    split at h
    · rename_i h2
      rw [h1.1, h2.1, List.drop_length, List.drop_length]
    · exact absurd h.symm (key _)
  · split at h
    · exact absurd h (key _)
    · exact wdsAV_inj h
noncomputable def fParse : Fact Tryz.prog envF := Fact.pure 145 (fun x : List Wd × Nat => x.1.length < 1000000 ∧ x.2 ≤ x.1.length) (fun x => [tailAV x.1 x.2]) (fun x => parseT (parseX (x.1.drop x.2)))
  (fun x h H => by
    unfold tailAV
    split
    · rename_i hx
      rw [hx.1, List.drop_length]
      exact (run_sound (base := oNil) oNil_sound methFOk mixed 100 20 _ _ _ _ _ parse_run).1.frame lowF rfl H
    · exact parseT_cs _ (by rw [List.length_drop]; omega) H) (fun x y hx hy h => by
    simp only [List.cons.injEq, and_true] at h
    rw [tail_inj hx.2 hy.2 h])
noncomputable def fParseC : Fact Tryz.prog envF := Fact.pure 141 (fun x : List Wd × Nat => x.1.length < 1000000 ∧ x.2 ≤ x.1.length) (fun x => [tailAV x.1 x.2]) (fun x => parseCT (parseC (x.1.drop x.2)))
  (fun x h H => by
    unfold tailAV
    split
    · rename_i hx
      rw [hx.1, List.drop_length]
      exact (run_sound (base := oNil) oNil_sound methFOk mixed 100 20 _ _ _ _ _ parsec_run).1.frame lowF rfl H
    · exact parseCT_cs _ (by rw [List.length_drop]; omega) H) (fun x y hx hy h => by
    simp only [List.cons.injEq, and_true] at h
    rw [tail_inj hx.2 hy.2 h])
theorem spwE_cs (ts : List Wd) (hts : ts.length < 1000000) (r : Sr) (hr : r.at_ ≤ ts.length) {H : AH} {id : Nat} (hH : H.at id = some (.box (r.pc ts))) :
    CS Tryz.prog envF 143 [.ptr id 0, .func (.func 145) [] []] H (.agg (tC (exprW ts r).1.tn)) (H.set id (some (.box ((exprW ts r).2.pc ts)))) := by
  refine CS.rd lowF Tryz.func143 (by kernel_rfl) 0 (by simp [Tryz.f143]) (fun B hB hG => ?_) (by simp) (by simp) (spc_low _ _) (spc_low _ _) hH
  have hL : ([fSfault, fAs, fParse].map (·.f)).Nodup := show ([52, 71, 145] : List Nat).Nodup by decide
  have X := oOf_cx [fSfault, fAs, fParse] methFOk mixed
  have h1 := fun p l c H => oOf_pure hL (show fSfault ∈ [fSfault, fAs, fParse] by simp) (p, l, c) trivial H
  have h2 := fun o e0 e1 e2 e3 H => as_at hL (show fAs ∈ [fSfault, fAs, fParse] by simp) o 4 .nilPtr rfl (e0 :: e1 :: e2 :: e3 :: some (.box [.nilPtr]) :: H) rfl
  have h3 := fun H => oOf_pure hL (show fParse ∈ [fSfault, fAs, fParse] by simp) (ts, r.at_) ⟨hts, hr⟩ H
  generalize oOf [fSfault, fAs, fParse] = O at X h1 h2 h3
  refine Tr.goD X hG ?_
  obtain ⟨a, e⟩ := r
  obtain ⟨hb1, hb2⟩ := parseX_b (ts.drop a)
  rw [List.length_drop] at hb1 hb2
  simp only at hr
  cases e with
  | some y => simp [Tryz.f143, Sr.pc, exprW, withinW, exnone_tn]
  | none =>
    simp only [parseT] at h3
    generalize hq : parseX (ts.drop a) = q at *
    obtain ⟨ex, n, x⟩ := q
    simp only at hb1 hb2 h3
    simp only [tC_eq] at h3
    have hx : exprW ts ⟨a, none⟩ = match x with
      | some (p, c) => (.none, ⟨a, some ([(stmtTxt, a + p), (exprTx, p)], c)⟩)
      | none => (ex, ⟨a + n, none⟩) := by
      simp only [exprW, withinW, hq]
      cases x <;> rfl
    rw [hx]
    simp [Tryz.f143, Sr.pc]
    refine LpD.turns X hG [10, 15, 16] [(0, 15), (1, 15), (2, 15), (3, 15), (4, 15), (5, 15), (6, 15), (7, 15), (8, 15), (9, 15), (10, 15), (11, 15), (12, 15), (13, 15), (13, 16), (14, 15), (14, 16)] ?_
    simp [hr, h3]
    cases x with
    | none =>
      have h2 := h2 none
      simp at h2
      have w1 : IntKind.i64.wrap ((a : Int) + (n : Int)) = (a : Int) + (n : Int) := wrap_i64 (by omega) (by omega)
      simp [eAV, h2, w1]
    | some y =>
      obtain ⟨p, c⟩ := y
      have hp := hb2 p c rfl
      have w1 : IntKind.i64.wrap ((a : Int) + (p : Int)) = (a : Int) + (p : Int) := wrap_i64 (by omega) (by omega)
      have h2 := h2 (some [.str exprTxt, .int .i64 (p : Int), errAV [] (c : Int)])
      have h1 := h1 ((a : Int) + (p : Int)) [(exprTxt, (p : Int))] (c : Int)
      simp [errAV, exprTxt, stmtTxt] at h1 h2
      simp [eAV, errAV, exprTxt, h2]
      refine LpD.turns X hG [11, 14] [(0, 11)] ?_
      simp [w1, h1, erI, errAV, castP, stmtTxt, exprTx, exprTxt, exnone_tn]
end Go.Proofs.YtejjlojfgcgopaaGreatDoor

namespace Go.Proofs.YtejjlojfgcgopaaGreatDoor
open Go.RowKit Go.Proofs.Fw
set_option maxRecDepth 100000
set_option maxHeartbeats 4000000
theorem spwQ_cs (ts : List Wd) (hts : ts.length < 1000000) (r : Sr) (hr : r.at_ ≤ ts.length) {H : AH} {id : Nat} (hH : H.at id = some (.box (r.pc ts))) :
    CS Tryz.prog envF 140 [.ptr id 0, .func (.func 141) [] []] H (condT (condW ts r).1) (H.set id (some (.box ((condW ts r).2.pc ts)))) := by
  refine CS.rd lowF Tryz.func140 (by kernel_rfl) 0 (by simp [Tryz.f140]) (fun B hB hG => ?_) (by simp) (by simp [condT]) (spc_low _ _) (spc_low _ _) hH
  have hL : ([fSfault, fAs, fParseC].map (·.f)).Nodup := show ([52, 71, 141] : List Nat).Nodup by decide
  have X := oOf_cx [fSfault, fAs, fParseC] methFOk mixed
  have h1 := fun p l c H => oOf_pure hL (show fSfault ∈ [fSfault, fAs, fParseC] by simp) (p, l, c) trivial H
  have h2 := fun o e0 e1 e2 e3 H => as_at hL (show fAs ∈ [fSfault, fAs, fParseC] by simp) o 4 .nilPtr rfl (e0 :: e1 :: e2 :: e3 :: some (.box [.nilPtr]) :: H) rfl
  have h3 := fun H => oOf_pure hL (show fParseC ∈ [fSfault, fAs, fParseC] by simp) (ts, r.at_) ⟨hts, hr⟩ H
  generalize oOf [fSfault, fAs, fParseC] = O at X h1 h2 h3
  refine Tr.goD X hG ?_
  obtain ⟨a, e⟩ := r
  obtain ⟨hb1, hb2⟩ := parseC_b (ts.drop a)
  rw [List.length_drop] at hb1 hb2
  simp only at hr
  cases e with
  | some y => simp [Tryz.f140, Sr.pc, condW, withinW, condT, exnone_tn]
  | none =>
    simp only [parseCT] at h3
    generalize hq : parseC (ts.drop a) = q at *
    obtain ⟨⟨op, ea, eb⟩, n, x⟩ := q
    simp only at hb1 hb2 h3
    simp only [condT, tC_eq, List.cons_append, List.nil_append] at h3
    have hx : condW ts ⟨a, none⟩ = match x with
      | some (p, c) => (([], .none, .none), ⟨a, some ([(stmtTxt, a + p), (exprTx, p)], c)⟩)
      | none => ((op, ea, eb), ⟨a + n, none⟩) := by
      simp only [condW, withinW, hq]
      cases x <;> rfl
    rw [hx]
    simp [Tryz.f140, Sr.pc]
    refine LpD.turns X hG [10, 15, 16] [(0, 15), (1, 15), (2, 15), (3, 15), (4, 15), (5, 15), (6, 15), (7, 15), (8, 15), (9, 15), (10, 15), (11, 15), (12, 15), (13, 15), (13, 16), (14, 15), (14, 16)] ?_
    simp [hr, h3]
    cases x with
    | none =>
      have h2 := h2 none
      simp at h2
      have w1 : IntKind.i64.wrap ((a : Int) + (n : Int)) = (a : Int) + (n : Int) := wrap_i64 (by omega) (by omega)
      simp [eAV, h2, w1, condT]
    | some y =>
      obtain ⟨p, c⟩ := y
      have hp := hb2 p c rfl
      have w1 : IntKind.i64.wrap ((a : Int) + (p : Int)) = (a : Int) + (p : Int) := wrap_i64 (by omega) (by omega)
      have h2 := h2 (some [.str exprTxt, .int .i64 (p : Int), errAV [] (c : Int)])
      have h1 := h1 ((a : Int) + (p : Int)) [(exprTxt, (p : Int))] (c : Int)
      simp [errAV, exprTxt, stmtTxt] at h1 h2
      simp [eAV, errAV, exprTxt, h2]
      refine LpD.turns X hG [11, 14] [(0, 11)] ?_
      simp [w1, h1, erI, errAV, castP, stmtTxt, exprTx, exprTxt, condT, exnone_tn]
noncomputable def fPwQ (ts : List Wd) (hts : ts.length < 1000000) : Fact Tryz.prog envF := Fact.meth 140 (Sr.pc ts) (spc_inj ts) (fun (_ : Unit) r => r.at_ ≤ ts.length) (fun _ _ => [.func (.func 141) [] []]) (fun _ r => condT (condW ts r).1) (fun _ r => (condW ts r).2)
  (fun _ r h H id hH => spwQ_cs ts hts r h hH) (fun id x y r _ _ h => ⟨rfl, rfl⟩)
noncomputable def fPwE (ts : List Wd) (hts : ts.length < 1000000) : Fact Tryz.prog envF := Fact.meth 143 (Sr.pc ts) (spc_inj ts) (fun (_ : Unit) r => r.at_ ≤ ts.length) (fun _ _ => [.func (.func 145) [] []]) (fun _ r => .agg (tC (exprW ts r).1.tn)) (fun _ r => (exprW ts r).2)
  (fun _ r h H id hH => spwE_cs ts hts r h hH) (fun id x y r _ _ h => ⟨rfl, rfl⟩)
theorem spexpr_cs (ts : List Wd) (hts : ts.length < 1000000) (r : Sr) (hr : r.at_ ≤ ts.length) {H : AH} {id : Nat} (hH : H.at id = some (.box (r.pc ts))) :
    CS Tryz.prog envF 92 [.ptr id 0] H (.agg (tC (exprW ts r).1.tn)) (H.set id (some (.box ((exprW ts r).2.pc ts)))) := by
  refine CS.rd lowF Tryz.func92 (by kernel_rfl) 0 (by simp [Tryz.f92]) (fun B hB hG => ?_) (by simp) (by simp) (spc_low _ _) (spc_low _ _) hH
  have hL : ([fPwE ts hts].map (·.f)).Nodup := show ([143] : List Nat).Nodup by decide
  have X := oOf_cx [fPwE ts hts] methFOk mixed
  have h1 := fun e0 H => oOf_meth hL (show fPwE ts hts ∈ [fPwE ts hts] by simp) () r (H := some (.box (r.pc ts)) :: e0 :: H) (id := 0) rfl hr
  generalize oOf [fPwE ts hts] = O at X h1
  refine Tr.goD X hG ?_
  simp only [tC_eq, Sr.pc] at h1
  simp at h1
  simp [Tryz.f92, Sr.pc, h1]
theorem tailAV_0 (us : List Wd) : tailAV us 0 = wdsAV us := by
  unfold tailAV
  rw [if_neg (by rintro ⟨h1, h2⟩; exact h2 (List.length_eq_zero_iff.1 h1.symm)), List.drop_zero]
@[simp high] theorem aslTake {ts : List Wd} {a e : Nat} (ha : a < ts.length) (h : a ≤ e) (he : e ≤ ts.length) : aslice Tryz.prog 125 (tailAV ts a) none (some (.int .i64 ((e - a : Nat) : Int))) none = some (if e = a then .slice .unk 4 0 [] else wdsAV ((ts.drop a).take (e - a))) := by
  have hd : ts.drop a ≠ [] := by
    intro h2
    have := congrArg List.length h2
    rw [List.length_drop] at this
    simp at this
    omega
  have hl := List.length_drop (i := a) (l := ts)
  have h1 : ((e - a : Nat) : Int) ≤ ((ts.length - a : Nat) : Int) := by omega
  unfold tailAV
  rw [if_neg (by omega)]
  unfold wdsAV
  rw [if_neg hd]
  by_cases hea : e = a
  · subst hea
    simp [aslice, hl]
  · have ht : (ts.drop a).take (e - a) ≠ [] := by
      intro h2
      have := congrArg List.length h2
      rw [List.length_take, hl] at this
      simp at this
      omega
    have hlt : ((ts.drop a).take (e - a)).length = e - a := by rw [List.length_take, hl]; omega
    rw [if_neg hea, if_neg ht, hlt]
    simp [aslice, hl, h1]
    rw [← wdsCells_take]
def upW (ts : List Wd) (r : Sr) (e : Nat) : Ex × Sr := withinW ts .none (fun l => parseX (l.take (e - r.at_))) r
structure CloOk (ts : List Wd) (H : AH) (r : Sr) (e i0 i1 i2 : Nat) : Prop where
  d01 : i0 ≠ i1
  d02 : i0 ≠ i2
  d12 : i1 ≠ i2
  h0 : H.at i0 = some (.box (r.pc ts))
  h1 : H.at i1 = some (.box [.ptr i0 0])
  h2 : H.at i2 = some (.box [.int .i64 (e : Int)])
  lt : r.at_ < ts.length
  le : r.at_ < e
  up : e ≤ ts.length
def φ3 (i0 i1 i2 : Nat) : Nat → Nat := fun i => if i = 0 then i0 else if i = 1 then i1 else i2
theorem φ3_inj {i0 i1 i2 : Nat} (h1 : i0 ≠ i1) (h2 : i0 ≠ i2) (h3 : i1 ≠ i2) : ∀ i j, i < 3 → j < 3 → φ3 i0 i1 i2 i = φ3 i0 i1 i2 j → i = j := by
  intro i j hi hj h
  rcases (by omega : i = 0 ∨ i = 1 ∨ i = 2) with rfl | rfl | rfl <;> rcases (by omega : j = 0 ∨ j = 1 ∨ j = 2) with rfl | rfl | rfl <;> simp [φ3] at h ⊢ <;> omega
theorem clo_same {ts : List Wd} {H : AH} {r r' : Sr} {e e' i0 i0' i1 i2 : Nat} (h : CloOk ts H r e i0 i1 i2) (k : CloOk ts H r' e' i0' i1 i2) : r = r' ∧ e = e' ∧ i0 = i0' := by
  have e1 := h.h1.symm.trans k.h1
  simp only [Option.some.injEq, Ent.box.injEq, List.cons.injEq, AV.ptr.injEq, and_true] at e1
  subst e1
  have e0 := h.h0.symm.trans k.h0
  simp only [Option.some.injEq, Ent.box.injEq] at e0
  have e2 := h.h2.symm.trans k.h2
  simp only [Option.some.injEq, Ent.box.injEq, List.cons.injEq, AV.int.injEq, true_and, and_true] at e2
  exact ⟨spc_inj ts _ _ e0, by omega, rfl⟩
theorem pc_ren (ψ : Nat → Nat) (ts : List Wd) (r : Sr) : renL ψ (r.pc ts) = r.pc ts := renL_low ψ _ (spc_low ts r)
theorem spclo_cs (ts : List Wd) (hts : ts.length < 1000000) {r : Sr} {e i0 i1 i2 : Nat} {H : AH} (h : CloOk ts H r e i0 i1 i2) :
    CS Tryz.prog envF 144 [tailAV ts r.at_, .ptr i2 0, .ptr i1 0] H (parseT (parseX ((ts.drop r.at_).take (e - r.at_)))) H := by
  obtain ⟨d01, d02, d12, h0, h1, h2, hlt, hle, hup⟩ := h
  have hL : ([fParse].map (·.f)).Nodup := show ([145] : List Nat).Nodup by decide
  have X := oOf_cx [fParse] methFOk mixed
  have hl : ((ts.drop r.at_).take (e - r.at_)).length < 1000000 := by rw [List.length_take, List.length_drop]; omega
  have h3 := fun H => oOf_pure hL (show fParse ∈ [fParse] by simp) ((ts.drop r.at_).take (e - r.at_), 0) ⟨hl, Nat.zero_le _⟩ H
  simp only [tailAV_0, List.drop_zero] at h3
  generalize oOf [fParse] = O at X h3
  have key := CS.of_Tr (P := Tryz.prog) (E := envF) (f := 144) (c := bodyOf Tryz.f144) (args := [tailAV ts r.at_, .ptr 2 0, .ptr 1 0]) (H0 := [some (.box (r.pc ts)), some (.box [.ptr 0 0]), some (.box [.int .i64 (e : Int)])]) (H1 := [some (.box (r.pc ts)), some (.box [.ptr 0 0]), some (.box [.int .i64 (e : Int)])])
    (v := parseT (parseX ((ts.drop r.at_).take (e - r.at_)))) Tryz.func144 (by kernel_rfl) 0 (by simp [Tryz.f144]) (fun B hB hG => by
      refine Tr.goD X hG ?_
      have w1 : IntKind.i64.wrap ((e : Int) - (r.at_ : Int)) = ((e - r.at_ : Nat) : Int) := by rw [wrap_i64 (by omega) (by omega)]; omega
      have hne : ¬ e = r.at_ := by omega
      have hle' : r.at_ ≤ e := by omega
      simp only [parseT, tC_eq] at h3
      generalize hus : (ts.drop r.at_).take (e - r.at_) = us at *
      generalize parseX us = q at *
      simp [Tryz.f144, Sr.pc]
      refine LpD.turns X hG [8, 12] [] ?_
      simp [w1, hlt, hle', hup, hne, hus, h3, parseT]) (by simp [parseT]) (by simp [Sr.pc])
  have := CS.embed (φ3 i0 i1 i2) (k := 3) (H := H) (H' := H) key rfl rfl (φ3_inj d01 d02 d12) lowF (by simp) (by simp [parseT]) (by simp [Sr.pc]) (by simp [Sr.pc]) (by
    intro i hi
    rcases (by omega : i = 0 ∨ i = 1 ∨ i = 2) with rfl | rfl | rfl
    · simp [φ3, AH.at, renE, pc_ren]; exact h0
    · simp [φ3, AH.at, renE, renL, ren]; exact h1
    · simp [φ3, AH.at, renE, renL, ren]; exact h2) (by
    intro i hi
    rcases (by omega : i = 0 ∨ i = 1 ∨ i = 2) with rfl | rfl | rfl
    · simp [φ3, AH.at, renE, pc_ren]; exact h0
    · simp [φ3, AH.at, renE, renL, ren]; exact h1
    · simp [φ3, AH.at, renE, renL, ren]; exact h2) (fun j hj => rfl)
  rw [ren_low _ _ (by simp [parseT] : low 0 (parseT (parseX ((ts.drop r.at_).take (e - r.at_)))) = true)] at this
  simpa [renL, ren, φ3, ren_low _ (tailAV ts r.at_) (tailAV_low 0 ts r.at_)] using this
noncomputable def fClo (ts : List Wd) (hts : ts.length < 1000000) : Fact Tryz.prog envF where
  f := 144
  α := Sr × Nat × Nat × Nat × Nat
  ok := fun x H => CloOk ts H x.1 x.2.1 x.2.2.1 x.2.2.2.1 x.2.2.2.2
  args := fun x => [tailAV ts x.1.at_, .ptr x.2.2.2.2 0, .ptr x.2.2.2.1 0]
  out := fun x => parseT (parseX ((ts.drop x.1.at_).take (x.2.1 - x.1.at_)))
  up := fun _ H => H
  cs := fun x H h => ⟨spclo_cs ts hts h, Keeps.refl H⟩
  same := fun x y H hx hy h => by
    obtain ⟨r, e, i0, i1, i2⟩ := x
    obtain ⟨r', e', i0', i1', i2'⟩ := y
    simp only [List.cons.injEq, AV.ptr.injEq, and_true] at h hx hy
    obtain ⟨_, rfl, rfl⟩ := h
    obtain ⟨rfl, rfl, _⟩ := clo_same hx hy
    exact ⟨rfl, rfl⟩
theorem spwC_cs (ts : List Wd) (hts : ts.length < 1000000) {r : Sr} {e i0 i1 i2 : Nat} {H : AH} (h : CloOk ts H r e i0 i1 i2) :
    CS Tryz.prog envF 143 [.ptr i0 0, .func (.func 144) [] [.ptr i2 0, .ptr i1 0]] H (.agg (tC (upW ts r e).1.tn)) (H.set i0 (some (.box ((upW ts r e).2.pc ts)))) := by
  obtain ⟨d01, d02, d12, h0, hb1, hb2, hlt, hle, hup⟩ := h
  have hL : ([fSfault, fAs, fClo ts hts].map (·.f)).Nodup := show ([52, 71, 144] : List Nat).Nodup by decide
  have X := oOf_cx [fSfault, fAs, fClo ts hts] methFOk mixed
  have h1 := fun p l c H => oOf_pure hL (show fSfault ∈ [fSfault, fAs, fClo ts hts] by simp) (p, l, c) trivial H
  have h2 := fun o e0 e1 e2 e3 e4 e5 H => as_at hL (show fAs ∈ [fSfault, fAs, fClo ts hts] by simp) o 6 .nilPtr rfl (e0 :: e1 :: e2 :: e3 :: e4 :: e5 :: some (.box [.nilPtr]) :: H) rfl
  have h3 := fun H => oOf_mem hL (fClo ts hts) (show fClo ts hts ∈ [fSfault, fAs, fClo ts hts] by simp) (x := (r, e, 0, 1, 2)) (H := some (.box (r.pc ts)) :: some (.box [.ptr 0 0]) :: some (.box [.int .i64 (e : Int)]) :: H) ⟨Nat.zero_ne_one, (by simp), (by simp), rfl, rfl, rfl, hlt, hle, hup⟩
  generalize oOf [fSfault, fAs, fClo ts hts] = O at X h1 h2 h3
  have key := CS.of_Tr (P := Tryz.prog) (E := envF) (f := 143) (c := bodyOf Tryz.f143) (args := [.ptr 0 0, .func (.func 144) [] [.ptr 2 0, .ptr 1 0]]) (H0 := [some (.box (r.pc ts)), some (.box [.ptr 0 0]), some (.box [.int .i64 (e : Int)])]) (H1 := [some (.box ((upW ts r e).2.pc ts)), some (.box [.ptr 0 0]), some (.box [.int .i64 (e : Int)])])
    (v := .agg (tC (upW ts r e).1.tn)) Tryz.func143 (by kernel_rfl) 0 (by simp [Tryz.f143]) (fun B hB hG => by
      refine Tr.goD X hG ?_
      obtain ⟨a, er⟩ := r
      obtain ⟨hb1, hb2⟩ := parseX_b ((ts.drop a).take (e - a))
      rw [List.length_take, List.length_drop] at hb1 hb2
      simp only at hlt hle
      have hr : a ≤ ts.length := by omega
      cases er with
      | some y => simp [Tryz.f143, Sr.pc, upW, withinW, exnone_tn]
      | none =>
        simp only [fClo, parseT] at h3
        generalize hq : parseX ((ts.drop a).take (e - a)) = q at *
        obtain ⟨ex, n, x⟩ := q
        simp only at hb1 hb2 h3
        simp only [tC_eq, Sr.pc, erI_none] at h3
        have hx : upW ts ⟨a, none⟩ e = match x with
          | some (p, c) => (.none, ⟨a, some ([(stmtTxt, a + p), (exprTx, p)], c)⟩)
          | none => (ex, ⟨a + n, none⟩) := by
          simp only [upW, withinW, hq]
          cases x <;> rfl
        rw [hx]
        simp [Tryz.f143, Sr.pc]
        refine LpD.turns X hG [10, 15, 16] [(0, 15), (1, 15), (2, 15), (3, 15), (4, 15), (5, 15), (6, 15), (7, 15), (8, 15), (9, 15), (10, 15), (11, 15), (12, 15), (13, 15), (13, 16), (14, 15), (14, 16)] ?_
        simp [hr, h3]
        cases x with
        | none =>
          have h2 := h2 none
          simp at h2
          have w1 : IntKind.i64.wrap ((a : Int) + (n : Int)) = (a : Int) + (n : Int) := wrap_i64 (by omega) (by omega)
          simp [eAV, h2, w1]
        | some y =>
          obtain ⟨p, c⟩ := y
          have hp := hb2 p c rfl
          have w1 : IntKind.i64.wrap ((a : Int) + (p : Int)) = (a : Int) + (p : Int) := wrap_i64 (by omega) (by omega)
          have h2 := h2 (some [.str exprTxt, .int .i64 (p : Int), errAV [] (c : Int)])
          have h1 := h1 ((a : Int) + (p : Int)) [(exprTxt, (p : Int))] (c : Int)
          simp [errAV, exprTxt, stmtTxt] at h1 h2
          simp [eAV, errAV, exprTxt, h2]
          refine LpD.turns X hG [11, 14] [(0, 11)] ?_
          simp [w1, h1, erI, errAV, castP, stmtTxt, exprTx, exprTxt, exnone_tn]) (by simp) (by simp [Sr.pc])
  have := CS.embed (φ3 i0 i1 i2) (k := 3) (H := H) (H' := H.set i0 (some (.box ((upW ts r e).2.pc ts)))) key rfl rfl (φ3_inj d01 d02 d12) lowF (by simp) (by simp) (by simp [Sr.pc]) (by simp [Sr.pc]) (by
    intro i hi
    rcases (by omega : i = 0 ∨ i = 1 ∨ i = 2) with rfl | rfl | rfl
    · simp [φ3, AH.at, renE, pc_ren]; exact h0
    · simp [φ3, AH.at, renE, renL, ren]; exact hb1
    · simp [φ3, AH.at, renE, renL, ren]; exact hb2) (by
    intro i hi
    rcases (by omega : i = 0 ∨ i = 1 ∨ i = 2) with rfl | rfl | rfl
    · have : φ3 i0 i1 i2 0 = i0 := rfl
      rw [this, at_set_self h0]
      simp [AH.at, renE, pc_ren]
    · have : φ3 i0 i1 i2 1 = i1 := rfl
      rw [this, at_set_ne d01]
      simp [φ3, AH.at, renE, renL, ren]; exact hb1
    · have : φ3 i0 i1 i2 2 = i2 := rfl
      rw [this, at_set_ne d02]
      simp [φ3, AH.at, renE, renL, ren]; exact hb2) (fun j hj => at_set_ne (hj 0 (by omega)))
  rw [ren_low _ _ (by simp : low 0 (.agg (tC (upW ts r e).1.tn)) = true)] at this
  simpa [renL, ren, φ3] using this
noncomputable def fPwC (ts : List Wd) (hts : ts.length < 1000000) : Fact Tryz.prog envF where
  f := 143
  α := Sr × Nat × Nat × Nat × Nat
  ok := fun x H => CloOk ts H x.1 x.2.1 x.2.2.1 x.2.2.2.1 x.2.2.2.2
  args := fun x => [.ptr x.2.2.1 0, .func (.func 144) [] [.ptr x.2.2.2.2 0, .ptr x.2.2.2.1 0]]
  out := fun x => .agg (tC (upW ts x.1 x.2.1).1.tn)
  up := fun x H => H.set x.2.2.1 (some (.box ((upW ts x.1 x.2.1).2.pc ts)))
  cs := fun x H h => ⟨spwC_cs ts hts h, Keeps.set h.h0⟩
  same := fun x y H hx hy h => by
    obtain ⟨r, e, i0, i1, i2⟩ := x
    obtain ⟨r', e', i0', i1', i2'⟩ := y
    simp only [List.cons.injEq, AV.ptr.injEq, AV.func.injEq, and_true, true_and] at h hx hy
    obtain ⟨rfl, rfl, rfl⟩ := h
    obtain ⟨rfl, rfl, _⟩ := clo_same hx hy
    exact ⟨rfl, rfl⟩
end Go.Proofs.YtejjlojfgcgopaaGreatDoor
namespace Go.Proofs.YtejjlojfgcgopaaGreatDoor
open Go.RowKit Go.Proofs.Fw
set_option maxRecDepth 100000
set_option maxHeartbeats 4000000
@[simp] theorem immFSp : envF.imm 129 = false := by decide
@[simp] theorem immFSs : envF.imm 31 = false := by decide
theorem drop_cons_at {ts : List Wd} {e : Nat} {w : Wd} (h : ts[e]? = some w) : ts.drop e = w :: ts.drop (e + 1) := by
  obtain ⟨hl, he⟩ := List.getElem?_eq_some_iff.1 h
  rw [← he]
  exact List.drop_eq_getElem_cons hl
def TopI (ts : List Wd) (r : Sr) (E : Nat) (k : Nat) (t : List AV) (H : AH) : Prop :=
  ∃ (e d : Nat), e + k = ts.length ∧ r.at_ < e ∧ e + closeN (ts.drop e) d = E ∧ (d = 0 → isK ts e 3 openT = true) ∧ d ≤ e ∧
    t = mkT 90 [(1, .ptr 1 0), (2, .ptr 2 0), (3, .ptr 3 0), (4, .int .i64 (d : Int))] ∧ H = [pbx ts r, some (.box [.ptr 0 0]), some (.box [.int .i64 0, .int .i64 0, .str [], .nilSlice]), some (.box [.int .i64 (e : Int)])]
theorem closeN_le : ∀ (l : List Wd) (d : Nat), closeN l d ≤ l.length
  | [], d => Nat.le_refl _
  | w :: l, d => by
    have h1 := closeN_le l
    have h2 := closeN_le l d
    simp only [closeN, List.length_cons]
    generalize (if w.text = openT then d + 1 else if w.text = shutT then d - 1 else d) = d2
    have h3 := h1 d2
    split
    · split <;> omega
    · omega
theorem endW_b {ts : List Wd} {i : Nat} (h : i < ts.length) : i < endW ts i ∧ endW ts i ≤ ts.length := by
  unfold endW
  split
  · have h1 := closeN_le (ts.drop (i + 1)) 0
    rw [List.length_drop] at h1
    omega
  · omega
theorem toW_eq {ts : List Wd} {r : Sr} (h : isW ts r 1 [] = true) : toW ts r = upW ts r (endW ts r.at_) := by
  simp [toW, upW, h]
theorem isK_some {ts : List Wd} {i : Nat} {w : Wd} (h : ts[i]? = some w) (k : Nat) (s : List UInt8) : isK ts i k s = (w.kind == k && (s == [] || w.text == s)) := by simp only [isK, h]
theorem spto_cs (ts : List Wd) (hts : ts.length < 1000000) (r : Sr) (hr : r.at_ ≤ ts.length) {H : AH} {id : Nat} (hH : H.at id = some (.box (r.pc ts))) :
    CS Tryz.prog envF 90 [.ptr id 0] H (.agg (tC (toW ts r).1.tn)) (H.set id (some (.box ((toW ts r).2.pc ts)))) := by
  refine CS.rd lowF Tryz.func90 (by kernel_rfl) 0 (by simp [Tryz.f90]) (fun B hB hG => ?_) (by simp) (by simp) (spc_low _ _) (spc_low _ _) hH
  have hL : ([fPfail ts, fPis ts, fPwC ts hts].map (·.f)).Nodup := show ([54, 142, 143] : List Nat).Nodup by decide
  have X := oOf_cx [fPfail ts, fPis ts, fPwC ts hts] methFOk mixed
  have h0 := fun H => pfail_s (ts := ts) hL (by simp) r r.at_ 2 H
  have h1 := fun H => pis_s (ts := ts) hL (by simp) r 1 [] H
  have h2 := fun (e : Nat) (e2 : Option Ent) (h : r.at_ < ts.length) (h' : r.at_ < e) (h'' : e ≤ ts.length) H => oOf_mem hL (fPwC ts hts) (show fPwC ts hts ∈ [fPfail ts, fPis ts, fPwC ts hts] by simp) (x := (r, e, 0, 1, 3)) (H := pbx ts r :: some (.box [.ptr 0 0]) :: e2 :: some (.box [.int .i64 (e : Int)]) :: H) ⟨Nat.zero_ne_one, (by simp), (by simp), rfl, rfl, rfl, h, h', h''⟩
  generalize oOf [fPfail ts, fPis ts, fPwC ts hts] = O at X h0 h1 h2
  refine Tr.goD X hG ?_
  simp [pbx] at h0 h1
  cases hw : isW ts r 1 [] with
  | false =>
    rw [hw] at h1
    have hx : toW ts r = (.none, r.fail r.at_ 2) := by simp [toW, hw]
    rw [hx]
    simp [Tryz.f90, Sr.pc, h1]
    refine LpD.turns X hG [5] [] ?_
    simp [h0, exnone_tn]
  | true =>
    rw [hw] at h1
    obtain ⟨hlt, he⟩ := isW_lt hw
    rw [toW_eq hw]
    obtain ⟨b1, b2⟩ := endW_b hlt
    have h2' := h2 (endW ts r.at_) (some (.box [.int .i64 0, .int .i64 0, .str [], .nilSlice])) hlt b1 b2
    simp only [fPwC, tC_eq, Sr.pc] at h2'
    obtain ⟨E1, hE1⟩ : ∃ E1, E1 = r.at_ + 1 := ⟨_, rfl⟩
    have hE : endW ts r.at_ = if isK ts E1 3 openT then E1 + closeN (ts.drop E1) 0 else E1 := by rw [hE1]; rfl
    have w1 : IntKind.i64.wrap ((r.at_ : Int) + 1) = (E1 : Int) := by rw [wrap_i64 (by omega) (by omega)]; omega
    simp [Tryz.f90, Sr.pc, h1, w1]
    generalize upW ts r (endW ts r.at_) = res at *
    refine LpD.turns X hG [] [] ?_
    by_cases hl : E1 < ts.length
    · have hl' : (E1 : Int) < ts.length := by omega
      obtain ⟨w, hx⟩ : ∃ w, ts[E1]? = some w := ⟨_, List.getElem?_eq_getElem hl⟩
      obtain ⟨c0, c1, c3⟩ := cellX hx
      have hk := isK_some hx 3 openT
      by_cases hk3 : w.kind = 3
      · by_cases hkt : w.text = [40]
        · have hkk : isK ts E1 3 openT = true := by rw [hk]; simp [hk3, hkt, openT]
          rw [hkk] at hE
          simp only [if_true] at hE
          simp [hl, hl', c0, c1, hk3, hkt]
          generalize hEn : endW ts r.at_ = En at *
          refine LpD.loopN X hG (TopI ts r En) (ts.length - E1) (t' := mkT 90 [(1, .ptr 1 0), (2, .ptr 2 0), (3, .ptr 3 0), (4, .int .i64 ((0 : Nat) : Int))])
            (H' := [pbx ts r, some (.box [.ptr 0 0]), some (.box [.int .i64 0, .int .i64 0, .str [], .nilSlice]), some (.box [.int .i64 (E1 : Int)])])
            (Less.mkK 4 (by simp [hB]) (by simp) (by simp [pbx]) (by simp [pbx])) ⟨E1, 0, by omega, by omega, hE.symm, fun _ => hkk, by omega, rfl, rfl⟩ ?_
          clear hk hk3 hkt hkk c0 c1 c3 hx hl hl' hE w
          rintro k t H ⟨e, d, hek, hre, hcl, hd0, hdb, rfl, rfl⟩
          cases k with
          | zero =>
            have hn : ¬ (e : Int) < ts.length := by omega
            rw [List.drop_of_length_le (by omega)] at hcl
            have hcl : e = En := hcl
            subst hcl
            simp at h2'
            simp [pbx]
            refine LpD.turns X hG [] [] ?_
            simp [Blk_exit, hn, h2']
          | succ k =>
            have hl : e < ts.length := by omega
            have hl' : (e : Int) < ts.length := by omega
            obtain ⟨w, hx⟩ : ∃ w, ts[e]? = some w := ⟨_, List.getElem?_eq_getElem hl⟩
            obtain ⟨c0, c1, c3⟩ := cellX hx
            have hk := isK_some hx 3 openT
            have we : IntKind.i64.wrap ((e : Int) + 1) = ((e + 1 : Nat) : Int) := by rw [wrap_i64 (by omega) (by omega)]; omega
            rw [drop_cons_at hx] at hcl
            simp [pbx]
            refine LpD.turns X hG [] [] ?_
            simp [hl, hl']
            refine LpD.turns X hG [] [] ?_
            by_cases hk3 : w.kind = 3
            · simp only [closeN, hk3, if_true] at hcl
              simp [hl, c0, hk3]
              refine LpD.turns X hG [] [] ?_
              by_cases hkt : w.text = [40]
              · have hkt' : w.text = openT := hkt
                rw [if_pos hkt', if_neg (by omega)] at hcl
                have wd : IntKind.i64.wrap ((d : Int) + 1) = ((d + 1 : Nat) : Int) := by rw [wrap_i64 (by omega) (by omega)]; omega
                have hd1 : ¬ ((d + 1 : Nat) : Int) = 0 := by omega
                have hd2 : (((d + 1 : Nat) : Int) == 0) = false := by rw [beq_eq_false_iff_ne]; exact hd1
                simp [hl, c1, hkt, wd, we, hd1, hd2, Blk_exit, -Int.natCast_add]
                exact Nxt.mk k (by omega) (Less.mkK 4 (by simp [hB]) (by simp) (by simp [pbx]) (by simp [pbx])) ⟨e + 1, d + 1, by omega, by omega, by omega, fun h => by omega, by omega, rfl, rfl⟩
              · have hkt' : ¬ w.text = openT := hkt
                have hd : d ≠ 0 := fun h => by
                  have := hd0 h
                  rw [hk] at this
                  simp [openT, hkt] at this
                rw [if_neg hkt'] at hcl
                by_cases hks : w.text = [41]
                · have hks' : w.text = shutT := hks
                  rw [if_pos hks'] at hcl
                  have wd : IntKind.i64.wrap ((d : Int) - 1) = ((d - 1 : Nat) : Int) := by rw [wrap_i64 (by omega) (by omega)]; omega
                  by_cases hz : d - 1 = 0
                  · rw [if_pos hz] at hcl
                    subst hcl
                    have hz' : ((d - 1 : Nat) : Int) = 0 := by omega
                    simp [hl, c1, hkt, hks, wd, hz', we, Blk_exit, h2', -Int.natCast_add]
                  · rw [if_neg hz] at hcl
                    have hd1 : ¬ ((d - 1 : Nat) : Int) = 0 := by omega
                    have hd2 : (((d - 1 : Nat) : Int) == 0) = false := by rw [beq_eq_false_iff_ne]; exact hd1
                    simp [hl, c1, hkt, hks, wd, we, hd1, hd2, Blk_exit, -Int.natCast_add]
                    exact Nxt.mk k (by omega) (Less.mkK 4 (by simp [hB]) (by simp) (by simp [pbx]) (by simp [pbx])) ⟨e + 1, d - 1, by omega, by omega, by omega, fun h => by omega, by omega, rfl, rfl⟩
                · have hks' : ¬ w.text = shutT := hks
                  rw [if_neg hks', if_neg hd] at hcl
                  have hd1 : ¬ ((d : Nat) : Int) = 0 := by omega
                  have hd2 : (((d : Nat) : Int) == 0) = false := by rw [beq_eq_false_iff_ne]; exact hd1
                  simp [hl, c1, hkt, hks, we, hd1, hd2, hd, Blk_exit, -Int.natCast_add]
                  exact Nxt.mk k (by omega) (Less.mkK 4 (by simp [hB]) (by simp) (by simp [pbx]) (by simp [pbx])) ⟨e + 1, d, by omega, by omega, by omega, fun h => by omega, by omega, rfl, rfl⟩
            · simp only [closeN, hk3, if_false] at hcl
              have hd : d ≠ 0 := fun h => by
                have := hd0 h
                rw [hk] at this
                simp [hk3] at this
              have hk3' : ((w.kind : Int) == 3) = false := by rw [beq_eq_false_iff_ne]; omega
              have hk4 : ¬ (w.kind : Int) = 3 := by omega
              simp [hl, c0, hk3, hk3', hk4, we, Blk_exit, -Int.natCast_add]
              exact Nxt.mk k (by omega) (Less.mkK 4 (by simp [hB]) (by simp) (by simp [pbx]) (by simp [pbx])) ⟨e + 1, d, by omega, by omega, by omega, fun h => by omega, by omega, rfl, rfl⟩
        · have hkk : isK ts E1 3 openT = false := by rw [hk]; simp [hkt, openT]
          rw [hkk] at hE
          simp only [Bool.false_eq_true, if_false] at hE
          rw [hE] at h2'
          simp at h2'
          simp [hl, hl', c0, c1, hk3, hkt, h2']
      · have hkk : isK ts E1 3 openT = false := by rw [hk]; simp [hk3]
        have hk3' : ((w.kind : Int) == 3) = false := by rw [beq_eq_false_iff_ne]; omega
        have hk4 : ¬ (w.kind : Int) = 3 := by omega
        rw [hkk] at hE
        simp only [Bool.false_eq_true, if_false] at hE
        rw [hE] at h2'
        simp at h2'
        simp [hl, hl', c0, c1, hk3, hk3', hk4, h2']
    · have hl' : ¬ (E1 : Int) < ts.length := by omega
      have hx : ts[E1]? = none := List.getElem?_eq_none (by omega)
      have hkk : isK ts E1 3 openT = false := by simp only [isK, hx]
      rw [hkk] at hE
      simp only [Bool.false_eq_true, if_false] at hE
      rw [hE] at h2'
      simp at h2'
      simp [hl, hl', h2']
end Go.Proofs.YtejjlojfgcgopaaGreatDoor

namespace Go.Proofs.YtejjlojfgcgopaaGreatDoor
open Go.RowKit Go.Proofs.Fw
set_option maxRecDepth 100000
set_option maxHeartbeats 4000000
theorem mustW_up (ts : List Wd) (r : Sr) (k : Nat) (s : List UInt8) : r.at_ ≤ (mustW ts r k s).2.at_ ∧ (r.at_ ≤ ts.length → (mustW ts r k s).2.at_ ≤ ts.length) := by
  unfold mustW
  split
  · rename_i h
    have := (isW_lt h).1
    exact ⟨Nat.le_succ _, fun _ => this⟩
  · exact ⟨Nat.le_refl _, fun h => h⟩
theorem withinW_up {α : Type} {ts : List Wd} {z : α} {of : List Wd → α × Nat × Option (Nat × Nat)} (h : ∀ l, (of l).2.1 ≤ l.length) (r : Sr) : r.at_ ≤ (withinW ts z of r).2.at_ ∧ (r.at_ ≤ ts.length → (withinW ts z of r).2.at_ ≤ ts.length) := by
  unfold withinW
  split
  · exact ⟨Nat.le_refl _, fun h => h⟩
  · split
    · exact ⟨Nat.le_refl _, fun h => h⟩
    · have := h (ts.drop r.at_)
      rw [List.length_drop] at this
      exact ⟨Nat.le_add_right _ _, fun h => by simp only; omega⟩
theorem exprW_up (ts : List Wd) (r : Sr) : r.at_ ≤ (exprW ts r).2.at_ ∧ (r.at_ ≤ ts.length → (exprW ts r).2.at_ ≤ ts.length) := withinW_up (fun l => (parseX_b l).1) r
theorem condW_up (ts : List Wd) (r : Sr) : r.at_ ≤ (condW ts r).2.at_ ∧ (r.at_ ≤ ts.length → (condW ts r).2.at_ ≤ ts.length) := withinW_up (fun l => (parseC_b l).1) r
theorem toW_up (ts : List Wd) (r : Sr) : r.at_ ≤ (toW ts r).2.at_ ∧ (r.at_ ≤ ts.length → (toW ts r).2.at_ ≤ ts.length) := by
  unfold toW
  split
  · refine withinW_up (fun l => ?_) r
    have := (parseX_b (l.take (endW ts r.at_ - r.at_))).1
    rw [List.length_take] at this
    omega
  · exact ⟨Nat.le_refl _, fun h => h⟩
theorem dimL_up (ts : List Wd) : ∀ (n : Nat) (d : List Int) (r : Sr), r.at_ ≤ (dimL ts n d r).2.at_ ∧ (r.at_ ≤ ts.length → (dimL ts n d r).2.at_ ≤ ts.length)
  | 0, d, r => ⟨Nat.le_refl _, fun h => h⟩
  | n + 1, d, r => by
    unfold dimL
    split
    · exact ⟨Nat.le_refl _, fun h => h⟩
    · obtain ⟨a1, a2⟩ := mustW_up ts r 2 []
      generalize mustW ts r 2 [] = m at *
      simp only
      obtain ⟨r1, hr1⟩ : ∃ r1, r1 = if m.1.n = 0 then m.2.fail r.at_ 1 else m.2 := ⟨_, rfl⟩
      rw [← hr1]
      have h1 : r1.at_ = m.2.at_ := by rw [hr1]; split <;> rfl
      split
      · rename_i hc
        have hl := (isW_lt hc).1
        obtain ⟨r2, hr2⟩ : ∃ r2, r2 = (if (d ++ [(m.1.n : Int)]).length = 4 then r1.fail r1.at_ 4 else r1).step := ⟨_, rfl⟩
        rw [← hr2]
        have h2 : r2.at_ = r1.at_ + 1 := by rw [hr2]; split <;> rfl
        obtain ⟨b1, b2⟩ := dimL_up ts n (d ++ [(m.1.n : Int)]) r2
        exact ⟨by omega, fun h => b2 (by omega)⟩
      · exact ⟨by simp only; omega, fun h => by have := a2 h; simp only; omega⟩
theorem itemW_up (ts : List Wd) (r : Sr) : r.at_ ≤ (itemW ts r).2.at_ ∧ (r.at_ ≤ ts.length → (itemW ts r).2.at_ ≤ ts.length) := by
  simp only [itemW]
  obtain ⟨a1, a2⟩ := mustW_up ts r 1 []
  generalize mustW ts r 1 [] = m at *
  split
  · rename_i hc
    have hl := (isW_lt hc).1
    obtain ⟨b1, b2⟩ := dimL_up ts 5 [] m.2.step
    obtain ⟨c1, c2⟩ := mustW_up ts (dimL ts 5 [] m.2.step).2 3 shutT
    have hs : m.2.step.at_ = m.2.at_ + 1 := rfl
    exact ⟨by simp only; omega, fun h => c2 (b2 (by omega))⟩
  · exact ⟨a1, a2⟩
structure PrO (O : Orc) (ts : List Wd) : Prop where
  fail : ∀ (r : Sr) (p c : Nat) (H : AH), O 54 [.ptr 0 0, .int .i64 (p : Int), .int .i64 (c : Int)] (pbx ts r :: H) = some (.tup [], pbx ts (r.fail p c) :: H)
  is : ∀ (r : Sr) (k : Nat) (s : List UInt8) (H : AH), O 142 [.ptr 0 0, .int .i64 (k : Int), .str s] (pbx ts r :: H) = some (.bool (isW ts r k s), pbx ts r :: H)
  takes : ∀ (r : Sr) (k : Nat) (s : List UInt8) (H : AH), O 139 [.ptr 0 0, .int .i64 (k : Int), .str s] (pbx ts r :: H) = some (.bool (isW ts r k s), pbx ts (takesW ts r k s) :: H)
  must : ∀ (r : Sr) (k : Nat) (s : List UInt8) (H : AH), O 91 [.ptr 0 0, .int .i64 (k : Int), .str s] (pbx ts r :: H) = some (.agg (wdCells (mustW ts r k s).1), pbx ts (mustW ts r k s).2 :: H)
noncomputable def Lpr (ts : List Wd) (hts : ts.length < 1000000) : List (Fact Tryz.prog envF) := [fPfail ts, fPis ts, fPtakes ts hts, fPmust ts hts]
theorem oPr_ok (ts : List Wd) (hts : ts.length < 1000000) : PrO (oOf (Lpr ts hts)) ts := by
  have hL : ((Lpr ts hts).map (·.f)).Nodup := show ([54, 142, 139, 91] : List Nat).Nodup by decide
  exact ⟨fun r p c H => pfail_s hL (show fPfail ts ∈ Lpr ts hts by simp [Lpr]) r p c H, fun r k s H => pis_s hL (show fPis ts ∈ Lpr ts hts by simp [Lpr]) r k s H, fun r k s H => ptakes_s hts hL (show fPtakes ts hts ∈ Lpr ts hts by simp [Lpr]) r k s H,
    fun r k s H => pmust_s hts hL (show fPmust ts hts ∈ Lpr ts hts by simp [Lpr]) r k s H⟩
theorem oPr_cx (ts : List Wd) (hts : ts.length < 1000000) : Cx (oOf (Lpr ts hts)) Tryz.prog envF := oOf_cx _ methFOk mixed
def tokL {α : Type} (l : List α) : AH := if l = [] then [] else [some (.tok l.length)]
@[simp] theorem tokL_nil {α : Type} : tokL ([] : List α) = [] := nrfl rfl
@[simp] theorem tokL_cons {α : Type} (x : α) (l : List α) : tokL (x :: l) = [some (.tok (l.length + 1))] := nrfl rfl
@[simp] theorem buSit (s : List UInt8) : abuild Tryz.prog 121 [(0, .str s)] = some (.agg [.str s, .nilSlice]) := by kernel_rfl
@[simp] theorem bsSit (s : List UInt8) (v : AV) : abuildSlice Tryz.prog 24 1 [(0, .agg [.str s, v])] = some (.slice .full 2 1 [.str s, v]) := by kernel_rfl
theorem elemSit : elemChk Tryz.prog 24 2 = true := by kernel_rfl
def DimP (ts : List Wd) (nm : List UInt8) (res : List Int × Sr) (k : Nat) (t : List AV) (H : AH) : Prop :=
  ∃ (d : List Int) (r : Sr), dimL ts k d r = res ∧ k + d.length = 5 ∧ (r.err = none → d.length < 4) ∧ r.at_ ≤ ts.length ∧
    t = mkT 60 [(0, .ptr 0 0), (2, .ptr 1 0), (3, .ptr 2 0)] ∧ H = pbx ts r :: some (.box [.str [], .nilSlice]) :: some (.box [.str nm, dimE.tk 3 d]) :: tokL d
theorem spitem_cs (ts : List Wd) (hts : ts.length < 1000000) (r : Sr) (hr : r.at_ ≤ ts.length) {H : AH} {id : Nat} (hH : H.at id = some (.box (r.pc ts))) :
    CS Tryz.prog envF 177 [.ptr id 0] H (.agg (itE.c (itemW ts r).1)) (H.set id (some (.box ((itemW ts r).2.pc ts)))) := by
  refine CS.rd lowF Tryz.func177 (by kernel_rfl) 0 (by simp [Tryz.f177]) (fun B hB hG => ?_) (by simp) (by simp [it_c]) (spc_low _ _) (spc_low _ _) hH
  have X := oPr_cx ts hts
  have hO := oPr_ok ts hts
  generalize oOf (Lpr ts hts) = O at X hO
  have f1 := fun H => hO.must r 1 [] H
  obtain ⟨a1, a2⟩ := mustW_up ts r 1 []
  have hi : itemW ts r = if isW ts (mustW ts r 1 []).2 3 openT then (⟨(mustW ts r 1 []).1.text, (dimL ts 5 [] (mustW ts r 1 []).2.step).1⟩, (mustW ts (dimL ts 5 [] (mustW ts r 1 []).2.step).2 3 shutT).2) else (⟨(mustW ts r 1 []).1.text, []⟩, (mustW ts r 1 []).2) := rfl
  rw [hi]
  generalize mustW ts r 1 [] = m at *
  obtain ⟨w, r1⟩ := m
  have f2 := fun H => hO.takes r1 3 openT H
  refine Tr.goD X hG ?_
  simp [pbx, wdCells] at f1
  cases hop : isW ts r1 3 openT with
  | false =>
    rw [hop, takesW_f hop] at f2
    simp [pbx, openT] at f2
    simp [Tryz.f177, Sr.pc, f1, f2, it_c]
  | true =>
    rw [hop, takesW_t hop] at f2
    have hl1 := (isW_lt hop).1
    have hs : r1.step.at_ = r1.at_ + 1 := rfl
    have hb1 : pbx ts r1.step = some (.box [wdsAV ts, .int .i64 ((r1.at_ : Int) + 1), erI r1.err]) := by simp [pbx, Sr.step]
    rw [hb1] at f2
    simp [pbx, openT] at f2
    simp only [if_true]
    generalize hres : dimL ts 5 [] r1.step = res
    obtain ⟨u1, u2⟩ := dimL_up ts 5 [] r1.step
    rw [hres] at u1 u2
    have hu := u2 (by omega)
    simp [Tryz.f177, Sr.pc, f1, f2]
    refine LpD.loopN X hG (DimP ts w.text res) 5 (t' := mkT 60 [(0, .ptr 0 0), (2, .ptr 1 0), (3, .ptr 2 0)]) (H' := pbx ts r1.step :: some (.box [.str [], .nilSlice]) :: some (.box [.str w.text, .nilSlice]) :: [])
      (Less.mkK 3 (by simp [hB]) (by simp) (by simp [hb1]) (by simp [hb1])) ⟨[], r1.step, hres, rfl, fun _ => by decide, by omega, rfl, by simp⟩ ?_
    clear f1 f2 hop hl1 hs hb1 u1 u2 a1 a2 hi hres
    rintro k t H ⟨d, q, hres, hkd, hd4, hq, rfl, rfl⟩
    have fin := fun (q : Sr) H => hO.must q 3 shutT H
    have hcut := dimE.tk_cut (show ¬ 3 < 1 by omega)
    simp [shutT, pbx] at fin
    cases he : q.err with
    | some y =>
      obtain rfl : res = (d, q) := by
        rw [← hres]
        cases k with
        | zero => rfl
        | succ k => simp only [dimL, he]
      have fin := fun H => fin q H
      rw [he] at fin
      simp [Blk_exit, pbx, he, fin, it_c, hcut, shutT]
    | none =>
      have hd4 := hd4 he
      obtain ⟨k, rfl⟩ : ∃ j, k = j + 1 := ⟨k - 1, by omega⟩
      have fm := fun H => hO.must q 2 [] H
      obtain ⟨a1, a2⟩ := mustW_up ts q 2 []
      obtain ⟨m, hm⟩ : ∃ m, m = mustW ts q 2 [] := ⟨_, rfl⟩
      obtain ⟨q2, hq2⟩ : ∃ q2, q2 = if m.1.n = 0 then m.2.fail q.at_ 1 else m.2 := ⟨_, rfl⟩
      have hdl : dimL ts (k + 1) d q = if isW ts q2 3 commaT then dimL ts k (d ++ [(m.1.n : Int)]) (if (d ++ [(m.1.n : Int)]).length = 4 then q2.fail q2.at_ 4 else q2).step else (d ++ [(m.1.n : Int)], q2) := by
        rw [hq2, hm]
        simp only [dimL, he]
      rw [hdl] at hres
      rw [← hm] at fm a1 a2
      have ha2 : q2.at_ ≤ ts.length := by
        have : q2.at_ = m.2.at_ := by rw [hq2]; split <;> rfl
        have := a2 hq
        omega
      have ff := fun H => hO.fail m.2 q.at_ 1 H
      have fi := fun H => hO.is q2 3 commaT H
      have f4 := fun H => hO.fail q2 q2.at_ 4 H
      clear hm hdl a1 a2
      obtain ⟨w2, q1⟩ := m
      simp only at hq2 hres ff fm
      simp [pbx, wdCells, he] at fm
      simp [pbx] at ff
      simp [pbx, commaT] at fi
      simp [pbx] at f4
      have fin := fun H => fin q2 H
      have hsh : mustW ts q2 3 [41] = mustW ts q2 3 shutT := rfl
      have hz : (w2.n = 0 ∧ q2 = q1.fail q.at_ 1) ∨ (¬ w2.n = 0 ∧ q2 = q1) := by
        by_cases h : w2.n = 0
        · exact .inl ⟨h, by rw [hq2, if_pos h]⟩
        · exact .inr ⟨h, by rw [hq2, if_neg h]⟩
      clear hq2
      have hav : ∀ z : Int, dimE.av [z] = .slice .unk 1 1 [.int .i64 z] := fun z => rfl
      have happ := fun (z : Int) H ow => aappend_nil (P := Tryz.prog) (t := 49) (sz := 1) (m := 1) (H := H) (fid := 3) (ow := ow) (ys := [.int .i64 z]) elemDim (by decide) (by decide) (by simp)
      have hap2 := fun (z x : Int) (d : List Int) H ow (h : AH.at H 3 = some (.tok (x :: d).length)) (hd : d.length < 4) => aappend_tok (P := Tryz.prog) (t := 49) (sz := 1) (n := (x :: d).length) (m := 1) (H := H) (fid := 4) (ow := ow) (xs := dimE.row (x :: d)) (ys := [.int .i64 z]) elemDim h (by decide) (by simp; omega) (by simp)
      have hrw : ∀ (z x : Int) (d : List Int), dimE.row (x :: d) ++ [.int .i64 z] = dimE.row (x :: d ++ [z]) := fun z x d => by rw [dimE.row_append]; rfl
      have htk : ∀ (x : Int) (d : List Int), dimE.tk 3 (x :: d) = .slice (.tok 3) 1 (d.length + 1) (dimE.row (x :: d)) := fun x d => rfl
      have hav2 : ∀ (z x : Int) (d : List Int), dimE.av (x :: (d ++ [z])) = .slice .unk 1 (d.length + 1 + 1) (dimE.row (x :: d ++ [z])) := fun z x d => by rw [dimE.av_cons, List.length_append]; rfl
      have hst := fun l => dimE.row_strip 1 l
      simp only [hrw] at hap2
      simp at hap2 hav2 hst
      cases hc : isW ts q2 3 commaT with
      | false =>
        rw [hc] at hres
        obtain rfl : (d ++ [(w2.n : Int)], q2) = res := hres
        have hc' : isW ts q2 3 [44] = false := hc
        rw [hc'] at fi
        simp only
        rcases hz with ⟨hz, rfl⟩ | ⟨hz, rfl⟩
        · cases d with
          | nil => simp [pbx, he, fm, ff, hz, happ, fi, fin, Blk_exit, it_c, hav, shutT]
          | cons x d =>
            have hd3 : d.length < 4 := by simp at hd4; omega
            simp [pbx, he, fm, ff, hz, htk, hap2, hd3, fi, fin, Blk_exit, it_c, hav2, hst, shutT]
        · have hz' : ((w2.n : Int) == 0) = false := by rw [beq_eq_false_iff_ne]; omega
          cases d with
          | nil => simp [pbx, he, fm, ff, hz, hz', happ, fi, fin, Blk_exit, it_c, hav, shutT]
          | cons x d =>
            have hd3 : d.length < 4 := by simp at hd4; omega
            simp [pbx, he, fm, ff, hz, hz', htk, hap2, hd3, fi, fin, Blk_exit, it_c, hav2, hst, shutT]
      | true =>
        obtain ⟨hl2, he2⟩ := isW_lt hc
        have hzz : ¬ w2.n = 0 ∧ q2 = q1 := by
          rcases hz with ⟨_, h⟩ | h
          · rw [h] at he2
            simp [Sr.fail] at he2
          · exact h
        clear hz
        obtain ⟨hz, rfl⟩ := hzz
        have hz' : ((w2.n : Int) == 0) = false := by rw [beq_eq_false_iff_ne]; omega
        rw [hc] at hres
        simp only [if_true] at hres
        have hc' : isW ts q2 3 [44] = true := hc
        rw [hc'] at fi
        simp only [he2, erI_none] at fi fm f4
        have wa : IntKind.i64.wrap ((q2.at_ : Int) + 1) = (q2.at_ : Int) + 1 := wrap_i64 (by omega) (by omega)
        have hrow : ∀ (m : Nat) (l : List Int), lowL m (dimE.row l) = true := fun m l => dimE.row_lowm m l
        cases d with
        | nil =>
          have hres : dimL ts k [(w2.n : Int)] q2.step = res := by simpa using hres
          simp [pbx, he, he2, fm, hz, hz', happ, fi, wa]
          exact Nxt.mk k (by omega) (Less.mkK 4 (by simp [hB]) (by simp) (by simp [pbx, Sr.step, he2, htk, dim_c, Enc.row]) (by simp [pbx, Sr.step, he2, htk, dim_c, Enc.row])) ⟨[(w2.n : Int)], q2.step, hres, by simp at hkd ⊢; omega, fun _ => by simp, by simp only [Sr.step]; omega, rfl, rfl⟩
        | cons x d =>
          have hd3 : d.length < 4 := by simp at hd4; omega
          have hd5 : d.length < 3 := by simp at hd4; omega
          have htk2 : ∀ z : Int, dimE.tk 3 (x :: (d ++ [z])) = .slice (.tok 3) 1 (d.length + 1 + 1) (dimE.row (x :: (d ++ [z]))) := fun z => by rw [dimE.tk_ne 3 (by simp), List.length_cons, List.length_append]; rfl
          by_cases h4 : d.length + 1 + 1 = 4
          · have h4' : ((d.length : Int) + 1 + 1 == 4) = true := by rw [beq_iff_eq]; omega
            have h4i : (d.length : Int) + 1 + 1 = 4 := by omega
            have hres : dimL ts k (x :: d ++ [(w2.n : Int)]) (q2.fail q2.at_ 4).step = res := by
              have : (x :: d ++ [(w2.n : Int)]).length = 4 := by simp; omega
              rwa [if_pos this] at hres
            have hfa : (q2.fail q2.at_ 4).at_ = q2.at_ := rfl
            simp only [hfa] at f4
            simp [pbx, he, he2, fm, hz, hz', htk, hap2, hd3, fi, wa, h4i, f4]
            exact Nxt.mk k (by omega) (Less.mkK 4 (by simp [hB]) (by simp) (by simp [hrow, pbx, Sr.step, Sr.fail, he2, htk2]) (by simp [hrow, pbx, Sr.step, Sr.fail, he2, htk2])) ⟨x :: d ++ [(w2.n : Int)], (q2.fail q2.at_ 4).step, hres, by simp at hkd ⊢; omega, fun h => by simp [Sr.step, Sr.fail] at h, by simp only [Sr.step, Sr.fail]; omega, rfl, rfl⟩
          · have h4i : ¬ (d.length : Int) + 1 + 1 = 4 := by omega
            have hres : dimL ts k (x :: d ++ [(w2.n : Int)]) q2.step = res := by
              have : ¬ (x :: d ++ [(w2.n : Int)]).length = 4 := by simp; omega
              rwa [if_neg this] at hres
            simp [pbx, he, he2, fm, hz, hz', htk, hap2, hd3, fi, wa, h4i]
            exact Nxt.mk k (by omega) (Less.mkK 4 (by simp [hB]) (by simp) (by simp [hrow, pbx, Sr.step, Sr.fail, he2, htk2]) (by simp [hrow, pbx, Sr.step, Sr.fail, he2, htk2])) ⟨x :: d ++ [(w2.n : Int)], q2.step, hres, by simp at hkd ⊢; omega, fun _ => by simp; omega, by simp only [Sr.step]; omega, rfl, rfl⟩
end Go.Proofs.YtejjlojfgcgopaaGreatDoor
namespace Go.Proofs.YtejjlojfgcgopaaGreatDoor
open Go.RowKit Go.Proofs.Fw
set_option maxRecDepth 100000
set_option maxHeartbeats 4000000
noncomputable def fPitem (ts : List Wd) (hts : ts.length < 1000000) : Fact Tryz.prog envF := Fact.meth 177 (Sr.pc ts) (spc_inj ts) (fun (_ : Unit) r => r.at_ ≤ ts.length) (fun _ _ => []) (fun _ r => .agg (itE.c (itemW ts r).1)) (fun _ r => (itemW ts r).2)
  (fun _ r h H id hH => spitem_cs ts hts r h hH) (fun id x y r _ _ h => ⟨rfl, rfl⟩)
def spOut (l : List It) : AV := if l.length = 1 then .slice .full 2 1 (itE.row l) else .slice (.tok 1) 2 l.length (itE.row l)
def spOutH (l : List It) : AH := if l.length = 1 then [] else [some (.tok l.length)]
def spOutV (l : List It) : AV := if l.length = 1 then .slice .full 2 1 (itE.row l) else .slice .unk 2 l.length (itE.row l)
theorem spOutV_rep {l : List It} (h : l ≠ []) (g : Gh) (cv : Value) (hr : RepV g (spOutV l) cv) : RepV g (itE.av l) cv := by
  rw [itE.av_ne h, it_sz]
  unfold spOutV at hr
  split at hr
  · rename_i h1; rw [h1]; exact rep_unk g cv hr
  · exact hr
theorem itemL_ne (ts : List Wd) : ∀ (n : Nat) (l : List It) (r : Sr), l ≠ [] → (itemL ts n l r).1 ≠ []
  | 0, l, r, h => h
  | n + 1, l, r, h => by
    simp only [itemL]
    split
    · exact itemL_ne ts n _ _ (by simp)
    · exact h
def ItP (ts : List Wd) (res : List It × Sr) (k : Nat) (t : List AV) (H : AH) : Prop :=
  ∃ (l : List It) (r : Sr), itemL ts k l r = res ∧ ts.length < k + r.at_ ∧ r.at_ ≤ ts.length ∧ l.length + k ≤ ts.length + 2 ∧ l ≠ [] ∧
    t = mkT 15 [(0, .ptr 0 0), (3, spOut l)] ∧ H = pbx ts r :: spOutH l
theorem spitems_cs (ts : List Wd) (hts : ts.length < 1000000) (r : Sr) (hr : r.at_ ≤ ts.length) {H : AH} {id : Nat} (hH : H.at id = some (.box (r.pc ts))) :
    CS Tryz.prog envF 137 [.ptr id 0] H (itE.av (itemsW ts r).1) (H.set id (some (.box ((itemsW ts r).2.pc ts)))) := by
  refine CS.weak (v := spOutV (itemsW ts r).1) ?_ (spOutV_rep (itemL_ne ts _ _ _ (by simp)))
  have hlv : ∀ l, low 0 (spOutV l) = true := fun l => by unfold spOutV; split <;> simp [itE.row_lowm]
  refine CS.rd lowF Tryz.func137 (by kernel_rfl) 0 (by simp [Tryz.f137]) (fun B hB hG => ?_) (by simp) (hlv _) (spc_low _ _) (spc_low _ _) hH
  have hL : ([fPitem ts hts, fPtakes ts hts].map (·.f)).Nodup := show ([177, 139] : List Nat).Nodup by decide
  have X := oOf_cx [fPitem ts hts, fPtakes ts hts] methFOk mixed
  have f1 := fun q (h : q.at_ ≤ ts.length) H => oOf_meth hL (show fPitem ts hts ∈ [fPitem ts hts, fPtakes ts hts] by simp) () q (H := pbx ts q :: H) (id := 0) rfl h
  have f2 := fun q H => ptakes_s hts hL (show fPtakes ts hts ∈ [fPitem ts hts, fPtakes ts hts] by simp) q 3 commaT H
  generalize oOf [fPitem ts hts, fPtakes ts hts] = O at X f1 f2
  refine Tr.goD X hG ?_
  simp only [it_c, Sr.pc, pbx, commaT] at f1 f2
  simp at f1 f2
  simp only [itemsW]
  obtain ⟨a1, a2⟩ := itemW_up ts r
  have g1 := f1 r hr
  have g2 := f2 (itemW ts r).2
  generalize hm : itemW ts r = m at *
  obtain ⟨x, r1⟩ := m
  have hr1 := a2 hr
  simp only at g1 g2 hr1 ⊢
  generalize hres : itemL ts (ts.length + 1) [x] r1 = res
  simp [Tryz.f137, Sr.pc, g1]
  refine LpD.loopN X hG (ItP ts res) (ts.length + 1) (t' := mkT 15 [(0, .ptr 0 0), (3, spOut [x])]) (H' := [pbx ts r1])
    (Less.mkK 1 (by simp [hB]) (by simp [spOut, Enc.row, it_c]) (by simp [spOut, Enc.row, it_c, pbx]) (by simp [pbx])) ⟨[x], r1, hres, by omega, hr1, by simp; omega, by simp, rfl, by simp [spOutH]⟩ ?_
  clear hres hm a1 a2 g1 g2 hr1
  rintro k t H ⟨l, q, hres, hk0, hq, hlk, hl0, rfl, rfl⟩
  obtain ⟨k, rfl⟩ : ∃ j, k = j + 1 := ⟨k - 1, by omega⟩
  have hst : itemL ts (k + 1) l q = if isW ts q 3 commaT then itemL ts k (l ++ [(itemW ts q.step).1]) (itemW ts q.step).2 else (l, q) := rfl
  rw [hst] at hres
  have h2 := f2 q
  have hlow := fun (m : Nat) (l : List It) => itE.row_lowm m l
  have hstr := fun (n : Nat) (l : List It) => itE.row_strip n l
  cases hc : isW ts q 3 commaT with
  | false =>
    rw [hc] at hres
    obtain rfl : (l, q) = res := hres
    have hc' : isW ts q 3 [44] = false := hc
    have ht' : takesW ts q 3 [44] = q := takesW_f hc
    rw [hc', ht'] at h2
    by_cases h1l : l.length = 1
    · simp [pbx, h2, Blk_exit, spOut, spOutV, h1l, hstr]
    · simp [pbx, h2, Blk_exit, spOut, spOutV, h1l, hstr]
  | true =>
    rw [hc] at hres
    simp only [if_true] at hres
    have hc' : isW ts q 3 [44] = true := hc
    have ht' : takesW ts q 3 [44] = q.step := takesW_t hc
    rw [hc', ht'] at h2
    obtain ⟨hl, he⟩ := isW_lt hc
    have hs : q.step.at_ = q.at_ + 1 := rfl
    have h1 := f1 q.step (by omega)
    obtain ⟨a1, a2⟩ := itemW_up ts q.step
    have ha2 := a2 (by omega)
    generalize itemW ts q.step = m at *
    obtain ⟨y, q2⟩ := m
    simp only at h1 ha2 hres a1
    simp only [Sr.step] at h1 h2
    simp at h1 h2
    by_cases h1l : l.length = 1
    · have happ := fun H => aappend_full (P := Tryz.prog) (t := 24) (sz := 2) (n := 1) (m := 1) (H := H) (fid := 1) (ow := .full) (xs := itE.row l) (ys := [.str y.name, dimE.av y.dims]) elemSit (by decide) (by decide) (by simp)
      have hrw : itE.row l ++ [.str y.name, dimE.av y.dims] = itE.row (l ++ [y]) := by rw [itE.row_append, itE.row_one1]; rfl
      rw [hrw] at happ
      have ho : spOut l = .slice .full 2 1 (itE.row l) := if_pos h1l
      have ho2 : spOut (l ++ [y]) = .slice (.tok 1) 2 2 (itE.row (l ++ [y])) := by unfold spOut; rw [if_neg (by simp; omega)]; simp [h1l]
      have hh : spOutH l = [] := if_pos h1l
      have hh2 : spOutH (l ++ [y]) = [some (.tok 2)] := by unfold spOutH; rw [if_neg (by simp; omega)]; simp [h1l]
      rw [ho, hh]
      simp [pbx, h2, h1, happ]
      exact Nxt.mk k (by omega) (Less.mkK 2 (by simp [hB]) (by simp [ho2, hlow]) (by simp [pbx, hh2, ho2, hlow]) (by simp [pbx, hh2])) ⟨l ++ [y], q2, hres, by omega, ha2, by simp; omega, by simp, rfl, rfl⟩
    · have happ := fun H (h : AH.at H 1 = some (.tok l.length)) => aappend_tok (P := Tryz.prog) (t := 24) (sz := 2) (n := l.length) (m := 1) (H := H) (fid := 2) (ow := .full) (xs := itE.row l) (ys := [.str y.name, dimE.av y.dims]) elemSit h (by decide) (by omega) (by simp)
      have hrw : itE.row l ++ [.str y.name, dimE.av y.dims] = itE.row (l ++ [y]) := by rw [itE.row_append, itE.row_one1]; rfl
      rw [hrw] at happ
      have ho : spOut l = .slice (.tok 1) 2 l.length (itE.row l) := if_neg h1l
      have ho2 : spOut (l ++ [y]) = .slice (.tok 1) 2 (l.length + 1) (itE.row (l ++ [y])) := by
        have : l.length ≠ 0 := fun h => hl0 (List.length_eq_zero_iff.1 h)
        unfold spOut; rw [if_neg (by simp; omega)]; simp
      have hh : spOutH l = [some (.tok l.length)] := if_neg h1l
      have hh2 : spOutH (l ++ [y]) = [some (.tok (l.length + 1))] := by
        have : l.length ≠ 0 := fun h => hl0 (List.length_eq_zero_iff.1 h)
        unfold spOutH; rw [if_neg (by simp; omega)]; simp
      rw [ho, hh]
      simp [pbx, h2, h1, happ]
      exact Nxt.mk k (by omega) (Less.mkK 2 (by simp [hB]) (by simp [ho2, hlow]) (by simp [pbx, hh2, ho2, hlow]) (by simp [pbx, hh2])) ⟨l ++ [y], q2, hres, by omega, ha2, by simp; omega, by simp, rfl, rfl⟩
theorem spstep_cs (ts : List Wd) (hts : ts.length < 1000000) (r : Sr) (hr : r.at_ ≤ ts.length) {H : AH} {id : Nat} (hH : H.at id = some (.box (r.pc ts))) :
    CS Tryz.prog envF 138 [.ptr id 0] H (.int .i64 (stepW ts r).1) (H.set id (some (.box ((stepW ts r).2.pc ts)))) := by
  refine CS.rd lowF Tryz.func138 (by kernel_rfl) 0 (by simp [Tryz.f138]) (fun B hB hG => ?_) (by simp) (by simp) (spc_low _ _) (spc_low _ _) hH
  have X := oPr_cx ts hts
  have hO := oPr_ok ts hts
  generalize oOf (Lpr ts hts) = O at X hO
  refine Tr.goD X hG ?_
  have f1 := fun H => hO.takes r 3 commaT H
  cases hc : isW ts r 3 commaT with
  | false =>
    rw [hc, takesW_f hc] at f1
    simp [pbx, commaT] at f1
    simp [Tryz.f138, Sr.pc, f1, stepW, hc]
  | true =>
    rw [hc, takesW_t hc] at f1
    have f2 := fun H => hO.takes r.step 3 minusT H
    have hb1 : pbx ts r.step = some (.box [wdsAV ts, .int .i64 ((r.at_ : Int) + 1), erI r.err]) := by simp [pbx, Sr.step]
    cases hm : isW ts r.step 3 minusT with
    | false =>
      rw [hm, takesW_f hm] at f2
      have f3 := fun H => hO.must r.step 2 [] H
      simp only [stepW, hc, hm, if_true, Bool.false_eq_true, if_false]
      generalize mustW ts r.step 2 [] = m at *
      rw [hb1] at f1 f2 f3
      simp [pbx, commaT] at f1
      simp [minusT] at f2
      simp [wdCells, pbx] at f3
      simp [Tryz.f138, Sr.pc, f1, f2, f3]
    | true =>
      rw [hm, takesW_t hm] at f2
      have f3 := fun H => hO.must r.step.step 2 [] H
      have hb2 : pbx ts r.step.step = some (.box [wdsAV ts, .int .i64 ((r.at_ : Int) + 1 + 1), erI r.err]) := by simp [pbx, Sr.step]
      simp only [stepW, hc, hm, if_true]
      generalize mustW ts r.step.step 2 [] = m at *
      rw [hb1] at f1 f2
      rw [hb2] at f2 f3
      simp [pbx, commaT] at f1
      simp [minusT] at f2
      simp [wdCells, pbx] at f3
      simp [Tryz.f138, Sr.pc, f1, f2, f3, negW]
end Go.Proofs.YtejjlojfgcgopaaGreatDoor
namespace Go.Proofs.YtejjlojfgcgopaaGreatDoor
open Go.RowKit Go.Proofs.Fw
set_option maxRecDepth 100000
set_option maxHeartbeats 4000000
noncomputable def fPitems (ts : List Wd) (hts : ts.length < 1000000) : Fact Tryz.prog envF := Fact.meth 137 (Sr.pc ts) (spc_inj ts) (fun (_ : Unit) r => r.at_ ≤ ts.length) (fun _ _ => []) (fun _ r => itE.av (itemsW ts r).1) (fun _ r => (itemsW ts r).2)
  (fun _ r h H id hH => spitems_cs ts hts r h hH) (fun id x y r _ _ h => ⟨rfl, rfl⟩)
noncomputable def fPstep (ts : List Wd) (hts : ts.length < 1000000) : Fact Tryz.prog envF := Fact.meth 138 (Sr.pc ts) (spc_inj ts) (fun (_ : Unit) r => r.at_ ≤ ts.length) (fun _ _ => []) (fun _ r => .int .i64 (stepW ts r).1) (fun _ r => (stepW ts r).2)
  (fun _ r h H id hH => spstep_cs ts hts r h hH) (fun id x y r _ _ h => ⟨rfl, rfl⟩)
noncomputable def fPexpr (ts : List Wd) (hts : ts.length < 1000000) : Fact Tryz.prog envF := Fact.meth 92 (Sr.pc ts) (spc_inj ts) (fun (_ : Unit) r => r.at_ ≤ ts.length) (fun _ _ => []) (fun _ r => .agg (tC (exprW ts r).1.tn)) (fun _ r => (exprW ts r).2)
  (fun _ r h H id hH => spexpr_cs ts hts r h hH) (fun id x y r _ _ h => ⟨rfl, rfl⟩)
noncomputable def fPto (ts : List Wd) (hts : ts.length < 1000000) : Fact Tryz.prog envF := Fact.meth 90 (Sr.pc ts) (spc_inj ts) (fun (_ : Unit) r => r.at_ ≤ ts.length) (fun _ _ => []) (fun _ r => .agg (tC (toW ts r).1.tn)) (fun _ r => (toW ts r).2)
  (fun _ r h H id hH => spto_cs ts hts r h hH) (fun id x y r _ _ h => ⟨rfl, rfl⟩)
structure KpO (O : Orc) (ts : List Wd) : Prop where
  fail : ∀ (r : Sr) (p c : Nat) (H : AH), O 54 [.ptr 0 0, .int .i64 (p : Int), .int .i64 (c : Int)] (pbx ts r :: H) = some (.tup [], pbx ts (r.fail p c) :: H)
  takes : ∀ (r : Sr) (k : Nat) (s : List UInt8) (H : AH), O 139 [.ptr 0 0, .int .i64 (k : Int), .str s] (pbx ts r :: H) = some (.bool (isW ts r k s), pbx ts (takesW ts r k s) :: H)
  must : ∀ (r : Sr) (k : Nat) (s : List UInt8) (H : AH), O 91 [.ptr 0 0, .int .i64 (k : Int), .str s] (pbx ts r :: H) = some (.agg (wdCells (mustW ts r k s).1), pbx ts (mustW ts r k s).2 :: H)
  items : ∀ (r : Sr) (H : AH), r.at_ ≤ ts.length → O 137 [.ptr 0 0] (pbx ts r :: H) = some (itE.av (itemsW ts r).1, pbx ts (itemsW ts r).2 :: H)
  step : ∀ (r : Sr) (H : AH), r.at_ ≤ ts.length → O 138 [.ptr 0 0] (pbx ts r :: H) = some (.int .i64 (stepW ts r).1, pbx ts (stepW ts r).2 :: H)
  expr : ∀ (r : Sr) (H : AH), r.at_ ≤ ts.length → O 92 [.ptr 0 0] (pbx ts r :: H) = some (.agg (tC (exprW ts r).1.tn), pbx ts (exprW ts r).2 :: H)
  to : ∀ (r : Sr) (H : AH), r.at_ ≤ ts.length → O 90 [.ptr 0 0] (pbx ts r :: H) = some (.agg (tC (toW ts r).1.tn), pbx ts (toW ts r).2 :: H)
  cond : ∀ (r : Sr) (H : AH), r.at_ ≤ ts.length → O 140 [.ptr 0 0, .func (.func 141) [] []] (pbx ts r :: H) = some (condT (condW ts r).1, pbx ts (condW ts r).2 :: H)
noncomputable def Lkp (ts : List Wd) (hts : ts.length < 1000000) : List (Fact Tryz.prog envF) := [fPfail ts, fPtakes ts hts, fPmust ts hts, fPitems ts hts, fPstep ts hts, fPexpr ts hts, fPto ts hts, fPwQ ts hts]
theorem oKp_ok (ts : List Wd) (hts : ts.length < 1000000) : KpO (oOf (Lkp ts hts)) ts := by
  have hL : ((Lkp ts hts).map (·.f)).Nodup := show ([54, 139, 91, 137, 138, 92, 90, 140] : List Nat).Nodup by decide
  exact ⟨fun r p c H => pfail_s hL (show fPfail ts ∈ Lkp ts hts by simp [Lkp]) r p c H, fun r k s H => ptakes_s hts hL (show fPtakes ts hts ∈ Lkp ts hts by simp [Lkp]) r k s H, fun r k s H => pmust_s hts hL (show fPmust ts hts ∈ Lkp ts hts by simp [Lkp]) r k s H,
    fun r H h => oOf_meth hL (show fPitems ts hts ∈ Lkp ts hts by simp [Lkp]) () r (H := pbx ts r :: H) (id := 0) rfl h, fun r H h => oOf_meth hL (show fPstep ts hts ∈ Lkp ts hts by simp [Lkp]) () r (H := pbx ts r :: H) (id := 0) rfl h,
    fun r H h => oOf_meth hL (show fPexpr ts hts ∈ Lkp ts hts by simp [Lkp]) () r (H := pbx ts r :: H) (id := 0) rfl h, fun r H h => oOf_meth hL (show fPto ts hts ∈ Lkp ts hts by simp [Lkp]) () r (H := pbx ts r :: H) (id := 0) rfl h,
    fun r H h => oOf_meth hL (show fPwQ ts hts ∈ Lkp ts hts by simp [Lkp]) () r (H := pbx ts r :: H) (id := 0) rfl h⟩
theorem oKp_cx (ts : List Wd) (hts : ts.length < 1000000) : Cx (oOf (Lkp ts hts)) Tryz.prog envF := oOf_cx _ methFOk mixed
@[simp] theorem buSp0 : abuild Tryz.prog 31 [] = some (.agg (Sx.c ⟨0, [], t0, t0, [], t0, t0, [], t0, t0, 0⟩)) := by kernel_rfl
theorem spkey_cs (ts : List Wd) (hts : ts.length < 1000000) (word : List UInt8) (r : Sr) (hr : r.at_ ≤ ts.length) {H : AH} {id : Nat} (hH : H.at id = some (.box (r.pc ts))) :
    CS Tryz.prog envF 89 [.ptr id 0, .str word] H (.agg (keyW ts word r).1.x.c) (H.set id (some (.box ((keyW ts word r).2.pc ts)))) := by
  refine CS.rd lowF Tryz.func89 (by kernel_rfl) 0 (by simp [Tryz.f89]) (fun B hB hG => ?_) (by simp) (by simp [Sx.c_low]) (spc_low _ _) (spc_low _ _) hH
  have X := oKp_cx ts hts
  have hO := oKp_ok ts hts
  generalize oOf (Lkp ts hts) = O at X hO
  refine Tr.goD X hG ?_
  unfold keyW
  by_cases h1 : word = integerT
  · subst h1
    have f1 := fun H => hO.items r H hr
    simp only [if_true]
    generalize itemsW ts r = m at *
    simp only [pbx] at f1
    simp [Tryz.f89, Sr.pc, f1, Sx.c, Sm.x, exnone_tn, integerT]
  rw [if_neg h1]
  by_cases h2 : word = doT
  · subst h2
    rw [if_pos rfl]
    have f1 := fun H => hO.must r 1 [] H
    have u1 := (mustW_up ts r 1 []).2 hr
    unfold doW
    generalize mustW ts r 1 [] = m at *
    obtain ⟨nm, r1⟩ := m
    simp only at f1 u1 ⊢
    have f2 := fun H => hO.must r1 3 isT H
    have u2 := (mustW_up ts r1 3 isT).2 u1
    generalize mustW ts r1 3 isT = m2 at *
    obtain ⟨w2, r2⟩ := m2
    simp only at f2 u2 ⊢
    have f3 := fun H => hO.expr r2 H u2
    have u3 := (exprW_up ts r2).2 u2
    generalize exprW ts r2 = a at *
    obtain ⟨lo, r3⟩ := a
    simp only at f3 u3 ⊢
    have f4 := fun H => hO.must r3 3 commaT H
    have u4 := (mustW_up ts r3 3 commaT).2 u3
    generalize mustW ts r3 3 commaT = m4 at *
    obtain ⟨w4, r4⟩ := m4
    simp only at f4 u4 ⊢
    have f5 := fun H => hO.expr r4 H u4
    have u5 := (exprW_up ts r4).2 u4
    generalize exprW ts r4 = b at *
    obtain ⟨hi, r5⟩ := b
    simp only at f5 u5 ⊢
    have f6 := fun H => hO.step r5 H u5
    generalize stepW ts r5 = s at *
    obtain ⟨st, r6⟩ := s
    simp only [pbx, isT, commaT, tC_eq, wdCells] at f1 f2 f3 f4 f5 f6
    simp at f1 f2 f4
    simp [Tryz.f89, Sr.pc, f1, f2, f3, f4, f5, f6, Sx.c, Sm.x, exnone_tn, doT]
  rw [if_neg h2]
  by_cases h3 : word = endT
  · subst h3
    rw [if_pos rfl]
    have f1 := fun H => hO.takes r 4 ifT H
    cases hc : isW ts r 4 ifT with
    | true =>
      rw [hc, takesW_t hc] at f1
      generalize r.step = r1 at *
      simp [pbx, ifT] at f1
      simp [Tryz.f89, Sr.pc, f1, Sx.c, Sm.x, exnone_tn, endT, Blk_exit]
    | false =>
      rw [hc, takesW_f hc] at f1
      have f2 := fun H => hO.must r 4 doT H
      simp only [Bool.false_eq_true, if_false]
      generalize mustW ts r 4 doT = m at *
      simp [pbx, ifT] at f1
      simp [pbx, doT, wdCells] at f2
      simp [Tryz.f89, Sr.pc, f1, f2, Sx.c, Sm.x, exnone_tn, endT, Blk_exit]
  rw [if_neg h3]
  by_cases h4 : word = ifT
  · subst h4
    rw [if_pos rfl]
    unfold ifW
    have f1 := fun H => hO.must r 3 openT H
    have u1 := (mustW_up ts r 3 openT).2 hr
    generalize mustW ts r 3 openT = m at *
    obtain ⟨w1, r1⟩ := m
    simp only at f1 u1 ⊢
    have f2 := fun H => hO.cond r1 H u1
    have u2 := (condW_up ts r1).2 u1
    generalize condW ts r1 = c at *
    obtain ⟨⟨op, ca, cb⟩, r2⟩ := c
    simp only at f2 u2 ⊢
    have f3 := fun H => hO.must r2 3 shutT H
    have u3 := (mustW_up ts r2 3 shutT).2 u2
    generalize mustW ts r2 3 shutT = m3 at *
    obtain ⟨w3, r3⟩ := m3
    simp only at f3 u3 ⊢
    have f4 := fun H => hO.must r3 4 thenT H
    generalize mustW ts r3 4 thenT = m4 at *
    obtain ⟨w4, r4⟩ := m4
    simp only [pbx, openT, shutT, thenT, condT, tC_eq, wdCells, List.cons_append, List.nil_append] at f1 f2 f3 f4
    simp at f1 f3 f4
    simp [Tryz.f89, Sr.pc, f1, f2, f3, f4, Sx.c, Sm.x, exnone_tn, ifT]
  rw [if_neg h4]
  by_cases h5 : word = elseT
  · subst h5
    rw [if_pos rfl]
    simp [Tryz.f89, Sr.pc, Sx.c, Sm.x, exnone_tn, elseT]
  rw [if_neg h5]
  by_cases h6 : word = readT
  · subst h6
    rw [if_pos rfl]
    have f1 := fun H => hO.to r H hr
    generalize toW ts r = m at *
    simp only [pbx, tC_eq] at f1
    simp [Tryz.f89, Sr.pc, f1, Sx.c, Sm.x, exnone_tn, readT]
  rw [if_neg h6]
  by_cases h7 : word = printT
  · subst h7
    rw [if_pos rfl]
    have f1 := fun H => hO.expr r H hr
    generalize exprW ts r = m at *
    simp only [pbx, tC_eq] at f1
    simp [Tryz.f89, Sr.pc, f1, Sx.c, Sm.x, exnone_tn, printT]
  rw [if_neg h7]
  have f1 := fun H => hO.fail r 0 2 H
  generalize r.fail 0 2 = r1 at *
  simp [pbx] at f1
  simp only [integerT, doT, endT, ifT, elseT, readT, printT] at h1 h2 h3 h4 h5 h6 h7
  simp [Tryz.f89, Sr.pc, f1, Sx.c, Sm.x, exnone_tn, h1, h2, h3, h4, h5, h6, h7]
end Go.Proofs.YtejjlojfgcgopaaGreatDoor

namespace Go.Proofs.YtejjlojfgcgopaaGreatDoor.Tq
open Go.RowKit Go.Proofs.Fw
set_option maxRecDepth 100000
theorem sz65 : szOf Tryz.prog 65 = some 1 := by kernel_rfl
theorem ag65 : aggB Tryz.prog 65 = some false := by kernel_rfl
theorem zv65 : zeroAV Tryz.prog 65 = some (.int .u32 0) := by kernel_rfl
theorem go3 : goFn Tryz.prog 3 = true := by kernel_rfl
theorem go5 : goFn Tryz.prog 5 = true := by kernel_rfl
theorem go15 : goFn Tryz.prog 15 = true := by kernel_rfl
theorem go49 : goFn Tryz.prog 49 = true := by kernel_rfl
attribute [simp] sz65 ag65 zv65 Tryz.underlying65 go3 go5 go15 go49
end Go.Proofs.YtejjlojfgcgopaaGreatDoor.Tq
namespace Go.Proofs.YtejjlojfgcgopaaGreatDoor.Tv
open Go.RowKit Go.Proofs.Fw
set_option maxRecDepth 100000
theorem sz39 : szOf Tryz.prog 39 = some 1 := by kernel_rfl
theorem ag39 : aggB Tryz.prog 39 = some false := by kernel_rfl
theorem zv39 : zeroAV Tryz.prog 39 = some (.nilSlice) := by kernel_rfl
theorem ec39 : elemChk Tryz.prog 39 2 = true := by kernel_rfl
theorem sz227 : szOf Tryz.prog 227 = some 1 := by kernel_rfl
theorem ag227 : aggB Tryz.prog 227 = some false := by kernel_rfl
theorem zv227 : zeroAV Tryz.prog 227 = some (.nilPtr) := by kernel_rfl
theorem sz229 : szOf Tryz.prog 229 = some 4 := by kernel_rfl
theorem ag229 : aggB Tryz.prog 229 = some true := by kernel_rfl
theorem zv229 : zeroAV Tryz.prog 229 = some (.agg [.nilSlice, .int .i64 0, .nilSlice, .int .i64 0]) := by kernel_rfl
theorem fa229_0 : fI Tryz.prog 229 0 = (0, 54, true) := by kernel_rfl
theorem fa229_1 : fI Tryz.prog 229 1 = (1, 3, true) := by kernel_rfl
theorem fa229_2 : fI Tryz.prog 229 2 = (2, 57, true) := by kernel_rfl
theorem go76 : goFn Tryz.prog 76 = true := by kernel_rfl
theorem go85 : goFn Tryz.prog 85 = true := by kernel_rfl
theorem go86 : goFn Tryz.prog 86 = true := by kernel_rfl
theorem go116 : goFn Tryz.prog 116 = true := by kernel_rfl
theorem go117 : goFn Tryz.prog 117 = true := by kernel_rfl
theorem go118 : goFn Tryz.prog 118 = true := by kernel_rfl
theorem go119 : goFn Tryz.prog 119 = true := by kernel_rfl
theorem go120 : goFn Tryz.prog 120 = true := by kernel_rfl
theorem go121 : goFn Tryz.prog 121 = true := by kernel_rfl
theorem go129 : goFn Tryz.prog 129 = true := by kernel_rfl
theorem go130 : goFn Tryz.prog 130 = true := by kernel_rfl
theorem go162 : goFn Tryz.prog 162 = true := by kernel_rfl
theorem go163 : goFn Tryz.prog 163 = true := by kernel_rfl
theorem go164 : goFn Tryz.prog 164 = true := by kernel_rfl
theorem go166 : goFn Tryz.prog 166 = true := by kernel_rfl
theorem go167 : goFn Tryz.prog 167 = true := by kernel_rfl
theorem go171 : goFn Tryz.prog 171 = true := by kernel_rfl
theorem go190 : goFn Tryz.prog 190 = true := by kernel_rfl
theorem go191 : goFn Tryz.prog 191 = true := by kernel_rfl
theorem go192 : goFn Tryz.prog 192 = true := by kernel_rfl
attribute [simp] sz39 ag39 zv39 ec39 Tryz.underlying39 sz227 ag227 zv227 Tryz.underlying227 sz229 ag229 zv229 fa229_0 fa229_1 fa229_2 Tryz.underlying229 go76 go85 go86 go116
attribute [simp] go117 go118 go119 go120 go121 go129 go130 go162 go163 go164 go166 go167 go171 go190 go191 go192
end Go.Proofs.YtejjlojfgcgopaaGreatDoor.Tv

namespace Go.Proofs.YtejjlojfgcgopaaGreatDoor
open Go.RowKit Go.Proofs.Fw
set_option maxRecDepth 100000
set_option maxHeartbeats 4000000
def notBang (b : UInt8) : Bool := !(b.toNat == 33)
def noteLen (s : List UInt8) : Nat := frontLen notBang s
def bodyOfLine (s : List UInt8) : List UInt8 := (cutNl s).take (noteLen (cutNl s))
def partsAV (s : List UInt8) : AV := .tup [.str (bodyOfLine s), .str ((cutNl s).drop (noteLen (cutNl s))), .str (nlOf s)]
theorem indexByte_note : ∀ s : List UInt8, Lib.indexByte s 33 = if noteLen s < s.length then (noteLen s : Int) else -1
  | [] => rfl
  | b :: s => by
    have ih := indexByte_note s
    have hle := frontLen_le notBang s
    simp only [Lib.indexByte]
    by_cases h : b.toNat = 33
    · have hb : (b == 33) = true := by rw [beq_iff_eq]; exact UInt8.toNat_inj.1 (by rw [h]; rfl)
      have hn : noteLen (b :: s) = 0 := by simp [noteLen, frontLen, notBang, h]
      rw [if_pos hb, hn, if_pos (by simp)]
      rfl
    · have hb : (b == 33) = false := by
        rw [beq_eq_false_iff_ne]
        intro h'
        exact h (by rw [h']; rfl)
      have hn : noteLen (b :: s) = noteLen s + 1 := by
        simp only [noteLen, frontLen, List.takeWhile_cons]
        rw [if_pos (by simp [notBang, h])]
        rfl
      have hns : noteLen s ≤ s.length := hle
      rw [if_neg (by simp [hb]), hn, ih]
      by_cases hl : noteLen s < s.length
      · have h2 : ((noteLen s : Int) == -1) = false := by simp only [beq_eq_false_iff_ne]; omega
        simp only [if_pos hl, h2, Bool.false_eq_true, if_false]
        rw [if_pos (by simp only [List.length_cons]; omega)]
        rfl
      · have h1 : ((-1 : Int) == -1) = true := rfl
        simp only [if_neg hl, List.length_cons, h1, if_true]
        rw [if_neg (by omega)]
def oSuf : Orc := oPure 171 (fun args => match args with
    | [.str s, .str [10]] => if s.length < maxS then some s else none
    | _ => none) fun s => .bool (hasNl s)
theorem oSuf_sound : Sound Tryz.prog envT oSuf := oPure_sound fun args x H h => by
  split at h
  · split at h
    · rename_i s hs
      injection h with h
      subst h
      rw [maxS_eq] at hs
      exact evFunc_ok oIdx_sound methT mixed (suffix_ev oIdx s 0 H (by omega))
    · cases h
  · cases h
def cutAV (s : List UInt8) : AV := .tup [.str (cutNl s), .bool (hasNl s)]
def oCutI : Orc := oPure 129 (fun args => match args with
    | [.str s, .str [10]] => if s.length < maxS then some s else none
    | _ => none) cutAV
theorem oCutI_sound : Sound Tryz.prog envT oCutI := oPure_sound fun args x H h => by
  split at h
  · split at h
    · rename_i s hs
      injection h with h
      subst h
      have hs' := hs
      rw [maxS_eq] at hs'
      exact evFunc_ok oSuf_sound methT mixed (cut46_ev oSuf s 0 H (by omega) (by simp [oSuf, oPure, hs]))
    · cases h
  · cases h
def oCut : Orc := oPure 85 (fun args => match args with
    | [.str s, .str [10]] => if s.length < maxS then some s else none
    | _ => none) cutAV
theorem oCut_sound : Sound Tryz.prog envT oCut := oPure_sound fun args x H h => by
  split at h
  · split at h
    · rename_i s hs
      injection h with h
      subst h
      exact evFunc_ok oCutI_sound methT mixed (cut32_ev oCutI s 0 H (by simp [oCutI, oPure, hs, cutAV]))
    · cases h
  · cases h
def oIxB : Orc := oPure 86 (fun args => match args with
    | [.str s, .int .u8 33] => some s
    | _ => none) fun s => .int .i64 (Lib.indexByte s 33)
theorem oIxB_sound : Sound Tryz.prog envT oIxB := oPure_sound fun args x H h => by
  split at h
  · rename_i s
    injection h with h
    subst h
    exact evFunc_ok oIdx_sound methT mixed (idx33_ev oIdx s 33 _ 0 H (by simp [oIdx]))
  · cases h
def oPp : Orc := oTab [(85, oCut), (86, oIxB)]
theorem oPp_sound : Sound Tryz.prog envT oPp := oTab_sound fun p hp => by
  simp only [List.mem_cons, List.not_mem_nil, or_false] at hp
  rcases hp with rfl | rfl
  · exact oCut_sound
  · exact oIxB_sound
theorem part_cs (s : List UInt8) (hs : s.length < maxS) (H : AH) : CS Tryz.prog envT 50 [.str s] H (partsAV s) H := by
  have h32 : oPp 85 [.str s, .str [10]] H = some (.tup [.str (cutNl s), .bool (hasNl s)], H) := by simp [oPp, oTab, oCut, oPure, hs, cutAV]
  have h33 : oPp 86 [.str (cutNl s), .int .u8 33] H = some (.int .i64 (Lib.indexByte (cutNl s) 33), H) := by simp [oPp, oTab, oIxB, oPure]
  have hle := frontLen_le notBang (cutNl s)
  rw [indexByte_note] at h33
  by_cases h : noteLen (cutNl s) < (cutNl s).length
  · rw [if_pos h] at h33
    exact evFunc_ok oPp_sound methT mixed (part_note oPp s _ 0 H h32 h33 (by omega))
  · rw [if_neg h] at h33
    have heq : noteLen (cutNl s) = (cutNl s).length := by unfold noteLen at h ⊢; omega
    have := evFunc_ok oPp_sound methT mixed (part_plain oPp s _ 0 H h32 h33 (by omega))
    simpa [partsAV, bodyOfLine, heq] using this
theorem cutNl_len (s : List UInt8) : (cutNl s).length ≤ s.length := by
  unfold cutNl
  split
  · rw [List.length_take]; omega
  · exact Nat.le_refl _
end Go.Proofs.YtejjlojfgcgopaaGreatDoor

namespace Go.Proofs.YtejjlojfgcgopaaGreatDoor
open Go.RowKit Go.Proofs.Fw
set_option maxRecDepth 100000
set_option maxHeartbeats 4000000
noncomputable def fPkey (ts : List Wd) (hts : ts.length < 1000000) : Fact Tryz.prog envF := Fact.meth 89 (Sr.pc ts) (spc_inj ts) (fun (_ : List UInt8) r => r.at_ ≤ ts.length) (fun _ w => [.str w]) (fun w r => .agg (keyW ts w r).1.x.c) (fun w r => (keyW ts w r).2)
  (fun w r h H id hH => spkey_cs ts hts w r h hH) (fun id x y r _ _ h => by
    simp only [List.cons.injEq, AV.str.injEq, and_true] at h
    rw [h]
    exact ⟨rfl, rfl⟩)
structure KsO (O : Orc) (ts : List Wd) : Prop where
  fail : ∀ (r : Sr) (p c : Nat) (H : AH), O 54 [.ptr 0 0, .int .i64 (p : Int), .int .i64 (c : Int)] (pbx ts r :: H) = some (.tup [], pbx ts (r.fail p c) :: H)
  must : ∀ (r : Sr) (k : Nat) (s : List UInt8) (H : AH), O 91 [.ptr 0 0, .int .i64 (k : Int), .str s] (pbx ts r :: H) = some (.agg (wdCells (mustW ts r k s).1), pbx ts (mustW ts r k s).2 :: H)
  expr : ∀ (r : Sr) (H : AH), r.at_ ≤ ts.length → O 92 [.ptr 0 0] (pbx ts r :: H) = some (.agg (tC (exprW ts r).1.tn), pbx ts (exprW ts r).2 :: H)
  to : ∀ (r : Sr) (H : AH), r.at_ ≤ ts.length → O 90 [.ptr 0 0] (pbx ts r :: H) = some (.agg (tC (toW ts r).1.tn), pbx ts (toW ts r).2 :: H)
  key : ∀ (w : List UInt8) (r : Sr) (H : AH), r.at_ ≤ ts.length → O 89 [.ptr 0 0, .str w] (pbx ts r :: H) = some (.agg (keyW ts w r).1.x.c, pbx ts (keyW ts w r).2 :: H)
noncomputable def Lks (ts : List Wd) (hts : ts.length < 1000000) : List (Fact Tryz.prog envF) := [fPfail ts, fPmust ts hts, fPexpr ts hts, fPto ts hts, fPkey ts hts]
theorem oKs_ok (ts : List Wd) (hts : ts.length < 1000000) : KsO (oOf (Lks ts hts)) ts := by
  have hL : ((Lks ts hts).map (·.f)).Nodup := show ([54, 91, 92, 90, 89] : List Nat).Nodup by decide
  exact ⟨fun r p c H => pfail_s hL (show fPfail ts ∈ Lks ts hts by simp [Lks]) r p c H, fun r k s H => pmust_s hts hL (show fPmust ts hts ∈ Lks ts hts by simp [Lks]) r k s H,
    fun r H h => oOf_meth hL (show fPexpr ts hts ∈ Lks ts hts by simp [Lks]) () r (H := pbx ts r :: H) (id := 0) rfl h, fun r H h => oOf_meth hL (show fPto ts hts ∈ Lks ts hts by simp [Lks]) () r (H := pbx ts r :: H) (id := 0) rfl h,
    fun w r H h => oOf_meth hL (show fPkey ts hts ∈ Lks ts hts by simp [Lks]) w r (H := pbx ts r :: H) (id := 0) rfl h⟩
theorem oKs_cx (ts : List Wd) (hts : ts.length < 1000000) : Cx (oOf (Lks ts hts)) Tryz.prog envF := oOf_cx _ methFOk mixed
theorem buSpTo0 (t : Tn) : abuild Tryz.prog 31 [(0, .int .i64 2), (2, .agg (tC t))] = some (.agg (Sx.c ⟨2, [], t, t0, [], t0, t0, [], t0, t0, 0⟩)) := by
  cases t <;> kernel_rfl
@[simp] theorem buSpTo (t : Tn) : abuild Tryz.prog 31 [(0, .int .i64 2), (2, .agg [.int .i64 t.k, .int .i64 t.n, .str t.s, t.ar])] = some (.agg (Sx.c ⟨2, [], t, t0, [], t0, t0, [], t0, t0, 0⟩)) := by rw [← tC_eq]; exact buSpTo0 t
@[simp high] theorem aidxX0 {l : List Wd} (h : 0 < l.length) : aindexAddr Tryz.prog 125 (wdsAV l) (.int .i64 0) = some (.vptr (wdsCells l) 0) := by simpa using aidxX (l := l) (i := 0) h
theorem spstmt_cs (ts : List Wd) (hts : ts.length < 1000000) (h0 : 0 < ts.length) {H : AH} {id : Nat} (hH : H.at id = some (.box ((⟨0, none⟩ : Sr).pc ts))) :
    CS Tryz.prog envF 53 [.ptr id 0] H (.agg (stmtW ts).1.x.c) (H.set id (some (.box ((stmtW ts).2.pc ts)))) := by
  refine CS.rd lowF Tryz.func53 (by kernel_rfl) 0 (by simp [Tryz.f53]) (fun B hB hG => ?_) (by simp) (by simp [Sx.c_low]) (spc_low _ _) (spc_low _ _) hH
  have X := oKs_cx ts hts
  have hO := oKs_ok ts hts
  generalize oOf (Lks ts hts) = O at X hO
  refine Tr.goD X hG ?_
  obtain ⟨w, hw⟩ : ∃ w, ts[0]? = some w := ⟨_, List.getElem?_eq_getElem h0⟩
  obtain ⟨d1, d2⟩ := cells_atX _ _ _ hw
  simp only [Nat.zero_mul, List.drop_zero, Nat.zero_add] at d1 d2
  have hx : stmtW ts = if w.kind = 4 then keyW ts w.text ⟨1, none⟩ else if w.kind = 1 then setW ts ⟨0, none⟩ else ({}, ⟨0, some ([(stmtTxt, 0)], 2)⟩) := by simp only [stmtW, hw]
  rw [hx]
  by_cases h4 : w.kind = 4
  · rw [if_pos h4]
    have f1 := fun H => hO.key w.text ⟨1, none⟩ H h0
    generalize keyW ts w.text ⟨1, none⟩ = m at *
    obtain ⟨m, r⟩ := m
    obtain ⟨M, hM⟩ : ∃ M, M = m.x := ⟨_, rfl⟩
    simp only [← hM, pbx] at f1 ⊢
    simp [Sx.c] at f1
    have w1 : IntKind.i64.wrap 1 = 1 := by decide
    simp [Tryz.f53, Sr.pc, h0, d1, d2, wdCells, h4, w1, f1, Sx.c]
  · rw [if_neg h4]
    have h4' : ((w.kind : Int) == 4) = false := by rw [beq_eq_false_iff_ne]; omega
    have h4i : ¬ (w.kind : Int) = 4 := by omega
    by_cases h1 : w.kind = 1
    · rw [if_pos h1]
      have f1 := fun H => hO.to ⟨0, none⟩ H (Nat.zero_le _)
      have u1 := (toW_up ts ⟨0, none⟩).2 (Nat.zero_le _)
      unfold setW
      generalize toW ts ⟨0, none⟩ = a at *
      obtain ⟨to, r1⟩ := a
      simp only at f1 u1 ⊢
      have f2 := fun H => hO.must r1 3 isT H
      have u2 := (mustW_up ts r1 3 isT).2 u1
      generalize mustW ts r1 3 isT = b at *
      obtain ⟨w2, r2⟩ := b
      simp only at f2 u2 ⊢
      have f3 := fun H => hO.expr r2 H u2
      generalize exprW ts r2 = c at *
      simp only [pbx, isT, tC_eq, wdCells] at f1 f2 f3
      simp at f1 f2
      simp [Tryz.f53, Sr.pc, h0, d1, d2, wdCells, h1, f1, f2, f3, Sx.c, Sm.x, exnone_tn]
    · rw [if_neg h1]
      have h1' : ((w.kind : Int) == 1) = false := by rw [beq_eq_false_iff_ne]; omega
      have h1i : ¬ (w.kind : Int) = 1 := by omega
      have f1 := fun H => hO.fail ⟨0, none⟩ 0 2 H
      have hf : (⟨0, none⟩ : Sr).fail 0 2 = ⟨0, some ([(stmtTxt, 0)], 2)⟩ := rfl
      rw [hf] at f1
      simp [pbx] at f1
      simp [Tryz.f53, Sr.pc, h0, d1, d2, wdCells, h1, h4, h1', h4', h1i, h4i, f1, Sx.c, Sm.x, exnone_tn]
noncomputable def fPart : Fact Tryz.prog envF := Fact.pure 50 (fun s : List UInt8 => s.length < maxS) (fun s => [.str s]) partsAV (fun s h H => CS.toF (CS.toX (CS.toN (part_cs s h H)))) (fun x y _ _ h => by
  simp only [List.cons.injEq, AV.str.injEq, and_true] at h
  rw [h])
noncomputable def fLine : Fact Tryz.prog envF := Fact.pure 51 (fun s : List UInt8 => s.length < maxS) (fun s => [.str s]) (fun s => lineAV (lex (s.length + 1) s 0 false)) (fun s h H => CS.toF (CS.toX (CS.toN (line_cs s h H)))) (fun x y _ _ h => by
  simp only [List.cons.injEq, AV.str.injEq, and_true] at h
  rw [h])
noncomputable def fPstmt (ts : List Wd) (hts : ts.length < 1000000) : Fact Tryz.prog envF := Fact.meth 53 (Sr.pc ts) (spc_inj ts) (fun (_ : Unit) r => r = ⟨0, none⟩ ∧ 0 < ts.length) (fun _ _ => []) (fun _ _ => .agg (stmtW ts).1.x.c) (fun _ _ => (stmtW ts).2)
  (fun _ r h H id hH => by obtain ⟨rfl, h0⟩ := h; exact spstmt_cs ts hts h0 hH) (fun id x y r _ _ h => ⟨rfl, rfl⟩)
def pstmtAV (x : Sm × Er) : AV := .tup [.agg x.1.x.c, erI x.2]
@[simp] theorem buSrd (ts : List Wd) : abuild Tryz.prog 131 [(0, wdsAV ts)] = some (.agg [wdsAV ts, .int .i64 0, .nilIface]) := by
  unfold wdsAV
  split <;> kernel_rfl
theorem body_len (s : List UInt8) : (bodyOfLine s).length ≤ s.length := by
  have h1 := cutNl_len s
  unfold bodyOfLine
  rw [List.length_take]
  omega
theorem pstmt_cs (s : List UInt8) (hs : s.length < 1000000) (H : AH) : CS Tryz.prog envF 16 [.str s] H (pstmtAV (parseS (bodyOfLine s))) H := by
  have hb : (bodyOfLine s).length < 1000000 := by have := body_len s; omega
  have hsm : s.length < maxS := by rw [maxS_eq]; omega
  have hbm : (bodyOfLine s).length < maxS := by rw [maxS_eq]; omega
  unfold parseS
  generalize hlx : lex ((bodyOfLine s).length + 1) (bodyOfLine s) 0 false = lx
  cases lx with
  | error x =>
    obtain ⟨p, e⟩ := x
    have hL : ([fPart, fLine, fSfault].map (·.f)).Nodup := show ([50, 51, 52] : List Nat).Nodup by decide
    have X := oOf_cx [fPart, fLine, fSfault] methFOk mixed
    have f1 := fun H => oOf_pure hL (show fPart ∈ [fPart, fLine, fSfault] by simp) s hsm H
    have f2 := fun H => oOf_pure hL (show fLine ∈ [fPart, fLine, fSfault] by simp) (bodyOfLine s) hbm H
    have f3 := fun H => oOf_pure hL (show fSfault ∈ [fPart, fLine, fSfault] by simp) (0, [(wordTxt, (p : Int))], (e : Int)) trivial H
    generalize oOf [fPart, fLine, fSfault] = O at X f1 f2 f3
    rw [hlx] at f2
    simp [lineAV, faultAV, wordTxt] at f2
    simp [partsAV] at f1
    simp [errAV, stmtTxt, wordTxt] at f3
    refine CS.tr0 lowF Tryz.func16 (by kernel_rfl) 0 (by simp [Tryz.f16]) (fun B hB hG => ?_) (by simp [pstmtAV, Sx.c_low]) (by simp) H
    refine Tr.goD X hG ?_
    simp [Tryz.f16, f1, f2, f3, Sx.c, pstmtAV, Sm.x, exnone_tn, erI, errAV, castP, stmtTxt, wordTx]
  | ok ts =>
    have hts := lex_count hb hlx
    have hL : ([fPart, fLine, fPstmt ts hts, fPfail ts].map (·.f)).Nodup := show ([50, 51, 53, 54] : List Nat).Nodup by decide
    have X := oOf_cx [fPart, fLine, fPstmt ts hts, fPfail ts] methFOk mixed
    have f1 := fun H => oOf_pure hL (show fPart ∈ [fPart, fLine, fPstmt ts hts, fPfail ts] by simp) s hsm H
    have f2 := fun H => oOf_pure hL (show fLine ∈ [fPart, fLine, fPstmt ts hts, fPfail ts] by simp) (bodyOfLine s) hbm H
    have f3 := fun (h : 0 < ts.length) e0 H => oOf_meth hL (show fPstmt ts hts ∈ [fPart, fLine, fPstmt ts hts, fPfail ts] by simp) () ⟨0, none⟩ (H := e0 :: pbx ts ⟨0, none⟩ :: H) (id := 1) rfl ⟨rfl, h⟩
    have f4 := fun (r : Sr) e0 H => oOf_meth hL (show fPfail ts ∈ [fPart, fLine, fPstmt ts hts, fPfail ts] by simp) (r.at_, 2) r (H := e0 :: pbx ts r :: H) (id := 1) rfl trivial
    generalize oOf [fPart, fLine, fPstmt ts hts, fPfail ts] = O at X f1 f2 f3 f4
    rw [hlx] at f2
    simp [lineAV] at f2
    simp [partsAV] at f1
    refine CS.tr0 lowF Tryz.func16 (by kernel_rfl) 0 (by simp [Tryz.f16]) (fun B hB hG => ?_) (by simp [pstmtAV, Sx.c_low]) (by simp) H
    refine Tr.goD X hG ?_
    by_cases hne : ts = []
    · have hp0 : parseW ts = ({}, none) := if_pos hne
      simp only
      rw [hp0]
      simp [Tryz.f16, f1, f2, hne, Sx.c, pstmtAV, Sm.x, exnone_tn]
    · have hpos : 0 < ts.length := List.length_pos_iff.2 hne
      have f3 := f3 hpos
      have hp1 : parseW ts = match (if (stmtW ts).2.at_ < ts.length then (stmtW ts).2.fail (stmtW ts).2.at_ 2 else (stmtW ts).2).err with
        | some x => ({}, some x)
        | none => ((stmtW ts).1, none) := by unfold parseW; rw [if_neg hne]; rfl
      simp only
      rw [hp1]
      clear hp1
      generalize stmtW ts = m at *
      obtain ⟨m, r⟩ := m
      have f4 := f4 r
      obtain ⟨M, hM⟩ : ∃ M, M = m.x := ⟨_, rfl⟩
      have hl0 : ¬ (ts.length : Int) = 0 := by omega
      have hl1 : ((ts.length : Int) == 0) = false := by rw [beq_eq_false_iff_ne]; exact hl0
      simp only [← hM, pbx, Sr.pc] at f3 f4
      simp [Sx.c] at f3
      simp at f4
      by_cases hl : r.at_ < ts.length
      · have hl' : (r.at_ : Int) < ts.length := by omega
        simp only [hl, if_true]
        obtain ⟨y, hy⟩ : ∃ y, (r.fail r.at_ 2).err = some y := ⟨_, rfl⟩
        rw [hy] at f4 ⊢
        simp [Tryz.f16, f1, f2, hne, hl0, hl1, f3, f4, hl, hl', Sx.c]
        refine LpD.turns X hG [5] [(1, 5), (2, 5), (3, 5), (4, 5)] ?_
        simp [pstmtAV, Sx.c, Sm.x, exnone_tn]
      · have hl' : ¬ (r.at_ : Int) < ts.length := by omega
        simp only [hl, if_false]
        cases he : r.err with
        | none =>
          rw [he] at f3
          try simp at f3
          simp [Tryz.f16, f1, f2, hne, hl0, hl1, f3, hl, hl', Sx.c, pstmtAV, ← hM]
        | some y =>
          rw [he] at f3
          try simp at f3
          simp [Tryz.f16, f1, f2, hne, hl0, hl1, f3, hl, hl', Sx.c]
          refine LpD.turns X hG [5] [(1, 5), (2, 5), (3, 5), (4, 5)] ?_
          simp [pstmtAV, Sx.c, Sm.x, exnone_tn]
end Go.Proofs.YtejjlojfgcgopaaGreatDoor

namespace Go.Proofs.YtejjlojfgcgopaaGreatDoor
open Go.RowKit Go.Proofs.Fw
set_option maxRecDepth 100000
set_option maxHeartbeats 4000000
def laysFb_ren : Go.Shelf.Ren := ⟨fun | 285 => 151 | n => n, fun | 37 => 139 | 53 => 203 | 3 => 3 | 4 => 4 | 51 => 65 | 9 => 9 | 5 => 5 | 0 => 0 | n => n, fun | n => n⟩
theorem laysFb : Lays.n285 Tryz.prog laysFb_ren := {
  mixed := by kernel_rfl
  f285 := Tryz.func151.trans (congrArg some (by kernel_rfl))
  t0 := Tryz.underlying0
  a0 := Tryz.isAgg0
  z0 := Tryz.sizeOf0
  v0 := Tryz.zeroValue0
  t3 := Tryz.underlying3
  a3 := Tryz.isAgg3
  z3 := Tryz.sizeOf3
  v3 := Tryz.zeroValue3
  t4 := Tryz.underlying4
  a4 := Tryz.isAgg4
  z4 := Tryz.sizeOf4
  v4 := Tryz.zeroValue4
  t5 := Tryz.underlying5
  a5 := Tryz.isAgg5
  z5 := Tryz.sizeOf5
  v5 := Tryz.zeroValue5
  t9 := Tryz.underlying9
  a9 := Tryz.isAgg9
  z9 := Tryz.sizeOf9
  v9 := Tryz.zeroValue9
  t37 := Tryz.underlying139
  a37 := Tryz.isAgg139
  z37 := Tryz.sizeOf139
  v37 := Tryz.zeroValue139
  t51 := Tryz.underlying65
  a51 := Tryz.isAgg65
  z51 := Tryz.sizeOf65
  v51 := Tryz.zeroValue65
  t53 := Tryz.underlying203
  a53 := Tryz.isAgg203
  z53 := Tryz.sizeOf203
  v53 := Tryz.zeroValue203 }
def laysLen_ren : Go.Shelf.Ren := ⟨fun | 129 => 185 | n => n, fun | 53 => 203 | 3 => 3 | 4 => 4 | 46 => 96 | 5 => 5 | 9 => 9 | n => n, fun | n => n⟩
theorem laysLen : Lays.n129 Tryz.prog laysLen_ren := {
  mixed := by kernel_rfl
  f129 := Tryz.func185.trans (congrArg some (by kernel_rfl))
  t3 := Tryz.underlying3
  a3 := Tryz.isAgg3
  z3 := Tryz.sizeOf3
  v3 := Tryz.zeroValue3
  t4 := Tryz.underlying4
  a4 := Tryz.isAgg4
  z4 := Tryz.sizeOf4
  v4 := Tryz.zeroValue4
  t5 := Tryz.underlying5
  a5 := Tryz.isAgg5
  z5 := Tryz.sizeOf5
  v5 := Tryz.zeroValue5
  t9 := Tryz.underlying9
  a9 := Tryz.isAgg9
  z9 := Tryz.sizeOf9
  v9 := Tryz.zeroValue9
  t46 := Tryz.underlying96
  a46 := Tryz.isAgg96
  z46 := Tryz.sizeOf96
  v46 := Tryz.zeroValue96
  t53 := Tryz.underlying203
  a53 := Tryz.isAgg203
  z53 := Tryz.sizeOf203
  v53 := Tryz.zeroValue203 }
def laysSm_ren : Go.Shelf.Ren := ⟨fun | 283 => 149 | n => n, fun | 3 => 3 | 9 => 9 | 4 => 4 | n => n, fun | n => n⟩
theorem laysSm : Lays.n283 Tryz.prog laysSm_ren := {
  mixed := by kernel_rfl
  f283 := Tryz.func149.trans (congrArg some (by kernel_rfl))
  t3 := Tryz.underlying3
  a3 := Tryz.isAgg3
  z3 := Tryz.sizeOf3
  v3 := Tryz.zeroValue3
  t4 := Tryz.underlying4
  a4 := Tryz.isAgg4
  z4 := Tryz.sizeOf4
  v4 := Tryz.zeroValue4
  t9 := Tryz.underlying9
  a9 := Tryz.isAgg9
  z9 := Tryz.sizeOf9
  v9 := Tryz.zeroValue9 }
def z24 : List AV := List.replicate 24 (.int .u8 0)
theorem z24_eq : z24 = (List.replicate 24 (0 : Int)).map (AV.int .u8) := rfl
theorem strCells_len (s : List UInt8) : (strCells s).length = s.length := by simp [strCells]
theorem rep_bytes (g : Gh) : ∀ (l : List Int) (vs : List Value), RepL g (l.map (AV.int .u8)) vs ↔ vs = l.map (Value.int .u8)
  | [], vs => by simp [RepL]
  | x :: l, vs => by
    simp only [List.map_cons, RepL, RepV]
    constructor
    · rintro ⟨v, ws, rfl, rfl, h⟩
      rw [(rep_bytes g l ws).1 h]
    · rintro rfl
      exact ⟨_, _, rfl, rfl, (rep_bytes g l _).2 rfl⟩
def nums (u : Nat) : List Int := 0 :: ((Lib.decDigits u).map fun b => (b.toNat : Int)) ++ List.replicate (23 - Lib.nDigits u) 0
def numC (u : Nat) : List AV := (nums u).map (AV.int .u8)
theorem fb_cs (u : Nat) (hu : u < 18446744073709551616) (hn : Lib.nDigits u ≤ 23) {H : AH} {id : Nat} (hH : H.at id = some (.box z24)) :
    CS Tryz.prog envF 151 [.bsl id 1 1 (Lib.nDigits u) 23, .int .u64 (u : Int)] H (.tup []) (H.set id (some (.box (numC u)))) := by
  intro g w cargs R hG hA
  simp only [RepL, RepV] at hA
  obtain ⟨v0, ws0, rfl, ⟨b, hM, rfl, _⟩, v1, ws1, rfl, rfl, rfl⟩ := hA
  obtain ⟨vs, el, h1, h2, h3⟩ := box_cells R hH hM
  have hvs : vs = List.replicate 24 (.int .u8 0) := by
    rw [z24_eq, rep_bytes] at h2
    rw [h2, List.map_replicate]
  clear h2
  subst hvs
  have hH0 : Sort.Holds (fun (b : UInt8) => Value.int .u8 (b.toNat : Int)) w b 1 (Array.replicate (Lib.nDigits u) (0 : UInt8)) := fun j hj => by
    have hj' : j < Lib.nDigits u := by simpa using hj
    refine ⟨?_, by simp [World.frozen?, h1]⟩
    have h4 := h3 (1 + j) (.int .u8 0) (by rw [List.getElem?_replicate, if_pos (by omega)])
    rw [Nat.zero_add] at h4
    rw [h4, getElem!_pos _ j (by simpa using hj')]
    simp
  have key := Any.internal_strconv_formatBase10 laysFb b 1 23 u (Array.replicate (Lib.nDigits u) (0 : UInt8)) w hH0 (by rw [Array.size_replicate]; exact Lib.lt_pow_nDigits u) hu (by rw [Array.size_replicate]; omega)
  rw [Array.size_replicate] at key
  refine key.mono ?_
  rintro e w' ⟨rfl, n, v', dk, rfl, hF⟩
  have hdl := Lib.decDigits_length u
  have hs := hF.size
  have hcells : Sort.putCells (fun (b : UInt8) => Value.int .u8 (b.toNat : Int)) 1 dk (List.toArray (List.replicate 24 (.int .u8 0))) = List.toArray ((nums u).map (Value.int .u8)) := by
    apply Array.ext_getElem?
    intro k
    simp only [Sort.putCells, Array.getElem?_mapIdx, List.getElem?_toArray, List.getElem?_map, hs]
    have hnl : (nums u).length = 24 := by
      simp only [nums, List.length_append, List.length_cons, List.length_map, List.length_replicate, hdl]
      omega
    by_cases hk : k < 24
    · rw [List.getElem?_replicate, if_pos hk, Option.map_some]
      by_cases hr : 1 ≤ k ∧ k < 1 + Lib.nDigits u
      · rw [if_pos hr]
        obtain ⟨j, rfl⟩ : ∃ j, k = j + 1 := ⟨k - 1, by omega⟩
        have hlt : j < (Lib.decDigits u).length := by rw [hdl]; omega
        have hd := Lib.row_is_numeral hF j hlt
        have hn2 : (nums u)[j + 1]? = some (((Lib.decDigits u)[j]).toNat : Int) := by
          simp only [nums, List.cons_append, List.getElem?_cons_succ]
          rw [List.getElem?_append_left (by rw [List.length_map]; exact hlt), List.getElem?_map, List.getElem?_eq_getElem hlt, Option.map_some]
        rw [hn2, Option.map_some, Nat.add_sub_cancel, ← hd]
      · rw [if_neg hr]
        have hn2 : (nums u)[k]? = some 0 := by
          cases k with
          | zero => simp only [nums, List.cons_append, List.getElem?_cons_zero]
          | succ j =>
            simp only [nums, List.cons_append, List.getElem?_cons_succ]
            rw [List.getElem?_append_right (by rw [List.length_map, hdl]; omega), List.getElem?_replicate, if_pos (by rw [List.length_map, hdl]; omega)]
        rw [hn2, Option.map_some]
    · rw [List.getElem?_replicate, if_neg hk, List.getElem?_eq_none (by omega), Option.map_none, Option.map_none]
  have hw : ((Sort.putRow (fun (b : UInt8) => Value.int .u8 (b.toNat : Int)) w b 1 dk).drewN n).heap[b]? = some (.cells (List.toArray ((nums u).map (Value.int .u8))) el (0, 0)) := by
    rw [← hcells]
    simp only [World.drewN, Sort.putRow, Sort.mapBlock, Array.getElem?_modify, if_pos, h1, Option.map_some, Sort.onCells]
  obtain ⟨R', P'⟩ := R.write_box (cs := numC u) hH hM hw ((rep_bytes g _ _).2 rfl) (fun k hk => by
    simp only [World.drewN, Sort.putRow, Sort.mapBlock, Array.getElem?_modify, if_neg (Ne.symm hk)]) (by simp [World.drewN, Sort.putRow, Sort.mapBlock]) rfl rfl rfl
  exact ⟨g, _, rfl, R', P', by simp [RepV, RepL]⟩
theorem len_cs (x : Nat) (hx : x < 18446744073709551616) (H : AH) : CS Tryz.prog envF 185 [.int .u64 (x : Int)] H (.int .i64 (Lib.bitLen x)) H := by
  refine CS.of_calls fun g w cargs hA => ?_
  simp only [RepL, RepV] at hA
  obtain ⟨_, _, rfl, rfl, rfl⟩ := hA
  refine (Any.bits_Len64 laysLen x w (by omega) (by omega)).mono ?_
  rintro e w' ⟨rfl, rfl⟩
  exact ⟨_, rfl, fun g => by simp [RepV], rfl⟩
end Go.Proofs.YtejjlojfgcgopaaGreatDoor
namespace Go.Proofs.YtejjlojfgcgopaaGreatDoor
open Go.RowKit Go.Proofs.Fw
set_option maxRecDepth 100000
set_option maxHeartbeats 4000000
noncomputable def fLen : Fact Tryz.prog envF := Fact.pure 185 (fun x : Nat => x < 18446744073709551616) (fun x => [.int .u64 (x : Int)]) (fun x => .int .i64 (Lib.bitLen x : Nat)) (fun x h H => len_cs x h H) (fun x y _ _ h => by
  simp only [List.cons.injEq, AV.int.injEq, true_and, and_true] at h
  have : x = y := by omega
  rw [this])
theorem l10_cs (x : Nat) (hx : x ≤ 64) (H : AH) : CS Tryz.prog envF 184 [.int .i64 (x : Int)] H (.int .i64 (Lib.l10 x : Nat)) H := by
  refine CS.tr0 lowF Tryz.func184 (by kernel_rfl) 0 (by simp [Tryz.f184]) (fun B hB hG => ?_) (by simp) (by simp) H
  refine Tr.goD oNilF hG ?_
  have w1 : IntKind.i64.wrap ((x : Int) * 78913) = ((x * 78913 : Nat) : Int) := by rw [wrap_i64 (by omega) (by omega)]; omega
  have e1 : ((x * 78913 : Nat) : Int).fdiv 262144 = (Lib.l10 x : Nat) := by rw [Int.fdiv_eq_ediv_of_nonneg _ (by decide)]; unfold Lib.l10; omega
  have e2 : ((x * 78913 : Nat) : Int).fdiv (2 ^ (min 18 IntKind.i64.bits)) = (Lib.l10 x : Nat) := e1
  simp [Tryz.f184, w1, e1, e2, -Int.natCast_mul]
noncomputable def fL10 : Fact Tryz.prog envF := Fact.pure 184 (fun x : Nat => x ≤ 64) (fun x => [.int .i64 (x : Int)]) (fun x => .int .i64 (Lib.l10 x : Nat)) (fun x h H => l10_cs x h H) (fun x y _ _ h => by
  simp only [List.cons.injEq, AV.int.injEq, true_and, and_true] at h
  have : x = y := by omega
  rw [this])
theorem b2_cs (b : Bool) (H : AH) : CS Tryz.prog envF 186 [.bool b] H (.int .i64 (if b then 1 else 0)) H := by
  refine CS.tr0 lowF Tryz.func186 (by kernel_rfl) 0 (by simp [Tryz.f186]) (fun B hB hG => ?_) (by simp) (by simp) H
  refine Tr.goD oNilF hG ?_
  cases b <;> simp [Tryz.f186]
noncomputable def fB2 : Fact Tryz.prog envF := Fact.pure 186 (fun _ : Bool => True) (fun x => [.bool x]) (fun b => .int .i64 (if b then 1 else 0)) (fun x _ H => b2_cs x H) (fun x y _ _ h => by
  simp only [List.cons.injEq, AV.bool.injEq, and_true] at h
  rw [h])
@[simp] theorem glob10 : envF.glob 1 = .vptr pow10Cells 0 := by rfl
theorem pow10_at {i : Nat} (h : i < 20) : pow10Cells[i]? = some (.int .u64 ((10 ^ i : Nat) : Int)) := by
  unfold pow10Cells
  rw [List.getElem?_map, List.getElem?_range h]
  rfl
theorem numd_cs (u : Nat) (h1 : 1 ≤ u) (hu : u < 18446744073709551616) (H : AH) : CS Tryz.prog envF 150 [.int .u64 (u : Int)] H (.int .i64 (Lib.nDigits u : Nat)) H := by
  have hL : ([fLen, fL10, fB2].map (·.f)).Nodup := show ([185, 184, 186] : List Nat).Nodup by decide
  have X := oOf_cx [fLen, fL10, fB2] methFOk mixed
  obtain ⟨hnd, h19⟩ := Lib.numDigits_eq u h1 hu
  have f1 := fun H => oOf_pure hL (show fLen ∈ [fLen, fL10, fB2] by simp) u hu H
  have f2 := fun H => oOf_pure hL (show fL10 ∈ [fLen, fL10, fB2] by simp) (Lib.bitLen u) (Lib.bitLen_le u 64 (Nat.le_refl _) hu) H
  have f3 := fun b H => oOf_pure hL (show fB2 ∈ [fLen, fL10, fB2] by simp) b trivial H
  generalize oOf [fLen, fL10, fB2] = O at X f1 f2 f3
  refine CS.tr0 lowF Tryz.func150 (by kernel_rfl) 0 (by simp [Tryz.f150]) (fun B hB hG => ?_) (by simp) (by simp) H
  refine Tr.goD X hG ?_
  generalize Lib.l10 (Lib.bitLen u) = q at *
  generalize Lib.bitLen u = L at *
  generalize Lib.nDigits u = nd at *
  have hq : q < 20 := by omega
  have hq' : (q : Int) < 20 := by omega
  have hp := pow10_at hq
  generalize hT : 10 ^ q = T at *
  have g0 : (0 : Int) ≤ q := by omega
  by_cases hb : T ≤ u
  · have hb' : (T : Int) ≤ u := by omega
    rw [if_pos hb] at hnd
    have f3 := f3 true
    simp at f3
    have w1 : IntKind.i64.wrap ((q : Int) + 1) = (nd : Int) := by rw [wrap_i64 (by omega) (by omega)]; omega
    simp [Tryz.f150, f1, f2, hq, hq', hp, hb, hb', f3, w1]
  · have hb' : ¬ (T : Int) ≤ u := by omega
    rw [if_neg hb] at hnd
    have f3 := f3 false
    simp at f3
    have w1 : IntKind.i64.wrap (q : Int) = (nd : Int) := by rw [wrap_i64 (by omega) (by omega)]; omega
    simp [Tryz.f150, f1, f2, hq, hq', hp, hb, hb', f3, w1]
noncomputable def fNumd : Fact Tryz.prog envF := Fact.pure 150 (fun x : Nat => 1 ≤ x ∧ x < 18446744073709551616) (fun x => [.int .u64 (x : Int)]) (fun x => .int .i64 (Lib.nDigits x : Nat)) (fun x h H => numd_cs x h.1 h.2 H) (fun x y _ _ h => by
  simp only [List.cons.injEq, AV.int.injEq, true_and, and_true] at h
  have : x = y := by omega
  rw [this])
theorem small_cs (i : Nat) (hi : i < 100) (H : AH) : CS Tryz.prog envF 149 [.int .i64 (i : Int)] H (.str (Lib.decDigits i)) H := by
  refine CS.of_calls fun g w cargs hA => ?_
  simp only [RepL, RepV] at hA
  obtain ⟨_, _, rfl, rfl, rfl⟩ := hA
  refine (Any.internal_strconv_small laysSm i hi w).mono ?_
  rintro e w' ⟨rfl, rfl⟩
  exact ⟨_, rfl, fun g => by simp [RepV], rfl⟩
noncomputable def fSmall : Fact Tryz.prog envF := Fact.pure 149 (fun x : Nat => x < 100) (fun x => [.int .i64 (x : Int)]) (fun x => .str (Lib.decDigits x)) (fun x h H => small_cs x h H) (fun x y _ _ h => by
  simp only [List.cons.injEq, AV.int.injEq, true_and, and_true] at h
  have : x = y := by omega
  rw [this])
noncomputable def fFb : Fact Tryz.prog envF where
  f := 151
  α := Nat × Nat
  ok := fun x H => x.1 < 18446744073709551616 ∧ Lib.nDigits x.1 ≤ 23 ∧ H.at x.2 = some (.box z24)
  args := fun x => [.bsl x.2 1 1 (Lib.nDigits x.1) 23, .int .u64 (x.1 : Int)]
  out := fun _ => .tup []
  up := fun x H => H.set x.2 (some (.box (numC x.1)))
  cs := fun x H h => ⟨fb_cs x.1 h.1 h.2.1 h.2.2, Keeps.set h.2.2⟩
  same := fun x y H _ _ h => by
    obtain ⟨a, b⟩ := x
    obtain ⟨c, d⟩ := y
    simp only [List.cons.injEq, AV.bsl.injEq, AV.int.injEq, true_and, and_true] at h
    obtain ⟨⟨rfl, _⟩, h⟩ := h
    have : a = c := by omega
    subst this
    exact ⟨rfl, rfl⟩
theorem numC_eq (u : Nat) : numC u = .int .u8 0 :: (strCells (Lib.decDigits u) ++ List.replicate (23 - Lib.nDigits u) (.int .u8 0)) := by
  unfold numC nums strCells
  rw [List.map_append, List.map_cons, List.map_map, List.map_replicate]
  rfl
theorem bytes_take : ∀ (s : List UInt8) (r : List AV), bytesAV ((strCells s ++ r).take s.length) = some s
  | [], r => by simp [bytesAV]
  | b :: s, r => by
    have ih := bytes_take s r
    have hc : strCells (b :: s) = .int .u8 (b.toNat : Int) :: strCells s := rfl
    rw [hc, List.cons_append, List.length_cons, List.take_succ_cons]
    simp only [bytesAV, ih, Int.toNat_natCast]
    rw [UInt8.ofNat_toNat]
@[simp] theorem asl24 {nd : Nat} (h : nd ≤ 23) : aslice Tryz.prog 260 (.ptr 0 0) (some (.int .i64 1)) (some (.int .i64 ((1 + nd : Nat) : Int))) none = some (.bsl 0 1 1 nd 23) := by
  have e1 : ((1 + nd : Nat) : Int) ≤ 24 := by omega
  have e2 : (1 : Int) ≤ ((1 + nd : Nat) : Int) := by omega
  have e3 : ((1 + nd : Nat) : Int).toNat = 1 + nd := by omega
  simp [aslice, e1, e2, e3, -Int.natCast_add]
@[simp] theorem asl24h {nd : Nat} (h : nd ≤ 23) : aslice Tryz.prog 260 (.ptr 0 0) none (some (.int .i64 ((1 + nd : Nat) : Int))) none = some (.bsl 0 0 1 (1 + nd) 24) := by
  have e1 : ((1 + nd : Nat) : Int) ≤ 24 := by omega
  have e2 : (0 : Int) ≤ ((1 + nd : Nat) : Int) := by omega
  have e3 : ((1 + nd : Nat) : Int).toNat = 1 + nd := by omega
  simp [aslice, e1, e2, e3, -Int.natCast_add]
theorem low_numC (m u : Nat) : lowL m (numC u) = true := by
  unfold numC
  generalize nums u = l
  induction l with
  | nil => rfl
  | cons x l ih => simp [ih]
theorem fmtI_cs (n : Int) (h0 : -9223372036854775808 ≤ n) (h1 : n ≤ 9223372036854775807) (H : AH) : CS Tryz.prog envF 97 [.int .i64 n, .int .i64 10] H (.str (Lib.itoa n)) H := by
  have hL : ([fSmall, fNumd, fFb].map (·.f)).Nodup := show ([149, 150, 151] : List Nat).Nodup by decide
  have X := oOf_cx [fSmall, fNumd, fFb] methFOk mixed
  have f1 := fun (i : Nat) (h : i < 100) H => oOf_pure hL (show fSmall ∈ [fSmall, fNumd, fFb] by simp) i h H
  have f2 := fun (u : Nat) (h : 1 ≤ u ∧ u < 18446744073709551616) H => oOf_pure hL (show fNumd ∈ [fSmall, fNumd, fFb] by simp) u h H
  have f3 := fun (u : Nat) (h : u < 18446744073709551616) (h' : Lib.nDigits u ≤ 23) H => oOf_mem hL fFb (show fFb ∈ [fSmall, fNumd, fFb] by simp) (x := (u, 0)) (H := some (.box z24) :: H) ⟨h, h', rfl⟩
  generalize oOf [fSmall, fNumd, fFb] = O at X f1 f2 f3
  refine CS.tr0 lowF Tryz.func97 (by kernel_rfl) 0 (by simp [Tryz.f97]) (fun B hB hG => ?_) (by simp) (by simp) H
  refine Tr.goD X hG ?_
  have hsz : z24 = cellsAV (.agg z24) := rfl
  by_cases hs : 0 ≤ n ∧ n < 100
  · obtain ⟨i, rfl⟩ : ∃ i : Nat, n = i := ⟨n.toNat, by omega⟩
    have hi : i < 100 := by omega
    have f1 := f1 i hi
    have e1 : (i : Int) < 100 := by omega
    have e2 : Lib.itoa (i : Int) = Lib.decDigits i := by unfold Lib.itoa; rw [if_neg (by omega)]; rfl
    rw [e2]
    simp [Tryz.f97, e1, f1]
  · obtain ⟨u, hu⟩ : ∃ u, u = n.natAbs := ⟨_, rfl⟩
    have hu1 : 1 ≤ u := by omega
    have hu64 : u < 18446744073709551616 := by omega
    have hnd : Lib.nDigits u ≤ 20 := by
      have := Lib.numDigits_eq u hu1 hu64
      split at this <;> omega
    have f2 := f2 u ⟨hu1, hu64⟩
    have f3 := f3 u hu64 (by omega)
    simp only [fFb, numC_eq, z24] at f3
    simp [List.replicate] at f3
    have hdl := Lib.decDigits_length u
    obtain ⟨rest, hrest⟩ : ∃ rest, rest = strCells (Lib.decDigits u) ++ List.replicate (23 - Lib.nDigits u) (.int .u8 0) := ⟨_, rfl⟩
    have hlow : ∀ m, lowL m rest = true := fun m => by
      have := low_numC m u
      rw [numC_eq, ← hrest] at this
      simpa using this
    have hlen : rest.length = 23 := by rw [hrest, List.length_append, strCells_len, hdl, List.length_replicate]; omega
    have hby : bytesAV (rest.take (Lib.nDigits u)) = some (Lib.decDigits u) := by rw [hrest, ← hdl]; exact bytes_take _ _
    have hone : rest.all AV.one = true := by
      rw [hrest, List.all_append, Bool.and_eq_true]
      exact ⟨by simp [strCells, AV.one], by simp [AV.one]⟩
    rw [← hrest] at f3
    generalize Lib.nDigits u = nd at *
    have w1 : IntKind.i64.wrap (1 + (nd : Int)) = ((1 + nd : Nat) : Int) := by rw [wrap_i64 (by omega) (by omega)]; omega
    have hn23 : nd ≤ 23 := by omega
    have hn1 : 1 + nd ≤ 24 := by omega
    have hA : (1 : Int) ≤ ((1 + nd : Nat) : Int) := by omega
    have hB' : ((1 + nd : Nat) : Int) ≤ 24 := by omega
    have hC : (0 : Int) ≤ ((1 + nd : Nat) : Int) := by omega
    have hD : ¬ 24 = 1 := by decide
    by_cases hneg : n < 0
    · have w2 : IntKind.u64.wrap (-IntKind.u64.wrap n) = (u : Int) := by simp [IntKind.wrap, IntKind.bits, IntKind.signed]; omega
      have hi : Lib.itoa n = 45 :: Lib.decDigits u := by unfold Lib.itoa; rw [if_pos hneg, hu]
      have hg : ¬ 0 ≤ n := by omega
      have hb : bytesAV ((AV.int .u8 45 :: rest).take (1 + nd)) = some (45 :: Lib.decDigits u) := by
        rw [Nat.add_comm, List.take_succ_cons]
        simp only [bytesAV, hby]
        rfl
      rw [hi]
      simp [Tryz.f97, hneg, hg, w2, f2, w1, hn23, hn1, hA, hB', hC, f3, hlen, hb, -Int.natCast_add]
    · have hg : 0 ≤ n := by omega
      have hg2 : ¬ n < 100 := by omega
      have w2 : IntKind.u64.wrap n = (u : Int) := by simp [IntKind.wrap, IntKind.bits, IntKind.signed]; omega
      have hi : Lib.itoa n = Lib.decDigits u := by unfold Lib.itoa; rw [if_neg hneg, hu]; congr 1; omega
      rw [hi]
      simp [Tryz.f97, hneg, hg, hg2, w2, f2, w1, hn23, hn1, hA, hB', hC, f3, hlen, hby, -Int.natCast_add]
end Go.Proofs.YtejjlojfgcgopaaGreatDoor
namespace Go.Proofs.YtejjlojfgcgopaaGreatDoor
open Go.RowKit Go.Proofs.Fw
set_option maxRecDepth 100000
set_option maxHeartbeats 4000000
def I64 (n : Int) : Prop := -9223372036854775808 ≤ n ∧ n ≤ 9223372036854775807
noncomputable def fFmtI : Fact Tryz.prog envF := Fact.pure 97 I64 (fun n => [.int .i64 n, .int .i64 10]) (fun n => .str (Lib.itoa n)) (fun n h H => fmtI_cs n h.1 h.2 H) (fun x y _ _ h => by
  simp only [List.cons.injEq, AV.int.injEq, true_and, and_true] at h
  rw [h])
theorem fmt_cs (n : Int) (h : I64 n) (H : AH) : CS Tryz.prog envF 57 [.int .i64 n, .int .i64 10] H (.str (Lib.itoa n)) H := by
  have hL : ([fFmtI].map (·.f)).Nodup := show ([97] : List Nat).Nodup by decide
  have X := oOf_cx [fFmtI] methFOk mixed
  have f1 := fun H => oOf_pure hL (show fFmtI ∈ [fFmtI] by simp) n h H
  generalize oOf [fFmtI] = O at X f1
  refine CS.tr0 lowF Tryz.func57 (by kernel_rfl) 0 (by simp [Tryz.f57]) (fun B hB hG => ?_) (by simp) (by simp) H
  refine Tr.goD X hG ?_
  simp [Tryz.f57, f1]
noncomputable def fFmt : Fact Tryz.prog envF := Fact.pure 57 I64 (fun n => [.int .i64 n, .int .i64 10]) (fun n => .str (Lib.itoa n)) (fun n h H => fmt_cs n h H) (fun x y _ _ h => by
  simp only [List.cons.injEq, AV.int.injEq, true_and, and_true] at h
  rw [h])
theorem dec_len {u : Nat} (h : u < 18446744073709551616) : (Lib.decDigits u).length ≤ 20 := by
  rw [Lib.decDigits_length]
  by_cases h0 : u = 0
  · subst h0; rw [Lib.nDigits_small (by decide)]; decide
  · have := Lib.numDigits_eq u (by omega) h
    split at this <;> omega
theorem itoa_len {n : Int} (h : I64 n) : (Lib.itoa n).length ≤ 21 := by
  obtain ⟨h1, h2⟩ := h
  unfold Lib.itoa
  split
  · have := dec_len (u := n.natAbs) (by omega)
    simp only [List.length_cons]; omega
  · have := dec_len (u := n.toNat) (by omega)
    omega
noncomputable def fJoin : Fact Tryz.prog envF := Fact.pure 93 (fun x : Own × List (List UInt8) × List UInt8 => x.2.1 ≠ [] ∧ x.2.1.length ≤ 140737488355328 ∧ (Lib.join x.2.1 x.2.2).length ≤ 140737488355328) (fun x => [.slice x.1 1 x.2.1.length (x.2.1.map .str), .str x.2.2]) (fun x => .str (Lib.join x.2.1 x.2.2))
  (fun x h H => join_cs x.1 x.2.1 x.2.2 h.1 h.2.1 h.2.2 H) (fun x y _ _ h => by
    obtain ⟨a, b, c⟩ := x
    obtain ⟨a', b', c'⟩ := y
    simp only [List.cons.injEq, AV.slice.injEq, AV.str.injEq, and_true] at h
    simp only
    rw [strs_inj h.1.2.2.2, h.2])
theorem join_le {sep : List UInt8} {M : Nat} : ∀ {xs : List (List UInt8)}, (∀ s ∈ xs, s.length ≤ M) → (Lib.join xs sep).length ≤ xs.length * (M + sep.length)
  | [], _ => by simp [Lib.join]
  | [x], h => by
    rw [Lib.join_one]
    have := h x (by simp)
    simp only [List.length_cons, List.length_nil]
    omega
  | x :: y :: xs, h => by
    have e : Lib.join (x :: y :: xs) sep = x ++ sep ++ Lib.join (y :: xs) sep := by simp [Lib.join, List.intercalate]
    have ih := join_le (sep := sep) (M := M) (xs := y :: xs) fun s hs => h s (List.mem_cons_of_mem _ hs)
    have hx := h x List.mem_cons_self
    rw [e, List.length_append, List.length_append, List.length_cons, Nat.add_mul]
    omega
def leastT : List UInt8 := [40, 45, 57, 50, 50, 51, 51, 55, 50, 48, 51, 54, 56, 53, 52, 55, 55, 53, 56, 48, 55, 32, 45, 32, 49, 41]
def numT (n : Int) : List UInt8 := if n = -9223372036854775808 then leastT else if n < 0 then [40] ++ Lib.itoa n ++ [41] else Lib.itoa n
theorem numT_ok : NumOk I64 numT := fun n h H => by
  have hL : ([fFmt].map (·.f)).Nodup := show ([57] : List Nat).Nodup by decide
  have X := oOf_cx [fFmt] methFOk mixed
  have f1 := fun H => oOf_pure hL (show fFmt ∈ [fFmt] by simp) n h H
  have hl := itoa_len h
  generalize oOf [fFmt] = O at X f1
  refine CS.tr0 lowF Tryz.func94 (by kernel_rfl) 0 (by simp [Tryz.f94]) (fun B hB hG => ?_) (by simp) (by simp) H
  refine Tr.goD X hG ?_
  unfold numT
  generalize Lib.itoa n = s at *
  by_cases h1 : n = -9223372036854775808
  · subst h1
    simp [Tryz.f94, leastT]
  · rw [if_neg h1]
    have h1' : (n == -9223372036854775808) = false := by rw [beq_eq_false_iff_ne]; exact h1
    by_cases h2 : n < 0
    · have e1 : s.length ≤ 9223372036854775806 := by omega
      have e2 : s.length + 1 ≤ 9223372036854775807 := by omega
      have e3 : 1 + s.length ≤ 9223372036854775807 := by omega
      have e4 : s.length + 1 + 1 ≤ 9223372036854775807 := by omega
      have e5 : s.length ≤ 9223372036854775805 := by omega
      have e6 : 1 + s.length + 1 ≤ 9223372036854775807 := by omega
      simp [Tryz.f94, h1, h1', h2, f1, e1, e2, e3, e4, e5, e6]
    · simp [Tryz.f94, h1, h1', h2, f1]
end Go.Proofs.YtejjlojfgcgopaaGreatDoor

namespace Go.Proofs.YtejjlojfgcgopaaGreatDoor
open Go.RowKit Go.Proofs.Fw
set_option maxRecDepth 100000
set_option maxHeartbeats 4000000
def csT : List UInt8 := [44, 32]
def itemT (x : It) : List UInt8 := if x.dims = [] then x.name else x.name ++ ([40] ++ Lib.join (x.dims.map Lib.itoa) csT ++ [41])
def declT (l : List It) : List UInt8 := Lib.join (l.map itemT) csT
structure OkIt (x : It) : Prop where
  dims : x.dims.length ≤ 1000
  rng : ∀ n ∈ x.dims, I64 n
  name : x.name.length ≤ 1000000
theorem dims_len {d : List Int} (h1 : d.length ≤ 1000) (h2 : ∀ n ∈ d, I64 n) : (Lib.join (d.map Lib.itoa) csT).length ≤ 23000 := by
  have := join_le (sep := csT) (M := 21) (xs := d.map Lib.itoa) (by
    intro s hs
    obtain ⟨n, hn, rfl⟩ := List.mem_map.1 hs
    exact itoa_len (h2 n hn))
  rw [List.length_map] at this
  have e : csT.length = 2 := rfl
  rw [e] at this
  omega
theorem itemT_len {x : It} (h : OkIt x) : (itemT x).length ≤ 1023002 := by
  unfold itemT
  have h1 := h.name
  split
  · omega
  · have := dims_len h.dims h.rng
    simp only [List.length_append, List.length_cons, List.length_nil]
    omega
theorem declT_len {l : List It} (h : ∀ x ∈ l, OkIt x) (hl : l.length ≤ 1000000) : (declT l).length ≤ 2000000000000 := by
  have := join_le (sep := csT) (M := 1023002) (xs := l.map itemT) (by
    intro s hs
    obtain ⟨x, hx, rfl⟩ := List.mem_map.1 hs
    exact itemT_len (h x hx))
  rw [List.length_map] at this
  have e : csT.length = 2 := rfl
  rw [e] at this
  unfold declT
  omega
theorem elemStrP : elemChk Tryz.prog 23 1 = true := by kernel_rfl
@[simp high] theorem alenSit (l : List It) : alen Tryz.prog 24 (itE.av l) = some (.int .i64 l.length) := itE.alen Tryz.underlying24 l
@[simp high] theorem aidxSit {l : List It} {i : Nat} (h : i < l.length) : aindexAddr Tryz.prog 24 (itE.av l) (.int .i64 (i : Int)) = some (.vptr (itE.row l) (i * 2)) := itE.aidx Tryz.underlying24 (by kernel_rfl) h
@[simp high] theorem alenDimA (l : List Int) : alen Tryz.prog 49 (dimE.av l) = some (.int .i64 l.length) := dimE.alen Tryz.underlying49 l
@[simp high] theorem aidxDim {l : List Int} {i : Nat} (h : i < l.length) : aindexAddr Tryz.prog 49 (dimE.av l) (.int .i64 (i : Int)) = some (.vptr (dimE.row l) i) := by
  have := dimE.aidx (P := Tryz.prog) Tryz.underlying49 (by kernel_rfl) h
  rw [dim_sz, Nat.mul_one] at this
  exact this
@[simp] theorem immFSi : envF.imm 121 = false := by decide
theorem map_take_succ {α β : Type} (f : α → β) {l : List α} {i : Nat} {x : α} (h : l[i]? = some x) : (l.take (i + 1)).map f = (l.take i).map f ++ [f x] := by
  obtain ⟨hl, he⟩ := List.getElem?_eq_some_iff.1 h
  rw [List.take_succ_eq_append_getElem hl, List.map_append, he]
  rfl
def DeI (l : List It) (k : Nat) (t : List AV) (H : AH) : Prop :=
  ∃ i, i + k = l.length ∧ t = mkT 48 [(10, itE.av l), (11, .int .i64 (l.length : Int)), (12, .int .i64 (i : Int)), (3, strE.tk 0 ((l.take i).map itemT))] ∧ H = tokL ((l.take i).map itemT)
def DdI (l : List It) (i : Nat) (o : AV) (P : AH) (b T : Nat) (x : It) (k : Nat) (t : List AV) (H : AH) : Prop :=
  ∃ j, j + k = x.dims.length ∧ t = mkT 48 [(10, itE.av l), (11, .int .i64 (l.length : Int)), (12, .int .i64 (i : Int)), (3, o), (5, .ptr b 0), (6, .str x.name), (7, strE.tk T ((x.dims.take j).map Lib.itoa)), (23, dimE.av x.dims), (24, .int .i64 (x.dims.length : Int)), (25, .int .i64 (j : Int))] ∧
    H = P ++ some (.box [.str x.name, dimE.av x.dims]) :: tokL ((x.dims.take j).map Lib.itoa)
theorem decl_cs (l : List It) (hl0 : l ≠ []) (hl : l.length ≤ 1000000) (hok : ∀ x ∈ l, OkIt x) (H : AH) : CS Tryz.prog envF 55 [itE.av l] H (.str (declT l)) H := by
  have hL : ([fFmt, fJoin].map (·.f)).Nodup := show ([57, 93] : List Nat).Nodup by decide
  have X := oOf_cx [fFmt, fJoin] methFOk mixed
  have f1 := fun n (h : I64 n) H => oOf_pure hL (show fFmt ∈ [fFmt, fJoin] by simp) n h H
  have f2 := fun ow xs (h0 : xs ≠ []) (h1 : xs.length ≤ 140737488355328) (h2 : (Lib.join xs csT).length ≤ 140737488355328) H => oOf_pure hL (show fJoin ∈ [fFmt, fJoin] by simp) (ow, xs, csT) ⟨h0, h1, h2⟩ H
  generalize oOf [fFmt, fJoin] = O at X f1 f2
  refine CS.tr0 lowF Tryz.func55 (by kernel_rfl) 0 (by simp [Tryz.f55]) (fun B hB hG => ?_) (by simp) (by simp) H
  refine Tr.goD X hG ?_
  simp [Tryz.f55]
  refine LpD.loopN X hG (DeI l) l.length (t' := mkT 48 [(10, itE.av l), (11, .int .i64 (l.length : Int)), (12, .int .i64 ((0 : Nat) : Int)), (3, .nilSlice)]) (H' := []) (Less.mk0 hB (by simp)) ⟨0, by omega, rfl, rfl⟩ ?_
  rintro k t H ⟨i, hik, rfl, rfl⟩
  have hstr := fun (n : Nat) (l : List (List UInt8)) => strE.row_strip n l
  have hlow := fun (n : Nat) (l : List (List UInt8)) => strE.row_lowm n l
  simp only [csT] at f2
  simp at f2
  cases k with
  | zero =>
    obtain rfl : i = l.length := by omega
    have hn : ((l.map itemT).length : Nat) = l.length := List.length_map ..
    have hj := declT_len hok hl
    have hf := f2 (.tok 0) (l.map itemT) (by simpa using hl0) (by simp; omega) (by unfold declT csT at hj; omega)
    have htk : strE.tk 0 (l.map itemT) = .slice (.tok 0) 1 l.length ((l.map itemT).map .str) := by rw [strE.tk_ne 0 (by simpa using hl0), strE_row, hn]; rfl
    simp at hf
    rw [List.take_length, htk]
    simp [Blk_exit, hf, declT, csT]
  | succ k =>
    have hil : i < l.length := by omega
    have hil' : (i : Int) < l.length := by omega
    obtain ⟨x, hx⟩ : ∃ x, l[i]? = some x := ⟨_, List.getElem?_eq_getElem hil⟩
    have hxo := hok x (List.mem_of_getElem? hx)
    obtain ⟨c1, c2⟩ := itE.row_at l i hx
    simp only [it_sz, it_c] at c1 c2
    have hsucc := map_take_succ itemT hx
    have w1 : IntKind.i64.wrap ((i : Int) + 1) = ((i + 1 : Nat) : Int) := by rw [wrap_i64 (by omega) (by omega)]; omega
    have hti := itemT_len hxo
    have hnm := hxo.name
    have tlen : ((l.take i).map itemT).length = i := by rw [List.length_map, List.length_take]; omega
    generalize hout : (l.take i).map itemT = out at *
    have hit : itemT x = if x.dims = [] then x.name else x.name ++ (40 :: (Lib.join (x.dims.map Lib.itoa) csT ++ [41])) := by unfold itemT; simp
    have hnext : DeI l k (mkT 48 [(10, itE.av l), (11, .int .i64 (l.length : Int)), (12, .int .i64 ((i + 1 : Nat) : Int)), (3, strE.tk 0 (out ++ [itemT x]))]) (tokL (out ++ [itemT x])) := ⟨i + 1, by omega, by rw [hsucc], by rw [hsucc]⟩
    have hn1 : ∀ s : List UInt8, strE.tk 0 ([] ++ [s]) = .slice (.tok 0) 1 1 [.str s] := fun s => rfl
    have hn2 : ∀ s : List UInt8, tokL ([] ++ [s]) = [some (.tok 1)] := fun s => rfl
    have hc1 : ∀ (T : Nat) (y : List UInt8) (o : List (List UInt8)), strE.tk T (y :: o) = .slice (.tok T) 1 (o.length + 1) (strE.row (y :: o)) := fun T y o => rfl
    have hc2 : ∀ (T : Nat) (y : List UInt8) (o : List (List UInt8)) (s : List UInt8), strE.tk T (y :: o ++ [s]) = .slice (.tok T) 1 (o.length + 1 + 1) (strE.row (y :: o) ++ [.str s]) := fun T y o s => by rw [strE.tk_ne T (by simp), strE.row_append, List.length_append]; rfl
    have hc3 : ∀ (y : List UInt8) (o : List (List UInt8)) (s : List UInt8), tokL (y :: o ++ [s]) = [some (.tok (o.length + 1 + 1))] := fun y o s => by simp [tokL]
    have hlow2 : ∀ (m : Nat) (o : List (List UInt8)) (s : List UInt8), lowL m (strE.row o ++ [.str s]) = true := fun m o s => by rw [lowL_append, hlow]; rfl
    have hit : itemT x = if x.dims = [] then x.name else x.name ++ (40 :: (Lib.join (x.dims.map Lib.itoa) csT ++ [41])) := by unfold itemT; simp
    have c1s : x.name.length ≤ 1000000 := hxo.name
    by_cases hd0 : x.dims = []
    · rw [if_pos hd0] at hit
      rw [hit] at hnext
      have hd : (dimE.av x.dims) = .nilSlice := by rw [hd0]; rfl
      rw [hd] at c1
      have hdl : x.dims.length = 0 := by rw [hd0]; rfl
      cases out with
      | nil =>
        have happ := fun H ow => aappend_nil (P := Tryz.prog) (t := 23) (sz := 1) (m := 1) (H := H) (fid := 1) (ow := ow) (ys := [.str x.name]) elemStrP (by decide) (by decide) (by simp)
        rw [hn1, hn2] at hnext
        simp [hil, hil', c1, c2, happ, w1, -Int.natCast_add]
        exact Nxt.mk k (by omega) (Less.mkV (l' := [(10, itE.av l), (11, .int .i64 (l.length : Int)), (12, .int .i64 ((i + 1 : Nat) : Int)), (3, .slice (.tok 0) 1 1 [.str x.name])]) (H' := [some (.tok 1)]) 100 (fun _ => 1) 1 (by simp [hB]) (by intro a b ha hb _; omega) (by simp [hB]) rfl (by
          intro i hi
          obtain rfl : i = 0 := by omega
          simp [AH.at, renE]) (by simp) (by simp [ren, renL, strip, stripL, itE.av_ren, itE.av_strip])) hnext
      | cons y out =>
        have happ := fun H ow (h : AH.at H 0 = some (.tok (out.length + 1))) => aappend_tok (P := Tryz.prog) (t := 23) (sz := 1) (n := out.length + 1) (m := 1) (H := H) (fid := 2) (ow := ow) (xs := strE.row (y :: out)) (ys := [.str x.name]) elemStrP h (by decide) (by simp at tlen; omega) (by simp)
        rw [hc2, hc3] at hnext
        simp [hil, hil', c1, c2, happ, w1, hc1, -Int.natCast_add]
        exact Nxt.mk k (by omega) (Less.mkK 1 (by simp [hB]) (by simp) (by simp [hlow2]) (by simp)) hnext
    · rw [if_neg hd0] at hit
      have hdl : 0 < x.dims.length := List.length_pos_iff.2 hd0
      have hdl' : (0 : Int) < x.dims.length := by omega
      have hdims := hxo.dims
      have hjl := dims_len hxo.dims hxo.rng
      have fj := fun ow => f2 ow (x.dims.map Lib.itoa) (by simpa using hd0) (by simp; omega) (by unfold csT at hjl; omega)
      have hcs : Lib.join (x.dims.map Lib.itoa) csT = Lib.join (x.dims.map Lib.itoa) [44, 32] := rfl
      rw [hcs] at hit hjl
      generalize Lib.join (x.dims.map Lib.itoa) [44, 32] = J at *
      have hfull : (x.dims.take x.dims.length).map Lib.itoa = x.dims.map Lib.itoa := by rw [List.take_length]
      have htkd : ∀ T, strE.tk T (x.dims.map Lib.itoa) = .slice (.tok T) 1 x.dims.length ((x.dims.map Lib.itoa).map .str) := fun T => by rw [strE.tk_ne T (by simpa using hd0), strE_row, List.length_map]; rfl
      have htok : tokL (x.dims.map Lib.itoa) = [some (.tok x.dims.length)] := by unfold tokL; rw [if_neg (by simpa using hd0), List.length_map]
      have b1 : J.length ≤ 9223372036854775806 := by omega
      have b2 : J.length + 1 ≤ 9223372036854775807 := by omega
      have b3 : 1 + J.length ≤ 9223372036854775807 := by omega
      have b4 : J.length + 1 + 1 ≤ 9223372036854775807 := by omega
      have b5 : x.name.length + (J.length + 1 + 1) ≤ 9223372036854775807 := by omega
      have b6 : J.length ≤ 9223372036854775805 := by omega
      have b7 : 1 + J.length + 1 ≤ 9223372036854775807 := by omega
      rw [hit] at hnext hti
      simp at fj
      cases out with
      | nil =>
        simp [hil, hil', c1, c2, hdl, hdl', hc1]
        refine LpD.loopN X hG (DdI l i (.nilSlice) [] 0 1 x) x.dims.length (t' := mkT 48 [(10, itE.av l), (11, .int .i64 (l.length : Int)), (12, .int .i64 (i : Int)), (3, .nilSlice), (5, .ptr 0 0), (6, .str x.name), (7, .nilSlice), (23, dimE.av x.dims), (24, .int .i64 (x.dims.length : Int)), (25, .int .i64 ((0 : Nat) : Int))]) (H' := some (.box [.str x.name, dimE.av x.dims]) :: [])
          (Less.mkK 1 (by simp [hB]) (by simp [hlow]) (by simp [hlow]) (by simp [hlow])) ⟨0, by omega, rfl, rfl⟩ ?_
        rintro k2 t H ⟨j, hjk, rfl, rfl⟩
        cases k2 with
        | zero =>
          obtain rfl : j = x.dims.length := by omega
          rw [hfull, htkd, htok]
          have happ := fun H ow s => aappend_nil (P := Tryz.prog) (t := 23) (sz := 1) (m := 1) (H := H) (fid := 2) (ow := ow) (ys := [.str s]) elemStrP (by decide) (by decide) (by simp)
          rw [hn1, hn2] at hnext
          simp [Blk_exit, fj, b1, b2, b3, b4, b5, b6, b7, happ, w1, -Int.natCast_add]
          exact Nxt.mk k (by omega) (Less.mkV (l' := [(10, itE.av l), (11, .int .i64 (l.length : Int)), (12, .int .i64 ((i + 1 : Nat) : Int)), (3, .slice (.tok 0) 1 1 [.str (x.name ++ 40 :: (J ++ [41]))])]) (H' := [some (.tok 1)]) 100 (fun _ => 2) 1 (by simp [hB]) (by intro a b ha hb _; omega) (by simp [hB]) rfl (by
            intro i hi
            obtain rfl : i = 0 := by omega
            simp [AH.at, renE]) (by simp) (by simp [ren, renL, strip, stripL, itE.av_ren, itE.av_strip])) hnext
        | succ k2 =>
          have hjn : j < x.dims.length := by omega
          have hjn' : (j : Int) < x.dims.length := by omega
          obtain ⟨z, hz⟩ : ∃ z, x.dims[j]? = some z := ⟨_, List.getElem?_eq_getElem hjn⟩
          have hzr := hxo.rng z (List.mem_of_getElem? hz)
          have cz : (dimE.row x.dims)[j]? = some (.int .i64 z) := by
            have := dimE.row_cell hz 0 (by decide)
            rw [dim_sz, Nat.mul_one, Nat.add_zero] at this
            exact this
          have f1 := f1 z hzr
          have hs2 := map_take_succ Lib.itoa hz
          have w2 : IntKind.i64.wrap ((j : Int) + 1) = ((j + 1 : Nat) : Int) := by rw [wrap_i64 (by omega) (by omega)]; omega
          have tl2 : ((x.dims.take j).map Lib.itoa).length = j := by rw [List.length_map, List.length_take]; omega
          have hnx : DdI l i (.nilSlice) [] 0 1 x k2 (mkT 48 [(10, itE.av l), (11, .int .i64 (l.length : Int)), (12, .int .i64 (i : Int)), (3, .nilSlice), (5, .ptr 0 0), (6, .str x.name), (7, strE.tk 1 ((x.dims.take j).map Lib.itoa ++ [Lib.itoa z])), (23, dimE.av x.dims), (24, .int .i64 (x.dims.length : Int)), (25, .int .i64 ((j + 1 : Nat) : Int))]) (some (.box [.str x.name, dimE.av x.dims]) :: tokL ((x.dims.take j).map Lib.itoa ++ [Lib.itoa z])) := ⟨j + 1, by omega, by rw [hs2], by rw [hs2]; rfl⟩
          generalize (x.dims.take j).map Lib.itoa = dout at *
          generalize Lib.itoa z = s at *
          cases dout with
          | nil =>
            have happ := fun H ow => aappend_nil (P := Tryz.prog) (t := 23) (sz := 1) (m := 1) (H := H) (fid := 1) (ow := ow) (ys := [.str s]) elemStrP (by decide) (by decide) (by simp)
            have hm1 : strE.tk 1 ([] ++ [s]) = .slice (.tok 1) 1 1 [.str s] := rfl
            have hm2 : tokL ([] ++ [s]) = [some (.tok 1)] := rfl
            rw [hm1, hm2] at hnx
            simp [hjn, hjn', cz, f1, happ, w2, -Int.natCast_add]
            exact Nxt.mk k2 (by omega) (Less.mkK 2 (by simp [hB]) (by simp) (by simp [hlow]) (by simp)) hnx
          | cons y2 dout =>
            have happ := fun H ow (h : AH.at H 1 = some (.tok (dout.length + 1))) => aappend_tok (P := Tryz.prog) (t := 23) (sz := 1) (n := dout.length + 1) (m := 1) (H := H) (fid := 2) (ow := ow) (xs := strE.row (y2 :: dout)) (ys := [.str s]) elemStrP h (by decide) (by simp at tl2; omega) (by simp)
            rw [hc2, hc3] at hnx
            simp [hjn, hjn', cz, f1, happ, w2, hc1, -Int.natCast_add]
            exact Nxt.mk k2 (by omega) (Less.mkK 2 (by simp [hB]) (by simp) (by simp [hlow, hlow2]) (by simp)) hnx
      | cons y out =>
        simp [hil, hil', c1, c2, hdl, hdl', hc1]
        refine LpD.loopN X hG (DdI l i (.slice (.tok 0) 1 (out.length + 1) (strE.row (y :: out))) [some (.tok (out.length + 1))] 1 2 x) x.dims.length (t' := mkT 48 [(10, itE.av l), (11, .int .i64 (l.length : Int)), (12, .int .i64 (i : Int)), (3, .slice (.tok 0) 1 (out.length + 1) (strE.row (y :: out))), (5, .ptr 1 0), (6, .str x.name), (7, .nilSlice), (23, dimE.av x.dims), (24, .int .i64 (x.dims.length : Int)), (25, .int .i64 ((0 : Nat) : Int))]) (H' := some (.tok (out.length + 1)) :: some (.box [.str x.name, dimE.av x.dims]) :: [])
          (Less.mkK 2 (by simp [hB]) (by simp [hlow]) (by simp [hlow]) (by simp [hlow])) ⟨0, by omega, rfl, rfl⟩ ?_
        rintro k2 t H ⟨j, hjk, rfl, rfl⟩
        cases k2 with
        | zero =>
          obtain rfl : j = x.dims.length := by omega
          rw [hfull, htkd, htok]
          have happ := fun H ow s (h : AH.at H 0 = some (.tok (out.length + 1))) => aappend_tok (P := Tryz.prog) (t := 23) (sz := 1) (n := out.length + 1) (m := 1) (H := H) (fid := 3) (ow := ow) (xs := strE.row (y :: out)) (ys := [.str s]) elemStrP h (by decide) (by simp at tlen; omega) (by simp)
          rw [hc2, hc3] at hnext
          simp [Blk_exit, fj, b1, b2, b3, b4, b5, b6, b7, happ, w1, -Int.natCast_add]
          exact Nxt.mk k (by omega) (Less.mkK 1 (by simp [hB]) (by simp) (by simp [hlow2]) (by simp)) hnext
        | succ k2 =>
          have hjn : j < x.dims.length := by omega
          have hjn' : (j : Int) < x.dims.length := by omega
          obtain ⟨z, hz⟩ : ∃ z, x.dims[j]? = some z := ⟨_, List.getElem?_eq_getElem hjn⟩
          have hzr := hxo.rng z (List.mem_of_getElem? hz)
          have cz : (dimE.row x.dims)[j]? = some (.int .i64 z) := by
            have := dimE.row_cell hz 0 (by decide)
            rw [dim_sz, Nat.mul_one, Nat.add_zero] at this
            exact this
          have f1 := f1 z hzr
          have hs2 := map_take_succ Lib.itoa hz
          have w2 : IntKind.i64.wrap ((j : Int) + 1) = ((j + 1 : Nat) : Int) := by rw [wrap_i64 (by omega) (by omega)]; omega
          have tl2 : ((x.dims.take j).map Lib.itoa).length = j := by rw [List.length_map, List.length_take]; omega
          have hnx : DdI l i (.slice (.tok 0) 1 (out.length + 1) (strE.row (y :: out))) [some (.tok (out.length + 1))] 1 2 x k2 (mkT 48 [(10, itE.av l), (11, .int .i64 (l.length : Int)), (12, .int .i64 (i : Int)), (3, .slice (.tok 0) 1 (out.length + 1) (strE.row (y :: out))), (5, .ptr 1 0), (6, .str x.name), (7, strE.tk 2 ((x.dims.take j).map Lib.itoa ++ [Lib.itoa z])), (23, dimE.av x.dims), (24, .int .i64 (x.dims.length : Int)), (25, .int .i64 ((j + 1 : Nat) : Int))]) (some (.tok (out.length + 1)) :: some (.box [.str x.name, dimE.av x.dims]) :: tokL ((x.dims.take j).map Lib.itoa ++ [Lib.itoa z])) := ⟨j + 1, by omega, by rw [hs2], by rw [hs2]; rfl⟩
          generalize (x.dims.take j).map Lib.itoa = dout at *
          generalize Lib.itoa z = s at *
          cases dout with
          | nil =>
            have happ := fun H ow => aappend_nil (P := Tryz.prog) (t := 23) (sz := 1) (m := 1) (H := H) (fid := 2) (ow := ow) (ys := [.str s]) elemStrP (by decide) (by decide) (by simp)
            have hm1 : strE.tk 2 ([] ++ [s]) = .slice (.tok 2) 1 1 [.str s] := rfl
            have hm2 : tokL ([] ++ [s]) = [some (.tok 1)] := rfl
            rw [hm1, hm2] at hnx
            simp [hjn, hjn', cz, f1, happ, w2, -Int.natCast_add]
            exact Nxt.mk k2 (by omega) (Less.mkK 3 (by simp [hB]) (by simp) (by simp [hlow]) (by simp)) hnx
          | cons y2 dout =>
            have happ := fun H ow (h : AH.at H 2 = some (.tok (dout.length + 1))) => aappend_tok (P := Tryz.prog) (t := 23) (sz := 1) (n := dout.length + 1) (m := 1) (H := H) (fid := 3) (ow := ow) (xs := strE.row (y2 :: dout)) (ys := [.str s]) elemStrP h (by decide) (by simp at tl2; omega) (by simp)
            rw [hc2, hc3] at hnx
            simp [hjn, hjn', cz, f1, happ, w2, hc1, -Int.natCast_add]
            exact Nxt.mk k2 (by omega) (Less.mkK 3 (by simp [hB]) (by simp) (by simp [hlow, hlow2]) (by simp)) hnx
end Go.Proofs.YtejjlojfgcgopaaGreatDoor
namespace Go.Proofs.YtejjlojfgcgopaaGreatDoor
open Go.RowKit Go.Proofs.Fw
set_option maxRecDepth 100000
set_option maxHeartbeats 4000000
structure TnOk (t : Tn) : Prop where
  ok : okT t = true
  good : good I64 t
  len : (txt numT t).length < 1099511627776
noncomputable def fTxt : Fact Tryz.prog envF := Fact.pure 56 TnOk (fun t => [.agg (tC t)]) (fun t => .str (txt numT t)) (fun t h H => text_cs numT_ok t h.ok h.good h.len H) (fun x y _ _ h => by
  simp only [List.cons.injEq, AV.agg.injEq, and_true] at h
  rw [tC_inj x y h])
noncomputable def fCtx : Fact Tryz.prog envF := Fact.pure 58 (fun x : List UInt8 × Tn × Tn => TnOk x.2.1 ∧ TnOk x.2.2 ∧ x.1.length < 1099511627776) (fun x => [.agg (.str x.1 :: (tC x.2.1 ++ tC x.2.2))]) (fun x => .str (txt numT x.2.1 ++ [32] ++ x.1 ++ [32] ++ txt numT x.2.2))
  (fun x h H => condText_cs numT_ok x.1 x.2.1 x.2.2 h.1.ok h.2.1.ok h.1.good h.2.1.good h.1.len h.2.1.len h.2.2 H) (fun x y _ _ h => by
    obtain ⟨a, b, c⟩ := x
    obtain ⟨a', b', c'⟩ := y
    simp only [List.cons.injEq, AV.agg.injEq, AV.str.injEq, and_true] at h
    obtain ⟨h1, h2⟩ := h
    obtain ⟨h2, h3⟩ := List.append_inj h2 (by simp)
    simp only
    rw [h1, tC_inj _ _ h2, tC_inj _ _ h3])
structure ItsOk (l : List It) : Prop where
  ne : l ≠ []
  len : l.length ≤ 1000000
  ok : ∀ x ∈ l, OkIt x
noncomputable def fDecl : Fact Tryz.prog envF := Fact.pure 55 ItsOk (fun l => [itE.av l]) (fun l => .str (declT l)) (fun l h H => decl_cs l h.ne h.len h.ok H) (fun x y _ _ h => by
  simp only [List.cons.injEq, and_true] at h
  rw [itE.av_inj h])
def tDo : List UInt8 := [100, 111, 32]
def tIs : List UInt8 := [32, 61, 32]
def tInt : List UInt8 := [105, 110, 116, 101, 103, 101, 114, 32]
def tIf : List UInt8 := [105, 102, 32, 40]
def tThen : List UInt8 := [41, 32, 116, 104, 101, 110]
def tEndDo : List UInt8 := [101, 110, 100, 32, 100, 111]
def tEndIf : List UInt8 := [101, 110, 100, 32, 105, 102]
def tElse : List UInt8 := [101, 108, 115, 101]
def tRead : List UInt8 := [114, 101, 97, 100, 32]
def tPrint : List UInt8 := [112, 114, 105, 110, 116, 32]
def stmtT (x : Sx) : List UInt8 :=
  if x.kind = 1 then tInt ++ declT x.items
  else if x.kind = 2 then txt numT x.to ++ (tIs ++ txt numT x.e)
  else if x.kind = 3 then tDo ++ (x.name ++ (tIs ++ (txt numT x.lo ++ (csT ++ (txt numT x.hi ++ (if x.step = 1 then [] else csT ++ Lib.itoa x.step))))))
  else if x.kind = 4 then tEndDo
  else if x.kind = 5 then tIf ++ ((txt numT x.ca ++ [32] ++ x.op ++ [32] ++ txt numT x.cb) ++ tThen)
  else if x.kind = 6 then tElse
  else if x.kind = 7 then tEndIf
  else if x.kind = 8 then tRead ++ txt numT x.to
  else if x.kind = 9 then tPrint ++ txt numT x.e
  else []
structure SxOk (x : Sx) : Prop where
  items : x.kind = 1 → ItsOk x.items
  to : x.kind = 2 ∨ x.kind = 8 → TnOk x.to
  e : x.kind = 2 ∨ x.kind = 9 → TnOk x.e
  lo : x.kind = 3 → TnOk x.lo
  hi : x.kind = 3 → TnOk x.hi
  step : x.kind = 3 → I64 x.step
  name : x.kind = 3 → x.name.length < 1099511627776
  ca : x.kind = 5 → TnOk x.ca
  cb : x.kind = 5 → TnOk x.cb
  op : x.kind = 5 → x.op.length < 1099511627776
theorem stext_cs (x : Sx) (h : SxOk x) (H : AH) : CS Tryz.prog envF 17 [.agg x.c] H (.str (stmtT x)) H := by
  have hL : ([fTxt, fCtx, fDecl, fFmt].map (·.f)).Nodup := show ([56, 58, 55, 57] : List Nat).Nodup by decide
  have X := oOf_cx [fTxt, fCtx, fDecl, fFmt] methFOk mixed
  have f1 := fun t (h : TnOk t) H => oOf_pure hL (show fTxt ∈ [fTxt, fCtx, fDecl, fFmt] by simp) t h H
  have f2 := fun op a b (h1 : TnOk a) (h2 : TnOk b) (h3 : op.length < 1099511627776) H => oOf_pure hL (show fCtx ∈ [fTxt, fCtx, fDecl, fFmt] by simp) (op, a, b) ⟨h1, h2, h3⟩ H
  have f3 := fun l (h : ItsOk l) H => oOf_pure hL (show fDecl ∈ [fTxt, fCtx, fDecl, fFmt] by simp) l h H
  have f4 := fun n (h : I64 n) H => oOf_pure hL (show fFmt ∈ [fTxt, fCtx, fDecl, fFmt] by simp) n h H
  generalize oOf [fTxt, fCtx, fDecl, fFmt] = O at X f1 f2 f3 f4
  simp only [tC_eq, List.cons_append, List.nil_append] at f1 f2
  refine CS.tr0 lowF Tryz.func17 (by kernel_rfl) 0 (by simp [Tryz.f17]) (fun B hB hG => ?_) (by simp) (by simp [Sx.c_low]) H
  refine Tr.goD X hG ?_
  unfold stmtT
  have hx : x.c = Sx.c x := rfl
  simp only [hx, Sx.c]
  simp [Tryz.f17]
  refine LpD.turns X hG [2, 4] [(0, 2), (1, 2)] ?_
  simp
  by_cases k1 : x.kind = 1
  · have hi := h.items k1
    have g := f3 _ hi
    have hl := declT_len hi.ok hi.len
    generalize declT x.items = s at *
    have b1 : s.length ≤ 9223372036854775799 := by omega
    have b2 : 8 + s.length ≤ 9223372036854775807 := by omega
    have b3 : s.length + 8 ≤ 9223372036854775807 := by omega
    simp [k1, Blk_exit, g, b1, b2, b3, tInt]
  · by_cases k2 : x.kind = 2
    · have o1 := h.to (.inl k2)
      have o2 := h.e (.inl k2)
      have g1 := f1 _ o1
      have g2 := f1 _ o2
      have l1 := o1.len
      have l2 := o2.len
      generalize txt numT x.to = s at *
      generalize txt numT x.e = r at *
      have b1 : s.length + 3 ≤ 9223372036854775807 := by omega
      have b2 : s.length + 3 + r.length ≤ 9223372036854775807 := by omega
      have b3 : s.length ≤ 9223372036854775804 := by omega
      have b4 : s.length + (r.length + 3) ≤ 9223372036854775807 := by omega
      simp [k2, Blk_exit]
      refine LpD.turns X hG [2, 6] [(2, 4), (2, 5), (3, 6)] ?_
      simp [g1, g2, b1, b2, b3, b4, tIs]
    · by_cases k3 : x.kind = 3
      · have o1 := h.lo k3
        have o2 := h.hi k3
        have o3 := h.step k3
        have o4 := h.name k3
        have g1 := f1 _ o1
        have g2 := f1 _ o2
        have g3 := f4 _ o3
        have l1 := o1.len
        have l2 := o2.len
        have l3 := itoa_len o3
        generalize txt numT x.lo = s at *
        generalize txt numT x.hi = r at *
        generalize Lib.itoa x.step = q at *
        generalize x.name = nm at *
        simp [k3, Blk_exit]
        refine LpD.turns X hG [6, 11] [(0, 6), (0, 11), (1, 6), (1, 11), (2, 6), (2, 11), (3, 6), (3, 11), (6, 9), (6, 10), (7, 11), (8, 11)] ?_
        have y0 : nm.length + 3 + 1 + 1 + 1 + s.length ≤ 9223372036854775807 := by omega
        have y1 : nm.length + (s.length + 3) + 1 + 1 + 1 ≤ 9223372036854775805 := by omega
        have y2 : nm.length + (s.length + 3) + 1 + 1 + 1 ≤ 9223372036854775807 := by omega
        have y3 : nm.length + (s.length + 3) + 1 + 1 + 1 + 2 ≤ 9223372036854775807 := by omega
        have y4 : nm.length + (s.length + 3) ≤ 9223372036854775802 := by omega
        have y5 : nm.length + (s.length + 2 + 3) + 1 + 1 + 1 + r.length ≤ 9223372036854775807 := by omega
        have y6 : nm.length + (s.length + 2 + 1 + 1 + 1) + 1 + 1 + 1 + r.length ≤ 9223372036854775807 := by omega
        have z0 : 3 + nm.length ≤ 9223372036854775807 := by omega
        have z1 : nm.length ≤ 9223372036854775801 := by omega
        have z2 : nm.length + 1 + 1 + 1 + 3 ≤ 9223372036854775807 := by omega
        have z3 : nm.length + 3 ≤ 9223372036854775804 := by omega
        by_cases hs : x.step = 1
        · have hs' : (x.step != 1) = false := by rw [hs]; rfl
          simp [z0, z1, z2, z3, y0, y1, y2, y3, y4, y5, y6, g1, g2, hs, hs', tDo, tIs, csT]
        · have hs' : (x.step != 1) = true := by rw [bne_iff_ne]; exact hs
          have x0 : 2 + q.length ≤ 9223372036854775807 := by omega
          have x1 : q.length ≤ 9223372036854775805 := by omega
          have x2 : nm.length + (s.length + (r.length + 1 + 1) + 1 + 1 + 1) + 1 + 1 + 1 + (q.length + 1 + 1) ≤ 9223372036854775807 := by omega
          simp [z0, z1, z2, z3, y0, y1, y2, y3, y4, y5, y6, x0, x1, x2, g1, g2, g3, hs, hs', tDo, tIs, csT]
      · by_cases k4 : x.kind = 4
        · simp [k4, Blk_exit, tEndDo]
        · by_cases k5 : x.kind = 5
          · have o1 := h.ca k5
            have o2 := h.cb k5
            have o3 := h.op k5
            have g1 := f2 _ _ _ o1 o2 o3
            have l1 := o1.len
            have l2 := o2.len
            generalize txt numT x.ca = s at *
            generalize txt numT x.cb = r at *
            generalize x.op = op at *
            have hq : (s ++ [32] ++ op ++ [32] ++ r).length < 2100000000000000 := by simp; omega
            simp only [List.append_assoc] at g1 hq ⊢
            generalize hqq : s ++ ([32] ++ (op ++ ([32] ++ r))) = q at *
            have z0 : 4 + q.length ≤ 9223372036854775807 := by omega
            have z1 : q.length ≤ 9223372036854775797 := by omega
            simp [k5, Blk_exit, g1, z0, z1, tIf, tThen]
            rw [← hqq]
            simp
          · by_cases k6 : x.kind = 6
            · simp [k6, Blk_exit, tElse]
            · by_cases k7 : x.kind = 7
              · simp [k7, Blk_exit, tEndIf]
              · by_cases k8 : x.kind = 8
                · have o1 := h.to (.inr k8)
                  have g1 := f1 _ o1
                  have l1 := o1.len
                  generalize txt numT x.to = s at *
                  simp [k8, Blk_exit]
                  refine LpD.turns X hG [3] [] ?_
                  have z0 : 5 + s.length ≤ 9223372036854775807 := by omega
                  simp [g1, Blk_exit, z0, tRead]
                · by_cases k9 : x.kind = 9
                  · have o1 := h.e (.inr k9)
                    have g1 := f1 _ o1
                    have l1 := o1.len
                    generalize txt numT x.e = s at *
                    have z0 : 6 + s.length ≤ 9223372036854775807 := by omega
                    simp [k9, Blk_exit, g1, z0, tPrint]
                  · simp [k1, k2, k3, k4, k5, k6, k7, k8, k9, Blk_exit]
end Go.Proofs.YtejjlojfgcgopaaGreatDoor

namespace Go.Proofs.YtejjlojfgcgopaaGreatDoor
open Go.RowKit Go.Proofs.Fw
set_option maxRecDepth 100000
set_option maxHeartbeats 4000000
def decK : Nat → Nat → List UInt8
  | 0, u => [UInt8.ofNat (48 + u)]
  | n + 1, u => if u < 10 then [UInt8.ofNat (48 + u)] else decK n (u / 10) ++ [UInt8.ofNat (48 + u % 10)]
theorem decK_eq : ∀ (n u : Nat), u < 10 ^ (n + 1) → decK n u = Lib.decDigits u
  | 0, u, h => by rw [Lib.decDigits, dif_pos (by simpa using h)]; rfl
  | n + 1, u, h => by
    rw [decK, Lib.decDigits]
    split
    · rfl
    · rw [decK_eq n (u / 10) (by rw [Nat.pow_succ] at h; omega)]
def itoaK (n : Int) : List UInt8 := if n < 0 then 45 :: decK 19 n.natAbs else decK 19 n.toNat
theorem itoaK_eq {n : Int} (h : I64 n) : Lib.itoa n = itoaK n := by
  obtain ⟨h1, h2⟩ := h
  have hp : (10 : Nat) ^ (19 + 1) = 100000000000000000000 := by decide
  unfold Lib.itoa itoaK
  split
  · rw [decK_eq 19 _ (by rw [hp]; omega)]
  · rw [decK_eq 19 _ (by rw [hp]; omega)]
def numK (n : Int) : List UInt8 := if n = -9223372036854775808 then leastT else if n < 0 then [40] ++ itoaK n ++ [41] else itoaK n
theorem numK_eq {n : Int} (h : I64 n) : numT n = numK n := by unfold numT numK; rw [itoaK_eq h]
def i64B (n : Int) : Bool := decide (-9223372036854775808 ≤ n) && decide (n ≤ 9223372036854775807)
theorem i64B_ok {n : Int} (h : i64B n = true) : I64 n := by
  simp only [i64B, Bool.and_eq_true, decide_eq_true_eq] at h
  exact h
theorem wordsT_ext {nt nt' : Int → List UInt8} {k n : Int} {s : List UInt8} {a : List Tn} {x : List (List UInt8)} (h : k = 1 → nt n = nt' n) : wordsT nt k n s a x = wordsT nt' k n s a x := by
  unfold wordsT
  by_cases hk : k = 1
  · rw [if_pos hk, if_pos hk, h hk]
  · rw [if_neg hk, if_neg hk]
theorem wordsT_12 {nt : Int → List UInt8} {k n : Int} {s : List UInt8} {a : List Tn} {x y : List (List UInt8)} (h : k = 1 ∨ k = 2) : wordsT nt k n s a x = wordsT nt k n s a y := by
  unfold wordsT
  rcases h with rfl | rfl <;> simp
theorem gk_num {S : Int → Prop} {k n : Int} {m : Nat} (h : gk S k n m) (hk : k = 1) : S n := by
  rcases h with h | h | h | h | h
  · exact h.2
  · omega
  · omega
  · omega
  · omega
mutual
theorem txt_ext {S : Int → Prop} {nt nt' : Int → List UInt8} (h : ∀ n, S n → nt n = nt' n) : ∀ t : Tn, good S t → txt nt t = txt nt' t
  | .lf k n s, hg => by
    simp only [txt]
    exact wordsT_ext fun hk => h n (gk_num hg hk)
  | .nd k n s a, hg => by
    simp only [txt]
    rcases hg.2 with hk | hk
    · rw [wordsT_12 hk (y := txts nt' a)]
      exact wordsT_ext fun hk => h n (gk_num hg.1 hk)
    · rw [txts_ext h a hk]
      exact wordsT_ext fun hk => h n (gk_num hg.1 hk)
theorem txts_ext {S : Int → Prop} {nt nt' : Int → List UInt8} (h : ∀ n, S n → nt n = nt' n) : ∀ l : List Tn, goods S l → txts nt l = txts nt' l
  | [], _ => rfl
  | t :: l, hg => by
    simp only [txts]
    rw [txt_ext h t hg.1, txts_ext h l hg.2]
end
def tnB (t : Tn) : Bool := okT t && goodB i64B t && decide ((txt numK t).length < 1000000)
theorem good_mono {S S' : Int → Prop} (h : ∀ n, S n → S' n) : ∀ t : Tn, good S t → good S' t := by
  have hk : ∀ k n m, gk S k n m → gk S' k n m := fun k n m hg => by
    rcases hg with h1 | h1 | h1 | h1 | h1
    · exact .inl ⟨h1.1, h n h1.2⟩
    · exact .inr (.inl h1)
    · exact .inr (.inr (.inl h1))
    · exact .inr (.inr (.inr (.inl h1)))
    · exact .inr (.inr (.inr (.inr h1)))
  intro t
  refine Tn.rec (motive_1 := fun t => good S t → good S' t) (motive_2 := fun l => goods S l → goods S' l) ?_ ?_ ?_ ?_ t
  · intro k n s hg; exact hk _ _ _ hg
  · intro k n s a ih hg
    refine ⟨hk _ _ _ hg.1, ?_⟩
    rcases hg.2 with h1 | h1
    · exact .inl h1
    · exact .inr (ih h1)
  · intro _; trivial
  · intro t l h1 h2 hg; exact ⟨h1 hg.1, h2 hg.2⟩
theorem tnB_ok {t : Tn} (h : tnB t = true) : TnOk t ∧ txt numT t = txt numK t := by
  simp only [tnB, Bool.and_eq_true, decide_eq_true_eq] at h
  have hg := good_mono (fun n hn => i64B_ok hn) t (goodB_ok t h.1.2)
  have he : txt numT t = txt numK t := txt_ext (fun n hn => numK_eq hn) t hg
  exact ⟨⟨h.1.1, hg, by rw [he]; omega⟩, he⟩
def itB (x : It) : Bool := decide (x.dims.length ≤ 1000) && x.dims.all i64B && decide (x.name.length ≤ 1000000)
theorem itB_ok {x : It} (h : itB x = true) : OkIt x := by
  simp only [itB, Bool.and_eq_true, decide_eq_true_eq] at h
  exact ⟨h.1.1, fun n hn => i64B_ok (List.all_eq_true.1 h.1.2 n hn), h.2⟩
def itemK (x : It) : List UInt8 := if x.dims = [] then x.name else x.name ++ ([40] ++ Lib.join (x.dims.map itoaK) csT ++ [41])
def declK (l : List It) : List UInt8 := Lib.join (l.map itemK) csT
theorem declK_eq {l : List It} (h : ∀ x ∈ l, OkIt x) : declT l = declK l := by
  unfold declT declK
  congr 1
  refine List.map_congr_left fun x hx => ?_
  unfold itemT itemK
  have : x.dims.map Lib.itoa = x.dims.map itoaK := List.map_congr_left fun n hn => itoaK_eq ((h x hx).rng n hn)
  rw [this]
def sxB (x : Sx) : Bool :=
  (x.kind != 1 || (!x.items.isEmpty && decide (x.items.length ≤ 1000000) && x.items.all itB)) && ((x.kind != 2 && x.kind != 8) || tnB x.to) && ((x.kind != 2 && x.kind != 9) || tnB x.e) &&
  (x.kind != 3 || (tnB x.lo && tnB x.hi && i64B x.step && decide (x.name.length < 1000000))) && (x.kind != 5 || (tnB x.ca && tnB x.cb && decide (x.op.length < 1000000)))
theorem sxB_ok {x : Sx} (h : sxB x = true) : SxOk x := by
  simp only [sxB, Bool.and_eq_true, Bool.or_eq_true, bne_iff_ne, decide_eq_true_eq, ne_eq] at h
  obtain ⟨⟨⟨⟨h1, h2⟩, h3⟩, h4⟩, h5⟩ := h
  refine ⟨fun k => ?_, fun k => ?_, fun k => ?_, fun k => ?_, fun k => ?_, fun k => ?_, fun k => ?_, fun k => ?_, fun k => ?_, fun k => ?_⟩
  · rcases h1 with h1 | h1
    · exact absurd k h1
    · obtain ⟨⟨a, b⟩, c⟩ := h1
      refine ⟨fun h => ?_, b, fun x hx => itB_ok (List.all_eq_true.1 c x hx)⟩
      rw [h] at a; cases a
  · rcases h2 with h2 | h2
    · omega
    · exact (tnB_ok h2).1
  · rcases h3 with h3 | h3
    · omega
    · exact (tnB_ok h3).1
  · rcases h4 with h4 | h4
    · exact absurd k h4
    · exact (tnB_ok h4.1.1.1).1
  · rcases h4 with h4 | h4
    · exact absurd k h4
    · exact (tnB_ok h4.1.1.2).1
  · rcases h4 with h4 | h4
    · exact absurd k h4
    · exact i64B_ok h4.1.2
  · rcases h4 with h4 | h4
    · exact absurd k h4
    · exact Nat.lt_trans h4.2 (by decide)
  · rcases h5 with h5 | h5
    · exact absurd k h5
    · exact (tnB_ok h5.1.1).1
  · rcases h5 with h5 | h5
    · exact absurd k h5
    · exact (tnB_ok h5.1.2).1
  · rcases h5 with h5 | h5
    · exact absurd k h5
    · exact Nat.lt_trans h5.2 (by decide)
def stmtK (x : Sx) : List UInt8 :=
  if x.kind = 1 then tInt ++ declK x.items
  else if x.kind = 2 then txt numK x.to ++ (tIs ++ txt numK x.e)
  else if x.kind = 3 then tDo ++ (x.name ++ (tIs ++ (txt numK x.lo ++ (csT ++ (txt numK x.hi ++ (if x.step = 1 then [] else csT ++ itoaK x.step))))))
  else if x.kind = 4 then tEndDo
  else if x.kind = 5 then tIf ++ ((txt numK x.ca ++ [32] ++ x.op ++ [32] ++ txt numK x.cb) ++ tThen)
  else if x.kind = 6 then tElse
  else if x.kind = 7 then tEndIf
  else if x.kind = 8 then tRead ++ txt numK x.to
  else if x.kind = 9 then tPrint ++ txt numK x.e
  else []
theorem tn_eq {t : Tn} (h : TnOk t) : txt numT t = txt numK t := txt_ext (fun n hn => numK_eq hn) t h.good
theorem stmtK_eq {x : Sx} (h : SxOk x) : stmtT x = stmtK x := by
  unfold stmtT stmtK
  by_cases k1 : x.kind = 1
  · rw [if_pos k1, if_pos k1, declK_eq (h.items k1).ok]
  rw [if_neg k1, if_neg k1]
  by_cases k2 : x.kind = 2
  · rw [if_pos k2, if_pos k2, tn_eq (h.to (.inl k2)), tn_eq (h.e (.inl k2))]
  rw [if_neg k2, if_neg k2]
  by_cases k3 : x.kind = 3
  · rw [if_pos k3, if_pos k3, tn_eq (h.lo k3), tn_eq (h.hi k3), itoaK_eq (h.step k3)]
  rw [if_neg k3, if_neg k3]
  by_cases k4 : x.kind = 4
  · rw [if_pos k4, if_pos k4]
  rw [if_neg k4, if_neg k4]
  by_cases k5 : x.kind = 5
  · rw [if_pos k5, if_pos k5, tn_eq (h.ca k5), tn_eq (h.cb k5)]
  rw [if_neg k5, if_neg k5]
  by_cases k6 : x.kind = 6
  · rw [if_pos k6, if_pos k6]
  rw [if_neg k6, if_neg k6]
  by_cases k7 : x.kind = 7
  · rw [if_pos k7, if_pos k7]
  rw [if_neg k7, if_neg k7]
  by_cases k8 : x.kind = 8
  · rw [if_pos k8, if_pos k8, tn_eq (h.to (.inr k8))]
  rw [if_neg k8, if_neg k8]
  by_cases k9 : x.kind = 9
  · rw [if_pos k9, if_pos k9, tn_eq (h.e (.inr k9))]
  rw [if_neg k9, if_neg k9]
noncomputable def fPparse : Fact Tryz.prog envF := Fact.pure 16 (fun s : List UInt8 => s.length < 1000000) (fun s => [.str s]) (fun s => pstmtAV (parseS (bodyOfLine s))) (fun s h H => pstmt_cs s h H) (fun x y _ _ h => by
  simp only [List.cons.injEq, AV.str.injEq, and_true] at h
  rw [h])
noncomputable def fPtext : Fact Tryz.prog envF := Fact.pure 17 SxOk (fun x => [.agg x.c]) (fun x => .str (stmtT x)) (fun x h H => stext_cs x h H) (fun x y _ _ h => by
  simp only [List.cons.injEq, AV.agg.injEq, and_true] at h
  rw [sxE.inj x y h])
end Go.Proofs.YtejjlojfgcgopaaGreatDoor
namespace Go.Proofs.YtejjlojfgcgopaaGreatDoor
open Go.RowKit Go.Proofs.Fw
set_option maxRecDepth 100000
set_option maxHeartbeats 4000000
def kS1 : List UInt8 := [32, 32, 100, 111, 32, 105, 32, 61, 32, 49, 44, 32, 110, 32, 45, 32, 49, 44, 32, 45, 50, 32, 33, 32, 100, 111, 119, 110, 10]
def kS2 : List UInt8 := [105, 110, 116, 101, 103, 101, 114, 32, 97, 40, 51, 44, 32, 52, 41, 44, 32, 120]
def kS3 : List UInt8 := [97, 40, 49, 41, 32, 61, 32, 50, 32, 43]
def kS4 : List UInt8 := [33, 32, 110, 111, 116, 104, 105, 110, 103]
def kX1 : List UInt8 := [100, 111, 32, 105, 32, 61, 32, 49, 44, 32, 110, 32, 45, 32, 49, 44, 32, 45, 50]
abbrev parM (s : List UInt8) : Sm := (parseS (bodyOfLine s)).1
abbrev parE (s : List UInt8) : Er := (parseS (bodyOfLine s)).2
theorem kE1 : parE kS1 = none := by kernel_rfl
theorem kE2 : parE kS2 = none := by kernel_rfl
theorem kE3 : parE kS3 = some ([(stmtTxt, 7), (exprTx, 2)], 2) := by kernel_rfl
theorem kE4 : parE kS4 = none := by kernel_rfl
theorem kB1 : sxB (parM kS1).x = true := by kernel_rfl
theorem kB2 : sxB (parM kS2).x = true := by kernel_rfl
theorem kT1 : stmtK (parM kS1).x = kX1 := by kernel_rfl
theorem kT2 : stmtK (parM kS2).x = kS2 := by kernel_rfl
theorem kK1 : (parM kS1).x.kind = 3 := by kernel_rfl
theorem kZ1 : (parM kS1).x.step = -2 := by kernel_rfl
theorem kK4 : (parM kS4).x.kind = 0 := by kernel_rfl
theorem kI2 : (parM kS2).x.items = [⟨[97], [3, 4]⟩, ⟨[120], []⟩] := by kernel_rfl
theorem within_run : run fzN oNil Tryz.prog envF 100 10 49 [.str stmtTxt, .int .i64 7, .agg [.slice .full 2 1 [.str exprTx, .int .i64 2], .int .i64 2]] [] = some (.agg [.slice .unk 2 2 [.str stmtTxt, .int .i64 7, .str exprTx, .int .i64 2], .int .i64 2], []) := by kernel_rfl
noncomputable def fAt : Fact Tryz.prog envF := Fact.pure 24 (fun _ : List UInt8 × Int × Int => True) (fun x => [.str x.1, .int .i64 x.2.1, .int .i64 x.2.2]) (fun x => .agg [.slice .full 2 1 [.str x.1, .int .i64 x.2.1], .int .i64 x.2.2])
  (fun x _ H => (Sound.toF (Sound.toX (Sound.toN oRat_sound)) _ _ _ _ _ (oRat_at x.1 x.2.1 x.2.2 H)).1) (fun x y _ _ h => by
    obtain ⟨a, b, c⟩ := x
    obtain ⟨a', b', c'⟩ := y
    simp only [List.cons.injEq, AV.str.injEq, AV.int.injEq, true_and, and_true] at h
    obtain ⟨rfl, rfl, rfl⟩ := h
    rfl)
noncomputable def fWiG : Fact Tryz.prog envF := Fact.pure 49 (fun _ : Unit => True) (fun _ => [.str stmtTxt, .int .i64 7, .agg [.slice .full 2 1 [.str exprTx, .int .i64 2], .int .i64 2]]) (fun _ => .agg [.slice .unk 2 2 [.str stmtTxt, .int .i64 7, .str exprTx, .int .i64 2], .int .i64 2])
  (fun _ _ H => (run_sound (base := oNil) oNil_sound methFOk mixed 100 10 _ _ _ _ _ within_run).1.frame lowF (by simp) H) (fun x y _ _ h => rfl)
noncomputable def fTells : Fact Tryz.prog envF := Fact.pure 23 (fun x : List (List UInt8 × Int) × Int × Own => x.2.1 ≠ 0 ∧ x.1.length < 1000 ∧ (x.2.2 = .unk ∨ x.2.2 = .full)) (fun x => [errAV x.1 x.2.1, .agg [.slice x.2.2 2 x.1.length (partCells x.1), .int .i64 x.2.1]]) (fun _ => .bool true)
  (fun x h H => CS.toF (CS.toX (tells_cs x.1 x.2.1 h.1 h.2.1 x.2.2 h.2.2 H))) (fun x y _ _ h => rfl)
noncomputable def Lk6 : List (Fact Tryz.prog envF) := [fPparse, fPtext, fAt, fWiG, fTells]
theorem Lk6_nd : ((Lk6).map (·.f)).Nodup := show ([16, 17, 24, 49, 23] : List Nat).Nodup by decide
structure K6O (O : Orc) : Prop where
  parse : ∀ (s : List UInt8) (H : AH), s.length < 1000000 → O 16 [.str s] H = some (.tup [.agg (parM s).x.c, erI (parE s)], H)
  text : ∀ (x : Sx) (H : AH), SxOk x → O 17 [.agg x.c] H = some (.str (stmtT x), H)
  at_ : ∀ (w : List UInt8) (p c : Int) (H : AH), O 24 [.str w, .int .i64 p, .int .i64 c] H = some (.agg [.slice .full 2 1 [.str w, .int .i64 p], .int .i64 c], H)
  tells : ∀ (l : List (List UInt8 × Int)) (c : Int) (ow : Own) (H : AH), c ≠ 0 → l.length < 1000 → (ow = .unk ∨ ow = .full) → O 23 [errAV l c, .agg [.slice ow 2 l.length (partCells l), .int .i64 c]] H = some (.bool true, H)
theorem oK6_ok : K6O (oOf Lk6) := ⟨fun s H h => oOf_pure Lk6_nd (show fPparse ∈ Lk6 by simp [Lk6]) s h H, fun x H h => oOf_pure Lk6_nd (show fPtext ∈ Lk6 by simp [Lk6]) x h H,
  fun w p c H => oOf_pure Lk6_nd (show fAt ∈ Lk6 by simp [Lk6]) (w, p, c) trivial H, fun l c ow H h1 h2 h3 => oOf_pure Lk6_nd (show fTells ∈ Lk6 by simp [Lk6]) (l, c, ow) ⟨h1, h2, h3⟩ H⟩
theorem oK6_cx : Cx (oOf Lk6) Tryz.prog envF := oOf_cx _ methFOk mixed
theorem known6_cs (H : AH) : CS Tryz.prog envF 15 [] H (.bool true) H := by
  have X := oK6_cx
  have hO := oK6_ok
  have f5 := fun H => oOf_pure Lk6_nd (show fWiG ∈ Lk6 by simp [Lk6]) () trivial H
  generalize oOf Lk6 = O at X hO f5
  have p1 := fun H => hO.parse kS1 H (by decide)
  have p2 := fun H => hO.parse kS2 H (by decide)
  have p3 := fun H => hO.parse kS3 H (by decide)
  have p4 := fun H => hO.parse kS4 H (by decide)
  rw [kE1] at p1
  rw [kE2] at p2
  rw [kE3] at p3
  rw [kE4] at p4
  have o1 := sxB_ok kB1
  have o2 := sxB_ok kB2
  have t1 := fun H => hO.text _ H o1
  have t2 := fun H => hO.text _ H o2
  rw [stmtK_eq o1, kT1] at t1
  rw [stmtK_eq o2, kT2] at t2
  have a1 := fun H => hO.at_ exprTx 2 2 H
  have e1 := fun H => hO.tells [(stmtTxt, 7), (exprTx, 2)] 2 .unk H (by decide) (by decide) (.inl rfl)
  have k1 := kK1
  have z1 := kZ1
  have i2 := kI2
  have k4 := kK4
  generalize (parM kS1).x = M1 at *
  generalize (parM kS2).x = M2 at *
  generalize (parM kS3).x = M3 at *
  generalize (parM kS4).x = M4 at *
  simp only [erI, castP, kS1, kS2, kS3, kS4, kX1, stmtTxt, exprTx] at p1 p2 p3 p4 t1 t2 a1 e1 f5
  simp [errAV, partCells] at p3 e1
  refine CS.tr0 lowF Tryz.func15 (by kernel_rfl) 0 (by simp [Tryz.f15]) (fun B hBs hG => ?_) rfl rfl H
  refine Tr.goD X hG ?_
  simp [Sx.c, k1, z1] at p1 t1
  have hr2 : (itE.row M2.items) = [.str [97], .slice .unk 1 2 [.int .i64 3, .int .i64 4], .str [120], .nilSlice] := by rw [i2]; rfl
  have hv2 : itE.av M2.items = .slice .unk 2 2 (itE.row M2.items) := by rw [i2]; rfl
  rw [hr2] at hv2
  simp [Sx.c, hv2] at p2 t2
  simp [Sx.c, k4] at p4
  simp [Sx.c] at p3
  simp [Tryz.f15, p1, p2, p3, p4, t1, t2, a1, e1, f5]
noncomputable def fKn6 : Fact Tryz.prog envF := Fact.pure 15 (fun _ : Unit => True) (fun _ => []) (fun _ => .bool true) (fun _ _ H => known6_cs H) (fun _ _ _ _ _ => rfl)
end Go.Proofs.YtejjlojfgcgopaaGreatDoor

namespace Go.Proofs.YtejjlojfgcgopaaGreatDoor
open Go.RowKit Go.Proofs.Fw
set_option maxRecDepth 100000
set_option maxHeartbeats 4000000
abbrev dd (n : Nat) : List UInt8 := Lib.decDigits n
theorem dd_lt {n : Nat} (h : n < 10) : dd n = [UInt8.ofNat (48 + n)] := by rw [dd, Lib.decDigits, dif_pos h]
theorem dd_ge {n : Nat} (h : ¬ n < 10) : dd n = dd (n / 10) ++ [UInt8.ofNat (48 + n % 10)] := by rw [dd, Lib.decDigits, dif_neg h]
theorem dig_ok {r : Nat} (h : r < 10) : isDigit (UInt8.ofNat (48 + r)) = true ∧ (UInt8.ofNat (48 + r)).toNat - 48 = r := by
  have h1 : (UInt8.ofNat (48 + r)).toNat = 48 + r := by rw [UInt8.toNat_ofNat']; omega
  simp only [isDigit, h1, Bool.and_eq_true, decide_eq_true_eq]
  omega
theorem dd_ok (n : Nat) : dd n ≠ [] ∧ (∀ c ∈ dd n, isDigit c = true) ∧ numOf (dd n) = n := by
  induction n using Nat.strongRecOn with
  | _ n ih =>
    by_cases h : n < 10
    · rw [dd_lt h]
      obtain ⟨h1, h2⟩ := dig_ok h
      refine ⟨by simp, fun c hc => ?_, ?_⟩
      · rw [List.mem_singleton.1 hc]; exact h1
      · simp only [numOf, List.foldl_cons, List.foldl_nil, h2]; omega
    · obtain ⟨h1, h2, h3⟩ := ih (n / 10) (by omega)
      obtain ⟨h4, h5⟩ := dig_ok (r := n % 10) (by omega)
      rw [dd_ge h]
      refine ⟨by simp, fun c hc => ?_, ?_⟩
      · rcases List.mem_append.1 hc with hc | hc
        · exact h2 c hc
        · rw [List.mem_singleton.1 hc]; exact h4
      · simp only [numOf] at h3
        simp only [numOf, List.foldl_append, h3, List.foldl_cons, List.foldl_nil, h5]
        omega
theorem dd_len (n : Nat) : (dd n).length ≤ n + 1 := by
  induction n using Nat.strongRecOn with
  | _ n ih =>
    by_cases h : n < 10
    · rw [dd_lt h]; simp
    · have := ih (n / 10) (by omega)
      rw [dd_ge h, List.length_append]
      simp only [List.length_cons, List.length_nil]
      omega
def DecI (n0 : Nat) (k : Nat) (t : List AV) (H : AH) : Prop :=
  ∃ (s : List UInt8), dd n0 = (if k < 10 then s else dd (k / 10) ++ s) ∧ k ≤ n0 ∧ s.length + k ≤ n0 + 1 ∧ t = mkT 31 [(0, .int .i64 (k : Int)), (3, .str s)] ∧ H = []
theorem bsByte (z : Int) : abuildSlice Tryz.prog 139 1 [(0, .int .u8 z)] = some (.slice .full 1 1 [.int .u8 z]) := by kernel_rfl
theorem dec_cs (n : Nat) (hn : n < 1000000000000) (H : AH) : CS Tryz.prog envF 18 [.int .i64 (n : Int)] H (.str (dd n)) H := by
  refine CS.tr0 lowF Tryz.func18 (by kernel_rfl) 0 (by simp [Tryz.f18]) (fun B hB hG => ?_) (by simp) (by simp) H
  refine Tr.goD oNilF hG ?_
  have g0 : ¬ (n : Int) = -9223372036854775808 := by omega
  have g1 : ((n : Int) == -9223372036854775808) = false := by rw [beq_eq_false_iff_ne]; exact g0
  have g2 : ¬ (n : Int) < 0 := by omega
  have dg : ∀ r : Nat, r < 10 → IntKind.i64.wrap (48 + (r : Int)) = 48 + (r : Int) ∧ IntKind.u8.wrap (48 + (r : Int)) = 48 + (r : Int) := fun r hr => ⟨wrap_i64 (by omega) (by omega), by simp [IntKind.wrap, IntKind.bits, IntKind.signed]; omega⟩
  have tm : ∀ m : Nat, ((m : Nat) : Int).tmod 10 = ((m % 10 : Nat) : Int) := fun m => by rw [Int.tmod_eq_emod_of_nonneg (by omega)]; omega
  have td : ∀ m : Nat, ((m : Nat) : Int).tdiv 10 = ((m / 10 : Nat) : Int) := fun m => by rw [Int.tdiv_eq_ediv_of_nonneg (by omega)]; omega
  have by_ : ∀ m : Nat, bytesAV [.int .u8 (48 + ((m % 10 : Nat) : Int))] = some [UInt8.ofNat (48 + m % 10)] := fun m => by
    have : (48 + ((m % 10 : Nat) : Int)).toNat = 48 + m % 10 := by omega
    simp only [bytesAV, this]
  have w1 := fun m => (dg (m % 10) (by omega)).1
  have w2 := fun m => (dg (m % 10) (by omega)).2
  simp [Tryz.f18, g1, g2, tm, w1, w2, bsByte, by_, -Int.natCast_emod]
  have hdig : ∀ m : Nat, (48 + UInt8.ofNat (m % 10) : UInt8) = UInt8.ofNat (48 + m % 10) := fun m => by rw [UInt8.ofNat_add]; rfl
  refine LpD.loopN oNilF hG (DecI n) n (t' := mkT 31 [(0, .int .i64 (n : Int)), (3, .str [UInt8.ofNat (48 + n % 10)])]) (H' := [])
    (Less.mk0 hB (by simp)) ⟨[UInt8.ofNat (48 + n % 10)], ?_, Nat.le_refl _, by simp; omega, rfl, rfl⟩ ?_
  · split
    · rename_i h; rw [dd_lt h, Nat.mod_eq_of_lt h]
    · rename_i h; rw [dd_ge h]
  rintro k t H ⟨s, hs, hk, hsl, rfl, rfl⟩
  by_cases h10 : k < 10
  · have h10' : ¬ (10 : Int) ≤ k := by omega
    rw [if_pos h10] at hs
    simp [Blk_exit, h10', hs]
  · have h10' : (10 : Int) ≤ k := by omega
    rw [if_neg h10] at hs
    have w3 : IntKind.i64.wrap ((k / 10 : Nat) : Int) = ((k / 10 : Nat) : Int) := wrap_i64 (by omega) (by omega)
    have e1 : 1 + s.length ≤ 9223372036854775807 := by omega
    have e2 : s.length + 1 ≤ 9223372036854775807 := by omega
    have e3 : s.length ≤ 9223372036854775806 := by omega
    simp [h10', td, tm, w1, w2, w3, bsByte, by_, e1, e2, e3, -Int.natCast_emod, -Int.natCast_ediv]
    refine Nxt.mk (k / 10) (by omega) (Less.mk0 (l' := [(0, .int .i64 ((k / 10 : Nat) : Int)), (3, .str (UInt8.ofNat (48 + k / 10 % 10) :: s))]) hB (by simp)) ⟨UInt8.ofNat (48 + k / 10 % 10) :: s, ?_, by omega, by simp; omega, rfl, rfl⟩
    rw [hs]
    split
    · rename_i h; rw [dd_lt h, Nat.mod_eq_of_lt h]; rfl
    · rename_i h; rw [dd_ge h, List.append_assoc]; rfl
def strip3 (w : Wd) : Nat × List UInt8 × Nat := (w.kind, w.text, w.n)
def sgT (o : Nat) : UInt8 := if o = 0 then 43 else if o = 1 then 45 else 42
def items : List Nat → List (Nat × List UInt8 × Nat)
  | [] => []
  | b :: bs => (3, [sgT (b % 4)], 0) :: (2, dd (b / 4), b / 4) :: items bs
theorem front_end {p : UInt8 → Bool} : ∀ {s : List UInt8}, (∀ b ∈ s, p b = true) → ∀ {r : List UInt8}, (∀ c l, r = c :: l → p c = false) → frontLen p (s ++ r) = s.length
  | [], _, r, hr => by
    cases r with
    | nil => rfl
    | cons c l => simp [frontLen, hr c l rfl]
  | c :: s, h, r, hr => by
    have ih := front_end (s := s) (fun b hb => h b (List.mem_cons_of_mem _ hb)) hr
    have hc := h c List.mem_cons_self
    simp only [frontLen, List.cons_append, List.takeWhile_cons, hc, if_true, List.length_cons] at ih ⊢
    omega
theorem lex_blank {c : UInt8} (h : isBlank c = true) (n : Nat) (r : List UInt8) (p : Nat) (b : Bool) : lex (n + 1) (c :: r) p b = lex n r (p + 1) false := by simp [lex, h]
theorem lex_num {v : Nat} (hv : v < 9223372036854775808) {r : List UInt8} (hr : ∀ c l, r = c :: l → isDigit c = false) (n p : Nat) : lex (n + 1) (dd v ++ r) p false = behind [⟨2, dd v, p, v⟩] (lex n r (p + (dd v).length) true) := by
  obtain ⟨h1, h2, h3⟩ := dd_ok v
  have hf := front_end h2 hr
  have hd : ((dd v ++ r).drop (dd v).length) = r := by rw [List.drop_append_of_le_length (Nat.le_refl _), List.drop_length, List.nil_append]
  have ht : ((dd v ++ r).take (dd v).length) = dd v := by rw [List.take_append_of_le_length (Nat.le_refl _), List.take_length]
  generalize dd v = s at *
  cases s with
  | nil => exact absurd rfl h1
  | cons c d =>
    have hc := h2 c List.mem_cons_self
    have hc' := hc
    simp only [isDigit, Bool.and_eq_true, decide_eq_true_eq] at hc'
    have hb : isBlank c = false := by
      simp only [isBlank, Bool.or_eq_false_iff, beq_eq_false_iff_ne]
      omega
    have hs : isSmall c = false := by
      simp only [isSmall, Bool.and_eq_false_iff, decide_eq_false_iff_not]
      omega
    rw [List.cons_append] at hf hd ht
    have hw : wordOf (c :: (d ++ r)) = ((2, c :: d, v), 0) := by
      simp only [wordOf, hs, hc, hf, ht, h3, hv, Bool.false_eq_true, if_false, if_true]
    have he : wordErr false c (d ++ r) = 0 := by simp [wordErr, hw]
    rw [List.cons_append, lex_word _ _ _ _ _ hb, he, if_neg (by simp), hw]
    simp only [hd]
    rfl
def Tl (ts : List Wd) (i : Nat) (L : List (Nat × List UInt8 × Nat)) : Prop := i + L.length = ts.length ∧ (ts.drop i).map strip3 = L
theorem Tl.cons {ts : List Wd} {i : Nat} {x : Nat × List UInt8 × Nat} {L : List (Nat × List UInt8 × Nat)} (h : Tl ts i (x :: L)) : ∃ w, ts[i]? = some w ∧ strip3 w = x ∧ Tl ts (i + 1) L := by
  obtain ⟨h1, h2⟩ := h
  have hi : i < ts.length := by simp only [List.length_cons] at h1; omega
  rw [List.drop_eq_getElem_cons hi, List.map_cons] at h2
  injection h2 with h2 h3
  exact ⟨ts[i], List.getElem?_eq_getElem hi, h2, by simp only [List.length_cons] at h1; omega, h3⟩
theorem Tl.none {ts : List Wd} {i : Nat} (h : Tl ts i []) (s : List UInt8) : isS ts i s = false := by
  have : ts[i]? = Option.none := List.getElem?_eq_none (by have := h.1; simp at this; omega)
  simp only [isS, this]
theorem Tl.sign {ts : List Wd} {i : Nat} {c : UInt8} {L : List (Nat × List UInt8 × Nat)} (h : Tl ts i ((3, [c], 0) :: L)) (s : List UInt8) : isS ts i s = decide (s = [c]) := by
  obtain ⟨w, h1, h2, _⟩ := h.cons
  simp only [strip3, Prod.mk.injEq] at h2
  simp only [isS, h1, h2.1, h2.2.1]
  rw [Bool.eq_iff_iff]
  simp only [beq_self_eq_true, Bool.true_and, beq_iff_eq, decide_eq_true_eq]
  exact eq_comm
abbrev w64 (n : Int) : Int := IntKind.i64.wrap n
def fin (st : Int × Int × Int) : Int := w64 (st.1 + w64 (st.2.2 * st.2.1))
end Go.Proofs.YtejjlojfgcgopaaGreatDoor

namespace Go.Proofs.YtejjlojfgcgopaaGreatDoor
open Go.RowKit Go.Proofs.Fw
set_option maxRecDepth 100000
set_option maxHeartbeats 4000000
noncomputable def fDec : Fact Tryz.prog envF := Fact.pure 18 (fun n : Nat => n < 1000000000000) (fun n => [.int .i64 (n : Int)]) (fun n => .str (dd n)) (fun n h H => dec_cs n h H) (fun x y _ _ h => by
  simp only [List.cons.injEq, AV.int.injEq, true_and, and_true] at h
  have : x = y := by omega
  rw [this])
theorem cutNl_plain {s : List UInt8} (h : ∀ c ∈ s, c ≠ 10) : cutNl s = s := by
  unfold cutNl
  rw [if_neg]
  intro hn
  unfold hasNl at hn
  simp only [Bool.and_eq_true, decide_eq_true_eq, beq_iff_eq] at hn
  have : (10 : UInt8) ∈ s.drop (s.length - 1) := by rw [hn.2]; simp
  exact h 10 (List.mem_of_mem_drop this) rfl
theorem body_plain {s : List UInt8} (h : ∀ c ∈ s, c ≠ 10 ∧ c ≠ 33) : bodyOfLine s = s := by
  have h1 := cutNl_plain fun c hc => (h c hc).1
  have h2 : noteLen s = s.length := by
    have := front_end (p := notBang) (s := s) (fun b hb => by
      have := (h b hb).2
      simp only [notBang, Bool.not_eq_true', beq_eq_false_iff_ne]
      intro h3
      exact this (UInt8.toNat_inj.1 (by rw [h3]; rfl))) (r := []) (fun c l h => by cases h)
    rw [List.append_nil] at this
    exact this
  unfold bodyOfLine
  rw [h1, h2, List.take_length]
theorem dd_plain (n : Nat) : ∀ c ∈ dd n, c ≠ 10 ∧ c ≠ 33 := fun c hc => by
  have := (dd_ok n).2.1 c hc
  simp only [isDigit, Bool.and_eq_true, decide_eq_true_eq] at this
  constructor
  · rintro rfl; revert this; decide
  · rintro rfl; revert this; decide
theorem lex_end (n p : Nat) (b : Bool) : lex n [] p b = .ok [] := by cases n <;> rfl
end Go.Proofs.YtejjlojfgcgopaaGreatDoor
