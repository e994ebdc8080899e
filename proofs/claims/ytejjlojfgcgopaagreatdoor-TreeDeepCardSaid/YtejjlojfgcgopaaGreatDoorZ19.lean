/- The program's trees: end. .. The document's trees: Tree. -/
import Derived.Test.YtejjlojfgcgopaaGreatDoorZ18
import Derived.Test.YtejjlojfgcgopaaGreatDoorZ6
import Derived.Test.YtejjlojfgcgopaaGreatDoorZ14
import Derived.Test.YtejjlojfgcgopaaGreatDoorZ13
import Derived.Test.YtejjlojfgcgopaaGreatDoorZ9
set_option linter.unusedSimpArgs false
set_option linter.unusedVariables false
namespace Go.Proofs.YtejjlojfgcgopaaGreatDoor
open Go.RowKit Go.Proofs.Fw
set_option maxRecDepth 100000
set_option maxHeartbeats 4000000
theorem CS.weakA {P : Program} {E : Env} {f : FuncId} {args args' : List AV} {H H' : AH} {v : AV} (h : CS P E f args' H v H') (hw : ∀ g cargs, RepL g args cargs → RepL g args' cargs) : CS P E f args H v H' := fun g w cargs R hG hA => h g w cargs R hG (hw g cargs hA)
theorem rep_tk {α : Type} (E : Enc α) {g : Gh} {k : Nat} {l : List α} {v : Value} (h : RepV g (E.tk k l) v) : RepV g (E.av l) v := by
  by_cases h0 : l = []
  · subst h0; exact h
  · rw [E.tk_ne k h0] at h
    rw [E.av_ne h0]
    exact rep_unk g v h
def Fr.nc (d : Nat) (f : Fr) : List AV := f.pre ++ [ndE.tk (3 + 3 * d) f.body, ndE.tk (4 + 3 * d) f.els, .int .i64 f.mid]
theorem repL_app_inv {g : Gh} : ∀ {xs bs : List AV} {vs : List Value}, RepL g (xs ++ bs) vs → ∃ us ws, vs = us ++ ws ∧ RepL g xs us ∧ RepL g bs ws
  | [], bs, vs, h => ⟨[], vs, rfl, by simp [RepL], h⟩
  | a :: xs, bs, vs, h => by
    simp only [List.cons_append, RepL] at h
    obtain ⟨v, us, rfl, h1, h2⟩ := h
    obtain ⟨us, ws, rfl, h3, h4⟩ := repL_app_inv h2
    exact ⟨v :: us, ws, rfl, by simp only [RepL]; exact ⟨v, us, rfl, h1, h3⟩, h4⟩
theorem repAgg {g : Gh} {cs : List AV} {v : Value} : RepV g (.agg cs) v ↔ ∃ vs, v = .agg (List.toArray vs) ∧ RepL g cs vs := by simp only [RepV]
theorem nc_rep {g : Gh} (d : Nat) (f : Fr) {cargs : List Value} (h : RepL g [.ptr 0 0, .agg (f.nc d)] cargs) : RepL g [.ptr 0 0, .agg (ndC f.nd)] cargs := by
  simp only [RepL] at h ⊢
  obtain ⟨v, ws, rfl, h1, v2, ws2, rfl, h2, rfl⟩ := h
  refine ⟨v, _, rfl, h1, v2, _, rfl, ?_, rfl⟩
  rw [repAgg] at h2 ⊢
  obtain ⟨vs, rfl, h2⟩ := h2
  refine ⟨vs, rfl, ?_⟩
  rw [Fr.nc] at h2
  obtain ⟨us, ws, rfl, h3, h4⟩ := repL_app_inv h2
  have : ndC f.nd = f.pre ++ [ndE.av f.body, ndE.av f.els, .int .i64 f.mid] := ndC_eq f.nd
  rw [this]
  refine h3.append ?_
  simp only [RepL] at h4 ⊢
  obtain ⟨a, x, rfl, k1, b, y, rfl, k2, c, z, rfl, k3, rfl⟩ := h4
  exact ⟨a, _, rfl, rep_tk ndE k1, b, _, rfl, rep_tk ndE k2, c, _, rfl, k3, rfl⟩
@[simp ↓ high] theorem upC_known (d : Nat) : (upC d).known = true := by cases d <;> rfl
@[simp ↓ high] theorem upC_one (d : Nat) : (upC d).one = true := by cases d <;> rfl
@[simp ↓ high] theorem upC_cells (d : Nat) : cellsAV (upC d) = [upC d] := by cases d <;> rfl
theorem upC_succ (n : Nat) : upC (n + 1) = .ptr (2 + 3 * n) 0 := rfl
theorem upC_zero : upC 0 = .nilPtr := rfl
theorem at_app0 (H : AH) (e : Option Ent) (B : AH) : AH.at (H ++ e :: B) H.length = e := by rw [at_appR (Nat.le_refl _), Nat.sub_self]; rfl
theorem set_app0 (H : AH) (e x : Option Ent) (B : AH) : (H ++ e :: B).set H.length x = H ++ x :: B := by rw [List.set_append_right _ _ (Nat.le_refl _)]; simp
theorem at_set0 (H : AH) (i : Nat) (y e : Option Ent) (B : AH) : AH.at (H.set i y ++ e :: B) H.length = e := by have := at_app0 (H.set i y) e B; rwa [List.length_set] at this
theorem set_set0 (H : AH) (i : Nat) (y e x : Option Ent) (B : AH) : (H.set i y ++ e :: B).set H.length x = H.set i y ++ x :: B := by have := set_app0 (H.set i y) e x B; rwa [List.length_set] at this
theorem at_app1 (H : AH) (a e : Option Ent) (B : AH) : AH.at (H ++ a :: e :: B) (H.length + 1) = e := by rw [at_appR (Nat.le_succ _)]; simp [AH.at]
theorem set_app1 (H : AH) (a e x : Option Ent) (B : AH) : (H ++ a :: e :: B).set (H.length + 1) x = H ++ a :: x :: B := by rw [List.set_append_right _ _ (Nat.le_succ _)]; simp
theorem at_set1 (H : AH) (i : Nat) (y a e : Option Ent) (B : AH) : AH.at (H.set i y ++ a :: e :: B) (H.length + 1) = e := by have := at_app1 (H.set i y) a e B; rwa [List.length_set] at this
theorem set_set1 (H : AH) (i : Nat) (y a e x : Option Ent) (B : AH) : (H.set i y ++ a :: e :: B).set (H.length + 1) x = H.set i y ++ a :: x :: B := by have := set_app1 (H.set i y) a e x B; rwa [List.length_set] at this
theorem at_fst (H : AH) (B : AH) (h : 0 < H.length) : AH.at (H ++ B) 0 = H.at 0 := at_appL h
theorem set_fst (H : AH) (B : AH) (e : Option Ent) (h : 0 < H.length) : (H ++ B).set 0 e = H.set 0 e ++ B := List.set_append_left _ _ h
theorem at_set_fst (H : AH) (B : AH) (e : Option Ent) (h : 0 < H.length) : AH.at (H.set 0 e ++ B) 0 = e := by
  rw [at_appL (by rw [List.length_set]; exact h), AH.at_set, if_pos ⟨rfl, h⟩]
theorem set_set_fst (H : AH) (B : AH) (e e' : Option Ent) (h : 0 < H.length) : (H.set 0 e ++ B).set 0 e' = H.set 0 e' ++ B := by
  rw [List.set_append_left _ _ (by rw [List.length_set]; exact h), List.set_set]
theorem at_set_oth {H : AH} {j : Nat} (B : AH) (e : Option Ent) (h : j < H.length) (h0 : j ≠ 0) : AH.at (H.set 0 e ++ B) j = H.at j := by
  rw [at_appL (by rw [List.length_set]; exact h), at_set_ne (fun h => h0 h.symm)]
theorem lowH_app (n : Nat) : ∀ a b : AH, lowH n (a ++ b) = (lowH n a && lowH n b)
  | [], b => by simp [lowH]
  | e :: a, b => by simp [lowH, lowH_app n a b, Bool.and_assoc]
theorem lowE_mono {m n : Nat} (h : m ≤ n) {e : Option Ent} (k : lowE m e = true) : lowE n e = true := by
  cases e with
  | none => rfl
  | some e => cases e with
    | box cs => exact lowL_mono h _ k
    | loose n cs => exact lowL_mono h _ k
    | _ => rfl
theorem lowH_mono {m n : Nat} (h : m ≤ n) : ∀ {H : AH}, lowH m H = true → lowH n H = true
  | [], _ => rfl
  | e :: H, k => by simp only [lowH, Bool.and_eq_true] at k ⊢; exact ⟨lowE_mono h k.1, lowH_mono h k.2⟩
theorem tokE_lowE (n : Nat) {α : Type} (l : List α) : lowE n (tokE l) = true := by unfold tokE; split <;> rfl
theorem upC_low {d n : Nat} (h : 3 * d < n) : low n (upC d) = true := by
  cases d with
  | zero => rfl
  | succ d => simp [upC, low]; omega
theorem fr_low (d n : Nat) (f : Fr) (h : 4 + 3 * d < n) : lowH n (f.h d) = true := by
  have h1 := lowL_mono (Nat.zero_le n) _ f.pre_low
  have t1 := ndE.tk_low (k := 3 + 3 * d) (m := n) (by omega) f.body
  have t2 := ndE.tk_low (k := 4 + 3 * d) (m := n) (by omega) f.els
  simp only [Fr.h, lowH, tokE_lowE, Bool.and_true]
  show lowL n (f.c d) = true
  rw [Fr.c, lowL_append, h1]
  simp [lowL, t1, t2, upC_low (d := d) (n := n) (by omega), low]
theorem frH_low : ∀ (r : List Fr) (n : Nat), 2 + 3 * r.length ≤ n → lowH n (frH r) = true
  | [], _, _ => rfl
  | f :: r, n, h => by
    simp only [List.length_cons] at h
    rw [frH, lowH_app, frH_low r n (by omega), fr_low _ _ _ (by omega)]
    rfl
theorem bdH_low (s : Bd) (n : Nat) (h : 2 + 3 * s.fs.length ≤ n) : lowH n (bdH s) = true := by
  have t1 := ndE.tk_low (k := 1) (m := n) (by omega) s.l
  simp only [bdH, lowH, tokE_lowE, frH_low s.fs n h, Bool.and_true]
  show lowL n s.c = true
  simp [Bd.c, lowL, t1, upC_low (d := s.fs.length) (n := n) (by omega), low]
theorem bdH_len (s : Bd) : (bdH s).length = 2 + 3 * s.fs.length := by simp [bdH, frH_len]; omega
theorem oNilW : CxW oNil Tryz.prog envS [] := oNilS.toW
def codeAV (c : Nat) : AV := if c = 0 then .nilIface else .iface 134 (.int .i64 (c : Int))
def endH (s : Bd) (kind : Int) : AH := match s.fs with
  | [] => []
  | f :: r => if f.st.kind = kind then f.h r.length else []
theorem end_ok (l : List Nd) (f : Fr) (r : List Fr) (o : Bool) (K : AH) (hK : lowH 0 K = true) (kind a : Int) {m : Nat} (hs : Bd.ok m ⟨l, f :: r, o⟩) (hm : m < 137438953472) (hd : r.length < 1000) (hk : f.st.kind = kind) :
    CS Tryz.prog envS 127 [.ptr 0 0, .int .i64 kind, .int .i64 a] (bdH ⟨l, f :: r, o⟩ ++ K) .nilIface (bdH (Bd.put ⟨l, r, o⟩ { f with end_ := a }.nd) ++ (f.h r.length ++ K)) := by
  subst hk
  have hlen := bd_len l f r o K
  have c0 : AH.at (bdH ⟨l, f :: r, o⟩ ++ K) 0 = some (.box (Bd.c ⟨l, f :: r, o⟩)) := rfl
  have cF := bd_atF l f r o K
  have hset : ∀ e, (bdH ⟨l, f :: r, o⟩ ++ K).set 0 e = (e :: tokE l :: frH r) ++ (f.h r.length ++ K) := fun e => by simp [bdH, frH]
  have hput := fun K' => CS.weakA (put_cs ⟨l, r, o⟩ { f with end_ := a }.nd K' (m := m) ⟨hs.1, fun g hg => hs.2 g (List.mem_cons_of_mem _ hg)⟩ hm) (fun g cargs h => nc_rep r.length { f with end_ := a } h)
  obtain ⟨H3, hH3⟩ : ∃ H3 : AH, H3 = bdH (Bd.put ⟨l, r, o⟩ { f with end_ := a }.nd) ++ (f.h r.length ++ K ++ [some (.box (({ f with end_ := a } : Fr).nc r.length))]) := ⟨_, rfl⟩
  have hp : CS Tryz.prog envS 128 [.ptr 0 0, .agg (({ f with end_ := a } : Fr).nc r.length)] ((bdH ⟨l, f :: r, o⟩ ++ K).set 0 (some (.box (Bd.c ⟨l, r, o⟩))) ++ [some (.box (({ f with end_ := a } : Fr).nc r.length))]) (.tup []) H3 := by
    have := hput (f.h r.length ++ K ++ [some (.box (({ f with end_ := a } : Fr).nc r.length))])
    rw [hset, hH3, List.append_assoc]
    exact this
  have hpl : (bdH (Bd.put ⟨l, r, o⟩ { f with end_ := a }.nd)).length = 2 + 3 * r.length := by rw [bdH_len, Bd.put_len]
  have htake : H3.take (bdH ⟨l, f :: r, o⟩ ++ K).length = bdH (Bd.put ⟨l, r, o⟩ { f with end_ := a }.nd) ++ (f.h r.length ++ K) := by
    rw [hH3, ← List.append_assoc, List.take_left' (by simp only [List.length_append] at hlen ⊢; rw [hpl, hlen]; simp [Fr.h]; omega)]
  have hlow : lowH (bdH ⟨l, f :: r, o⟩ ++ K).length (bdH (Bd.put ⟨l, r, o⟩ { f with end_ := a }.nd) ++ (f.h r.length ++ K)) = true := by
    rw [lowH_app, lowH_app, bdH_low _ _ (by rw [Bd.put_len]; simp only; omega), fr_low _ _ _ (by omega), lowH_mono (Nat.zero_le _) hK]
    rfl
  generalize bdH (Bd.put ⟨l, r, o⟩ { f with end_ := a }.nd) ++ (f.h r.length ++ K) = H1 at *
  have X := orP_cx hp oNilW
  have hO := orP_at 128 [.ptr 0 0, .agg (({ f with end_ := a } : Fr).nc r.length)] ((bdH ⟨l, f :: r, o⟩ ++ K).set 0 (some (.box (Bd.c ⟨l, r, o⟩))) ++ [some (.box (({ f with end_ := a } : Fr).nc r.length))]) (.tup []) H3 oNil
  generalize orP 128 [.ptr 0 0, .agg (({ f with end_ := a } : Fr).nc r.length)] ((bdH ⟨l, f :: r, o⟩ ++ K).set 0 (some (.box (Bd.c ⟨l, r, o⟩))) ++ [some (.box (({ f with end_ := a } : Fr).nc r.length))]) (.tup []) H3 oNil = O at X hO
  clear hp hput hH3 hset
  refine CS.of_Tr (c := bodyOf Tryz.f127) (H0 := bdH ⟨l, f :: r, o⟩ ++ K) (H1 := H1) Tryz.func127 (by kernel_rfl) 0 (by simp [Tryz.f127]) (fun B hB hG => ?_) (by simp) hlow
  generalize bdH ⟨l, f :: r, o⟩ ++ K = H at *
  have hpos : 0 < H.length := by omega
  have hFl : 2 + 3 * r.length < H.length := by omega
  have hF0 : 2 + 3 * r.length ≠ 0 := by omega
  have w1 : IntKind.i64.wrap (r.length : Int) = (r.length : Int) := wrap_i64 (by omega) (by omega)
  simp only [Bd.c, Fr.c, Fr.pre, Fr.nc, Sx.c, List.length_cons, upC_succ, List.cons_append, List.nil_append] at c0 cF hO
  have k0 := fun B => (at_fst H B hpos).trans c0
  have kF := fun B => (at_appL (A := H) (B := B) hFl).trans cF
  have jF := fun B e => (at_set_oth (H := H) B e hFl hF0).trans cF
  have j0 := fun B e => at_set_fst H B e hpos
  have s0 := fun B e => set_fst H B e hpos
  have s1 := fun B e e' => set_set_fst H B e e' hpos
  refine Tr.goW X hG (by kernel_rfl) ?_
  simp [-AH.at, Tryz.f127, c0, cF, k0, kF, jF, j0, s0, s1, at_app0, set_app0, at_set0, set_set0, w1, hO, htake]
end Go.Proofs.YtejjlojfgcgopaaGreatDoor

namespace Go.Proofs.YtejjlojfgcgopaaGreatDoor
open Go.RowKit Go.Proofs.Fw
set_option maxRecDepth 100000
set_option maxHeartbeats 4000000
theorem end_no (s : Bd) (K : AH) (hK : lowH 0 K = true) (kind a : Int) (hd : s.fs.length < 1000) (hk : ∀ f r, s.fs = f :: r → f.st.kind ≠ kind) :
    CS Tryz.prog envS 127 [.ptr 0 0, .int .i64 kind, .int .i64 a] (bdH s ++ K) (codeAV 12) (bdH s ++ K) := by
  obtain ⟨l, fs, o⟩ := s
  simp only at hd hk
  have hlow : lowH (bdH ⟨l, fs, o⟩ ++ K).length (bdH ⟨l, fs, o⟩ ++ K) = true := by
    rw [lowH_app, bdH_low _ _ (by rw [List.length_append, bdH_len]; omega), lowH_mono (Nat.zero_le _) hK]
    rfl
  have htake : (bdH ⟨l, fs, o⟩ ++ K).take (bdH ⟨l, fs, o⟩ ++ K).length = bdH ⟨l, fs, o⟩ ++ K := List.take_length
  refine CS.of_Tr (c := bodyOf Tryz.f127) (H0 := bdH ⟨l, fs, o⟩ ++ K) (H1 := bdH ⟨l, fs, o⟩ ++ K) Tryz.func127 (by kernel_rfl) 0 (by simp [Tryz.f127]) (fun B hB hG => ?_) (by simp [codeAV]) hlow
  have c0 : AH.at (bdH ⟨l, fs, o⟩ ++ K) 0 = some (.box (Bd.c ⟨l, fs, o⟩)) := rfl
  refine Tr.goW oNilW hG (by kernel_rfl) ?_
  cases fs with
  | nil =>
    simp only [Bd.c, upC_zero, List.length_nil] at c0
    generalize bdH ⟨l, [], o⟩ ++ K = H at *
    simp [-AH.at, Tryz.f127, c0, htake, codeAV]
  | cons f r =>
    have cF := bd_atF l f r o K
    have hk' := hk f r rfl
    simp only [Bd.c, upC_succ, List.length_cons] at c0
    simp only [Fr.c, Fr.pre, Sx.c, List.cons_append, List.nil_append] at cF
    generalize bdH ⟨l, f :: r, o⟩ ++ K = H at *
    simp [-AH.at, Tryz.f127, c0, cF, hk', htake, codeAV]
theorem end_cs (s : Bd) (K : AH) (hK : lowH 0 K = true) (kind a : Int) {m : Nat} (hs : s.ok m) (hm : m < 137438953472) (hd : s.fs.length < 1000) :
    CS Tryz.prog envS 127 [.ptr 0 0, .int .i64 kind, .int .i64 a] (bdH s ++ K) (codeAV (s.fin kind a).2) (bdH (s.fin kind a).1 ++ (endH s kind ++ K)) := by
  obtain ⟨l, fs, o⟩ := s
  cases fs with
  | nil => exact end_no ⟨l, [], o⟩ K hK kind a hd (fun f r h => by cases h)
  | cons f r =>
    simp only [List.length_cons] at hd
    by_cases hk : f.st.kind = kind
    · simp only [Bd.fin, endH, if_pos hk]
      exact end_ok l f r o K hK kind a hs hm (by omega) hk
    · simp only [Bd.fin, endH, if_neg hk]
      exact end_no ⟨l, f :: r, o⟩ K hK kind a hd (fun f' r' h => by
        injection h with h1 h2
        subst h1
        exact hk)
theorem fin_len (s : Bd) (k a : Int) : (bdH (s.fin k a).1 ++ endH s k).length = (bdH s).length := by
  obtain ⟨l, fs, o⟩ := s
  cases fs with
  | nil => simp [Bd.fin, endH]
  | cons f r =>
    simp only [Bd.fin, endH]
    split
    · rw [List.length_append, bdH_len, bdH_len, Bd.put_len]
      simp [Fr.h]
      omega
    · simp
@[simp] theorem buNdP (a b z : Int) (c0 c1 c2 c3 c4 c5 c6 c7 c8 c9 c10 c11 c12 c13 c14 c15 c16 c17 c18 c19 c20 c21 c22 c23 c24 c25 c26 c27 c28 : AV) : abuild Tryz.prog 104 [(0, .int .i64 a), (1, .int .i64 b), (2, .agg [c0, c1, c2, c3, c4, c5, c6, c7, c8, c9, c10, c11, c12, c13, c14, c15, c16, c17, c18, c19, c20, c21, c22, c23, c24, c25, c26, c27, c28]), (5, .int .i64 z)] = some (.agg [.int .i64 a, .int .i64 b, c0, c1, c2, c3, c4, c5, c6, c7, c8, c9, c10, c11, c12, c13, c14, c15, c16, c17, c18, c19, c20, c21, c22, c23, c24, c25, c26, c27, c28, .nilSlice, .nilSlice, .int .i64 z]) := by kernel_rfl
@[simp] theorem buOp (c0 c1 c2 c3 c4 c5 c6 c7 c8 c9 c10 c11 c12 c13 c14 c15 c16 c17 c18 c19 c20 c21 c22 c23 c24 c25 c26 c27 c28 c29 c30 c31 c32 c33 : AV) (d : Nat) : abuild Tryz.prog 188 [(0, .agg [c0, c1, c2, c3, c4, c5, c6, c7, c8, c9, c10, c11, c12, c13, c14, c15, c16, c17, c18, c19, c20, c21, c22, c23, c24, c25, c26, c27, c28, c29, c30, c31, c32, c33]), (1, upC d)] = some (.agg [c0, c1, c2, c3, c4, c5, c6, c7, c8, c9, c10, c11, c12, c13, c14, c15, c16, c17, c18, c19, c20, c21, c22, c23, c24, c25, c26, c27, c28, c29, c30, c31, c32, c33, upC d]) := by
  cases d <;> kernel_rfl
theorem lfC (a : Int) (x : Sx) : ndC (.lf a x) = .int .i64 a :: .int .i64 a :: (x.c ++ [.nilSlice, .nilSlice, .int .i64 (-1)]) := ndC_eq _
def psH (N i : Nat) : Nat := if i < N then i else i + 2
theorem push_less {B : Bs} {H : AH} {N : Nat} (hB : B.H = H) (hN : N = H.length) (hpos : 1 < H.length) (hl : lowH H.length H = true) {L : List (Nat × AV)} (h6 : (L.lookup 6).getD .undef = .nilIface) (l : List Nd) (dn : Int) (o : Bool) {cs : List AV} (hcs : lowL H.length cs = true) (e1 e2 : Option Ent) :
    Less B (mkT 112 L) (H.set 0 (some (.box [ndE.tk 1 l, .ptr (H.length + 2) 0, .int .i64 dn, .bool o])) ++ [e1, e2, some (.box cs)]) (mkT 112 [(6, .nilIface)]) (H.set 0 (some (.box [ndE.tk 1 l, .ptr N 0, .int .i64 dn, .bool o])) ++ [some (.box cs), none, none]) := by
  subst hN
  have hfix : ∀ i, i < H.length → psH H.length i = i := fun i hi => if_pos hi
  have hge : ∀ i, H.length ≤ i → psH H.length i = i + 2 := fun i hi => if_neg (by omega)
  have t1 := fun n (h : 1 < n) => ndE.tk_low (k := 1) (m := n) h l
  refine Less.mkV 1000 (psH H.length) (H.length + 3) (by rw [hB]; omega) (fun i j _ _ h => by unfold psH at h; split at h <;> split at h <;> omega) (fun i hi => hfix i (by rw [hB] at hi; exact hi)) (by simp) ?_ ?_ ?_
  · intro i hi
    by_cases h0 : i = 0
    · subst h0
      rw [hfix 0 (by omega), at_set_fst _ _ _ (by omega), at_set_fst _ _ _ (by omega)]
      have e1 := hfix 1 hpos
      have e2 := hge H.length (Nat.le_refl _)
      simp only [Option.map_some, renE, renL, ren, Enc.tk_ren, e1, e2]
    · by_cases h1 : i < H.length
      · rw [hfix i h1, at_set_oth _ _ h1 h0, at_set_oth _ _ h1 h0, renE_fix hfix (by
          cases he : H.at i with
          | none => rfl
          | some x => exact lowE_at hl he)]
      · rw [hge i (by omega), at_appR (by rw [List.length_set]; omega), at_appR (by rw [List.length_set]; omega)]
        simp only [List.length_set]
        rcases (by omega : i = H.length ∨ i = H.length + 1 ∨ i = H.length + 2) with rfl | rfl | rfl
        · rw [show H.length + 2 - H.length = 2 by omega, Nat.sub_self]
          show some (Ent.box cs) = some (Ent.box (renL _ cs))
          rw [renL_fix hfix _ hcs]
        · rw [show H.length + 1 + 2 - H.length = 3 by omega, show H.length + 1 - H.length = 1 by omega]
          rfl
        · rw [show H.length + 2 + 2 - H.length = 4 by omega, show H.length + 2 - H.length = 2 by omega]
          rfl
  · rw [lowH_app]
    have h1 : lowH (H.length + 3) (H.set 0 (some (.box [ndE.tk 1 l, .ptr H.length 0, .int .i64 dn, .bool o]))) = true := by
      cases H with
      | nil => simp at hpos
      | cons x H =>
        simp only [lowH, Bool.and_eq_true] at hl
        simp only [List.set_cons_zero, lowH, lowE, Bool.and_eq_true]
        refine ⟨?_, lowH_mono (by omega) hl.2⟩
        simp only [lowL, low, t1 _ (show 1 < (x :: H).length + 3 by omega)]
        simp
    rw [h1]
    simp only [lowH, lowE, lowL_mono (by omega : H.length ≤ H.length + 3) cs hcs]
    rfl
  · intro p hp
    simp only [List.mem_singleton] at hp
    subst hp
    simp only [h6]
    exact ⟨rfl, rfl⟩
theorem bd_set (l : List Nd) (fs : List Fr) (o o' : Bool) : (bdH ⟨l, fs, o⟩).set 0 (some (.box (Bd.c ⟨l, fs, o'⟩))) = bdH ⟨l, fs, o'⟩ := rfl
theorem add_end (l : List Nd) (fs : List Fr) (o : Bool) (x : Sx) (a : Int) (k : Int) (hk : x.kind = 4 ∧ k = 3 ∨ x.kind = 7 ∧ k = 5) {m : Nat} (hs : Bd.ok m ⟨l, fs, o⟩) (hm : m < 137438953472) (hd : fs.length ≤ 8) :
    CS Tryz.prog envS 83 [.ptr 0 0, .agg x.c, .int .i64 a] (bdH ⟨l, fs, o⟩) (codeAV (Bd.fin ⟨l, fs, true⟩ k a).2) (bdH (Bd.fin ⟨l, fs, true⟩ k a).1 ++ endH ⟨l, fs, true⟩ k) := by
  have hK : lowH 0 [some (.box x.c), some (.box (ndC (.lf a x)))] = true := by simp [lowH, lowE, Sx.c_low, ndC_low]
  have he := end_cs ⟨l, fs, true⟩ [some (.box x.c), some (.box (ndC (.lf a x)))] hK k a (m := m) ⟨hs.1, hs.2⟩ hm (by simp only; omega)
  rw [← bd_set l fs o true] at he
  obtain ⟨H3, hH3⟩ : ∃ H3 : AH, H3 = bdH (Bd.fin ⟨l, fs, true⟩ k a).1 ++ (endH ⟨l, fs, true⟩ k ++ [some (.box x.c), some (.box (ndC (.lf a x)))]) := ⟨_, rfl⟩
  rw [← hH3] at he
  have hfl := fin_len ⟨l, fs, true⟩ k a
  have htake : H3.take (bdH ⟨l, fs, o⟩).length = bdH (Bd.fin ⟨l, fs, true⟩ k a).1 ++ endH ⟨l, fs, true⟩ k := by
    rw [hH3, ← List.append_assoc, List.take_left' (by rw [hfl, bdH_len, bdH_len])]
  have hlow : lowH (bdH ⟨l, fs, o⟩).length (bdH (Bd.fin ⟨l, fs, true⟩ k a).1 ++ endH ⟨l, fs, true⟩ k) = true := by
    rw [lowH_app, bdH_low _ _ (by have := Bd.fin_len ⟨l, fs, true⟩ k a; rw [bdH_len]; simp only at this ⊢; omega)]
    cases fs with
    | nil => rfl
    | cons f r =>
      simp only [endH]
      split
      · rw [fr_low _ _ _ (by rw [bdH_len]; simp only [List.length_cons]; omega)]; rfl
      · rfl
  generalize bdH (Bd.fin ⟨l, fs, true⟩ k a).1 ++ endH ⟨l, fs, true⟩ k = H1 at *
  have hcl : ∀ n, low n (codeAV (Bd.fin ⟨l, fs, true⟩ k a).2) = true := fun n => by unfold codeAV; split <;> rfl
  have hst : ∀ n, strip n (codeAV (Bd.fin ⟨l, fs, true⟩ k a).2) = codeAV (Bd.fin ⟨l, fs, true⟩ k a).2 := fun n => strip_low n _ (hcl 0)
  generalize codeAV (Bd.fin ⟨l, fs, true⟩ k a).2 = rv at *
  have X := orP_cx he oNilW
  have hO := orP_at 127 [.ptr 0 0, .int .i64 k, .int .i64 a] ((bdH ⟨l, fs, o⟩).set 0 (some (.box (Bd.c ⟨l, fs, true⟩))) ++ [some (.box x.c), some (.box (ndC (.lf a x)))]) rv H3 oNil
  generalize orP 127 [.ptr 0 0, .int .i64 k, .int .i64 a] ((bdH ⟨l, fs, o⟩).set 0 (some (.box (Bd.c ⟨l, fs, true⟩))) ++ [some (.box x.c), some (.box (ndC (.lf a x)))]) rv H3 oNil = O at X hO
  clear he hH3 hfl
  have hlen : (bdH ⟨l, fs, o⟩).length = 2 + 3 * fs.length := bdH_len _
  have c0 : AH.at (bdH ⟨l, fs, o⟩) 0 = some (.box (Bd.c ⟨l, fs, o⟩)) := rfl
  refine CS.of_Tr (c := bodyOf Tryz.f83) (H0 := bdH ⟨l, fs, o⟩) (H1 := H1) Tryz.func83 (by kernel_rfl) 0 (by simp [Tryz.f83]) (fun B hB hG => ?_) (hcl _) hlow
  generalize bdH ⟨l, fs, o⟩ = H at *
  have hpos : 0 < H.length := by omega
  simp only [Bd.c] at c0
  simp only [Sx.c, lfC, Bd.c, List.cons_append, List.nil_append] at hO
  have k0 := fun B => (at_fst H B hpos).trans c0
  have j0 := fun B e => at_set_fst H B e hpos
  have s0 := fun B e => set_fst H B e hpos
  have s1 := fun B e e' => set_set_fst H B e e' hpos
  refine Tr.goW X hG (by kernel_rfl) ?_
  rcases hk with ⟨hk, rfl⟩ | ⟨hk, rfl⟩
  · simp only [hk] at hO
    simp [-AH.at, Tryz.f83, c0, k0, j0, s0, s1, at_app0, set_app0, at_set0, set_set0, at_app1, set_app1, at_set1, set_set1, Sx.c, hO, htake, hk, hst]
  · simp only [hk] at hO
    simp [-AH.at, Tryz.f83, c0, k0, j0, s0, s1, at_app0, set_app0, at_set0, set_set0, at_app1, set_app1, at_set1, set_set1, Sx.c, hO, htake, hk, hst]
theorem add_put (l : List Nd) (fs : List Fr) (o : Bool) (x : Sx) (a : Int) (h1 : x.kind ≠ 1) (h3 : x.kind ≠ 3) (h4 : x.kind ≠ 4) (h5 : x.kind ≠ 5) (h6 : x.kind ≠ 6) (h7 : x.kind ≠ 7) {m : Nat} (hs : Bd.ok m ⟨l, fs, o⟩) (hm : m < 137438953472) (hd : fs.length ≤ 8) :
    CS Tryz.prog envS 83 [.ptr 0 0, .agg x.c, .int .i64 a] (bdH ⟨l, fs, o⟩) .nilIface (bdH (Bd.put ⟨l, fs, true⟩ (.lf a x))) := by
  have he := put_cs ⟨l, fs, true⟩ (.lf a x) [some (.box x.c), some (.box (ndC (.lf a x)))] (m := m) ⟨hs.1, hs.2⟩ hm
  rw [← bd_set l fs o true] at he
  obtain ⟨H3, hH3⟩ : ∃ H3 : AH, H3 = bdH (Bd.put ⟨l, fs, true⟩ (.lf a x)) ++ [some (.box x.c), some (.box (ndC (.lf a x)))] := ⟨_, rfl⟩
  rw [← hH3] at he
  have hpl : (bdH (Bd.put ⟨l, fs, true⟩ (.lf a x))).length = (bdH ⟨l, fs, o⟩).length := by rw [bdH_len, bdH_len, Bd.put_len]
  have htake : H3.take (bdH ⟨l, fs, o⟩).length = bdH (Bd.put ⟨l, fs, true⟩ (.lf a x)) := by
    rw [hH3, List.take_left' hpl]
  have hlow : lowH (bdH ⟨l, fs, o⟩).length (bdH (Bd.put ⟨l, fs, true⟩ (.lf a x))) = true := bdH_low _ _ (by rw [Bd.put_len, bdH_len]; exact Nat.le_refl _)
  generalize bdH (Bd.put ⟨l, fs, true⟩ (.lf a x)) = H1 at *
  have X := orP_cx he oNilW
  have hO := orP_at 128 [.ptr 0 0, .agg (ndC (.lf a x))] ((bdH ⟨l, fs, o⟩).set 0 (some (.box (Bd.c ⟨l, fs, true⟩))) ++ [some (.box x.c), some (.box (ndC (.lf a x)))]) (.tup []) H3 oNil
  generalize orP 128 [.ptr 0 0, .agg (ndC (.lf a x))] ((bdH ⟨l, fs, o⟩).set 0 (some (.box (Bd.c ⟨l, fs, true⟩))) ++ [some (.box x.c), some (.box (ndC (.lf a x)))]) (.tup []) H3 oNil = O at X hO
  clear he hH3 hpl
  have hlen : (bdH ⟨l, fs, o⟩).length = 2 + 3 * fs.length := bdH_len _
  have c0 : AH.at (bdH ⟨l, fs, o⟩) 0 = some (.box (Bd.c ⟨l, fs, o⟩)) := rfl
  refine CS.of_Tr (c := bodyOf Tryz.f83) (H0 := bdH ⟨l, fs, o⟩) (H1 := H1) Tryz.func83 (by kernel_rfl) 0 (by simp [Tryz.f83]) (fun B hB hG => ?_) rfl hlow
  generalize bdH ⟨l, fs, o⟩ = H at *
  have hpos : 0 < H.length := by omega
  simp only [Bd.c] at c0
  simp only [Sx.c, lfC, Bd.c, List.cons_append, List.nil_append] at hO
  have k0 := fun B => (at_fst H B hpos).trans c0
  have j0 := fun B e => at_set_fst H B e hpos
  have s0 := fun B e => set_fst H B e hpos
  have s1 := fun B e e' => set_set_fst H B e e' hpos
  refine Tr.goW X hG (by kernel_rfl) ?_
  simp [-AH.at, Tryz.f83, c0, k0, j0, s0, s1, at_app0, set_app0, at_set0, set_set0, at_app1, set_app1, at_set1, set_set1, Sx.c, hO, htake, h1, h3, h4, h5, h6, h7]
theorem add_decl (l : List Nd) (fs : List Fr) (o : Bool) (x : Sx) (a : Int) (h1 : x.kind = 1) (ho : o = false) (hf : fs = []) {m : Nat} (hs : Bd.ok m ⟨l, fs, o⟩) (hm : m < 137438953472) (hd : fs.length ≤ 8) :
    CS Tryz.prog envS 83 [.ptr 0 0, .agg x.c, .int .i64 a] (bdH ⟨l, fs, o⟩) .nilIface (bdH (Bd.put ⟨l, fs, o⟩ (.lf a x))) := by
  have he := put_cs ⟨l, fs, o⟩ (.lf a x) [some (.box x.c), some (.box (ndC (.lf a x)))] (m := m) ⟨hs.1, hs.2⟩ hm
  obtain ⟨H3, hH3⟩ : ∃ H3 : AH, H3 = bdH (Bd.put ⟨l, fs, o⟩ (.lf a x)) ++ [some (.box x.c), some (.box (ndC (.lf a x)))] := ⟨_, rfl⟩
  rw [← hH3] at he
  have hpl : (bdH (Bd.put ⟨l, fs, o⟩ (.lf a x))).length = (bdH ⟨l, fs, o⟩).length := by rw [bdH_len, bdH_len, Bd.put_len]
  have htake : H3.take (bdH ⟨l, fs, o⟩).length = bdH (Bd.put ⟨l, fs, o⟩ (.lf a x)) := by
    rw [hH3, List.take_left' hpl]
  have hlow : lowH (bdH ⟨l, fs, o⟩).length (bdH (Bd.put ⟨l, fs, o⟩ (.lf a x))) = true := bdH_low _ _ (by rw [Bd.put_len, bdH_len]; exact Nat.le_refl _)
  generalize bdH (Bd.put ⟨l, fs, o⟩ (.lf a x)) = H1 at *
  have X := orP_cx he oNilW
  have hO := orP_at 128 [.ptr 0 0, .agg (ndC (.lf a x))] (bdH ⟨l, fs, o⟩ ++ [some (.box x.c), some (.box (ndC (.lf a x)))]) (.tup []) H3 oNil
  generalize orP 128 [.ptr 0 0, .agg (ndC (.lf a x))] (bdH ⟨l, fs, o⟩ ++ [some (.box x.c), some (.box (ndC (.lf a x)))]) (.tup []) H3 oNil = O at X hO
  clear he hH3 hpl
  have hlen : (bdH ⟨l, fs, o⟩).length = 2 + 3 * fs.length := bdH_len _
  have c0 : AH.at (bdH ⟨l, fs, o⟩) 0 = some (.box (Bd.c ⟨l, fs, o⟩)) := rfl
  refine CS.of_Tr (c := bodyOf Tryz.f83) (H0 := bdH ⟨l, fs, o⟩) (H1 := H1) Tryz.func83 (by kernel_rfl) 0 (by simp [Tryz.f83]) (fun B hB hG => ?_) rfl hlow
  generalize bdH ⟨l, fs, o⟩ = H at *
  have hpos : 0 < H.length := by omega
  simp only [Bd.c] at c0
  simp only [Sx.c, lfC, Bd.c, List.cons_append, List.nil_append] at hO
  have k0 := fun B => (at_fst H B hpos).trans c0
  have j0 := fun B e => at_set_fst H B e hpos
  have s0 := fun B e => set_fst H B e hpos
  have s1 := fun B e e' => set_set_fst H B e e' hpos
  refine Tr.goW X hG (by kernel_rfl) ?_
  subst ho; subst hf
  simp only [upC_zero, List.length_nil] at c0 k0
  simp only [h1] at hO
  simp [-AH.at, Tryz.f83, c0, k0, j0, s0, s1, at_app0, set_app0, at_set0, set_set0, at_app1, set_app1, at_set1, set_set1, Sx.c, hO, htake, h1]
theorem add_else0 (l : List Nd) (fs : List Fr) (o : Bool) (x : Sx) (a : Int) (h6 : x.kind = 6) (hf : fs = []) (hd : fs.length ≤ 8) :
    CS Tryz.prog envS 83 [.ptr 0 0, .agg x.c, .int .i64 a] (bdH ⟨l, fs, o⟩) (codeAV 12) (bdH ⟨l, fs, true⟩) := by
  have hlow : lowH (bdH ⟨l, fs, o⟩).length (bdH ⟨l, fs, true⟩) = true := bdH_low _ _ (by rw [bdH_len]; exact Nat.le_refl _)
  have hO : bdH ⟨l, fs, true⟩ = (bdH ⟨l, fs, o⟩).set 0 (some (.box (Bd.c ⟨l, fs, true⟩))) := rfl
  have X : CxW oNil Tryz.prog envS [] := oNilW
  have hlen : (bdH ⟨l, fs, o⟩).length = 2 + 3 * fs.length := bdH_len _
  have c0 : AH.at (bdH ⟨l, fs, o⟩) 0 = some (.box (Bd.c ⟨l, fs, o⟩)) := rfl
  refine CS.of_Tr (c := bodyOf Tryz.f83) (H0 := bdH ⟨l, fs, o⟩) (H1 := bdH ⟨l, fs, true⟩) Tryz.func83 (by kernel_rfl) 0 (by simp [Tryz.f83]) (fun B hB hG => ?_) rfl hlow
  rw [hO]
  have htake : ∀ (H : AH) e B, (H.set 0 e ++ B).take H.length = H.set 0 e := fun H e B => List.take_left' (by rw [List.length_set])
  have htake' : ∀ (H B : AH), (H ++ B).take H.length = H := fun H B => List.take_left' rfl
  generalize bdH ⟨l, fs, o⟩ = H at *
  have hpos : 0 < H.length := by omega
  simp only [Bd.c] at c0
  simp only [Sx.c, lfC, Bd.c, List.cons_append, List.nil_append] at hO
  have k0 := fun B => (at_fst H B hpos).trans c0
  have j0 := fun B e => at_set_fst H B e hpos
  have s0 := fun B e => set_fst H B e hpos
  have s1 := fun B e e' => set_set_fst H B e e' hpos
  refine Tr.goW X hG (by kernel_rfl) ?_
  subst hf
  simp only [upC_zero, List.length_nil] at c0 k0
  simp [-AH.at, Tryz.f83, c0, k0, j0, s0, s1, at_app0, set_app0, at_set0, set_set0, at_app1, set_app1, at_set1, set_set1, Sx.c, hO, htake, htake', codeAV, h6]
  rfl
theorem add_else1 (l : List Nd) (fs : List Fr) (o : Bool) (x : Sx) (a : Int) (h6 : x.kind = 6) (hf : ∃ f r, fs = f :: r ∧ (f.st.kind ≠ 5 ∨ 0 ≤ f.mid)) (hd : fs.length ≤ 8) :
    CS Tryz.prog envS 83 [.ptr 0 0, .agg x.c, .int .i64 a] (bdH ⟨l, fs, o⟩) (codeAV 12) (bdH ⟨l, fs, true⟩) := by
  have hlow : lowH (bdH ⟨l, fs, o⟩).length (bdH ⟨l, fs, true⟩) = true := bdH_low _ _ (by rw [bdH_len]; exact Nat.le_refl _)
  have hO : bdH ⟨l, fs, true⟩ = (bdH ⟨l, fs, o⟩).set 0 (some (.box (Bd.c ⟨l, fs, true⟩))) := rfl
  have X : CxW oNil Tryz.prog envS [] := oNilW
  have hlen : (bdH ⟨l, fs, o⟩).length = 2 + 3 * fs.length := bdH_len _
  have c0 : AH.at (bdH ⟨l, fs, o⟩) 0 = some (.box (Bd.c ⟨l, fs, o⟩)) := rfl
  have hf' := hf
  obtain ⟨f, r, rfl, hf⟩ := hf
  have cF := bd_atF l f r o []
  rw [List.append_nil] at cF
  simp only [Fr.c, Fr.pre, Sx.c, List.cons_append, List.nil_append] at cF
  refine CS.of_Tr (c := bodyOf Tryz.f83) (H0 := bdH ⟨l, f :: r, o⟩) (H1 := bdH ⟨l, f :: r, true⟩) Tryz.func83 (by kernel_rfl) 0 (by simp [Tryz.f83]) (fun B hB hG => ?_) rfl hlow
  rw [hO]
  have htake : ∀ (H : AH) e B, (H.set 0 e ++ B).take H.length = H.set 0 e := fun H e B => List.take_left' (by rw [List.length_set])
  have htake' : ∀ (H B : AH), (H ++ B).take H.length = H := fun H B => List.take_left' rfl
  generalize bdH ⟨l, f :: r, o⟩ = H at *
  have hpos : 0 < H.length := by omega
  simp only [Bd.c] at c0
  simp only [Sx.c, lfC, Bd.c, List.cons_append, List.nil_append] at hO
  have k0 := fun B => (at_fst H B hpos).trans c0
  have j0 := fun B e => at_set_fst H B e hpos
  have s0 := fun B e => set_fst H B e hpos
  have s1 := fun B e e' => set_set_fst H B e e' hpos
  refine Tr.goW X hG (by kernel_rfl) ?_
  simp only [upC_succ, List.length_cons] at c0 k0
  simp only [List.length_cons] at hlen hd
  have hFl : 2 + 3 * r.length < H.length := by omega
  have hF0 : 2 + 3 * r.length ≠ 0 := by omega
  have kF := fun B => (at_appL (A := H) (B := B) hFl).trans cF
  have jF := fun B e => (at_set_oth (H := H) B e hFl hF0).trans cF
  by_cases hk : f.st.kind = 5
  · have hmid : 0 ≤ f.mid := by rcases hf with h | h; exact absurd hk h; exact h
    simp [-AH.at, Tryz.f83, c0, k0, j0, s0, s1, at_app0, set_app0, at_set0, set_set0, at_app1, set_app1, at_set1, set_set1, Sx.c, hO, htake, htake', codeAV, h6, cF, kF, jF, hk, hmid]
    rfl
  · simp [-AH.at, Tryz.f83, c0, k0, j0, s0, s1, at_app0, set_app0, at_set0, set_set0, at_app1, set_app1, at_set1, set_set1, Sx.c, hO, htake, htake', codeAV, h6, cF, kF, jF, hk]
    rfl
theorem add_deep (l : List Nd) (fs : List Fr) (o : Bool) (x : Sx) (a : Int) (h3 : x.kind = 3 ∨ x.kind = 5) (hf : fs.length = 8) (hd : fs.length ≤ 8) :
    CS Tryz.prog envS 83 [.ptr 0 0, .agg x.c, .int .i64 a] (bdH ⟨l, fs, o⟩) (codeAV 4) (bdH ⟨l, fs, true⟩) := by
  have hlow : lowH (bdH ⟨l, fs, o⟩).length (bdH ⟨l, fs, true⟩) = true := bdH_low _ _ (by rw [bdH_len]; exact Nat.le_refl _)
  have hO : bdH ⟨l, fs, true⟩ = (bdH ⟨l, fs, o⟩).set 0 (some (.box (Bd.c ⟨l, fs, true⟩))) := rfl
  have X : CxW oNil Tryz.prog envS [] := oNilW
  have hlen : (bdH ⟨l, fs, o⟩).length = 2 + 3 * fs.length := bdH_len _
  have c0 : AH.at (bdH ⟨l, fs, o⟩) 0 = some (.box (Bd.c ⟨l, fs, o⟩)) := rfl
  refine CS.of_Tr (c := bodyOf Tryz.f83) (H0 := bdH ⟨l, fs, o⟩) (H1 := bdH ⟨l, fs, true⟩) Tryz.func83 (by kernel_rfl) 0 (by simp [Tryz.f83]) (fun B hB hG => ?_) rfl hlow
  rw [hO]
  have htake : ∀ (H : AH) e B, (H.set 0 e ++ B).take H.length = H.set 0 e := fun H e B => List.take_left' (by rw [List.length_set])
  have htake' : ∀ (H B : AH), (H ++ B).take H.length = H := fun H B => List.take_left' rfl
  generalize bdH ⟨l, fs, o⟩ = H at *
  have hpos : 0 < H.length := by omega
  simp only [Bd.c] at c0
  simp only [Sx.c, lfC, Bd.c, List.cons_append, List.nil_append] at hO
  have k0 := fun B => (at_fst H B hpos).trans c0
  have j0 := fun B e => at_set_fst H B e hpos
  have s0 := fun B e => set_fst H B e hpos
  have s1 := fun B e e' => set_set_fst H B e e' hpos
  refine Tr.goW X hG (by kernel_rfl) ?_
  have hf8 : (fs.length : Int) = 8 := by omega
  have e8 : Bd.c ⟨l, fs, true⟩ = [ndE.tk 1 l, upC fs.length, .int .i64 8, .bool true] := by simp only [Bd.c, hf8]
  rw [e8]
  rcases h3 with h3 | h3
  · simp [-AH.at, Tryz.f83, c0, k0, j0, s0, s1, at_app0, set_app0, at_set0, set_set0, at_app1, set_app1, at_set1, set_set1, Sx.c, hO, htake, htake', codeAV, h3, hf8]
  · simp [-AH.at, Tryz.f83, c0, k0, j0, s0, s1, at_app0, set_app0, at_set0, set_set0, at_app1, set_app1, at_set1, set_set1, Sx.c, hO, htake, htake', codeAV, h3, hf8]
theorem add_late (l : List Nd) (fs : List Fr) (o : Bool) (x : Sx) (a : Int) (h1 : x.kind = 1) (hf : o = true ∨ fs ≠ []) (hd : fs.length ≤ 8) :
    CS Tryz.prog envS 83 [.ptr 0 0, .agg x.c, .int .i64 a] (bdH ⟨l, fs, o⟩) (codeAV 2) (bdH ⟨l, fs, o⟩) := by
  have hlow : lowH (bdH ⟨l, fs, o⟩).length (bdH ⟨l, fs, o⟩) = true := bdH_low _ _ (by rw [bdH_len]; exact Nat.le_refl _)
  have hO : bdH ⟨l, fs, o⟩ = bdH ⟨l, fs, o⟩ := rfl
  have X : CxW oNil Tryz.prog envS [] := oNilW
  have hlen : (bdH ⟨l, fs, o⟩).length = 2 + 3 * fs.length := bdH_len _
  have c0 : AH.at (bdH ⟨l, fs, o⟩) 0 = some (.box (Bd.c ⟨l, fs, o⟩)) := rfl
  refine CS.of_Tr (c := bodyOf Tryz.f83) (H0 := bdH ⟨l, fs, o⟩) (H1 := bdH ⟨l, fs, o⟩) Tryz.func83 (by kernel_rfl) 0 (by simp [Tryz.f83]) (fun B hB hG => ?_) rfl hlow
  rw [hO]
  have htake : ∀ (H : AH) e B, (H.set 0 e ++ B).take H.length = H.set 0 e := fun H e B => List.take_left' (by rw [List.length_set])
  have htake' : ∀ (H B : AH), (H ++ B).take H.length = H := fun H B => List.take_left' rfl
  generalize bdH ⟨l, fs, o⟩ = H at *
  have hpos : 0 < H.length := by omega
  simp only [Bd.c] at c0
  simp only [Sx.c, lfC, Bd.c, List.cons_append, List.nil_append] at hO
  have k0 := fun B => (at_fst H B hpos).trans c0
  have j0 := fun B e => at_set_fst H B e hpos
  have s0 := fun B e => set_fst H B e hpos
  have s1 := fun B e e' => set_set_fst H B e e' hpos
  refine Tr.goW X hG (by kernel_rfl) ?_
  cases o with
  | true => simp [-AH.at, Tryz.f83, c0, k0, j0, s0, s1, at_app0, set_app0, at_set0, set_set0, at_app1, set_app1, at_set1, set_set1, Sx.c, hO, htake, htake', codeAV, h1]
  | false =>
    obtain ⟨d, hd2⟩ : ∃ d, fs.length = d + 1 := by
      cases fs with
      | nil => simp at hf
      | cons f r => exact ⟨r.length, rfl⟩
    simp only [hd2, upC_succ] at c0 k0
    simp [-AH.at, Tryz.f83, c0, k0, j0, s0, s1, at_app0, set_app0, at_set0, set_set0, at_app1, set_app1, at_set1, set_set1, Sx.c, hO, htake, htake', codeAV, h1]
theorem add_else (l : List Nd) (f : Fr) (r : List Fr) (o : Bool) (x : Sx) (a : Int) (h6 : x.kind = 6) (hk : f.st.kind = 5) (hmid : f.mid < 0) (hd : r.length < 8) :
    CS Tryz.prog envS 83 [.ptr 0 0, .agg x.c, .int .i64 a] (bdH ⟨l, f :: r, o⟩) .nilIface (bdH ⟨l, { f with mid := a } :: r, true⟩) := by
  have hlow : lowH (bdH ⟨l, f :: r, o⟩).length (bdH ⟨l, { f with mid := a } :: r, true⟩) = true := bdH_low _ _ (by rw [bdH_len]; exact Nat.le_refl _)
  have hset : ((bdH ⟨l, f :: r, o⟩).set 0 (some (.box (Bd.c ⟨l, f :: r, true⟩)))).set (2 + 3 * r.length) (some (.box (Fr.c r.length { f with mid := a }))) = bdH ⟨l, { f with mid := a } :: r, true⟩ := by
    rw [bd_set]
    have h1 : bdH ⟨l, f :: r, true⟩ = (some (.box (Bd.c ⟨l, f :: r, true⟩)) :: tokE l :: frH r) ++ f.h r.length := by simp [bdH, frH]
    rw [h1, List.set_append_right _ _ (by simp [frH_len]; omega)]
    have h2 : (2 + 3 * r.length) - (some (Ent.box (Bd.c ⟨l, f :: r, true⟩)) :: tokE l :: frH r).length = 0 := by simp [frH_len]; omega
    rw [h2]
    simp [bdH, frH, Fr.h]
    rfl
  obtain ⟨H1, hO⟩ : ∃ H1, H1 = bdH ⟨l, { f with mid := a } :: r, true⟩ := ⟨_, rfl⟩
  rw [← hO] at hset hlow ⊢
  have X : CxW oNil Tryz.prog envS [] := oNilW
  have hlen : (bdH ⟨l, f :: r, o⟩).length = 2 + 3 * (f :: r).length := bdH_len _
  have c0 : AH.at (bdH ⟨l, f :: r, o⟩) 0 = some (.box (Bd.c ⟨l, f :: r, o⟩)) := rfl
  have cF := bd_atF l f r o []
  rw [List.append_nil] at cF
  simp only [Fr.c, Fr.pre, Sx.c, List.cons_append, List.nil_append] at cF hset
  refine CS.of_Tr (c := bodyOf Tryz.f83) (H0 := bdH ⟨l, f :: r, o⟩) (H1 := H1) Tryz.func83 (by kernel_rfl) 0 (by simp [Tryz.f83]) (fun B hB hG => ?_) rfl hlow
  clear hO hlow
  generalize bdH ⟨l, f :: r, o⟩ = H at *
  have hpos : 0 < H.length := by omega
  simp only [Bd.c, upC_succ, List.length_cons] at c0 hset
  have k0 := fun B => (at_fst H B hpos).trans c0
  have j0 := fun B e => at_set_fst H B e hpos
  have s0 := fun B e => set_fst H B e hpos
  have s1 := fun B e e' => set_set_fst H B e e' hpos
  simp only [List.length_cons] at hlen
  have hFl : 2 + 3 * r.length < H.length := by omega
  have hF0 : 2 + 3 * r.length ≠ 0 := by omega
  have kF := fun B => (at_appL (A := H) (B := B) hFl).trans cF
  have jF := fun B e => (at_set_oth (H := H) B e hFl hF0).trans cF
  have sF : ∀ B e e', (H.set 0 e ++ B).set (2 + 3 * r.length) e' = (H.set 0 e).set (2 + 3 * r.length) e' ++ B := fun B e e' => List.set_append_left _ _ (by rw [List.length_set]; exact hFl)
  have tF : ∀ B e e', ((H.set 0 e).set (2 + 3 * r.length) e' ++ B).take H.length = (H.set 0 e).set (2 + 3 * r.length) e' := fun B e e' => List.take_left' (by rw [List.length_set, List.length_set])
  have hm0 : ¬ 0 ≤ f.mid := by omega
  have ec : (((r.length + 1 : Nat) : Int)) = (r.length : Int) + 1 := rfl
  have hl1 : H1.length = H.length := by rw [← hset]; simp
  have tH : ∀ B, (H1 ++ B).take H.length = H1 := fun B => List.take_left' hl1
  simp only [hk, ec] at hset cF kF jF
  refine Tr.goW X hG (by kernel_rfl) ?_
  simp [-AH.at, Tryz.f83, c0, k0, j0, s0, s1, kF, jF, sF, tF, cF, at_app0, set_app0, at_set0, set_set0, at_app1, set_app1, at_set1, set_set1, Sx.c, h6, hk, hmid, hm0, hset, tH]
theorem add_push (l : List Nd) (fs : List Fr) (o : Bool) (x : Sx) (a : Int) (h3 : x.kind = 3 ∨ x.kind = 5) (hd : fs.length < 8) :
    CS Tryz.prog envS 83 [.ptr 0 0, .agg x.c, .int .i64 a] (bdH ⟨l, fs, o⟩) .nilIface (bdH ⟨l, ⟨a, a, x, [], [], -1⟩ :: fs, true⟩) := by
  have hlow : lowH ((bdH ⟨l, fs, o⟩).length + 3) (bdH ⟨l, ⟨a, a, x, [], [], -1⟩ :: fs, true⟩) = true := bdH_low _ _ (by rw [bdH_len]; simp only [List.length_cons]; omega)
  have hlen : (bdH ⟨l, fs, o⟩).length = 2 + 3 * fs.length := bdH_len _
  obtain ⟨N, hN⟩ : ∃ N, (bdH ⟨l, fs, o⟩).length = N := ⟨_, rfl⟩
  have c0 : AH.at (bdH ⟨l, fs, o⟩) 0 = some (.box (Bd.c ⟨l, fs, o⟩)) := rfl
  have hfin : bdH ⟨l, ⟨a, a, x, [], [], -1⟩ :: fs, true⟩ = (bdH ⟨l, fs, o⟩).set 0 (some (.box (Bd.c ⟨l, ⟨a, a, x, [], [], -1⟩ :: fs, true⟩))) ++ [some (.box (Fr.c fs.length ⟨a, a, x, [], [], -1⟩)), none, none] := by simp [bdH, frH, Fr.h]
  have hX : Cx oNil Tryz.prog envS := oNilS
  have X : CxW oNil Tryz.prog envS [] := oNilW
  refine CS.of_TrN (c := bodyOf Tryz.f83) (H0 := bdH ⟨l, fs, o⟩) (H1 := bdH ⟨l, ⟨a, a, x, [], [], -1⟩ :: fs, true⟩) ((bdH ⟨l, fs, o⟩).length + 3) (by omega) Tryz.func83 (by kernel_rfl) 0 (by simp [Tryz.f83]) (fun B hB hG => ?_) rfl hlow
  refine Tr.post ?_
  rw [hfin] at hlow ⊢
  simp only [Bd.c, Fr.c, Fr.pre, Sx.c, List.length_cons, List.cons_append, List.nil_append, upC_succ, Enc.tk_nil] at c0 hlow ⊢
  have hHl : lowH (bdH ⟨l, fs, o⟩).length (bdH ⟨l, fs, o⟩) = true := bdH_low _ _ (by rw [bdH_len]; exact Nat.le_refl _)
  generalize bdH ⟨l, fs, o⟩ = H at *
  have hpos : 0 < H.length := by omega
  have k0 := fun B => (at_fst H B hpos).trans c0
  have j0 := fun B e => at_set_fst H B e hpos
  have s0 := fun B e => set_fst H B e hpos
  have s1 := fun B e e' => set_set_fst H B e e' hpos
  have hup := upC_low (d := fs.length) (n := H.length) (by omega)
  have ec : (((fs.length + 1 : Nat) : Int)) = (fs.length : Int) + 1 := rfl
  have hf8 : ¬ (fs.length : Int) = 8 := by omega
  have w1 : IntKind.i64.wrap ((fs.length : Int) + 1) = (fs.length : Int) + 1 := wrap_i64 (by omega) (by omega)
  refine Tr.goW X hG (by kernel_rfl) ?_
  rcases h3 with h3 | h3
  · simp [-AH.at, Tryz.f83, c0, k0, j0, s0, s1, at_app0, set_app0, at_set0, set_set0, at_app1, set_app1, at_set1, set_set1, Sx.c, h3, hf8, w1]
    refine LpD.turnsW hX hG [7, 10] [(0, 7)] (by kernel_rfl) ?_
    simp [-AH.at, c0, k0, j0, s0, s1, at_app0, set_app0, at_set0, set_set0, at_app1, set_app1, at_set1, set_set1]
    refine ⟨mkT 112 [(6, .nilIface)], _, ?_, by simp, List.take_of_length_le (by simp)⟩
    exact push_less hB hlen.symm (by omega) hHl (by simp) l _ _ (by simp [hup]) _ _
  · simp [-AH.at, Tryz.f83, c0, k0, j0, s0, s1, at_app0, set_app0, at_set0, set_set0, at_app1, set_app1, at_set1, set_set1, Sx.c, h3, hf8, w1]
    refine LpD.turnsW hX hG [7, 10] [(0, 7)] (by kernel_rfl) ?_
    simp [-AH.at, c0, k0, j0, s0, s1, at_app0, set_app0, at_set0, set_set0, at_app1, set_app1, at_set1, set_set1]
    refine ⟨mkT 112 [(6, .nilIface)], _, ?_, by simp, List.take_of_length_le (by simp)⟩
    exact push_less hB hlen.symm (by omega) hHl (by simp) l _ _ (by simp [hup]) _ _
end Go.Proofs.YtejjlojfgcgopaaGreatDoor

namespace Go.Proofs.YtejjlojfgcgopaaGreatDoor
open Go.RowKit Go.Proofs.Fw
set_option maxRecDepth 100000
set_option maxHeartbeats 4000000
theorem add_cs (s : Bd) (x : Sx) (a : Int) {m : Nat} (hs : s.ok m) (hm : m < 137438953472) (hd : s.fs.length ≤ 8) :
    ∃ X : AH, CS Tryz.prog envS 83 [.ptr 0 0, .agg x.c, .int .i64 a] (bdH s) (codeAV (s.add x a).2) (bdH (s.add x a).1 ++ X) ∧ (bdH s).length ≤ (bdH (s.add x a).1 ++ X).length ∧ lowH (bdH (s.add x a).1 ++ X).length (bdH (s.add x a).1 ++ X) = true := by
  have nil : ∀ {s' : Bd} {c : Nat}, s.add x a = (s', c) → (bdH s).length ≤ (bdH s').length → CS Tryz.prog envS 83 [.ptr 0 0, .agg x.c, .int .i64 a] (bdH s) (codeAV c) (bdH s') →
      ∃ X : AH, CS Tryz.prog envS 83 [.ptr 0 0, .agg x.c, .int .i64 a] (bdH s) (codeAV (s.add x a).2) (bdH (s.add x a).1 ++ X) ∧ (bdH s).length ≤ (bdH (s.add x a).1 ++ X).length ∧ lowH (bdH (s.add x a).1 ++ X).length (bdH (s.add x a).1 ++ X) = true := by
    intro s' c he hl h
    refine ⟨[], ?_⟩
    rw [he, List.append_nil]
    exact ⟨h, hl, bdH_low _ _ (by rw [bdH_len]; exact Nat.le_refl _)⟩
  obtain ⟨l, fs, o⟩ := s
  have fin : ∀ k : Int, (x.kind = 4 ∧ k = 3 ∨ x.kind = 7 ∧ k = 5) → Bd.add ⟨l, fs, o⟩ x a = Bd.fin ⟨l, fs, true⟩ k a →
      ∃ X : AH, CS Tryz.prog envS 83 [.ptr 0 0, .agg x.c, .int .i64 a] (bdH ⟨l, fs, o⟩) (codeAV (Bd.add ⟨l, fs, o⟩ x a).2) (bdH (Bd.add ⟨l, fs, o⟩ x a).1 ++ X) ∧ (bdH ⟨l, fs, o⟩).length ≤ (bdH (Bd.add ⟨l, fs, o⟩ x a).1 ++ X).length ∧ lowH (bdH (Bd.add ⟨l, fs, o⟩ x a).1 ++ X).length (bdH (Bd.add ⟨l, fs, o⟩ x a).1 ++ X) = true := by
    intro k hk he
    refine ⟨endH ⟨l, fs, true⟩ k, ?_⟩
    rw [he]
    have h1 := fin_len ⟨l, fs, true⟩ k a
    refine ⟨add_end l fs o x a k hk hs hm hd, by rw [h1, bdH_len, bdH_len]; exact Nat.le_refl _, ?_⟩
    rw [h1, lowH_app, bdH_low _ _ (by have := Bd.fin_len ⟨l, fs, true⟩ k a; rw [bdH_len]; simp only at this ⊢; omega)]
    cases fs with
    | nil => rfl
    | cons f r =>
      simp only [endH]
      split
      · rw [fr_low _ _ _ (by rw [bdH_len]; simp only [List.length_cons]; omega)]; rfl
      · rfl
  have mk1 : x.kind ≠ 1 → Bd.mark ⟨l, fs, o⟩ x = ⟨l, fs, true⟩ := fun h => by unfold Bd.mark; rw [if_neg h]
  have mk0 : x.kind = 1 → Bd.mark ⟨l, fs, o⟩ x = ⟨l, fs, o⟩ := fun h => by unfold Bd.mark; rw [if_pos h]
  by_cases h4 : x.kind = 4
  · exact fin 3 (.inl ⟨h4, rfl⟩) (by simp [Bd.add, h4, mk1 (by omega)])
  by_cases h7 : x.kind = 7
  · exact fin 5 (.inr ⟨h7, rfl⟩) (by simp [Bd.add, h7, mk1 (by omega)])
  by_cases h6 : x.kind = 6
  · cases fs with
    | nil => exact nil (s' := ⟨l, [], true⟩) (c := 12) (by simp [Bd.add, h6, mk1 (by omega)]) (by rw [bdH_len, bdH_len]; exact Nat.le_refl _) (add_else0 l [] o x a h6 rfl hd)
    | cons f r =>
      by_cases hc : f.st.kind = 5 ∧ f.mid < 0
      · exact nil (s' := ⟨l, { f with mid := a } :: r, true⟩) (c := 0) (by simp [Bd.add, h6, mk1 (by omega), hc]) (by rw [bdH_len, bdH_len]; exact Nat.le_refl _) (add_else l f r o x a h6 hc.1 hc.2 (by simp only [List.length_cons] at hd; omega))
      · exact nil (s' := ⟨l, f :: r, true⟩) (c := 12) (by simp [Bd.add, h6, mk1 (by omega)]; intro h1; have : ¬ f.mid < 0 := fun h2 => hc ⟨h1, h2⟩; omega) (by rw [bdH_len, bdH_len]; exact Nat.le_refl _)
          (add_else1 l (f :: r) o x a h6 ⟨f, r, rfl, by
            by_cases h5 : f.st.kind = 5
            · exact .inr (by have : ¬ f.mid < 0 := fun hm => hc ⟨h5, hm⟩; omega)
            · exact .inl h5⟩ hd)
  by_cases h3 : x.kind = 3 ∨ x.kind = 5
  · have hm1 := mk1 (by rcases h3 with h | h <;> rw [h] <;> decide)
    by_cases h8 : fs.length = 8
    · exact nil (s' := ⟨l, fs, true⟩) (c := 4) (by simp [Bd.add, h4, h7, h6, h3, hm1, h8]) (by rw [bdH_len, bdH_len]; exact Nat.le_refl _) (add_deep l fs o x a h3 h8 hd)
    · exact nil (s' := ⟨l, ⟨a, a, x, [], [], -1⟩ :: fs, true⟩) (c := 0) (by simp [Bd.add, h4, h7, h6, h3, hm1, h8]) (by rw [bdH_len, bdH_len]; simp only [List.length_cons]; omega) (add_push l fs o x a h3 (by simp only at hd; omega))
  by_cases h1 : x.kind = 1
  · by_cases hl : o = true ∨ fs ≠ []
    · exact nil (s' := ⟨l, fs, o⟩) (c := 2) (by simp [Bd.add, h1, mk0 h1]; intro h2 h3; simp [h2, h3] at hl) (Nat.le_refl _) (add_late l fs o x a h1 hl hd)
    · have ho : o = false := by cases o; rfl; simp at hl
      have hf : fs = [] := by cases fs; rfl; simp at hl
      subst ho; subst hf
      exact nil (s' := Bd.put ⟨l, [], false⟩ (.lf a x)) (c := 0) (by simp [Bd.add, h1, mk0 h1]) (by rw [bdH_len, bdH_len, Bd.put_len]; exact Nat.le_refl _) (add_decl l [] false x a h1 rfl rfl hs hm hd)
  · exact nil (s' := Bd.put ⟨l, fs, true⟩ (.lf a x)) (c := 0) (by simp [Bd.add, h4, h7, h6, h3, h1, mk1 h1]) (by rw [bdH_len, bdH_len, Bd.put_len]; exact Nat.le_refl _) (add_put l fs o x a h1 (fun h => h3 (.inl h)) h4 (fun h => h3 (.inr h)) h6 h7 hs hm hd)
def psB (N : Nat) (i : Nat) : Nat := if i < N then i else i + 1
def behB (N : Nat) (e : Option Ent) (H : AH) : AH := (H.take N).map (Option.map (renE (psB N))) ++ e :: (H.drop N).map (Option.map (renE (psB N)))
theorem psB_inj (N : Nat) (i j : Nat) (h : psB N i = psB N j) : i = j := by unfold psB at h; split at h <;> split at h <;> omega
theorem at_drop {H : AH} {n i : Nat} : AH.at (List.drop n H) i = H.at (n + i) := by unfold AH.at; rw [List.getElem?_drop]
theorem behB_at (N : Nat) (e : Option Ent) (H : AH) (h : N ≤ H.length) (i : Nat) : AH.at (behB N e H) (psB N i) = (H.at i).map (renE (psB N)) := by
  have hn : Option.map (renE (psB N)) none = none := rfl
  have hl : ((H.take N).map (Option.map (renE (psB N)))).length = N := by simp [h]
  unfold behB
  by_cases hi : i < N
  · have : psB N i = i := if_pos hi
    rw [this, at_appL (by rw [hl]; exact hi), at_map hn, at_take, if_pos hi]
  · have : psB N i = i + 1 := if_neg hi
    rw [this, at_appR (by rw [hl]; omega), hl, show i + 1 - N = (i - N) + 1 by omega]
    have : ∀ (B : AH) (x : Option Ent) (j : Nat), AH.at (x :: B) (j + 1) = B.at j := fun B x j => rfl
    rw [this, at_map hn, at_drop, show N + (i - N) = i by omega]
theorem behB_mid (N : Nat) (e : Option Ent) (H : AH) (h : N ≤ H.length) : AH.at (behB N e H) N = e := by
  have hl : ((H.take N).map (Option.map (renE (psB N)))).length = N := by simp [h]
  unfold behB
  rw [at_appR (by rw [hl]; exact Nat.le_refl _), hl, Nat.sub_self]
  rfl
theorem CS.behind1 {f : FuncId} {args : List AV} {v : AV} {H0 H0' : AH} (e : Option Ent) (h : CS Tryz.prog envS f args H0 v H0') (hle : H0.length ≤ H0'.length) (ha : lowL H0.length args = true) (hv : low 0 v = true) (hl : lowH H0.length H0 = true) (hl' : lowH H0'.length H0' = true) :
    CS Tryz.prog envS f args (H0 ++ [e]) v (behB H0.length e H0') := by
  have hfix : ∀ i, i < H0.length → psB H0.length i = i := fun i hi => if_pos hi
  have := CS.grow (k := H0.length) (n := H0'.length) (psB H0.length) (H := H0 ++ [e]) (H' := behB H0.length e H0') h rfl rfl hle (fun i j _ _ h => psB_inj _ i j h) lowS ha (low_mono (Nat.zero_le _) v hv) hl hl' (by
    intro i hi
    rw [hfix i hi, at_appL hi, renE_fix hfix (by
      cases he : H0.at i with
      | none => rfl
      | some x => exact lowE_at hl he)]) (by
    intro i h1 h2
    have : psB H0.length i = i + 1 := if_neg (by omega)
    rw [this]
    exact at_ge (by simp; omega)) (fun i _ => behB_at _ e _ hle i) (by
    intro j hj
    by_cases hjN : j = H0.length
    · subst hjN
      rw [behB_mid _ e _ hle, at_appR (Nat.le_refl _), Nat.sub_self]
      rfl
    · have h1 : H0'.length < j := by
        rcases Nat.lt_or_ge H0'.length j with h | h
        · exact h
        · exfalso
          rcases Nat.lt_or_ge j H0.length with h2 | h2
          · exact hj j (by omega) (hfix j h2)
          · refine hj (j - 1) (by omega) ?_
            have : psB H0.length (j - 1) = (j - 1) + 1 := if_neg (by omega)
            rw [this]; omega
      rw [at_ge (by simp [behB]; omega), at_ge (by simp; omega)])
  rwa [renL_fix hfix _ ha, ren_low _ _ hv] at this
noncomputable def factS (F : Fact Tryz.prog envF) : Fact Tryz.prog envS where
  f := F.f
  α := F.α
  ok := F.ok
  args := F.args
  out := F.out
  up := F.up
  cs := fun x H h => ⟨CS.toS (F.cs x H h).1, (F.cs x H h).2⟩
  same := F.same
theorem tfault_cs (p : Int) (l : List (List UInt8 × Int)) (c : Int) (H : AH) : CS Tryz.prog envF 84 [.int .i64 p, errAV l c] H (errAV ((lineTxt', p) :: l) c) H := by
  refine CS.tr0 lowF Tryz.func84 (by kernel_rfl) 0 (by simp [Tryz.f84]) (fun B hB hG => ?_) (by simp) (by simp) H
  refine Tr.goD oNilF hG (by kernel_rfl) ?_
  simp [Tryz.f84, errAV, lineTxt']
noncomputable def fTfault : Fact Tryz.prog envF := Fact.pure 84 (fun _ : Int × List (List UInt8 × Int) × Int => True) (fun x => [.int .i64 x.1, errAV x.2.1 x.2.2]) (fun x => errAV ((lineTxt', x.1) :: x.2.1) x.2.2)
  (fun x _ H => tfault_cs x.1 x.2.1 x.2.2 H) (fun x y _ _ h => by
    obtain ⟨a, b, c⟩ := x
    obtain ⟨a', b', c'⟩ := y
    simp only [List.cons.injEq, AV.int.injEq, true_and, and_true] at h
    obtain ⟨h1, h2⟩ := errAV_inj h.2
    simp only
    rw [h.1, h1, h2])
noncomputable def fBparse : Fact Tryz.prog envF := Fact.pure 16 (fun s : List UInt8 => s.length < 1000000) (fun s => [.str s]) (fun s => pstmtAV (parseS (bodyOfLine s))) (fun s h H => pstmt_cs s h H) (fun x y _ _ h => by
  simp only [List.cons.injEq, AV.str.injEq, and_true] at h
  rw [h])
theorem codeAV_err {c : Nat} (h : c ≠ 0) : codeAV c = errAV [] (c : Int) := if_neg h
end Go.Proofs.YtejjlojfgcgopaaGreatDoor

namespace Go.Proofs.YtejjlojfgcgopaaGreatDoor
open Go.RowKit Go.Proofs.Fw
set_option maxRecDepth 100000
set_option maxHeartbeats 4000000
@[simp] theorem immFN : envF.imm 108 = false := by decide
@[simp] theorem immFB : envF.imm 175 = false := by decide
def lineTxt : List UInt8 := [108, 105, 110, 101]
@[simp high] theorem alenSx (l : List Sx) : alen Tryz.prog 172 (sxE.av l) = some (.int .i64 l.length) := sxE.alen Tryz.underlying172 l
end Go.Proofs.YtejjlojfgcgopaaGreatDoor

namespace Go.Proofs.YtejjlojfgcgopaaGreatDoor
open Go.RowKit Go.Proofs.Fw
set_option maxRecDepth 100000
set_option maxHeartbeats 4000000
@[simp high] theorem alenStr (l : List (List UInt8)) : alen Tryz.prog 23 (strE.av l) = some (.int .i64 l.length) := strE.alen Tryz.underlying23 l
@[simp high] theorem aidxStr {l : List (List UInt8)} {i : Nat} (h : i < l.length) : aindexAddr Tryz.prog 23 (strE.av l) (.int .i64 (i : Int)) = some (.vptr (strE.row l) (i * 1)) := strE.aidx Tryz.underlying23 (by kernel_rfl) h
@[simp] theorem bsSx (c0 c1 c2 c3 c4 c5 c6 c7 c8 c9 c10 c11 c12 c13 c14 c15 c16 c17 c18 c19 c20 c21 c22 c23 c24 c25 c26 c27 c28 : AV) : abuildSlice Tryz.prog 172 1 [(0, .agg [c0, c1, c2, c3, c4, c5, c6, c7, c8, c9, c10, c11, c12, c13, c14, c15, c16, c17, c18, c19, c20, c21, c22, c23, c24, c25, c26, c27, c28])] = some (.slice .full 29 1 [c0, c1, c2, c3, c4, c5, c6, c7, c8, c9, c10, c11, c12, c13, c14, c15, c16, c17, c18, c19, c20, c21, c22, c23, c24, c25, c26, c27, c28]) := by kernel_rfl
theorem encAppN {α : Type} (E : Enc α) {P : Program} {H : AH} {fid k : Nat} {t : TypeId} {ow : Own} (h : elemChk P t E.sz = true) (l : List α) (x : α) (h0 : l ≠ []) (hk : H.at k = some (.tok l.length)) (hb : l.length + 1 ≤ 137438953472) :
    aappend P H fid t t (E.tk k l) (.slice ow E.sz 1 (E.c x)) = some (E.tk k (l ++ [x]), [(k, .tok (l.length + 1))]) := by
  rw [E.tk_ne k h0, E.tk_ne k (by simp), List.length_append]
  exact E.app1_tok h l x rfl hk hb
theorem encApp0 {α : Type} (E : Enc α) {P : Program} {H : AH} {fid : Nat} {t : TypeId} {ow : Own} (h : elemChk P t E.sz = true) (x : α) :
    aappend P H fid t t .nilSlice (.slice ow E.sz 1 (E.c x)) = some (E.tk fid [x], [(fid, .tok 1)]) := by
  rw [E.tk_ne fid (by simp), E.row_one1]
  exact E.app1_nil h x
theorem encIds {α : Type} (E : Enc α) (k : Nat) {l : List α} (h : l ≠ []) : idsOf (E.tk k l) = [k] := by
  rw [E.tk_ne k h]
  simp only [idsOf, ids_low0L _ (E.row_low l)]
end Go.Proofs.YtejjlojfgcgopaaGreatDoor
