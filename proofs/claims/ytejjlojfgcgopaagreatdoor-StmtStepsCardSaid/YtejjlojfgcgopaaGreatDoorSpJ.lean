/- stmt.decl: what is declared, as a text. stmt.Text: a statement as a text. -/
import Derived.Test.YtejjlojfgcgopaaGreatDoorSpH
import Derived.Test.YtejjlojfgcgopaaGreatDoorFmC
set_option linter.unusedSimpArgs false
set_option linter.unusedVariables false
namespace Go.Proofs.YtejjlojfgcgopaaGreatDoor
open Go.RowKit Go.Proofs.Fw
set_option maxRecDepth 100000
set_option maxHeartbeats 4000000

def csT : List UInt8 := [44, 32]
def itemT (x : It) : List UInt8 := if x.dims = [] then x.name else x.name ++ ([40] ++ Lib.join (x.dims.map Lib.itoa) csT ++ [41])
def declT (l : List It) : List UInt8 := Lib.join (l.map itemT) csT
structure OkIt (x : It) : Prop where
  dims : x.dims.length ≤ 1000
  rng : ∀ n ∈ x.dims, I64 n
  name : x.name.length ≤ 1000000
theorem dims_len {d : List Int} (h1 : d.length ≤ 1000) (h2 : ∀ n ∈ d, I64 n) : (Lib.join (d.map Lib.itoa) csT).length ≤ 23000 := by
  have := join_le (sep := csT) (M := 21) (xs := d.map Lib.itoa) (by
    intro s hs
    obtain ⟨n, hn, rfl⟩ := List.mem_map.1 hs
    exact itoa_len (h2 n hn))
  rw [List.length_map] at this
  have e : csT.length = 2 := rfl
  rw [e] at this
  omega
theorem itemT_len {x : It} (h : OkIt x) : (itemT x).length ≤ 1023002 := by
  unfold itemT
  have h1 := h.name
  split
  · omega
  · have := dims_len h.dims h.rng
    simp only [List.length_append, List.length_cons, List.length_nil]
    omega
theorem declT_len {l : List It} (h : ∀ x ∈ l, OkIt x) (hl : l.length ≤ 1000000) : (declT l).length ≤ 2000000000000 := by
  have := join_le (sep := csT) (M := 1023002) (xs := l.map itemT) (by
    intro s hs
    obtain ⟨x, hx, rfl⟩ := List.mem_map.1 hs
    exact itemT_len (h x hx))
  rw [List.length_map] at this
  have e : csT.length = 2 := rfl
  rw [e] at this
  unfold declT
  omega
theorem elemStr : elemChk Tryz.prog 23 1 = true := by kernel_rfl
@[simp high] theorem alenSit (l : List It) : alen Tryz.prog 24 (itE.av l) = some (.int .i64 l.length) := itE.alen Tryz.underlying24 l
@[simp high] theorem aidxSit {l : List It} {i : Nat} (h : i < l.length) : aindexAddr Tryz.prog 24 (itE.av l) (.int .i64 (i : Int)) = some (.vptr (itE.row l) (i * 2)) := itE.aidx Tryz.underlying24 (by kernel_rfl) h
@[simp high] theorem alenDimA (l : List Int) : alen Tryz.prog 49 (dimE.av l) = some (.int .i64 l.length) := dimE.alen Tryz.underlying49 l
@[simp high] theorem aidxDim {l : List Int} {i : Nat} (h : i < l.length) : aindexAddr Tryz.prog 49 (dimE.av l) (.int .i64 (i : Int)) = some (.vptr (dimE.row l) i) := by
  have := dimE.aidx (P := Tryz.prog) Tryz.underlying49 (by kernel_rfl) h
  rw [dim_sz, Nat.mul_one] at this
  exact this
@[simp] theorem immFSi : envF.imm 121 = false := by decide
theorem map_take_succ {α β : Type} (f : α → β) {l : List α} {i : Nat} {x : α} (h : l[i]? = some x) : (l.take (i + 1)).map f = (l.take i).map f ++ [f x] := by
  obtain ⟨hl, he⟩ := List.getElem?_eq_some_iff.1 h
  rw [List.take_succ_eq_append_getElem hl, List.map_append, he]
  rfl

def DeI (l : List It) (k : Nat) (t : List AV) (H : AH) : Prop :=
  ∃ i, i + k = l.length ∧ t = mkT 48 [(10, itE.av l), (11, .int .i64 (l.length : Int)), (12, .int .i64 (i : Int)), (3, strE.tk 0 ((l.take i).map itemT))] ∧ H = tokL ((l.take i).map itemT)
def DdI (l : List It) (i : Nat) (o : AV) (P : AH) (b T : Nat) (x : It) (k : Nat) (t : List AV) (H : AH) : Prop :=
  ∃ j, j + k = x.dims.length ∧ t = mkT 48 [(10, itE.av l), (11, .int .i64 (l.length : Int)), (12, .int .i64 (i : Int)), (3, o), (5, .ptr b 0), (6, .str x.name), (7, strE.tk T ((x.dims.take j).map Lib.itoa)), (23, dimE.av x.dims), (24, .int .i64 (x.dims.length : Int)), (25, .int .i64 (j : Int))] ∧
    H = P ++ some (.box [.str x.name, dimE.av x.dims]) :: tokL ((x.dims.take j).map Lib.itoa)

theorem decl_cs (l : List It) (hl0 : l ≠ []) (hl : l.length ≤ 1000000) (hok : ∀ x ∈ l, OkIt x) (H : AH) : CS Tryz.prog envF 55 [itE.av l] H (.str (declT l)) H := by
  have hL : ([fFmt, fJoin].map (·.f)).Nodup := show ([57, 93] : List Nat).Nodup by decide
  have X := oOf_cx [fFmt, fJoin] methFOk mixed
  have f1 := fun n (h : I64 n) H => oOf_pure hL (show fFmt ∈ [fFmt, fJoin] by simp) n h H
  have f2 := fun ow xs (h0 : xs ≠ []) (h1 : xs.length ≤ 140737488355328) (h2 : (Lib.join xs csT).length ≤ 140737488355328) H => oOf_pure hL (show fJoin ∈ [fFmt, fJoin] by simp) (ow, xs, csT) ⟨h0, h1, h2⟩ H
  generalize oOf [fFmt, fJoin] = O at X f1 f2
  refine CS.tr0 lowF Tryz.func55 (by kernel_rfl) 0 (by simp [Tryz.f55]) (fun B hB hG => ?_) (by simp) (by simp) H
  refine Tr.goD X hG (by kernel_rfl) ?_
  simp [Tryz.f55]
  refine LpD.loopN X hG (by kernel_rfl) (DeI l) l.length (t' := mkT 48 [(10, itE.av l), (11, .int .i64 (l.length : Int)), (12, .int .i64 ((0 : Nat) : Int)), (3, .nilSlice)]) (H' := []) (Less.mk0 hB (by simp)) ⟨0, by omega, rfl, rfl⟩ ?_
  rintro k t H ⟨i, hik, rfl, rfl⟩
  have hstr := fun (n : Nat) (l : List (List UInt8)) => strE.row_strip n l
  have hlow := fun (n : Nat) (l : List (List UInt8)) => strE.row_lowm n l
  simp only [csT] at f2
  simp at f2
  cases k with
  | zero =>
    obtain rfl : i = l.length := by omega
    have hn : ((l.map itemT).length : Nat) = l.length := List.length_map ..
    have hj := declT_len hok hl
    have hf := f2 (.tok 0) (l.map itemT) (by simpa using hl0) (by simp; omega) (by unfold declT csT at hj; omega)
    have htk : strE.tk 0 (l.map itemT) = .slice (.tok 0) 1 l.length ((l.map itemT).map .str) := by rw [strE.tk_ne 0 (by simpa using hl0), strE_row, hn]; rfl
    simp at hf
    rw [List.take_length, htk]
    simp [Blk_exit, hf, declT, csT]
  | succ k =>
    have hil : i < l.length := by omega
    have hil' : (i : Int) < l.length := by omega
    obtain ⟨x, hx⟩ : ∃ x, l[i]? = some x := ⟨_, List.getElem?_eq_getElem hil⟩
    have hxo := hok x (List.mem_of_getElem? hx)
    obtain ⟨c1, c2⟩ := itE.row_at l i hx
    simp only [it_sz, it_c] at c1 c2
    have hsucc := map_take_succ itemT hx
    have w1 : IntKind.i64.wrap ((i : Int) + 1) = ((i + 1 : Nat) : Int) := by rw [wrap_i64 (by omega) (by omega)]; omega
    have hti := itemT_len hxo
    have hnm := hxo.name
    have tlen : ((l.take i).map itemT).length = i := by rw [List.length_map, List.length_take]; omega
    generalize hout : (l.take i).map itemT = out at *
    have hit : itemT x = if x.dims = [] then x.name else x.name ++ (40 :: (Lib.join (x.dims.map Lib.itoa) csT ++ [41])) := by unfold itemT; simp
    have hnext : DeI l k (mkT 48 [(10, itE.av l), (11, .int .i64 (l.length : Int)), (12, .int .i64 ((i + 1 : Nat) : Int)), (3, strE.tk 0 (out ++ [itemT x]))]) (tokL (out ++ [itemT x])) := ⟨i + 1, by omega, by rw [hsucc], by rw [hsucc]⟩
    have hn1 : ∀ s : List UInt8, strE.tk 0 ([] ++ [s]) = .slice (.tok 0) 1 1 [.str s] := fun s => rfl
    have hn2 : ∀ s : List UInt8, tokL ([] ++ [s]) = [some (.tok 1)] := fun s => rfl
    have hc1 : ∀ (T : Nat) (y : List UInt8) (o : List (List UInt8)), strE.tk T (y :: o) = .slice (.tok T) 1 (o.length + 1) (strE.row (y :: o)) := fun T y o => rfl
    have hc2 : ∀ (T : Nat) (y : List UInt8) (o : List (List UInt8)) (s : List UInt8), strE.tk T (y :: o ++ [s]) = .slice (.tok T) 1 (o.length + 1 + 1) (strE.row (y :: o) ++ [.str s]) := fun T y o s => by rw [strE.tk_ne T (by simp), strE.row_append, List.length_append]; rfl
    have hc3 : ∀ (y : List UInt8) (o : List (List UInt8)) (s : List UInt8), tokL (y :: o ++ [s]) = [some (.tok (o.length + 1 + 1))] := fun y o s => by simp [tokL]
    have hlow2 : ∀ (m : Nat) (o : List (List UInt8)) (s : List UInt8), lowL m (strE.row o ++ [.str s]) = true := fun m o s => by rw [lowL_append, hlow]; rfl
    have hit : itemT x = if x.dims = [] then x.name else x.name ++ (40 :: (Lib.join (x.dims.map Lib.itoa) csT ++ [41])) := by unfold itemT; simp
    have c1s : x.name.length ≤ 1000000 := hxo.name
    by_cases hd0 : x.dims = []
    · rw [if_pos hd0] at hit
      rw [hit] at hnext
      have hd : (dimE.av x.dims) = .nilSlice := by rw [hd0]; rfl
      rw [hd] at c1
      have hdl : x.dims.length = 0 := by rw [hd0]; rfl
      cases out with
      | nil =>
        have happ := fun H ow => aappend_nil (P := Tryz.prog) (t := 23) (sz := 1) (m := 1) (H := H) (fid := 1) (ow := ow) (ys := [.str x.name]) elemStr (by decide) (by decide) (by simp)
        rw [hn1, hn2] at hnext
        simp [hil, hil', c1, c2, happ, w1, -Int.natCast_add]
        exact Nxt.mk k (by omega) (Less.mkV (l' := [(10, itE.av l), (11, .int .i64 (l.length : Int)), (12, .int .i64 ((i + 1 : Nat) : Int)), (3, .slice (.tok 0) 1 1 [.str x.name])]) (H' := [some (.tok 1)]) 100 (fun _ => 1) 1 (by simp [hB]) (by intro a b ha hb _; omega) (by simp [hB]) rfl (by
          intro i hi
          obtain rfl : i = 0 := by omega
          simp [AH.at, renE]) (by simp) (by simp [ren, renL, strip, stripL, itE.av_ren, itE.av_strip])) hnext
      | cons y out =>
        have happ := fun H ow (h : AH.at H 0 = some (.tok (out.length + 1))) => aappend_tok (P := Tryz.prog) (t := 23) (sz := 1) (n := out.length + 1) (m := 1) (H := H) (fid := 2) (ow := ow) (xs := strE.row (y :: out)) (ys := [.str x.name]) elemStr h (by decide) (by simp at tlen; omega) (by simp)
        rw [hc2, hc3] at hnext
        simp [hil, hil', c1, c2, happ, w1, hc1, -Int.natCast_add]
        exact Nxt.mk k (by omega) (Less.mkK 1 (by simp [hB]) (by simp) (by simp [hlow2]) (by simp)) hnext
    · rw [if_neg hd0] at hit
      have hdl : 0 < x.dims.length := List.length_pos_iff.2 hd0
      have hdl' : (0 : Int) < x.dims.length := by omega
      have hdims := hxo.dims
      have hjl := dims_len hxo.dims hxo.rng
      have fj := fun ow => f2 ow (x.dims.map Lib.itoa) (by simpa using hd0) (by simp; omega) (by unfold csT at hjl; omega)
      have hcs : Lib.join (x.dims.map Lib.itoa) csT = Lib.join (x.dims.map Lib.itoa) [44, 32] := rfl
      rw [hcs] at hit hjl
      generalize Lib.join (x.dims.map Lib.itoa) [44, 32] = J at *
      have hfull : (x.dims.take x.dims.length).map Lib.itoa = x.dims.map Lib.itoa := by rw [List.take_length]
      have htkd : ∀ T, strE.tk T (x.dims.map Lib.itoa) = .slice (.tok T) 1 x.dims.length ((x.dims.map Lib.itoa).map .str) := fun T => by rw [strE.tk_ne T (by simpa using hd0), strE_row, List.length_map]; rfl
      have htok : tokL (x.dims.map Lib.itoa) = [some (.tok x.dims.length)] := by unfold tokL; rw [if_neg (by simpa using hd0), List.length_map]
      have b1 : J.length ≤ 9223372036854775806 := by omega
      have b2 : J.length + 1 ≤ 9223372036854775807 := by omega
      have b3 : 1 + J.length ≤ 9223372036854775807 := by omega
      have b4 : J.length + 1 + 1 ≤ 9223372036854775807 := by omega
      have b5 : x.name.length + (J.length + 1 + 1) ≤ 9223372036854775807 := by omega
      have b6 : J.length ≤ 9223372036854775805 := by omega
      have b7 : 1 + J.length + 1 ≤ 9223372036854775807 := by omega
      rw [hit] at hnext hti
      simp at fj
      cases out with
      | nil =>
        simp [hil, hil', c1, c2, hdl, hdl', hc1]
        refine LpD.loopN X hG (by kernel_rfl) (DdI l i (.nilSlice) [] 0 1 x) x.dims.length (t' := mkT 48 [(10, itE.av l), (11, .int .i64 (l.length : Int)), (12, .int .i64 (i : Int)), (3, .nilSlice), (5, .ptr 0 0), (6, .str x.name), (7, .nilSlice), (23, dimE.av x.dims), (24, .int .i64 (x.dims.length : Int)), (25, .int .i64 ((0 : Nat) : Int))]) (H' := some (.box [.str x.name, dimE.av x.dims]) :: [])
          (Less.mkK 1 (by simp [hB]) (by simp [hlow]) (by simp [hlow]) (by simp [hlow])) ⟨0, by omega, rfl, rfl⟩ ?_
        rintro k2 t H ⟨j, hjk, rfl, rfl⟩
        cases k2 with
        | zero =>
          obtain rfl : j = x.dims.length := by omega
          rw [hfull, htkd, htok]
          have happ := fun H ow s => aappend_nil (P := Tryz.prog) (t := 23) (sz := 1) (m := 1) (H := H) (fid := 2) (ow := ow) (ys := [.str s]) elemStr (by decide) (by decide) (by simp)
          rw [hn1, hn2] at hnext
          simp [Blk_exit, fj, b1, b2, b3, b4, b5, b6, b7, happ, w1, -Int.natCast_add]
          exact Nxt.mk k (by omega) (Less.mkV (l' := [(10, itE.av l), (11, .int .i64 (l.length : Int)), (12, .int .i64 ((i + 1 : Nat) : Int)), (3, .slice (.tok 0) 1 1 [.str (x.name ++ 40 :: (J ++ [41]))])]) (H' := [some (.tok 1)]) 100 (fun _ => 2) 1 (by simp [hB]) (by intro a b ha hb _; omega) (by simp [hB]) rfl (by
            intro i hi
            obtain rfl : i = 0 := by omega
            simp [AH.at, renE]) (by simp) (by simp [ren, renL, strip, stripL, itE.av_ren, itE.av_strip])) hnext
        | succ k2 =>
          have hjn : j < x.dims.length := by omega
          have hjn' : (j : Int) < x.dims.length := by omega
          obtain ⟨z, hz⟩ : ∃ z, x.dims[j]? = some z := ⟨_, List.getElem?_eq_getElem hjn⟩
          have hzr := hxo.rng z (List.mem_of_getElem? hz)
          have cz : (dimE.row x.dims)[j]? = some (.int .i64 z) := by
            have := dimE.row_cell hz 0 (by decide)
            rw [dim_sz, Nat.mul_one, Nat.add_zero] at this
            exact this
          have f1 := f1 z hzr
          have hs2 := map_take_succ Lib.itoa hz
          have w2 : IntKind.i64.wrap ((j : Int) + 1) = ((j + 1 : Nat) : Int) := by rw [wrap_i64 (by omega) (by omega)]; omega
          have tl2 : ((x.dims.take j).map Lib.itoa).length = j := by rw [List.length_map, List.length_take]; omega
          have hnx : DdI l i (.nilSlice) [] 0 1 x k2 (mkT 48 [(10, itE.av l), (11, .int .i64 (l.length : Int)), (12, .int .i64 (i : Int)), (3, .nilSlice), (5, .ptr 0 0), (6, .str x.name), (7, strE.tk 1 ((x.dims.take j).map Lib.itoa ++ [Lib.itoa z])), (23, dimE.av x.dims), (24, .int .i64 (x.dims.length : Int)), (25, .int .i64 ((j + 1 : Nat) : Int))]) (some (.box [.str x.name, dimE.av x.dims]) :: tokL ((x.dims.take j).map Lib.itoa ++ [Lib.itoa z])) := ⟨j + 1, by omega, by rw [hs2], by rw [hs2]; rfl⟩
          generalize (x.dims.take j).map Lib.itoa = dout at *
          generalize Lib.itoa z = s at *
          cases dout with
          | nil =>
            have happ := fun H ow => aappend_nil (P := Tryz.prog) (t := 23) (sz := 1) (m := 1) (H := H) (fid := 1) (ow := ow) (ys := [.str s]) elemStr (by decide) (by decide) (by simp)
            have hm1 : strE.tk 1 ([] ++ [s]) = .slice (.tok 1) 1 1 [.str s] := rfl
            have hm2 : tokL ([] ++ [s]) = [some (.tok 1)] := rfl
            rw [hm1, hm2] at hnx
            simp [hjn, hjn', cz, f1, happ, w2, -Int.natCast_add]
            exact Nxt.mk k2 (by omega) (Less.mkK 2 (by simp [hB]) (by simp) (by simp [hlow]) (by simp)) hnx
          | cons y2 dout =>
            have happ := fun H ow (h : AH.at H 1 = some (.tok (dout.length + 1))) => aappend_tok (P := Tryz.prog) (t := 23) (sz := 1) (n := dout.length + 1) (m := 1) (H := H) (fid := 2) (ow := ow) (xs := strE.row (y2 :: dout)) (ys := [.str s]) elemStr h (by decide) (by simp at tl2; omega) (by simp)
            rw [hc2, hc3] at hnx
            simp [hjn, hjn', cz, f1, happ, w2, hc1, -Int.natCast_add]
            exact Nxt.mk k2 (by omega) (Less.mkK 2 (by simp [hB]) (by simp) (by simp [hlow, hlow2]) (by simp)) hnx
      | cons y out =>
        simp [hil, hil', c1, c2, hdl, hdl', hc1]
        refine LpD.loopN X hG (by kernel_rfl) (DdI l i (.slice (.tok 0) 1 (out.length + 1) (strE.row (y :: out))) [some (.tok (out.length + 1))] 1 2 x) x.dims.length (t' := mkT 48 [(10, itE.av l), (11, .int .i64 (l.length : Int)), (12, .int .i64 (i : Int)), (3, .slice (.tok 0) 1 (out.length + 1) (strE.row (y :: out))), (5, .ptr 1 0), (6, .str x.name), (7, .nilSlice), (23, dimE.av x.dims), (24, .int .i64 (x.dims.length : Int)), (25, .int .i64 ((0 : Nat) : Int))]) (H' := some (.tok (out.length + 1)) :: some (.box [.str x.name, dimE.av x.dims]) :: [])
          (Less.mkK 2 (by simp [hB]) (by simp [hlow]) (by simp [hlow]) (by simp [hlow])) ⟨0, by omega, rfl, rfl⟩ ?_
        rintro k2 t H ⟨j, hjk, rfl, rfl⟩
        cases k2 with
        | zero =>
          obtain rfl : j = x.dims.length := by omega
          rw [hfull, htkd, htok]
          have happ := fun H ow s (h : AH.at H 0 = some (.tok (out.length + 1))) => aappend_tok (P := Tryz.prog) (t := 23) (sz := 1) (n := out.length + 1) (m := 1) (H := H) (fid := 3) (ow := ow) (xs := strE.row (y :: out)) (ys := [.str s]) elemStr h (by decide) (by simp at tlen; omega) (by simp)
          rw [hc2, hc3] at hnext
          simp [Blk_exit, fj, b1, b2, b3, b4, b5, b6, b7, happ, w1, -Int.natCast_add]
          exact Nxt.mk k (by omega) (Less.mkK 1 (by simp [hB]) (by simp) (by simp [hlow2]) (by simp)) hnext
        | succ k2 =>
          have hjn : j < x.dims.length := by omega
          have hjn' : (j : Int) < x.dims.length := by omega
          obtain ⟨z, hz⟩ : ∃ z, x.dims[j]? = some z := ⟨_, List.getElem?_eq_getElem hjn⟩
          have hzr := hxo.rng z (List.mem_of_getElem? hz)
          have cz : (dimE.row x.dims)[j]? = some (.int .i64 z) := by
            have := dimE.row_cell hz 0 (by decide)
            rw [dim_sz, Nat.mul_one, Nat.add_zero] at this
            exact this
          have f1 := f1 z hzr
          have hs2 := map_take_succ Lib.itoa hz
          have w2 : IntKind.i64.wrap ((j : Int) + 1) = ((j + 1 : Nat) : Int) := by rw [wrap_i64 (by omega) (by omega)]; omega
          have tl2 : ((x.dims.take j).map Lib.itoa).length = j := by rw [List.length_map, List.length_take]; omega
          have hnx : DdI l i (.slice (.tok 0) 1 (out.length + 1) (strE.row (y :: out))) [some (.tok (out.length + 1))] 1 2 x k2 (mkT 48 [(10, itE.av l), (11, .int .i64 (l.length : Int)), (12, .int .i64 (i : Int)), (3, .slice (.tok 0) 1 (out.length + 1) (strE.row (y :: out))), (5, .ptr 1 0), (6, .str x.name), (7, strE.tk 2 ((x.dims.take j).map Lib.itoa ++ [Lib.itoa z])), (23, dimE.av x.dims), (24, .int .i64 (x.dims.length : Int)), (25, .int .i64 ((j + 1 : Nat) : Int))]) (some (.tok (out.length + 1)) :: some (.box [.str x.name, dimE.av x.dims]) :: tokL ((x.dims.take j).map Lib.itoa ++ [Lib.itoa z])) := ⟨j + 1, by omega, by rw [hs2], by rw [hs2]; rfl⟩
          generalize (x.dims.take j).map Lib.itoa = dout at *
          generalize Lib.itoa z = s at *
          cases dout with
          | nil =>
            have happ := fun H ow => aappend_nil (P := Tryz.prog) (t := 23) (sz := 1) (m := 1) (H := H) (fid := 2) (ow := ow) (ys := [.str s]) elemStr (by decide) (by decide) (by simp)
            have hm1 : strE.tk 2 ([] ++ [s]) = .slice (.tok 2) 1 1 [.str s] := rfl
            have hm2 : tokL ([] ++ [s]) = [some (.tok 1)] := rfl
            rw [hm1, hm2] at hnx
            simp [hjn, hjn', cz, f1, happ, w2, -Int.natCast_add]
            exact Nxt.mk k2 (by omega) (Less.mkK 3 (by simp [hB]) (by simp) (by simp [hlow]) (by simp)) hnx
          | cons y2 dout =>
            have happ := fun H ow (h : AH.at H 2 = some (.tok (dout.length + 1))) => aappend_tok (P := Tryz.prog) (t := 23) (sz := 1) (n := dout.length + 1) (m := 1) (H := H) (fid := 3) (ow := ow) (xs := strE.row (y2 :: dout)) (ys := [.str s]) elemStr h (by decide) (by simp at tl2; omega) (by simp)
            rw [hc2, hc3] at hnx
            simp [hjn, hjn', cz, f1, happ, w2, hc1, -Int.natCast_add]
            exact Nxt.mk k2 (by omega) (Less.mkK 3 (by simp [hB]) (by simp) (by simp [hlow, hlow2]) (by simp)) hnx
end Go.Proofs.YtejjlojfgcgopaaGreatDoor

namespace Go.Proofs.YtejjlojfgcgopaaGreatDoor
open Go.RowKit Go.Proofs.Fw
set_option maxRecDepth 100000
set_option maxHeartbeats 4000000

/-- A tree that can be written, shortly. -/
structure TnOk (t : Tn) : Prop where
  ok : okT t = true
  good : good I64 t
  len : (txt numT t).length < 1099511627776
noncomputable def fTxt : Fact Tryz.prog envF := Fact.pure 56 TnOk (fun t => [.agg (tC t)]) (fun t => .str (txt numT t)) (fun t h H => text_cs numT_ok t h.ok h.good h.len H) (fun x y _ _ h => by
  simp only [List.cons.injEq, AV.agg.injEq, and_true] at h
  rw [tC_inj x y h])
noncomputable def fCtx : Fact Tryz.prog envF := Fact.pure 58 (fun x : List UInt8 × Tn × Tn => TnOk x.2.1 ∧ TnOk x.2.2 ∧ x.1.length < 1099511627776) (fun x => [.agg (.str x.1 :: (tC x.2.1 ++ tC x.2.2))]) (fun x => .str (txt numT x.2.1 ++ [32] ++ x.1 ++ [32] ++ txt numT x.2.2))
  (fun x h H => condText_cs numT_ok x.1 x.2.1 x.2.2 h.1.ok h.2.1.ok h.1.good h.2.1.good h.1.len h.2.1.len h.2.2 H) (fun x y _ _ h => by
    obtain ⟨a, b, c⟩ := x
    obtain ⟨a', b', c'⟩ := y
    simp only [List.cons.injEq, AV.agg.injEq, AV.str.injEq, and_true] at h
    obtain ⟨h1, h2⟩ := h
    obtain ⟨h2, h3⟩ := List.append_inj h2 (by simp)
    simp only
    rw [h1, tC_inj _ _ h2, tC_inj _ _ h3])
structure ItsOk (l : List It) : Prop where
  ne : l ≠ []
  len : l.length ≤ 1000000
  ok : ∀ x ∈ l, OkIt x
noncomputable def fDecl : Fact Tryz.prog envF := Fact.pure 55 ItsOk (fun l => [itE.av l]) (fun l => .str (declT l)) (fun l h H => decl_cs l h.ne h.len h.ok H) (fun x y _ _ h => by
  simp only [List.cons.injEq, and_true] at h
  rw [itE.av_inj h])
def tDo : List UInt8 := [100, 111, 32]
def tIs : List UInt8 := [32, 61, 32]
def tInt : List UInt8 := [105, 110, 116, 101, 103, 101, 114, 32]
def tIf : List UInt8 := [105, 102, 32, 40]
def tThen : List UInt8 := [41, 32, 116, 104, 101, 110]
def tEndDo : List UInt8 := [101, 110, 100, 32, 100, 111]
def tEndIf : List UInt8 := [101, 110, 100, 32, 105, 102]
def tElse : List UInt8 := [101, 108, 115, 101]
def tRead : List UInt8 := [114, 101, 97, 100, 32]
def tPrint : List UInt8 := [112, 114, 105, 110, 116, 32]
/-- A statement as a text. -/
def stmtT (x : Sx) : List UInt8 :=
  if x.kind = 1 then tInt ++ declT x.items
  else if x.kind = 2 then txt numT x.to ++ (tIs ++ txt numT x.e)
  else if x.kind = 3 then tDo ++ (x.name ++ (tIs ++ (txt numT x.lo ++ (csT ++ (txt numT x.hi ++ (if x.step = 1 then [] else csT ++ Lib.itoa x.step))))))
  else if x.kind = 4 then tEndDo
  else if x.kind = 5 then tIf ++ ((txt numT x.ca ++ [32] ++ x.op ++ [32] ++ txt numT x.cb) ++ tThen)
  else if x.kind = 6 then tElse
  else if x.kind = 7 then tEndIf
  else if x.kind = 8 then tRead ++ txt numT x.to
  else if x.kind = 9 then tPrint ++ txt numT x.e
  else []
structure SxOk (x : Sx) : Prop where
  items : x.kind = 1 → ItsOk x.items
  to : x.kind = 2 ∨ x.kind = 8 → TnOk x.to
  e : x.kind = 2 ∨ x.kind = 9 → TnOk x.e
  lo : x.kind = 3 → TnOk x.lo
  hi : x.kind = 3 → TnOk x.hi
  step : x.kind = 3 → I64 x.step
  name : x.kind = 3 → x.name.length < 1099511627776
  ca : x.kind = 5 → TnOk x.ca
  cb : x.kind = 5 → TnOk x.cb
  op : x.kind = 5 → x.op.length < 1099511627776

theorem stext_cs (x : Sx) (h : SxOk x) (H : AH) : CS Tryz.prog envF 17 [.agg x.c] H (.str (stmtT x)) H := by
  have hL : ([fTxt, fCtx, fDecl, fFmt].map (·.f)).Nodup := show ([56, 58, 55, 57] : List Nat).Nodup by decide
  have X := oOf_cx [fTxt, fCtx, fDecl, fFmt] methFOk mixed
  have f1 := fun t (h : TnOk t) H => oOf_pure hL (show fTxt ∈ [fTxt, fCtx, fDecl, fFmt] by simp) t h H
  have f2 := fun op a b (h1 : TnOk a) (h2 : TnOk b) (h3 : op.length < 1099511627776) H => oOf_pure hL (show fCtx ∈ [fTxt, fCtx, fDecl, fFmt] by simp) (op, a, b) ⟨h1, h2, h3⟩ H
  have f3 := fun l (h : ItsOk l) H => oOf_pure hL (show fDecl ∈ [fTxt, fCtx, fDecl, fFmt] by simp) l h H
  have f4 := fun n (h : I64 n) H => oOf_pure hL (show fFmt ∈ [fTxt, fCtx, fDecl, fFmt] by simp) n h H
  generalize oOf [fTxt, fCtx, fDecl, fFmt] = O at X f1 f2 f3 f4
  simp only [tC_eq, List.cons_append, List.nil_append] at f1 f2
  refine CS.tr0 lowF Tryz.func17 (by kernel_rfl) 0 (by simp [Tryz.f17]) (fun B hB hG => ?_) (by simp) (by simp [Sx.c_low]) H
  refine Tr.goD X hG (by kernel_rfl) ?_
  unfold stmtT
  have hx : x.c = Sx.c x := rfl
  simp only [hx, Sx.c]
  simp [Tryz.f17]
  refine LpD.turns X hG [2, 4] [(0, 2), (1, 2)] (by kernel_rfl) ?_
  simp
  by_cases k1 : x.kind = 1
  · have hi := h.items k1
    have g := f3 _ hi
    have hl := declT_len hi.ok hi.len
    generalize declT x.items = s at *
    have b1 : s.length ≤ 9223372036854775799 := by omega
    have b2 : 8 + s.length ≤ 9223372036854775807 := by omega
    have b3 : s.length + 8 ≤ 9223372036854775807 := by omega
    simp [k1, Blk_exit, g, b1, b2, b3, tInt]
  · by_cases k2 : x.kind = 2
    · have o1 := h.to (.inl k2)
      have o2 := h.e (.inl k2)
      have g1 := f1 _ o1
      have g2 := f1 _ o2
      have l1 := o1.len
      have l2 := o2.len
      generalize txt numT x.to = s at *
      generalize txt numT x.e = r at *
      have b1 : s.length + 3 ≤ 9223372036854775807 := by omega
      have b2 : s.length + 3 + r.length ≤ 9223372036854775807 := by omega
      have b3 : s.length ≤ 9223372036854775804 := by omega
      have b4 : s.length + (r.length + 3) ≤ 9223372036854775807 := by omega
      simp [k2, Blk_exit]
      refine LpD.turns X hG [2, 6] [(2, 4), (2, 5), (3, 6)] (by kernel_rfl) ?_
      simp [g1, g2, b1, b2, b3, b4, tIs]
    · by_cases k3 : x.kind = 3
      · have o1 := h.lo k3
        have o2 := h.hi k3
        have o3 := h.step k3
        have o4 := h.name k3
        have g1 := f1 _ o1
        have g2 := f1 _ o2
        have g3 := f4 _ o3
        have l1 := o1.len
        have l2 := o2.len
        have l3 := itoa_len o3
        generalize txt numT x.lo = s at *
        generalize txt numT x.hi = r at *
        generalize Lib.itoa x.step = q at *
        generalize x.name = nm at *
        simp [k3, Blk_exit]
        refine LpD.turns X hG [6, 11] [(0, 6), (0, 11), (1, 6), (1, 11), (2, 6), (2, 11), (3, 6), (3, 11), (6, 9), (6, 10), (7, 11), (8, 11)] (by kernel_rfl) ?_
        have y0 : nm.length + 3 + 1 + 1 + 1 + s.length ≤ 9223372036854775807 := by omega
        have y1 : nm.length + (s.length + 3) + 1 + 1 + 1 ≤ 9223372036854775805 := by omega
        have y2 : nm.length + (s.length + 3) + 1 + 1 + 1 ≤ 9223372036854775807 := by omega
        have y3 : nm.length + (s.length + 3) + 1 + 1 + 1 + 2 ≤ 9223372036854775807 := by omega
        have y4 : nm.length + (s.length + 3) ≤ 9223372036854775802 := by omega
        have y5 : nm.length + (s.length + 2 + 3) + 1 + 1 + 1 + r.length ≤ 9223372036854775807 := by omega
        have y6 : nm.length + (s.length + 2 + 1 + 1 + 1) + 1 + 1 + 1 + r.length ≤ 9223372036854775807 := by omega
        have z0 : 3 + nm.length ≤ 9223372036854775807 := by omega
        have z1 : nm.length ≤ 9223372036854775801 := by omega
        have z2 : nm.length + 1 + 1 + 1 + 3 ≤ 9223372036854775807 := by omega
        have z3 : nm.length + 3 ≤ 9223372036854775804 := by omega
        by_cases hs : x.step = 1
        · have hs' : (x.step != 1) = false := by rw [hs]; rfl
          simp [z0, z1, z2, z3, y0, y1, y2, y3, y4, y5, y6, g1, g2, hs, hs', tDo, tIs, csT]
        · have hs' : (x.step != 1) = true := by rw [bne_iff_ne]; exact hs
          have x0 : 2 + q.length ≤ 9223372036854775807 := by omega
          have x1 : q.length ≤ 9223372036854775805 := by omega
          have x2 : nm.length + (s.length + (r.length + 1 + 1) + 1 + 1 + 1) + 1 + 1 + 1 + (q.length + 1 + 1) ≤ 9223372036854775807 := by omega
          simp [z0, z1, z2, z3, y0, y1, y2, y3, y4, y5, y6, x0, x1, x2, g1, g2, g3, hs, hs', tDo, tIs, csT]
      · by_cases k4 : x.kind = 4
        · simp [k4, Blk_exit, tEndDo]
        · by_cases k5 : x.kind = 5
          · have o1 := h.ca k5
            have o2 := h.cb k5
            have o3 := h.op k5
            have g1 := f2 _ _ _ o1 o2 o3
            have l1 := o1.len
            have l2 := o2.len
            generalize txt numT x.ca = s at *
            generalize txt numT x.cb = r at *
            generalize x.op = op at *
            have hq : (s ++ [32] ++ op ++ [32] ++ r).length < 2100000000000000 := by simp; omega
            simp only [List.append_assoc] at g1 hq ⊢
            generalize hqq : s ++ ([32] ++ (op ++ ([32] ++ r))) = q at *
            have z0 : 4 + q.length ≤ 9223372036854775807 := by omega
            have z1 : q.length ≤ 9223372036854775797 := by omega
            simp [k5, Blk_exit, g1, z0, z1, tIf, tThen]
            rw [← hqq]
            simp
          · by_cases k6 : x.kind = 6
            · simp [k6, Blk_exit, tElse]
            · by_cases k7 : x.kind = 7
              · simp [k7, Blk_exit, tEndIf]
              · by_cases k8 : x.kind = 8
                · have o1 := h.to (.inr k8)
                  have g1 := f1 _ o1
                  have l1 := o1.len
                  generalize txt numT x.to = s at *
                  simp [k8, Blk_exit]
                  refine LpD.turns X hG [3] [] (by kernel_rfl) ?_
                  have z0 : 5 + s.length ≤ 9223372036854775807 := by omega
                  simp [g1, Blk_exit, z0, tRead]
                · by_cases k9 : x.kind = 9
                  · have o1 := h.e (.inr k9)
                    have g1 := f1 _ o1
                    have l1 := o1.len
                    generalize txt numT x.e = s at *
                    have z0 : 6 + s.length ≤ 9223372036854775807 := by omega
                    simp [k9, Blk_exit, g1, z0, tPrint]
                  · simp [k1, k2, k3, k4, k5, k6, k7, k8, k9, Blk_exit]
end Go.Proofs.YtejjlojfgcgopaaGreatDoor
