/- The program's trees: Of, its loop. .. The program's Split: what it calls; what it makes of a line. -/
import Derived.Test.YtejjlojfgcgopaaGreatDoorZ19
import Derived.Test.YtejjlojfgcgopaaGreatDoorZ15
import Derived.Test.YtejjlojfgcgopaaGreatDoorZ7
set_option linter.unusedSimpArgs false
set_option linter.unusedVariables false
namespace Go.Proofs.YtejjlojfgcgopaaGreatDoor
open Go.RowKit Go.Proofs.Fw
set_option maxRecDepth 100000
set_option maxHeartbeats 4000000
def trOfT (ls : List (List UInt8)) (i : Nat) : List AV := mkT 59 [(0, strE.av ls), (2, .nilSlice), (3, .nilIface), (4, .ptr 0 0), (11, strE.av ls), (12, .int .i64 (ls.length : Int)), (13, .int .i64 (i : Int))]
def TrOfI (ls : List (List UInt8)) (k : Nat) (t : List AV) (H : AH) : Prop := ∃ i s, i + k = ls.length ∧ t = trOfT ls i ∧ H = bdH s ∧ s.ok i ∧ s.fs.length ≤ 8 ∧ s.lin ∧ ofL (ls.drop i) i s = ofW ls
def treeI (x : List Nd × Er) : AV := .tup [ndE.av x.1, erI x.2]
theorem treeof_next {B : Bs} (hB : B.H = []) (ls : List (List UInt8)) {t : List AV} {H : AH} {k i : Nat} {s : Bd} (hk : (i + 1) + k = ls.length) (hs : s.ok (i + 1)) (hd : s.fs.length ≤ 8) (hl : s.lin) (he : ofL (ls.drop (i + 1)) (i + 1) s = ofW ls)
    (h : Less B t H (trOfT ls (i + 1)) (bdH s)) : Nxt B (TrOfI ls) (k + 1) t H := Nxt.mk k (by omega) h ⟨i + 1, s, hk, rfl, rfl, hs, hd, hl, he⟩
@[simp] theorem buBd0 : abuild Tryz.prog 185 [] = some (.agg [.nilSlice, .nilPtr, .int .i64 0, .bool false]) := by kernel_rfl
theorem bd_at0 (s : Bd) : AH.at (bdH s) 0 = some (.box (Bd.c s)) := rfl
theorem treeof_cs (ls : List (List UInt8)) (hls : ls.length < 1000000) (hl : ∀ s ∈ ls, s.length < 1000000) (H : AH) : CS Tryz.prog envS 48 [strE.av ls] H (treeI (ofW ls)) H := by
  have hL : ([(factS fBparse), (factS fTfault)].map (·.f)).Nodup := show ([16, 84] : List Nat).Nodup by decide
  have X := (oOf_cx [(factS fBparse), (factS fTfault)] methSOk mixed).toW (S := [16])
  have f1 := fun (s : List UInt8) (H : AH) (h : s.length < 1000000) => oOf_mem hL (factS fBparse) (by simp) (x := s) (H := H) h
  have f2 := fun (p : Int) (l : List (List UInt8 × Int)) (c : Int) (H : AH) => oOf_mem hL (factS fTfault) (by simp) (x := (p, l, c)) (H := H) trivial
  generalize oOf [(factS fBparse), (factS fTfault)] = O at X f1 f2
  have f1 : ∀ (s : List UInt8) (H : AH) (h : s.length < 1000000), O 16 [.str s] H = some (pstmtAV (parseS (bodyOfLine s)), H) := f1
  have f2 : ∀ (p : Int) (l : List (List UInt8 × Int)) (c : Int) (H : AH), O 84 [.int .i64 p, errAV l c] H = some (errAV ((lineTxt', p) :: l) c, H) := f2
  refine CS.tr0 lowS Tryz.func48 (by kernel_rfl) 0 (by simp [Tryz.f48]) (fun B hB hG => ?_) (by simp [treeI]) (by simp) H
  refine Tr.goW X hG (by kernel_rfl) ?_
  simp [Tryz.f48]
  refine LpD.loopW [16] hG (by kernel_rfl) (TrOfI ls) ls.length (t' := trOfT ls 0) (H' := bdH bd0) ?_ ⟨0, bd0, by omega, rfl, rfl, ⟨Nat.zero_le _, fun _ hf => absurd hf List.not_mem_nil⟩, by decide, fun _ hf => absurd hf List.not_mem_nil, rfl⟩ ?_
  · refine Less.mkV 1000 (fun i => i) 2 (by simp [hB]) (fun i j _ _ h => h) (fun i _ => rfl) rfl ?_ ?_ ?_
    · intro i hi
      rcases (by omega : i = 0 ∨ i = 1) with rfl | rfl
      · simp [bdH, bd0, Bd.c, upC_zero, renE, renL, ren]
      · simp [bdH, bd0]
    · simp [bdH, bd0, Bd.c, upC_zero, frH]
    · simp [trOfT, ren, Enc.av_ren]
  rintro k t H ⟨i, s, hik, rfl, rfl, hs, hd, hlin, he⟩
  cases k with
  | zero =>
    refine ⟨O, X, ?_⟩
    obtain rfl : i = ls.length := by omega
    rw [List.drop_length, ofL] at he
    rw [← he]
    have c0 := bd_at0 s
    have hH0 : lowH (bdH s).length (bdH s) = true := bdH_low _ _ (by rw [bdH_len]; exact Nat.le_refl _)
    obtain ⟨l, fs, o⟩ := s
    cases fs with
    | nil =>
      simp only [Bd.c, upC_zero, List.length_nil] at c0
      have hcut := ndE.tk_cut (k := 1) (n := 0) (by decide) l
      simp [trOfT, bdH, Bd.c, upC_zero, treeI, hcut]
    | cons f r =>
      have cF := bd_atF l f r o []
      rw [List.append_nil] at cF
      simp only [Fr.c, Fr.pre, Sx.c, List.cons_append, List.nil_append] at cF
      simp only [Bd.c, upC_succ, List.length_cons] at c0
      have f2 := fun H => f2 f.line [] 11 H
      generalize bdH ⟨l, f :: r, o⟩ = H at *
      simp only [errAV] at f2
      have hfl : ((f.line.toNat : Nat) : Int) = f.line := Int.toNat_of_nonneg (hlin f List.mem_cons_self)
      have hz : erI (some ([(lineTxt', f.line.toNat)], 11)) = errAV [(lineTxt', f.line)] 11 := by simp [erI_some, castP, hfl]
      simp [-AH.at, trOfT, c0, cF, f2, treeI, hz, errAV]
  | succ k =>
    have hi : i < ls.length := by omega
    obtain ⟨b, hb⟩ : ∃ b, ls[i]? = some b := ⟨_, List.getElem?_eq_getElem hi⟩
    have hbl := hl b (List.mem_of_getElem? hb)
    have g0 : (strE.row ls)[i * 1 + 0]? = some (.str b) := strE.row_cell hb 0 (by decide)
    simp only [Nat.mul_one, Nat.add_zero] at g0
    have hdr : ls.drop i = b :: ls.drop (i + 1) := by
      rw [List.drop_eq_getElem_cons hi]
      rw [List.getElem?_eq_getElem hi] at hb
      injection hb with hb
      rw [hb]
    rw [hdr, ofL] at he
    have g1 := fun H => f1 b H hbl
    have hpos : 0 < (bdH s).length := by rw [bdH_len]; omega
    have hH0 : lowH (bdH s).length (bdH s) = true := bdH_low _ _ (by rw [bdH_len]; exact Nat.le_refl _)
    have hi' : (i : Int) < ls.length := by omega
    have w1 : IntKind.i64.wrap ((i : Int) + 1) = ((i + 1 : Nat) : Int) := by rw [wrap_i64 (by omega) (by omega)]; rfl
    have hw0 : IntKind.i64.wrap ((i : Int) + 1) = (i : Int) + 1 := wrap_i64 (by omega) (by omega)
    generalize hp : parseS (bodyOfLine b) = p at *
    obtain ⟨m, er⟩ := p
    simp only [pstmtAV] at g1
    cases er with
    | some y =>
      refine ⟨O, X, ?_⟩
      simp only at he
      rw [← he]
      have g2 : ∀ H, O 84 [.int .i64 (i : Int), erI (some y)] H = some (erI (some ((lineTxt', i) :: y.1, y.2)), H) := fun H => by
        obtain ⟨l, c⟩ := y
        exact f2 i (castP l) c H
      generalize m.x = x at *
      generalize bdH s = H at *
      simp only [Sx.c] at g1
      simp [-AH.at, trOfT, hi, hi', g0, g1, g2, at_app0, set_app0, treeI]
    | none =>
      simp only at he
      have hk : m.x.kind = (m.kind : Int) := rfl
      by_cases h0 : m.kind = 0
      · rw [if_pos h0] at he
        refine ⟨O, X, ?_⟩
        rw [h0] at hk
        generalize m.x = x at *
        have hnx := fun {t H} => treeof_next (t := t) (H := H) hB ls (k := k) (by omega) (Bd.ok_mono (Nat.le_succ i) hs) hd hlin he
        generalize hbd : bdH s = H at *
        simp only [Sx.c] at g1
        simp [-AH.at, trOfT, hi, hi', g0, g1, at_app0, set_app0, hk, hw0]
        refine hnx (Less.mkK H.length (by simp [hB]) ?_ (List.take_left' rfl) hH0)
        simp [hpos]
      · rw [if_neg h0] at he
        have hk0 : ¬ m.x.kind = 0 := by rw [hk]; omega
        obtain ⟨Y, hadd, hle, hlow⟩ := add_cs s m.x (i : Int) hs (by omega) hd
        have hcl : low 0 (codeAV (s.add m.x i).2) = true := by unfold codeAV; split <;> rfl
        have hb1 := CS.behind1 (some (.box m.x.c)) hadd hle (by simp [Sx.c_low, lowL_mono (Nat.zero_le _) _ (Sx.c_low m.x), low, hpos]) hcl hH0 hlow
        have hat := behB_at (bdH s).length (some (.box m.x.c)) (bdH (s.add m.x i).1 ++ Y) hle
        have hs' := Bd.add_ok hs m.x i
        have hd' := Bd.add_len hd m.x i
        have hl' := Bd.add_lin hlin m.x (Int.natCast_nonneg i)
        generalize behB (bdH s).length (some (.box m.x.c)) (bdH (s.add m.x i).1 ++ Y) = H3 at hb1 hat
        have X' := orP_cx hb1 X
        have hO := orP_at 83 [.ptr 0 0, .agg m.x.c, .int .i64 (i : Int)] (bdH s ++ [some (.box m.x.c)]) (codeAV (s.add m.x i).2) H3 O
        have g1 : ∀ H, orP 83 [.ptr 0 0, .agg m.x.c, .int .i64 (i : Int)] (bdH s ++ [some (.box m.x.c)]) (codeAV (s.add m.x i).2) H3 O 16 [.str b] H = some (.tup [.agg m.x.c, .nilIface], H) := fun H => by rw [orP_ne (by decide)]; exact g1 H
        have g2 : ∀ l c H, orP 83 [.ptr 0 0, .agg m.x.c, .int .i64 (i : Int)] (bdH s ++ [some (.box m.x.c)]) (codeAV (s.add m.x i).2) H3 O 84 [.int .i64 (i : Int), errAV l c] H = some (errAV ((lineTxt', (i : Int)) :: l) c, H) := fun l c H => by rw [orP_ne (by decide)]; exact f2 i l c H
        refine ⟨_, X', ?_⟩
        generalize orP 83 [.ptr 0 0, .agg m.x.c, .int .i64 (i : Int)] (bdH s ++ [some (.box m.x.c)]) (codeAV (s.add m.x i).2) H3 O = O' at hO g1 g2
        clear X' hb1 hadd f1 f2 hp
        generalize hq : s.add m.x i = q at *
        obtain ⟨s', c⟩ := q
        simp only at he hO hs' hd' hl' hat hlow hle
        have hps : 0 < (bdH s').length := by rw [bdH_len]; omega
        by_cases hc : c = 0
        · rw [if_pos hc] at he
          subst hc
          have hnx := fun {t H} => treeof_next (t := t) (H := H) hB ls (k := k) (by omega) hs' hd' hl' he
          have hHs : lowH (bdH s').length (bdH s') = true := bdH_low _ _ (by rw [bdH_len]; exact Nat.le_refl _)
          have hcc : codeAV 0 = .nilIface := rfl
          rw [hcc] at hO
          have hps0 : psB (bdH s).length 0 = 0 := if_pos hpos
          generalize bdH s = H at *
          simp only [Sx.c] at g1 hO
          simp [-AH.at, trOfT, hi, hi', g0, g1, hO, at_app0, set_app0, hk0, hw0]
          refine hnx (Less.mkV 1000 (psB H.length) (bdH s').length (by simp [hB]) (fun a b _ _ h => psB_inj _ a b h) (fun a ha => by rw [hB] at ha; simp at ha) rfl ?_ hHs ?_)
          · intro a ha
            rw [hat a, at_appL ha]
          · simp [hps, hps0, ren, Enc.av_ren, strip]
        · rw [if_neg hc] at he
          rw [← he]
          rw [codeAV_err hc] at hO
          have g2 := fun H => g2 [] c H
          have hz : erI (some ([(lineTxt', i)], c)) = errAV [(lineTxt', (i : Int))] (c : Int) := rfl
          have hne : ∀ H : AH, aeq Tryz.prog 33 (errAV [] (c : Int)) .nilIface = some false := fun _ => by simp [errAV]
          generalize bdH s = H at *
          simp only [Sx.c] at g1 hO
          simp only [errAV] at g2 hO hz
          simp [-AH.at, trOfT, hi, hi', g0, g1, hO, at_app0, set_app0, hk0, hw0, treeI, hz, g2]
end Go.Proofs.YtejjlojfgcgopaaGreatDoor

namespace Go.Proofs.YtejjlojfgcgopaaGreatDoor
open Go.RowKit Go.Proofs.Fw
set_option maxRecDepth 100000
set_option maxHeartbeats 4000000
def wrB (ids : List (Nat × List AV)) (H : AH) : AH := ids.foldl (fun H x => H.set x.1 (some (.box x.2))) H
theorem wrB_len : ∀ (ids : List (Nat × List AV)) (H : AH), (wrB ids H).length = H.length
  | [], H => rfl
  | x :: r, H => by unfold wrB; rw [List.foldl_cons]; exact (wrB_len r _).trans (List.length_set ..)
theorem wrB_cons (x : Nat × List AV) (r : List (Nat × List AV)) (H : AH) : wrB (x :: r) H = wrB r (H.set x.1 (some (.box x.2))) := rfl
theorem wrB_app : ∀ (ids : List (Nat × List AV)) (H K : AH), (∀ x ∈ ids, x.1 < H.length) → wrB ids (H ++ K) = wrB ids H ++ K
  | [], H, K, _ => rfl
  | x :: r, H, K, h => by
    rw [wrB_cons, wrB_cons, List.set_append_left _ _ (h x List.mem_cons_self)]
    exact wrB_app r _ K fun y hy => by rw [List.length_set]; exact h y (List.mem_cons_of_mem _ hy)
theorem wrB_ne : ∀ (ids : List (Nat × List AV)) (H : AH) (j : Nat), (∀ x ∈ ids, x.1 ≠ j) → AH.at (wrB ids H) j = H.at j
  | [], _, _, _ => rfl
  | x :: r, H, j, h => by
    rw [wrB_cons, wrB_ne r _ j fun y hy => h y (List.mem_cons_of_mem _ hy), at_set_ne (h x List.mem_cons_self)]
theorem wrB_at : ∀ (ids : List (Nat × List AV)) (H : AH), (ids.map (·.1)).Nodup → (∀ x ∈ ids, x.1 < H.length) → ∀ x ∈ ids, AH.at (wrB ids H) x.1 = some (.box x.2)
  | [], _, _, _, x, hx => by cases hx
  | y :: r, H, hn, hl, x, hx => by
    rw [List.map_cons, List.nodup_cons] at hn
    rw [wrB_cons]
    rcases List.mem_cons.1 hx with rfl | hx
    · rw [wrB_ne r _ _ (fun z hz he => hn.1 (by rw [← he]; exact List.mem_map_of_mem hz)), AH.at_set, if_pos ⟨rfl, hl x List.mem_cons_self⟩]
    · exact wrB_at r _ hn.2 (fun z hz => by rw [List.length_set]; exact hl z (List.mem_cons_of_mem _ hz)) x hx
theorem wrB_low : ∀ (ids : List (Nat × List AV)) (H : AH) (n : Nat), lowH n H = true → (∀ x ∈ ids, lowL n x.2 = true) → lowH n (wrB ids H) = true
  | [], _, _, h, _ => h
  | x :: r, H, n, h, hc => by
    rw [wrB_cons]
    refine wrB_low r _ n ?_ fun y hy => hc y (List.mem_cons_of_mem _ hy)
    have hx := hc x List.mem_cons_self
    clear hc
    generalize x.1 = i
    induction H generalizing i with
    | nil => exact h
    | cons e H ih =>
      simp only [lowH, Bool.and_eq_true] at h
      cases i with
      | zero => simp only [List.set_cons_zero, lowH, lowE, hx, h.2]; rfl
      | succ i => simp only [List.set_cons_succ, lowH, h.1, ih h.2 i]; rfl
structure Clo (fc : FuncId) (σ : Type) where
  caps : List AV
  ids : σ → List (Nat × List AV)
  keys : List Nat
  key : ∀ s, (ids s).map (·.1) = keys
  nodup : keys.Nodup
  inj : ∀ s s', ids s = ids s' → s = s'
  lowC : ∀ s, ∀ x ∈ ids s, lowL 0 x.2 = true
  Kp : AH → Prop
  kpA : ∀ H K, Kp H → Kp (H ++ K)
  kpW : ∀ s H, Kp H → Kp (wrB (ids s) H)
  kpL : ∀ H, Kp H → (∀ i ∈ keys, i < H.length) ∧ lowL H.length caps = true
  ok : Nat → σ → Prop
  f : σ → Nd → Int → Bool × σ
  okN : ∀ j s n d, ok (j + 1) s → ok j (f s n d).2
  okM : ∀ j s, ok (j + 1) s → ok j s
  cs : ∀ j s n d H, ok (j + 1) s → Kp H → (∀ x ∈ ids s, H.at x.1 = some (.box x.2)) → 0 ≤ d → d < 4611686018427387904 → CS Tryz.prog envS fc (.agg (ndC n) :: .int .i64 d :: caps) H (.bool (f s n d).1) (wrB (ids (f s n d).2) H)
section
variable {fc : FuncId} {σ : Type}
theorem Clo.okL (C : Clo fc σ) {i j : Nat} (h : i ≤ j) {s : σ} (k : C.ok j s) : C.ok i s := by
  induction h with
  | refl => exact k
  | step _ ih => exact ih (C.okM _ _ k)
theorem Clo.wr_at (C : Clo fc σ) (s : σ) {H : AH} (h : C.Kp H) : ∀ x ∈ C.ids s, AH.at (wrB (C.ids s) H) x.1 = some (.box x.2) :=
  wrB_at _ _ (by rw [C.key]; exact C.nodup) fun x hx => (C.kpL H h).1 _ (by rw [← C.key s]; exact List.mem_map_of_mem hx)
theorem Clo.wr_lt (C : Clo fc σ) (s : σ) {H : AH} (h : C.Kp H) : ∀ x ∈ C.ids s, x.1 < H.length := fun x hx => (C.kpL H h).1 _ (by rw [← C.key s]; exact List.mem_map_of_mem hx)
theorem ids_eq {L L' : List (Nat × List AV)} (hk : L.map (·.1) = L'.map (·.1)) (hn : (L.map (·.1)).Nodup) {H : AH} (h : ∀ x ∈ L, H.at x.1 = some (.box x.2)) (h' : ∀ x ∈ L', H.at x.1 = some (.box x.2)) : L = L' := by
  induction L generalizing L' with
  | nil => cases L' with
    | nil => rfl
    | cons y r => simp at hk
  | cons x r ih => cases L' with
    | nil => simp at hk
    | cons y r' =>
      simp only [List.map_cons, List.cons.injEq] at hk
      rw [List.map_cons, List.nodup_cons] at hn
      have h1 := h x List.mem_cons_self
      have h2 := h' y List.mem_cons_self
      rw [← hk.1, h1] at h2
      simp only [Option.some.injEq, Ent.box.injEq] at h2
      rw [ih hk.2 hn.2 (fun z hz => h z (List.mem_cons_of_mem _ hz)) (fun z hz => h' z (List.mem_cons_of_mem _ hz))]
      obtain ⟨a, b⟩ := x
      obtain ⟨c, d⟩ := y
      simp only at hk h2
      rw [hk.1, h2]
theorem Clo.wr_inj (C : Clo fc σ) {s s' : σ} {H : AH} (h : C.Kp H) (he : wrB (C.ids s) H = wrB (C.ids s') H) : s = s' := by
  refine C.inj _ _ (ids_eq (H := wrB (C.ids s) H) (by rw [C.key, C.key]) (by rw [C.key]; exact C.nodup) (C.wr_at s h) ?_)
  rw [he]
  exact C.wr_at s' h
theorem wrB_wrB {L L' : List (Nat × List AV)} (hk : L.map (·.1) = L'.map (·.1)) (hn : (L.map (·.1)).Nodup) (H : AH) (hl : ∀ x ∈ L, x.1 < H.length) : wrB L' (wrB L H) = wrB L' H := by
  apply AH.ext_at
  · rw [wrB_len, wrB_len, wrB_len]
  · intro j
    by_cases hj : ∃ x ∈ L', x.1 = j
    · obtain ⟨x, hx, rfl⟩ := hj
      have hl' : ∀ y ∈ L', y.1 < H.length := fun y hy => by
        have : y.1 ∈ L.map (·.1) := by rw [hk]; exact List.mem_map_of_mem hy
        obtain ⟨z, hz, he⟩ := List.mem_map.1 this
        rw [← he]
        exact hl z hz
      rw [wrB_at L' _ (by rw [← hk]; exact hn) (fun y hy => by rw [wrB_len]; exact hl' y hy) x hx, wrB_at L' _ (by rw [← hk]; exact hn) hl' x hx]
    · have h1 : ∀ x ∈ L', x.1 ≠ j := fun x hx he => hj ⟨x, hx, he⟩
      have h2 : ∀ x ∈ L, x.1 ≠ j := fun x hx he => by
        have : x.1 ∈ L'.map (·.1) := by rw [← hk]; exact List.mem_map_of_mem hx
        obtain ⟨z, hz, he2⟩ := List.mem_map.1 this
        exact h1 z hz (he2.trans he)
      rw [wrB_ne _ _ _ h1, wrB_ne _ _ _ h2, wrB_ne _ _ _ h1]
theorem Clo.wr_wr (C : Clo fc σ) (s s' : σ) {H : AH} (h : C.Kp H) : wrB (C.ids s') (wrB (C.ids s) H) = wrB (C.ids s') H := wrB_wrB (by rw [C.key, C.key]) (by rw [C.key]; exact C.nodup) H (C.wr_lt s h)
mutual
def wkN (f : σ → Nd → Int → Bool × σ) : Nd → Int → σ → Bool × σ
  | .mk l e x b c m, d, s =>
    if (f s (.mk l e x b c m) d).1 = true then
      (if (wkL f b (d + 1) (f s (.mk l e x b c m) d).2).1 = true then wkL f c (d + 1) (wkL f b (d + 1) (f s (.mk l e x b c m) d).2).2
       else (false, (wkL f b (d + 1) (f s (.mk l e x b c m) d).2).2))
    else (false, (f s (.mk l e x b c m) d).2)
def wkL (f : σ → Nd → Int → Bool × σ) : List Nd → Int → σ → Bool × σ
  | [], _, s => (true, s)
  | n :: r, d, s => if (wkN f n d s).1 = true then wkL f r d (wkN f n d s).2 else (false, (wkN f n d s).2)
end
mutual
def szN : Nd → Nat
  | .mk _ _ _ b c _ => 1 + szL b + szL c
def szL : List Nd → Nat
  | [] => 0
  | n :: r => szN n + szL r
end
theorem szN_eq (n : Nd) : szN n = 1 + szL n.body + szL n.els := by cases n; rw [szN]; rfl
theorem wkN_eq (f : σ → Nd → Int → Bool × σ) (n : Nd) (d : Int) (s : σ) : wkN f n d s =
    if (f s n d).1 = true then
      (if (wkL f n.body (d + 1) (f s n d).2).1 = true then wkL f n.els (d + 1) (wkL f n.body (d + 1) (f s n d).2).2
       else (false, (wkL f n.body (d + 1) (f s n d).2).2))
    else (false, (f s n d).2) := by cases n; rw [wkN]; rfl
theorem szL_len : ∀ l : List Nd, l.length ≤ szL l
  | [] => Nat.zero_le _
  | n :: r => by have := szL_len r; rw [szL, szN_eq, List.length_cons]; omega
theorem szL_at : ∀ {l : List Nd} {i : Nat} {n : Nd}, l[i]? = some n → szN n + szL (l.drop (i + 1)) ≤ szL l
  | [], i, n, h => by simp at h
  | m :: l, 0, n, h => by
    simp only [List.getElem?_cons_zero, Option.some.injEq] at h
    subst h
    rw [szL]
    simp
  | m :: l, i + 1, n, h => by
    simp only [List.getElem?_cons_succ] at h
    have := szL_at h
    rw [szL]
    simp only [List.drop_succ_cons]
    omega
mutual
theorem Clo.okWn (C : Clo fc σ) : ∀ (n : Nd) (d : Int) (s : σ) (j : Nat), C.ok (szN n + j) s → C.ok j (wkN C.f n d s).2
  | .mk l e x b c m, d, s, j, h => by
    rw [szN] at h
    rw [wkN]
    have h1 := C.okN (szL b + szL c + j) s (.mk l e x b c m) d (C.okL (by omega) h)
    split
    · have h2 := C.okWl b (d + 1) _ (szL c + j) (C.okL (by omega) h1)
      split
      · exact C.okWl c (d + 1) _ j h2
      · exact C.okL (by omega) h2
    · exact C.okL (by omega) h1
theorem Clo.okWl (C : Clo fc σ) : ∀ (l : List Nd) (d : Int) (s : σ) (j : Nat), C.ok (szL l + j) s → C.ok j (wkL C.f l d s).2
  | [], d, s, j, h => by rw [szL] at h; rw [wkL]; exact C.okL (by omega) h
  | n :: r, d, s, j, h => by
    rw [szL] at h
    rw [wkL]
    have h1 := C.okWn n d s (szL r + j) (C.okL (by omega) h)
    split
    · exact C.okWl r d _ j h1
    · exact C.okL (by omega) h1
end
end
end Go.Proofs.YtejjlojfgcgopaaGreatDoor

namespace Go.Proofs.YtejjlojfgcgopaaGreatDoor
open Go.RowKit Go.Proofs.Fw
set_option maxRecDepth 100000
set_option maxHeartbeats 4000000
@[simp high] theorem alenNdP (l : List Nd) : alen Tryz.prog 76 (ndE.av l) = some (.int .i64 l.length) := ndE.alen Tryz.underlying76 l
@[simp high] theorem aidxNdP {l : List Nd} {i : Nat} (h : i < l.length) : aindexAddr Tryz.prog 76 (ndE.av l) (.int .i64 (i : Int)) = some (.vptr (ndE.row l) (i * 34)) := ndE.aidx Tryz.underlying76 (by kernel_rfl) h
section
variable {fc : FuncId} {σ : Type}
def wkT (l : List Nd) (d : Int) (fv : AV) (i : Nat) : List AV := mkT 39 [(0, ndE.av l), (1, .int .i64 d), (2, fv), (6, .bool false), (9, ndE.av l), (10, .int .i64 (l.length : Int)), (11, .int .i64 (i : Int))]
def WkI (C : Clo fc σ) (l : List Nd) (d : Int) (s0 : σ) (H0 : AH) (k : Nat) (t : List AV) (H : AH) : Prop :=
  ∃ i s, i + k = l.length ∧ t = wkT l d (.func (.func fc) [] C.caps) i ∧ H = wrB (C.ids s) H0 ∧ C.ok (szL (l.drop i)) s ∧ wkL C.f (l.drop i) d s = wkL C.f l d s0
theorem walk_cs (C : Clo fc σ) (hgo : goFn Tryz.prog fc = true) (hfw : fc ≠ 82) : ∀ (N : Nat) (l : List Nd) (d : Int) (s : σ) (H : AH), szL l < N → 0 ≤ d → d + szL l < 4611686018427387904 → C.ok (szL l) s → C.Kp H → (∀ x ∈ C.ids s, H.at x.1 = some (.box x.2)) → lowH H.length H = true →
    CS Tryz.prog envS 82 [ndE.av l, .int .i64 d, .func (.func fc) [] C.caps] H (.bool (wkL C.f l d s).1) (wrB (C.ids (wkL C.f l d s).2) H)
  | 0, _, _, _, _, h, _, _, _, _, _, _ => absurd h (Nat.not_lt_zero _)
  | N + 1, l, d, s0, H0, hN, hd0, hd, hok, hK, hst, hlow => by
    have hcl := (C.kpL H0 hK).2
    have hlowW : ∀ s, lowH H0.length (wrB (C.ids s) H0) = true := fun s => wrB_low _ _ _ hlow fun x hx => lowL_mono (Nat.zero_le _) _ (C.lowC s x hx)
    have hlenW : ∀ s, (wrB (C.ids s) H0).length = H0.length := fun s => wrB_len _ _
    have hw0 : wrB (C.ids s0) H0 = H0 := by
      apply AH.ext_at (wrB_len _ _)
      intro j
      by_cases hj : ∃ x ∈ C.ids s0, x.1 = j
      · obtain ⟨x, hx, rfl⟩ := hj
        rw [C.wr_at s0 hK x hx, hst x hx]
      · exact wrB_ne _ _ _ fun x hx he => hj ⟨x, hx, he⟩
    refine CS.of_Tr (c := bodyOf Tryz.f82) (H0 := H0) (H1 := wrB (C.ids (wkL C.f l d s0).2) H0) Tryz.func82 (by kernel_rfl) 0 (by simp [Tryz.f82]) (fun B hB hG => ?_) rfl (hlowW _)
    have hfl : ∀ m, H0.length ≤ m → low m (.func (.func fc) [] C.caps) = true := fun m hm => by simp only [low, lowL, lowL_mono hm _ hcl]; rfl
    generalize hfv : AV.func (.func fc) [] C.caps = fv at *
    refine Tr.goW oNilW hG (by kernel_rfl) ?_
    simp [-AH.at, Tryz.f82]
    refine LpD.loopW [] hG (by kernel_rfl) (WkI C l d s0 H0) l.length (t' := wkT l d fv 0) (H' := H0) (Less.mkK H0.length (by rw [hB]; exact Nat.le_refl _) (by simp [hfl]) (by simp) hlow) ⟨0, s0, by omega, by rw [hfv], hw0.symm, hok, rfl⟩ ?_
    rintro k t H ⟨i, s, hik, rfl, rfl, hoks, hes⟩
    rw [hfv]
    cases k with
    | zero =>
      obtain rfl : i = l.length := by omega
      rw [List.drop_length, wkL] at hes
      refine ⟨oNil, oNilW, ?_⟩
      rw [← hes]
      have hl := hlenW s
      generalize wrB (C.ids s) H0 = H at *
      simp [-AH.at, wkT]
      rw [← hl, List.take_length]
    | succ k =>
      have hi : i < l.length := by omega
      have hi' : (i : Int) < l.length := by omega
      obtain ⟨n, hn⟩ : ∃ n, l[i]? = some n := ⟨_, List.getElem?_eq_getElem hi⟩
      have hdr : l.drop i = n :: l.drop (i + 1) := by
        rw [List.drop_eq_getElem_cons hi]
        rw [List.getElem?_eq_getElem hi] at hn
        injection hn with hn
        rw [hn]
      have hsz := szL_at hn
      have hszn := szN_eq n
      rw [hdr, szL] at hoks
      rw [hdr, wkL, wkN_eq] at hes
      have hw0 : IntKind.i64.wrap ((i : Int) + 1) = (i : Int) + 1 := wrap_i64 (by have := szL_len l; omega) (by have := szL_len l; omega)
      have hwd : IntKind.i64.wrap (d + 1) = d + 1 := wrap_i64 (by omega) (by omega)
      obtain ⟨hrow, hrl⟩ := ndE.row_at l i hn
      have hrow : ((ndE.row l).drop (i * 34)).take 34 = ndC n := hrow
      have hrl : i * 34 + 34 ≤ (ndE.row l).length := hrl
      obtain ⟨bx, hbx⟩ : ∃ bx : Option Ent, bx = some (.box (ndC n)) := ⟨_, rfl⟩
      have hbl : lowE (H0.length + 1) bx = true := by rw [hbx]; exact lowL_mono (Nat.zero_le _) _ (ndC_low n)
      have hKb : ∀ s, C.Kp (wrB (C.ids s) H0 ++ [bx]) := fun s => C.kpA _ _ (C.kpW s _ hK)
      have hatb : ∀ s, ∀ x ∈ C.ids s, AH.at (wrB (C.ids s) H0 ++ [bx]) x.1 = some (.box x.2) := fun s x hx => by
        rw [at_appL (by rw [hlenW]; exact C.wr_lt s hK x hx)]
        exact C.wr_at s hK x hx
      have hlwb : ∀ s, lowH (wrB (C.ids s) H0 ++ [bx]).length (wrB (C.ids s) H0 ++ [bx]) = true := fun s => by
        rw [List.length_append, hlenW, lowH_app, lowH_mono (Nat.le_add_right _ _) (hlowW s)]
        simp only [lowH, List.length_cons, List.length_nil, Nat.zero_add, hbl, Bool.and_true, Bool.true_and]
      have hwr : ∀ s s', wrB (C.ids s') (wrB (C.ids s) H0 ++ [bx]) = wrB (C.ids s') H0 ++ [bx] := fun s s' => by
        rw [wrB_app _ _ _ (fun x hx => by rw [hlenW]; exact C.wr_lt s' hK x hx), C.wr_wr s s' hK]
      have ok1 := C.okN (szL n.body + szL n.els + szL (l.drop (i + 1))) s n d (C.okL (by omega) hoks)
      have h1 := C.cs _ s n d (wrB (C.ids s) H0 ++ [bx]) (C.okL (Nat.le_refl _) (C.okL (by omega) hoks : C.ok (szL n.body + szL n.els + szL (l.drop (i + 1)) + 1) s)) (hKb s) (hatb s) hd0 (by omega)
      generalize C.f s n d = r1 at *
      obtain ⟨b1, s1⟩ := r1
      rw [hwr] at h1
      simp only at ok1 h1 hes
      have ok2 := C.okWl n.body (d + 1) s1 (szL n.els + szL (l.drop (i + 1))) (C.okL (by omega) ok1)
      have h2 := walk_cs C hgo hfw N n.body (d + 1) s1 (wrB (C.ids s1) H0 ++ [bx]) (by omega) (by omega) (by omega) (C.okL (by omega) ok1) (hKb s1) (hatb s1) (hlwb s1)
      have hq2 : ∀ s2, wkL C.f n.body (d + 1) s1 = wkL C.f n.els (d + 1) s2 ∨ ¬ (n.body = n.els ∧ s1 = s2) := fun s2 => by
        by_cases h : n.body = n.els ∧ s1 = s2
        · rw [h.1, h.2]; exact .inl rfl
        · exact .inr h
      generalize wkL C.f n.body (d + 1) s1 = r2 at *
      obtain ⟨b2, s2⟩ := r2
      rw [hwr] at h2
      simp only at ok2 h2 hes
      have ok3 := C.okWl n.els (d + 1) s2 (szL (l.drop (i + 1))) ok2
      have h3 := walk_cs C hgo hfw N n.els (d + 1) s2 (wrB (C.ids s2) H0 ++ [bx]) (by omega) (by omega) (by omega) (C.okL (by omega) ok2) (hKb s2) (hatb s2) (hlwb s2)
      have hq2 := hq2 s2
      generalize wkL C.f n.els (d + 1) s2 = r3 at *
      obtain ⟨b3, s3⟩ := r3
      rw [hwr] at h3
      simp only at ok3 h3 hes
      rw [hfv] at h2 h3
      have X := orP_cx (S := []) h3 (orP_cx h2 (orP_cx h1 oNilW))
      have o3 := orP_at 82 [ndE.av n.els, .int .i64 (d + 1), fv] (wrB (C.ids s2) H0 ++ [bx]) (.bool b3) (wrB (C.ids s3) H0 ++ [bx]) (orP 82 [ndE.av n.body, .int .i64 (d + 1), fv] (wrB (C.ids s1) H0 ++ [bx]) (.bool b2) (wrB (C.ids s2) H0 ++ [bx]) (orP fc (.agg (ndC n) :: .int .i64 d :: C.caps) (wrB (C.ids s) H0 ++ [bx]) (.bool b1) (wrB (C.ids s1) H0 ++ [bx]) oNil))
      have o2 : orP 82 [ndE.av n.els, .int .i64 (d + 1), fv] (wrB (C.ids s2) H0 ++ [bx]) (.bool b3) (wrB (C.ids s3) H0 ++ [bx]) (orP 82 [ndE.av n.body, .int .i64 (d + 1), fv] (wrB (C.ids s1) H0 ++ [bx]) (.bool b2) (wrB (C.ids s2) H0 ++ [bx]) (orP fc (.agg (ndC n) :: .int .i64 d :: C.caps) (wrB (C.ids s) H0 ++ [bx]) (.bool b1) (wrB (C.ids s1) H0 ++ [bx]) oNil))
          82 [ndE.av n.body, .int .i64 (d + 1), fv] (wrB (C.ids s1) H0 ++ [bx]) = some (.bool b2, wrB (C.ids s2) H0 ++ [bx]) := by
        rcases hq2 with he | hne
        · by_cases hc : n.body = n.els ∧ s1 = s2
          · simp only [Prod.mk.injEq] at he
            rw [hc.1, hc.2, orP_at, he.1, he.2]
          · unfold orP
            rw [if_neg, if_pos ⟨rfl, rfl, rfl⟩]
            rintro ⟨_, ha, hH⟩
            simp only [List.cons.injEq, and_true] at ha
            exact hc ⟨ndE.av_inj ha, C.wr_inj hK (List.append_cancel_right hH)⟩
        · unfold orP
          rw [if_neg, if_pos ⟨rfl, rfl, rfl⟩]
          rintro ⟨_, ha, hH⟩
          simp only [List.cons.injEq, and_true] at ha
          exact hne ⟨ndE.av_inj ha, C.wr_inj hK (List.append_cancel_right hH)⟩
      have o1 : orP 82 [ndE.av n.els, .int .i64 (d + 1), fv] (wrB (C.ids s2) H0 ++ [bx]) (.bool b3) (wrB (C.ids s3) H0 ++ [bx]) (orP 82 [ndE.av n.body, .int .i64 (d + 1), fv] (wrB (C.ids s1) H0 ++ [bx]) (.bool b2) (wrB (C.ids s2) H0 ++ [bx]) (orP fc (.agg (ndC n) :: .int .i64 d :: C.caps) (wrB (C.ids s) H0 ++ [bx]) (.bool b1) (wrB (C.ids s1) H0 ++ [bx]) oNil))
          fc (.agg (ndC n) :: .int .i64 d :: C.caps) (wrB (C.ids s) H0 ++ [bx]) = some (.bool b1, wrB (C.ids s1) H0 ++ [bx]) := by
        rw [orP_ne hfw, orP_ne hfw, orP_at]
      refine ⟨_, X, ?_⟩
      generalize orP 82 [ndE.av n.els, .int .i64 (d + 1), fv] (wrB (C.ids s2) H0 ++ [bx]) (.bool b3) (wrB (C.ids s3) H0 ++ [bx]) (orP 82 [ndE.av n.body, .int .i64 (d + 1), fv] (wrB (C.ids s1) H0 ++ [bx]) (.bool b2) (wrB (C.ids s2) H0 ++ [bx]) (orP fc (.agg (ndC n) :: .int .i64 d :: C.caps) (wrB (C.ids s) H0 ++ [bx]) (.bool b1) (wrB (C.ids s1) H0 ++ [bx]) oNil)) = O at o1 o2 o3
      clear X h1 h2 h3 hq2
      have hl0 := hlenW s
      have hl1 := hlenW s1
      have hl2 := hlenW s2
      have hl3 := hlenW s3
      have hr1 := hlowW s1
      have hr2 := hlowW s2
      have hr3 := hlowW s3
      have hnx : ∀ {t H}, wkL C.f (l.drop (i + 1)) d s3 = wkL C.f l d s0 → Less B t H (wkT l d fv (i + 1)) (wrB (C.ids s3) H0) → Nxt B (WkI C l d s0 H0) (k + 1) t H := fun he hL => Nxt.mk k (by omega) hL ⟨i + 1, s3, by omega, by rw [hfv], rfl, ok3, he⟩
      have hes' := hes
      rw [← hes]
      have hexp := ndC_eq n
      simp only [Sx.c, List.cons_append, List.nil_append] at hexp
      rw [hbx, hexp] at o1 o2 o3
      rw [hexp] at hrow
      clear hbl hKb hatb hlwb hwr hbx hes
      generalize wrB (C.ids s) H0 = H at *
      generalize e1 : wrB (C.ids s1) H0 = H1 at *
      generalize e2 : wrB (C.ids s2) H0 = H2 at *
      generalize e3 : wrB (C.ids s3) H0 = H3 at *
      rw [← hl0] at hl1 hl2 hl3
      have a1 := fun e B => at_app0 H1 e B
      have a2 := fun e B => at_app0 H2 e B
      rw [hl1] at a1
      rw [hl2] at a2
      have t1 : ∀ B, (H1 ++ B).take H0.length = H1 := fun B => List.take_left' (hl1.trans hl0)
      have t2 : ∀ B, (H2 ++ B).take H0.length = H2 := fun B => List.take_left' (hl2.trans hl0)
      have t3 : ∀ B, (H3 ++ B).take H0.length = H3 := fun B => List.take_left' (hl3.trans hl0)
      subst hfv
      cases b1 with
      | false => simp [-AH.at, wkT, hi, hi', hrow, hrl, hgo, o1, at_app0, set_app0, a1, a2, t1, e1]
      | true =>
        cases b2 with
        | false => simp [-AH.at, wkT, hi, hi', hrow, hrl, hgo, hwd, o1, o2, at_app0, set_app0, a1, a2, t2, e2]
        | true =>
          cases b3 with
          | false => simp [-AH.at, wkT, hi, hi', hrow, hrl, hgo, hwd, o1, o2, o3, at_app0, set_app0, a1, a2, t3, e3]
          | true =>
            simp [-AH.at, wkT, hi, hi', hrow, hrl, hgo, hwd, o1, o2, o3, at_app0, set_app0, a1, a2, hw0]
            refine hnx ?_ ?_
            · simpa using hes'
            · exact Less.mkK H0.length (by rw [hB]; exact Nat.le_refl _) (by simp [hcl]) (t3 _) hr3
end
end Go.Proofs.YtejjlojfgcgopaaGreatDoor

namespace Go.Proofs.YtejjlojfgcgopaaGreatDoor.Tf
open Go.RowKit Go.Proofs.Fw
set_option maxRecDepth 100000
theorem go10 : goFn Tryz.prog 10 = true := by kernel_rfl
theorem go11 : goFn Tryz.prog 11 = true := by kernel_rfl
theorem go12 : goFn Tryz.prog 12 = true := by kernel_rfl
theorem go13 : goFn Tryz.prog 13 = true := by kernel_rfl
theorem go14 : goFn Tryz.prog 14 = true := by kernel_rfl
theorem go22 : goFn Tryz.prog 22 = true := by kernel_rfl
theorem go26 : goFn Tryz.prog 26 = true := by kernel_rfl
theorem go29 : goFn Tryz.prog 29 = true := by kernel_rfl
theorem go36 : goFn Tryz.prog 36 = true := by kernel_rfl
theorem go37 : goFn Tryz.prog 37 = true := by kernel_rfl
theorem go38 : goFn Tryz.prog 38 = true := by kernel_rfl
theorem go39 : goFn Tryz.prog 39 = true := by kernel_rfl
theorem go42 : goFn Tryz.prog 42 = true := by kernel_rfl
theorem go43 : goFn Tryz.prog 43 = true := by kernel_rfl
theorem go45 : goFn Tryz.prog 45 = true := by kernel_rfl
theorem go47 : goFn Tryz.prog 47 = true := by kernel_rfl
theorem go74 : goFn Tryz.prog 74 = true := by kernel_rfl
theorem go78 : goFn Tryz.prog 78 = true := by kernel_rfl
theorem go79 : goFn Tryz.prog 79 = true := by kernel_rfl
theorem go125 : goFn Tryz.prog 125 = true := by kernel_rfl
theorem go126 : goFn Tryz.prog 126 = true := by kernel_rfl
theorem go170 : goFn Tryz.prog 170 = true := by kernel_rfl
theorem go198 : goFn Tryz.prog 198 = true := by kernel_rfl
theorem go200 : goFn Tryz.prog 200 = true := by kernel_rfl
attribute [simp] go10 go11 go12 go13 go14 go22 go26 go29 go36 go37 go38 go39 go42 go43 go45 go47 go74 go78 go79 go125
attribute [simp] go126 go170 go198 go200
end Go.Proofs.YtejjlojfgcgopaaGreatDoor.Tf

namespace Go.Proofs.YtejjlojfgcgopaaGreatDoor
open Go.RowKit Go.Proofs.Fw
set_option maxRecDepth 100000
set_option maxHeartbeats 4000000
@[simp] theorem immSInt : envS.imm 3 = false := by decide
@[simp] theorem immSStr : envS.imm 9 = false := by decide
theorem goCount1 : goFn Tryz.prog 81 = true := by kernel_rfl
theorem goFind1 : goFn Tryz.prog 80 = true := by kernel_rfl
section
variable {fc : FuncId} {σ : Type}
theorem walkT_cs (C : Clo fc σ) (hgo : goFn Tryz.prog fc = true) (hfw : fc ≠ 82) (l : List Nd) (s : σ) (H : AH) (hsz : szL l < 4611686018427387904) (hok : C.ok (szL l) s) (hK : C.Kp H) (hst : ∀ x ∈ C.ids s, H.at x.1 = some (.box x.2)) (hlow : lowH H.length H = true) :
    CS Tryz.prog envS 46 [ndE.av l, .func (.func fc) [] C.caps] H (.bool (wkL C.f l 0 s).1) (wrB (C.ids (wkL C.f l 0 s).2) H) := by
  have h := walk_cs C hgo hfw (szL l + 1) l 0 s H (Nat.lt_succ_self _) (Int.le_refl _) (by omega) hok hK hst hlow
  have hcl := (C.kpL H hK).2
  have hl1 := wrB_low (C.ids (wkL C.f l 0 s).2) _ _ hlow fun x hx => lowL_mono (Nat.zero_le _) _ (C.lowC _ x hx)
  have hl2 := wrB_len (C.ids (wkL C.f l 0 s).2) H
  generalize wrB (C.ids (wkL C.f l 0 s).2) H = H1 at *
  generalize (wkL C.f l 0 s).1 = b at *
  have X := orP_cx (S := []) h oNilW
  have hO := orP_at 82 [ndE.av l, .int .i64 0, .func (.func fc) [] C.caps] H (.bool b) H1 oNil
  generalize orP 82 [ndE.av l, .int .i64 0, .func (.func fc) [] C.caps] H (.bool b) H1 oNil = O at X hO
  refine CS.of_Tr (c := bodyOf Tryz.f46) (H0 := H) (H1 := H1) Tryz.func46 (by kernel_rfl) 0 (by simp [Tryz.f46]) (fun B hB hG => ?_) rfl hl1
  refine Tr.goW X hG (by kernel_rfl) ?_
  simp [-AH.at, Tryz.f46, hO]
  rw [← hl2, List.take_length]
end
theorem count1_cs (n : Nd) (d : Int) (c : Nat) (hc : c < 4611686018427387904) {H : AH} {b : Nat} (hH : H.at b = some (.box [.int .i64 (c : Int)])) :
    CS Tryz.prog envS 81 [.agg (ndC n), .int .i64 d, .ptr b 0] H (.bool true) (H.set b (some (.box [.int .i64 ((c + 1 : Nat) : Int)]))) := by
  have w1 : IntKind.i64.wrap ((c : Int) + 1) = ((c + 1 : Nat) : Int) := by rw [wrap_i64 (by omega) (by omega)]; rfl
  have hl := ndC_low n
  have := CS.rd1 (cs := [.int .i64 (c : Int)]) (cs' := [.int .i64 ((c + 1 : Nat) : Int)]) (args := [.agg (ndC n), .int .i64 d, .ptr 0 0]) (v := .bool true) lowS Tryz.func81 (by kernel_rfl) 0 (by simp [Tryz.f81]) (fun B hB hG => by
    refine Tr.goW oNilW hG (by kernel_rfl) ?_
    simp [Tryz.f81, w1, -Int.natCast_add]) (by simp [lowL, low, lowL_mono (Nat.zero_le 1) _ hl]) rfl rfl rfl hH
  simpa [renL, ren, renL_low _ _ hl] using this
def cloCount (b : Nat) : Clo 81 Nat where
  caps := [.ptr b 0]
  ids := fun c => [(b, [.int .i64 (c : Int)])]
  keys := [b]
  key := fun _ => rfl
  nodup := by simp
  inj := fun s s' h => by simp at h; omega
  lowC := fun s x hx => by simp at hx; subst hx; rfl
  Kp := fun H => b < H.length
  kpA := fun H K h => by rw [List.length_append]; omega
  kpW := fun s H h => by rw [wrB_len]; exact h
  kpL := fun H h => ⟨fun i hi => by simp at hi; subst hi; exact h, by simp [lowL, low, h]⟩
  ok := fun j c => c + j < 4611686018427387904
  f := fun c _ _ => (true, c + 1)
  okN := fun j s n d h => by have h : s + (j + 1) < 4611686018427387904 := h; show s + 1 + j < 4611686018427387904; omega
  okM := fun j s h => by have h : s + (j + 1) < 4611686018427387904 := h; show s + j < 4611686018427387904; omega
  cs := fun j s n d H h hK hst hd0 hd => count1_cs n d s (by have h : s + (j + 1) < 4611686018427387904 := h; omega) (hst (b, [.int .i64 (s : Int)]) (by simp))
mutual
theorem cntN (b : Nat) : ∀ (n : Nd) (d : Int) (c : Nat), wkN (cloCount b).f n d c = (true, c + szN n)
  | .mk l e x bo el m, d, c => by
    rw [wkN, szN]
    have h1 : ∀ c n d, (cloCount b).f c n d = (true, c + 1) := fun _ _ _ => rfl
    simp only [h1, if_true]
    rw [cntL b bo (d + 1) (c + 1)]
    simp only [if_true]
    rw [cntL b el (d + 1)]
    congr 1; omega
theorem cntL (b : Nat) : ∀ (l : List Nd) (d : Int) (c : Nat), wkL (cloCount b).f l d c = (true, c + szL l)
  | [], d, c => by rw [wkL, szL]; rfl
  | n :: r, d, c => by
    rw [wkL, cntN b n d c]
    simp only [if_true]
    rw [cntL b r d, szL]
    congr 1; omega
end
theorem count_cs (l : List Nd) (hsz : szL l < 4611686018427387904) (H : AH) : CS Tryz.prog envS 44 [ndE.av l] H (.int .i64 (szL l : Int)) H := by
  have h := walkT_cs (cloCount 0) goCount1 (by decide) l 0 [some (.box [.int .i64 0])] hsz (by show 0 + szL l < _; omega) (by show 0 < [some (Ent.box [AV.int IntKind.i64 0])].length; decide) (fun x hx => by
    rcases List.mem_singleton.1 hx with rfl
    rfl) rfl
  rw [cntL] at h
  have he : wrB ((cloCount 0).ids (0 + szL l)) [some (.box [.int .i64 0])] = [some (.box [.int .i64 (szL l : Int)])] := by simp [cloCount, wrB]
  rw [he] at h
  have hc : (cloCount 0).caps = [.ptr 0 0] := rfl
  rw [hc] at h
  have X := orP_cx (S := []) h oNilW
  have hO := orP_at 46 [ndE.av l, .func (.func 81) [] [.ptr 0 0]] [some (.box [.int .i64 0])] (.bool true) [some (.box [.int .i64 (szL l : Int)])] oNil
  generalize orP 46 [ndE.av l, .func (.func 81) [] [.ptr 0 0]] [some (.box [.int .i64 0])] (.bool true) [some (.box [.int .i64 (szL l : Int)])] oNil = O at X hO
  refine CS.tr0 lowS Tryz.func44 (by kernel_rfl) 0 (by simp [Tryz.f44]) (fun B hB hG => ?_) (by simp) (by simp) H
  refine Tr.goW X hG (by kernel_rfl) ?_
  simp [Tryz.f44, hO]
def sx0 : Sx := ⟨0, [], t0, t0, [], t0, t0, [], t0, t0, 0⟩
def nd0 : Nd := .mk 0 0 sx0 [] [] 0
def fdF (at_ : Int) (s n : Nd) : Bool × Nd := (decide (n.line ≠ at_), if n.line = at_ then n else s)
theorem find1_cs (at_ : Int) (s n : Nd) (d : Int) {H : AH} {a b : Nat} (hab : a ≠ b) (ha : H.at a = some (.box [.int .i64 at_])) (hb : H.at b = some (.box (ndC s))) :
    CS Tryz.prog envS 80 [.agg (ndC n), .int .i64 d, .ptr a 0, .ptr b 0] H (.bool (fdF at_ s n).1) (H.set b (some (.box (ndC (fdF at_ s n).2)))) := by
  have hl := ndC_low n
  have hls := ndC_low s
  have hlq := ndC_low (fdF at_ s n).2
  have l2 := fun (l : List AV) (h : lowL 0 l = true) => lowL_mono (Nat.zero_le 2) l h
  have key := CS.of_Tr (P := Tryz.prog) (E := envS) (f := 80) (c := bodyOf Tryz.f80) (args := [.agg (ndC n), .int .i64 d, .ptr 0 0, .ptr 1 0]) (H0 := [some (.box [.int .i64 at_]), some (.box (ndC s))]) (H1 := [some (.box [.int .i64 at_]), some (.box (ndC (fdF at_ s n).2))])
    (v := .bool (fdF at_ s n).1) Tryz.func80 (by kernel_rfl) 0 (by simp [Tryz.f80]) (fun B hB hG => by
      refine Tr.goW oNilW hG (by kernel_rfl) ?_
      have e1 := ndC_eq n
      have e2 := ndC_eq s
      simp only [Sx.c, List.cons_append, List.nil_append] at e1 e2
      by_cases h : n.line = at_
      · have h1 : fdF at_ s n = (false, n) := by simp [fdF, h]
        rw [h1, e1, e2]
        simp [Tryz.f80, h]
      · have h1 : fdF at_ s n = (true, s) := by simp [fdF, h]
        rw [h1, e1, e2]
        simp [Tryz.f80, h]) rfl (by simp [lowH, lowE, l2 _ hlq])
  have := CS.embed (fun i => if i = 0 then a else b) (k := 2) (H := H) (H' := H.set b (some (.box (ndC (fdF at_ s n).2)))) key rfl rfl (by
    intro i j hi hj he
    rcases (by omega : i = 0 ∨ i = 1) with rfl | rfl <;> rcases (by omega : j = 0 ∨ j = 1) with rfl | rfl <;> simp at he ⊢
    · exact hab he
    · exact hab he.symm) lowS (by simp [l2 _ hl]) rfl (by simp [lowH, lowE, l2 _ hls]) (by simp [lowH, lowE, l2 _ hlq]) (by
    intro i hi
    rcases (by omega : i = 0 ∨ i = 1) with rfl | rfl
    · rw [if_pos rfl, ha]; rfl
    · rw [if_neg (by decide), hb]; simp [AH.at, renE, renL_low _ _ hls]) (by
    intro i hi
    rcases (by omega : i = 0 ∨ i = 1) with rfl | rfl
    · rw [if_pos rfl, at_set_ne (fun h => hab h.symm), ha]; rfl
    · rw [if_neg (by decide), at_set_self hb]; simp [AH.at, renE, renL_low _ _ hlq]) (by
    intro j hj
    have h1 := hj 1 (by decide)
    simp at h1
    exact at_set_ne h1)
  simpa [renL, ren, renL_low _ _ hl] using this
def cloFind (at_ : Int) (a b : Nat) (hab : a ≠ b) : Clo 80 Nd where
  caps := [.ptr a 0, .ptr b 0]
  ids := fun s => [(b, ndC s)]
  keys := [b]
  key := fun _ => rfl
  nodup := by simp
  inj := fun s s' h => by
    simp only [List.cons.injEq, Prod.mk.injEq, true_and, and_true] at h
    exact ndC_inj _ _ h
  lowC := fun s x hx => by
    rcases List.mem_singleton.1 hx with rfl
    exact ndC_low s
  Kp := fun H => b < H.length ∧ H.at a = some (.box [.int .i64 at_])
  kpA := fun H K h => ⟨by rw [List.length_append]; omega, by rw [at_appL (at_lt h.2)]; exact h.2⟩
  kpW := fun s H h => ⟨by rw [wrB_len]; exact h.1, by
    rw [wrB_ne _ _ _ (fun x hx => by
      rcases List.mem_singleton.1 hx with rfl
      exact fun h => hab h.symm)]
    exact h.2⟩
  kpL := fun H h => ⟨fun i hi => by simp at hi; subst hi; exact h.1, by simp [lowL, low, h.1, at_lt h.2]⟩
  ok := fun _ _ => True
  f := fun s n _ => fdF at_ s n
  okN := fun _ _ _ _ _ => trivial
  okM := fun _ _ _ => trivial
  cs := fun j s n d H h hK hst hd0 hd => find1_cs at_ s n d hab hK.2 (hst (b, ndC s) (by simp))
def findW (l : List Nd) (at_ : Int) : Bool × Nd := wkL (fun s n _ => fdF at_ s n) l 0 nd0
theorem zeroNd : zeroAV Tryz.prog 104 = some (.agg (ndC nd0)) := by kernel_rfl
theorem find_cs (l : List Nd) (at_ : Int) (hsz : szL l < 4611686018427387904) (H : AH) : CS Tryz.prog envS 41 [ndE.av l, .int .i64 at_] H (.tup [.agg (ndC (findW l at_).2), .bool (!(findW l at_).1)]) H := by
  have h := walkT_cs (cloFind at_ 0 2 (by decide)) goFind1 (by decide) l nd0 [some (.box [.int .i64 at_]), some (.box (ndC nd0)), some (.box (ndC nd0))] hsz trivial ⟨by simp, rfl⟩ (fun x hx => by
    rcases List.mem_singleton.1 hx with rfl
    rfl) (by kernel_rfl)
  have he : wrB ((cloFind at_ 0 2 (by decide)).ids (wkL (cloFind at_ 0 2 (by decide)).f l 0 nd0).2) [some (.box [.int .i64 at_]), some (.box (ndC nd0)), some (.box (ndC nd0))] = [some (.box [.int .i64 at_]), some (.box (ndC nd0)), some (.box (ndC (findW l at_).2))] := rfl
  rw [he] at h
  have hb : (wkL (cloFind at_ 0 2 (by decide)).f l 0 nd0).1 = (findW l at_).1 := rfl
  rw [hb] at h
  have hc : (cloFind at_ 0 2 (by decide)).caps = [.ptr 0 0, .ptr 2 0] := rfl
  rw [hc] at h
  generalize findW l at_ = r at *
  obtain ⟨b, s⟩ := r
  simp only at h ⊢
  have X := orP_cx (S := []) h oNilW
  have hO := orP_at 46 [ndE.av l, .func (.func 80) [] [.ptr 0 0, .ptr 2 0]] [some (.box [.int .i64 at_]), some (.box (ndC nd0)), some (.box (ndC nd0))] (.bool b) [some (.box [.int .i64 at_]), some (.box (ndC nd0)), some (.box (ndC s))] oNil
  generalize orP 46 [ndE.av l, .func (.func 80) [] [.ptr 0 0, .ptr 2 0]] [some (.box [.int .i64 at_]), some (.box (ndC nd0)), some (.box (ndC nd0))] (.bool b) [some (.box [.int .i64 at_]), some (.box (ndC nd0)), some (.box (ndC s))] oNil = O at X hO
  have e1 := ndC_eq s
  have hls := ndC_low s
  have e0 := ndC_eq nd0
  simp only [Sx.c, List.cons_append, List.nil_append] at e1 e0
  refine CS.tr0 lowS Tryz.func41 (by kernel_rfl) 0 (by simp [Tryz.f41]) (fun B hB hG => ?_) (by simp [hls]) (by simp) H
  rw [e1] at hO ⊢
  have hz : zeroAV Tryz.prog 104 = some (.agg (ndC nd0)) := zeroNd
  rw [e0] at hO hz
  simp [show nd0.line = 0 from rfl, show nd0.end_ = 0 from rfl, show nd0.st = sx0 from rfl, show nd0.body = [] from rfl, show nd0.els = [] from rfl, show nd0.mid = 0 from rfl, sx0] at hO
  refine Tr.goW X hG (by kernel_rfl) ?_
  simp [Tryz.f41, hO]
end Go.Proofs.YtejjlojfgcgopaaGreatDoor

namespace Go.Proofs.YtejjlojfgcgopaaGreatDoor
open Go.RowKit Go.Proofs.Fw
set_option maxRecDepth 100000
set_option maxHeartbeats 4000000
def lnGo (acc : List UInt8) : List UInt8 → List (List UInt8)
  | [] => if acc = [] then [] else [acc]
  | c :: r => if c = 10 then (acc ++ [c]) :: lnGo [] r else lnGo (acc ++ [c]) r
def linesW (s : List UInt8) : List (List UInt8) := lnGo [] s
theorem elemStr : elemChk Tryz.prog 23 1 = true := by kernel_rfl
end Go.Proofs.YtejjlojfgcgopaaGreatDoor

namespace Go.Proofs.YtejjlojfgcgopaaGreatDoor
open Go.RowKit Go.Proofs.Fw
set_option maxRecDepth 100000
set_option maxHeartbeats 4000000
def badC (c : UInt8) : Bool := (decide (c.toNat < 32) || decide (126 < c.toNat)) && !decide (c.toNat = 9) && !decide (c.toNat = 10)
def chkL : Nat → List (List UInt8) → Er
  | _, [] => none
  | i, l :: r => if 200 < l.length then some ([(lineTxt, i)], 4) else if l.any badC then some ([(lineTxt, i)], 3) else chkL (i + 1) r
def textTxt : List UInt8 := [116, 101, 120, 116]
def splitW (s : List UInt8) : List (List UInt8) × Er := if 65536 < s.length then ([], some ([(textTxt, 0)], 4)) else
  match chkL 0 (linesW s) with
  | some y => ([], some y)
  | none => (linesW s, none)
theorem lnGo_length : ∀ (s acc : List UInt8), (lnGo acc s).length ≤ s.length + 1
  | [], acc => by rw [lnGo]; split <;> simp
  | c :: r, acc => by
    rw [lnGo]
    split
    · have := lnGo_length r []
      simp only [List.length_cons]
      omega
    · have := lnGo_length r (acc ++ [c])
      simp only [List.length_cons]
      omega
end Go.Proofs.YtejjlojfgcgopaaGreatDoor

namespace Go.Proofs.YtejjlojfgcgopaaGreatDoor
open Go.RowKit Go.Proofs.Fw
set_option maxRecDepth 100000
set_option maxHeartbeats 4000000
theorem chkL_none : ∀ (ls : List (List UInt8)) (i : Nat), chkL i ls = none → ∀ l ∈ ls, l.length ≤ 200
  | [], _, _, _, hm => by cases hm
  | x :: ls, i, h, l, hm => by
    rw [chkL] at h
    split at h
    · cases h
    · rename_i h1
      split at h
      · cases h
      · rcases List.mem_cons.1 hm with rfl | hm
        · omega
        · exact chkL_none ls (i + 1) h l hm
theorem chkL_ok : ∀ (ls : List (List UInt8)) (i : Nat), erOk (chkL i ls)
  | [], _ => erOk_none
  | x :: ls, i => by
    rw [chkL]
    split
    · exact erOk_some (by simp) (by decide)
    · split
      · exact erOk_some (by simp) (by decide)
      · exact chkL_ok ls (i + 1)
theorem splitW_ok (s : List UInt8) (hs : s.length < 900000) : erOk (splitW s).2 ∧ ((splitW s).2 = none → (splitW s).1.length < 1000000 ∧ ∀ l ∈ (splitW s).1, l.length < 1000000) := by
  unfold splitW
  split
  · exact ⟨erOk_some (by simp) (by decide), fun h => by cases h⟩
  · have h1 := chkL_ok (linesW s) 0
    have h2 := chkL_none (linesW s) 0
    have h3 : (linesW s).length ≤ s.length + 1 := lnGo_length s []
    generalize chkL 0 (linesW s) = e at *
    cases e with
    | none => exact ⟨erOk_none, fun _ => ⟨by simp only; omega, fun l hl => by have := h2 rfl l hl; omega⟩⟩
    | some y => exact ⟨h1, fun h => by cases h⟩
end Go.Proofs.YtejjlojfgcgopaaGreatDoor

namespace Go.Proofs.YtejjlojfgcgopaaGreatDoor
open Go.RowKit Go.Proofs.Fw
set_option maxRecDepth 100000
set_option maxHeartbeats 4000000
def chkC (l : List UInt8) : Nat := if 200 < l.length then 4 else if l.any badC then 3 else 0
theorem strCells_at {s : List UInt8} {i : Nat} (h : i < s.length) : (strCells s)[i]? = some (.int .u8 (s[i].toNat : Int)) := by
  unfold strCells
  rw [List.getElem?_map, List.getElem?_eq_getElem h]
  rfl
def ckT (l : List UInt8) (i : Nat) : List AV := mkT 32 [(2, .nilIface), (10, .slice .unk 1 l.length (strCells l)), (11, .int .i64 (l.length : Int)), (12, .int .i64 (i : Int))]
def CkI (l : List UInt8) (k : Nat) (t : List AV) (H : AH) : Prop := ∃ i, i + k = l.length ∧ l.any badC = (l.drop i).any badC ∧ t = ckT l i ∧ H = []
theorem strCells_low (l : List UInt8) : lowL 0 (strCells l) = true := by
  unfold strCells
  induction l with
  | nil => rfl
  | cons c l ih => simp only [List.map_cons, lowL, ih]; rfl
theorem lcheck_cs (l : List UInt8) (hl : l.length < 1000000) (H : AH) : CS Tryz.prog envS 126 [.str l] H (codeAV (chkC l)) H := by
  refine CS.tr0 lowS Tryz.func126 (by kernel_rfl) 0 (by simp [Tryz.f126]) (fun B hB hG => ?_) (by unfold codeAV; split <;> rfl) (by simp) H
  refine Tr.goW oNilW hG (by kernel_rfl) ?_
  unfold chkC
  by_cases h2 : 200 < l.length
  · have h2' : (200 : Int) < l.length := by omega
    rw [if_pos h2]
    simp [Tryz.f126, h2, h2', codeAV]
  · have h2' : ¬ (200 : Int) < l.length := by omega
    have h3 : l.length ≤ 9223372036854775807 := by omega
    rw [if_neg h2]
    generalize hcv : codeAV (if l.any badC = true then 3 else 0) = cv
    simp [Tryz.f126, h2, h2', h3]
    refine LpD.loopW [] hG (by kernel_rfl) (CkI l) l.length (t' := ckT l 0) (H' := []) (Less.mk0 hB (by simp [strCells_low])) ⟨0, by omega, rfl, rfl, rfl⟩ ?_
    rintro k t H ⟨j, hjk, hany, rfl, rfl⟩
    refine ⟨oNil, oNilW, ?_⟩
    by_cases hj : j < l.length
    · obtain ⟨k, rfl⟩ : ∃ j, k = j + 1 := ⟨k - 1, by omega⟩
      have hj' : (j : Int) < l.length := by omega
      have wj : IntKind.i64.wrap ((j : Int) + 1) = (j : Int) + 1 := wrap_i64 (by omega) (by omega)
      have hat := strCells_at hj
      rw [List.drop_eq_getElem_cons hj, List.any_cons] at hany
      have hlt := (l[j]).toNat_lt
      cases hb : badC l[j] with
      | true =>
        rw [hb, Bool.true_or] at hany
        rw [hany] at hcv
        subst hcv
        have hcc : (l[j].toNat < 32 ∨ 126 < l[j].toNat) ∧ l[j].toNat ≠ 9 ∧ l[j].toNat ≠ 10 := by
          simp [badC] at hb
          exact ⟨hb.1.1, hb.1.2, hb.2⟩
        have h9' : ¬ (l[j].toNat : Int) = 9 := by omega
        have h9b : ((l[j].toNat : Int) == 9) = false := by rw [beq_eq_false_iff_ne]; omega
        have h9 := hcc.2.1
        have h10 := hcc.2.2
        have h10' : ¬ (l[j].toNat : Int) = 10 := by omega
        have h10b : ((l[j].toNat : Int) == 10) = false := by rw [beq_eq_false_iff_ne]; omega
        by_cases hq : l[j].toNat < 32
        · have hA' : (l[j].toNat : Int) < 32 := by omega
          simp [ckT, hj, hj', hat, hq, hA', h9, h9', h9b, h10, h10', h10b, codeAV]
        · have hA' : ¬ (l[j].toNat : Int) < 32 := by omega
          have hB1 : 126 < l[j].toNat := by omega
          have hB1' : (126 : Int) < l[j].toNat := by omega
          simp [ckT, hj, hj', hat, hq, hA', hB1, hB1', h9, h9', h9b, h10, h10', h10b, codeAV]
      | false =>
        rw [hb, Bool.false_or] at hany
        have hI : CkI l k (ckT l (j + 1)) [] := ⟨j + 1, by omega, hany, rfl, rfl⟩
        have hcc : l[j].toNat = 9 ∨ l[j].toNat = 10 ∨ (¬ l[j].toNat < 32 ∧ ¬ 126 < l[j].toNat) := by
          simp [badC] at hb
          omega
        have fin : ∀ {L : List (Nat × AV)}, Less B (mkT 32 L) [] (ckT l (j + 1)) [] → Nxt B (CkI l) (k + 1) (mkT 32 L) [] := fun h => Nxt.mk k (by omega) h hI
        rcases hcc with hq | hq | hq
        · have hA : l[j].toNat < 32 := by omega
          have hA' : (l[j].toNat : Int) < 32 := by omega
          have h9b : ((l[j].toNat : Int) == 9) = true := by rw [beq_iff_eq]; omega
          have h9' : (l[j].toNat : Int) = 9 := by omega
          simp [ckT, hj, hj', hat, hA, hA', hq, h9', h9b, wj]
          exact fin (Less.mk0 hB (by simp [strCells_low]))
        · have hA : l[j].toNat < 32 := by omega
          have hA' : (l[j].toNat : Int) < 32 := by omega
          have h9 : ¬ l[j].toNat = 9 := by omega
          have h9' : ¬ (l[j].toNat : Int) = 9 := by omega
          have h9b : ((l[j].toNat : Int) == 9) = false := by rw [beq_eq_false_iff_ne]; omega
          have h10b : ((l[j].toNat : Int) == 10) = true := by rw [beq_iff_eq]; omega
          have h10' : (l[j].toNat : Int) = 10 := by omega
          simp [ckT, hj, hj', hat, hA, hA', h9, h9', h9b, hq, h10', h10b, wj]
          exact fin (Less.mk0 hB (by simp [strCells_low]))
        · have hA := hq.1
          have hA' : ¬ (l[j].toNat : Int) < 32 := by omega
          have hB1 := hq.2
          have hB1' : ¬ (126 : Int) < l[j].toNat := by omega
          simp [ckT, hj, hj', hat, hA, hA', hB1, hB1', wj]
          exact fin (Less.mk0 hB (by simp [strCells_low]))
    · have hj' : ¬ (j : Int) < l.length := by omega
      have hany0 : l.any badC = false := by rw [hany, List.drop_of_length_le (by omega)]; rfl
      rw [hany0] at hcv
      subst hcv
      simp [ckT, hj, hj', codeAV]
noncomputable def fLcheck : Fact Tryz.prog envS := Fact.pure 126 (fun l : List UInt8 => l.length < 1000000) (fun l => [.str l]) (fun l => codeAV (chkC l)) (fun l h H => lcheck_cs l h H) (fun x y _ _ h => by
  simp only [List.cons.injEq, AV.str.injEq, and_true] at h
  rw [h])
theorem sIdxB_cs (s : List UInt8) (c : Int) (H : AH) : CS Tryz.prog envS 130 [.str s, .int .u8 c] H (.int .i64 (Lib.indexByte s c.toNat.toUInt8)) H := by
  refine CS.of_calls fun g w cargs hA => ?_
  simp only [RepL, RepV] at hA
  obtain ⟨_, _, rfl, rfl, _, _, rfl, rfl, rfl⟩ := hA
  refine (idxByte _ c w).mono ?_
  rintro e w' ⟨rfl, rfl⟩
  exact ⟨_, rfl, fun g => by simp [RepV], rfl⟩
theorem sIdx_cs (s : List UInt8) (hs : s.length < 1000000) (H : AH) : CS Tryz.prog envS 217 [.str s, .str [10]] H (.int .i64 (Lib.indexByte s 10)) H := by
  have X := orP_cx (S := []) (sIdxB_cs s 10 []) oNilW
  have hO := orP_at 130 [.str s, .int .u8 10] [] (.int .i64 (Lib.indexByte s (10 : Int).toNat.toUInt8)) [] oNil
  have hc : (10 : Int).toNat.toUInt8 = 10 := rfl
  rw [hc] at hO X
  generalize orP 130 [.str s, .int .u8 10] [] (.int .i64 (Lib.indexByte s 10)) [] oNil = O at X hO
  refine CS.tr0 lowS Tryz.func217 (by kernel_rfl) 0 (by simp [Tryz.f217]) (fun B hB hG => ?_) rfl (by simp) H
  refine Tr.goW X hG (by kernel_rfl) ?_
  by_cases h : s = [10]
  · subst h
    have : Lib.indexByte [10] 10 = 0 := rfl
    rw [this] at hO ⊢
    simp [Tryz.f217, hO]
  · have h1 : ([10] == s) = false := by rw [beq_eq_false_iff_ne]; exact fun e => h e.symm
    have h2 : ¬ [10] = s := fun e => h e.symm
    simp [Tryz.f217, hO, h, h1, h2]
theorem strIdx_cs (s : List UInt8) (hs : s.length < 1000000) (H : AH) : CS Tryz.prog envS 200 [.str s, .str [10]] H (.int .i64 (Lib.indexByte s 10)) H := by
  have X := orP_cx (S := []) (sIdx_cs s hs []) oNilW
  have hO := orP_at 217 [.str s, .str [10]] [] (.int .i64 (Lib.indexByte s 10)) [] oNil
  generalize orP 217 [.str s, .str [10]] [] (.int .i64 (Lib.indexByte s 10)) [] oNil = O at X hO
  refine CS.tr0 lowS Tryz.func200 (by kernel_rfl) 0 (by simp [Tryz.f200]) (fun B hB hG => ?_) rfl (by simp) H
  refine Tr.goW X hG (by kernel_rfl) ?_
  have hgo : goFn Tryz.prog 217 = true := by kernel_rfl
  simp [Tryz.f200, hO, hgo]
noncomputable def fStrIdx : Fact Tryz.prog envS := Fact.pure 200 (fun s : List UInt8 => s.length < 1000000) (fun s => [.str s, .str [10]]) (fun s => .int .i64 (Lib.indexByte s 10)) (fun s h H => strIdx_cs s h H) (fun x y _ _ h => by
  simp only [List.cons.injEq, AV.str.injEq, and_true] at h
  rw [h])
def seqV : AV := .func (.func 198) [] [.ptr 1 0, .ptr 0 0, .ptr 2 0]
def seqH (s : List UInt8) : AH := [some (.box [.str s]), some (.box [.str [10]]), some (.box [.int .i64 1])]
theorem splitSeq_cs (s : List UInt8) : CS Tryz.prog envS 170 [.str s, .str [10], .int .i64 1] [] seqV (seqH s) := by
  refine CS.of_TrN (c := bodyOf Tryz.f170) (H0 := []) (H1 := seqH s) 3 (by simp) Tryz.func170 (by kernel_rfl) 0 (by simp [Tryz.f170]) (fun B hB hG => ?_) rfl rfl
  refine Tr.goW oNilW hG (by kernel_rfl) ?_
  simp [Tryz.f170, seqV, seqH]
theorem saSeq_cs (s : List UInt8) : CS Tryz.prog envS 125 [.str s, .str [10]] [] seqV (seqH s) := by
  have X := orP_cx (S := []) (splitSeq_cs s) oNilW
  have hO := orP_at 170 [.str s, .str [10], .int .i64 1] [] seqV (seqH s) oNil
  generalize orP 170 [.str s, .str [10], .int .i64 1] [] seqV (seqH s) oNil = O at X hO
  refine CS.of_TrN (c := bodyOf Tryz.f125) (H0 := []) (H1 := seqH s) 3 (by simp) Tryz.func125 (by kernel_rfl) 0 (by simp [Tryz.f125]) (fun B hB hG => ?_) rfl rfl
  refine Tr.goW X hG (by kernel_rfl) ?_
  simp only [seqV, seqH] at hO
  simp [Tryz.f125, hO, seqV, seqH]
theorem saSeq3_cs (s : List UInt8) (a b c : List AV) : CS Tryz.prog envS 125 [.str s, .str [10]] [some (.box a), some (.box b), some (.box c)] (.func (.func 198) [] [.ptr 4 0, .ptr 3 0, .ptr 5 0]) ([some (.box a), some (.box b), some (.box c)] ++ seqH s) := by
  have := CS.grow (k := 0) (n := 3) (fun i => i + 3) (H := [some (.box a), some (.box b), some (.box c)]) (H' := [some (.box a), some (.box b), some (.box c)] ++ seqH s) (saSeq_cs s) rfl rfl (by omega) (fun i j _ _ h => by omega) lowS rfl rfl rfl rfl (fun i hi => by omega)
    (fun i h1 h2 => at_ge (by simp)) (by
      intro i hi
      rcases (by omega : i = 0 ∨ i = 1 ∨ i = 2) with rfl | rfl | rfl <;> rfl) (by
      intro j hj
      have h0 := hj 0 (by decide)
      have h1 := hj 1 (by decide)
      have h2 := hj 2 (by decide)
      rcases (by omega : j = 0 ∨ j = 1 ∨ j = 2 ∨ 6 ≤ j) with rfl | rfl | rfl | h
      · rfl
      · rfl
      · rfl
      · rw [at_ge (by simp [seqH]; omega), at_ge (by simp; omega)])
  exact this
theorem idx_cons (c : UInt8) (s : List UInt8) : Lib.indexByte (c :: s) 10 = if c = 10 then 0 else if Lib.indexByte s 10 < 0 then -1 else Lib.indexByte s 10 + 1 := by
  have hge := Lib.indexByte_ge s 10
  rw [Lib.indexByte]
  by_cases hc : c = 10
  · rw [if_pos hc, if_pos (by simpa using hc)]
  · rw [if_neg hc, if_neg (by simpa using hc)]
    by_cases h : Lib.indexByte s 10 = -1
    · rw [if_pos (by simpa using h), if_pos (by omega)]
    · rw [if_neg (by simpa using h), if_neg (by omega)]
theorem idx_cut : ∀ (s acc : List UInt8) (i : Nat), Lib.indexByte s 10 = (i : Int) → i < s.length ∧ lnGo acc s = (acc ++ s.take (i + 1)) :: lnGo [] (s.drop (i + 1))
  | [], acc, i, h => by
    have h1 : Lib.indexByte [] 10 = -1 := rfl
    omega
  | c :: s, acc, i, h => by
    rw [idx_cons] at h
    rw [lnGo]
    by_cases hc : c = 10
    · rw [if_pos hc] at h
      obtain rfl : i = 0 := by omega
      rw [if_pos hc]
      simp
    · rw [if_neg hc] at h
      rw [if_neg hc]
      split at h
      · omega
      · obtain ⟨j, rfl⟩ : ∃ j, i = j + 1 := ⟨i - 1, by omega⟩
        obtain ⟨h1, h2⟩ := idx_cut s (acc ++ [c]) j (by omega)
        rw [h2]
        refine ⟨by simp only [List.length_cons]; omega, ?_⟩
        simp
theorem idx_none : ∀ (s acc : List UInt8), Lib.indexByte s 10 < 0 → lnGo acc s = if acc ++ s = [] then [] else [acc ++ s]
  | [], acc, _ => by rw [lnGo]; simp
  | c :: s, acc, h => by
    rw [idx_cons] at h
    rw [lnGo]
    by_cases hc : c = 10
    · rw [if_pos hc] at h; omega
    · rw [if_neg hc] at h
      rw [if_neg hc]
      rw [idx_none s (acc ++ [c]) (by split at h <;> omega)]
      simp
def contW (ls : List (List UInt8)) (rest : List UInt8) : List (List UInt8) × Er := match chkL ls.length (linesW rest) with
  | some y => ([], some y)
  | none => (ls ++ linesW rest, none)
theorem splitW_cont (s : List UInt8) (h : s.length ≤ 65536) : splitW s = contW [] s := by
  unfold splitW contW
  rw [if_neg (by omega)]
  rfl
theorem chkL_cons (i : Nat) (l : List UInt8) (r : List (List UInt8)) : chkL i (l :: r) = if chkC l = 0 then chkL (i + 1) r else some ([(lineTxt, i)], chkC l) := by
  rw [chkL]
  unfold chkC
  split
  · rfl
  · split
    · rfl
    · rfl
theorem contW_cut {ls : List (List UInt8)} {s : List UInt8} {i : Nat} (h : Lib.indexByte s 10 = (i : Int)) : contW ls s = if chkC (s.take (i + 1)) = 0 then contW (ls ++ [s.take (i + 1)]) (s.drop (i + 1)) else ([], some ([(lineTxt, ls.length)], chkC (s.take (i + 1)))) := by
  have h1 := (idx_cut s [] i h).2
  unfold contW linesW
  rw [h1, List.nil_append, chkL_cons]
  by_cases hc : chkC (s.take (i + 1)) = 0
  · rw [if_pos hc, if_pos hc, List.length_append, List.length_singleton]
    cases chkL (ls.length + 1) (lnGo [] (s.drop (i + 1))) with
    | some y => rfl
    | none => simp
  · rw [if_neg hc, if_neg hc]
theorem contW_last {ls : List (List UInt8)} {s : List UInt8} (h : Lib.indexByte s 10 < 0) : contW ls s = if s = [] then (ls, none) else if chkC s = 0 then (ls ++ [s], none) else ([], some ([(lineTxt, ls.length)], chkC s)) := by
  have h1 := idx_none s [] h
  rw [List.nil_append] at h1
  unfold contW linesW
  rw [h1]
  by_cases hs : s = []
  · rw [if_pos hs, if_pos hs]
    simp [chkL]
  · rw [if_neg hs, if_neg hs, chkL_cons]
    by_cases hc : chkC s = 0
    · rw [if_pos hc, if_pos hc]
      simp [chkL]
    · rw [if_neg hc, if_neg hc]
end Go.Proofs.YtejjlojfgcgopaaGreatDoor
