/- Statements that are known: their texts by the kernel; the law's contracts as facts. furrowlaw6.known returns true. -/
import Derived.Test.YtejjlojfgcgopaaGreatDoorSpJ
import Derived.Test.YtejjlojfgcgopaaGreatDoorTv
set_option linter.unusedSimpArgs false
set_option linter.unusedVariables false
namespace Go.Proofs.YtejjlojfgcgopaaGreatDoor
open Go.RowKit Go.Proofs.Fw
set_option maxRecDepth 100000
set_option maxHeartbeats 4000000
-- 

/-! Numbers as texts, by the kernel. -/
def decK : Nat → Nat → List UInt8
  | 0, u => [UInt8.ofNat (48 + u)]
  | n + 1, u => if u < 10 then [UInt8.ofNat (48 + u)] else decK n (u / 10) ++ [UInt8.ofNat (48 + u % 10)]
theorem decK_eq : ∀ (n u : Nat), u < 10 ^ (n + 1) → decK n u = Lib.decDigits u
  | 0, u, h => by rw [Lib.decDigits, dif_pos (by simpa using h)]; rfl
  | n + 1, u, h => by
    rw [decK, Lib.decDigits]
    split
    · rfl
    · rw [decK_eq n (u / 10) (by rw [Nat.pow_succ] at h; omega)]
def itoaK (n : Int) : List UInt8 := if n < 0 then 45 :: decK 19 n.natAbs else decK 19 n.toNat
theorem itoaK_eq {n : Int} (h : I64 n) : Lib.itoa n = itoaK n := by
  obtain ⟨h1, h2⟩ := h
  have hp : (10 : Nat) ^ (19 + 1) = 100000000000000000000 := by decide
  unfold Lib.itoa itoaK
  split
  · rw [decK_eq 19 _ (by rw [hp]; omega)]
  · rw [decK_eq 19 _ (by rw [hp]; omega)]
def numK (n : Int) : List UInt8 := if n = -9223372036854775808 then leastT else if n < 0 then [40] ++ itoaK n ++ [41] else itoaK n
theorem numK_eq {n : Int} (h : I64 n) : numT n = numK n := by unfold numT numK; rw [itoaK_eq h]
def i64B (n : Int) : Bool := decide (-9223372036854775808 ≤ n) && decide (n ≤ 9223372036854775807)
theorem i64B_ok {n : Int} (h : i64B n = true) : I64 n := by
  simp only [i64B, Bool.and_eq_true, decide_eq_true_eq] at h
  exact h
theorem wordsT_ext {nt nt' : Int → List UInt8} {k n : Int} {s : List UInt8} {a : List Tn} {x : List (List UInt8)} (h : k = 1 → nt n = nt' n) : wordsT nt k n s a x = wordsT nt' k n s a x := by
  unfold wordsT
  by_cases hk : k = 1
  · rw [if_pos hk, if_pos hk, h hk]
  · rw [if_neg hk, if_neg hk]
theorem wordsT_12 {nt : Int → List UInt8} {k n : Int} {s : List UInt8} {a : List Tn} {x y : List (List UInt8)} (h : k = 1 ∨ k = 2) : wordsT nt k n s a x = wordsT nt k n s a y := by
  unfold wordsT
  rcases h with rfl | rfl <;> simp
theorem gk_num {S : Int → Prop} {k n : Int} {m : Nat} (h : gk S k n m) (hk : k = 1) : S n := by
  rcases h with h | h | h | h | h
  · exact h.2
  · omega
  · omega
  · omega
  · omega
mutual
theorem txt_ext {S : Int → Prop} {nt nt' : Int → List UInt8} (h : ∀ n, S n → nt n = nt' n) : ∀ t : Tn, good S t → txt nt t = txt nt' t
  | .lf k n s, hg => by
    simp only [txt]
    exact wordsT_ext fun hk => h n (gk_num hg hk)
  | .nd k n s a, hg => by
    simp only [txt]
    rcases hg.2 with hk | hk
    · rw [wordsT_12 hk (y := txts nt' a)]
      exact wordsT_ext fun hk => h n (gk_num hg.1 hk)
    · rw [txts_ext h a hk]
      exact wordsT_ext fun hk => h n (gk_num hg.1 hk)
theorem txts_ext {S : Int → Prop} {nt nt' : Int → List UInt8} (h : ∀ n, S n → nt n = nt' n) : ∀ l : List Tn, goods S l → txts nt l = txts nt' l
  | [], _ => rfl
  | t :: l, hg => by
    simp only [txts]
    rw [txt_ext h t hg.1, txts_ext h l hg.2]
end
def tnB (t : Tn) : Bool := okT t && goodB i64B t && decide ((txt numK t).length < 1000000)
theorem good_mono {S S' : Int → Prop} (h : ∀ n, S n → S' n) : ∀ t : Tn, good S t → good S' t := by
  have hk : ∀ k n m, gk S k n m → gk S' k n m := fun k n m hg => by
    rcases hg with h1 | h1 | h1 | h1 | h1
    · exact .inl ⟨h1.1, h n h1.2⟩
    · exact .inr (.inl h1)
    · exact .inr (.inr (.inl h1))
    · exact .inr (.inr (.inr (.inl h1)))
    · exact .inr (.inr (.inr (.inr h1)))
  intro t
  refine Tn.rec (motive_1 := fun t => good S t → good S' t) (motive_2 := fun l => goods S l → goods S' l) ?_ ?_ ?_ ?_ t
  · intro k n s hg; exact hk _ _ _ hg
  · intro k n s a ih hg
    refine ⟨hk _ _ _ hg.1, ?_⟩
    rcases hg.2 with h1 | h1
    · exact .inl h1
    · exact .inr (ih h1)
  · intro _; trivial
  · intro t l h1 h2 hg; exact ⟨h1 hg.1, h2 hg.2⟩
theorem tnB_ok {t : Tn} (h : tnB t = true) : TnOk t ∧ txt numT t = txt numK t := by
  simp only [tnB, Bool.and_eq_true, decide_eq_true_eq] at h
  have hg := good_mono (fun n hn => i64B_ok hn) t (goodB_ok t h.1.2)
  have he : txt numT t = txt numK t := txt_ext (fun n hn => numK_eq hn) t hg
  exact ⟨⟨h.1.1, hg, by rw [he]; omega⟩, he⟩
def itB (x : It) : Bool := decide (x.dims.length ≤ 1000) && x.dims.all i64B && decide (x.name.length ≤ 1000000)
theorem itB_ok {x : It} (h : itB x = true) : OkIt x := by
  simp only [itB, Bool.and_eq_true, decide_eq_true_eq] at h
  exact ⟨h.1.1, fun n hn => i64B_ok (List.all_eq_true.1 h.1.2 n hn), h.2⟩
def itemK (x : It) : List UInt8 := if x.dims = [] then x.name else x.name ++ ([40] ++ Lib.join (x.dims.map itoaK) csT ++ [41])
def declK (l : List It) : List UInt8 := Lib.join (l.map itemK) csT
theorem declK_eq {l : List It} (h : ∀ x ∈ l, OkIt x) : declT l = declK l := by
  unfold declT declK
  congr 1
  refine List.map_congr_left fun x hx => ?_
  unfold itemT itemK
  have : x.dims.map Lib.itoa = x.dims.map itoaK := List.map_congr_left fun n hn => itoaK_eq ((h x hx).rng n hn)
  rw [this]
/-- A statement whose text the kernel tells. -/
def sxB (x : Sx) : Bool :=
  (x.kind != 1 || (!x.items.isEmpty && decide (x.items.length ≤ 1000000) && x.items.all itB)) && ((x.kind != 2 && x.kind != 8) || tnB x.to) && ((x.kind != 2 && x.kind != 9) || tnB x.e) &&
  (x.kind != 3 || (tnB x.lo && tnB x.hi && i64B x.step && decide (x.name.length < 1000000))) && (x.kind != 5 || (tnB x.ca && tnB x.cb && decide (x.op.length < 1000000)))
theorem sxB_ok {x : Sx} (h : sxB x = true) : SxOk x := by
  simp only [sxB, Bool.and_eq_true, Bool.or_eq_true, bne_iff_ne, decide_eq_true_eq, ne_eq] at h
  obtain ⟨⟨⟨⟨h1, h2⟩, h3⟩, h4⟩, h5⟩ := h
  refine ⟨fun k => ?_, fun k => ?_, fun k => ?_, fun k => ?_, fun k => ?_, fun k => ?_, fun k => ?_, fun k => ?_, fun k => ?_, fun k => ?_⟩
  · rcases h1 with h1 | h1
    · exact absurd k h1
    · obtain ⟨⟨a, b⟩, c⟩ := h1
      refine ⟨fun h => ?_, b, fun x hx => itB_ok (List.all_eq_true.1 c x hx)⟩
      rw [h] at a; cases a
  · rcases h2 with h2 | h2
    · omega
    · exact (tnB_ok h2).1
  · rcases h3 with h3 | h3
    · omega
    · exact (tnB_ok h3).1
  · rcases h4 with h4 | h4
    · exact absurd k h4
    · exact (tnB_ok h4.1.1.1).1
  · rcases h4 with h4 | h4
    · exact absurd k h4
    · exact (tnB_ok h4.1.1.2).1
  · rcases h4 with h4 | h4
    · exact absurd k h4
    · exact i64B_ok h4.1.2
  · rcases h4 with h4 | h4
    · exact absurd k h4
    · exact Nat.lt_trans h4.2 (by decide)
  · rcases h5 with h5 | h5
    · exact absurd k h5
    · exact (tnB_ok h5.1.1).1
  · rcases h5 with h5 | h5
    · exact absurd k h5
    · exact (tnB_ok h5.1.2).1
  · rcases h5 with h5 | h5
    · exact absurd k h5
    · exact Nat.lt_trans h5.2 (by decide)
def stmtK (x : Sx) : List UInt8 :=
  if x.kind = 1 then tInt ++ declK x.items
  else if x.kind = 2 then txt numK x.to ++ (tIs ++ txt numK x.e)
  else if x.kind = 3 then tDo ++ (x.name ++ (tIs ++ (txt numK x.lo ++ (csT ++ (txt numK x.hi ++ (if x.step = 1 then [] else csT ++ itoaK x.step))))))
  else if x.kind = 4 then tEndDo
  else if x.kind = 5 then tIf ++ ((txt numK x.ca ++ [32] ++ x.op ++ [32] ++ txt numK x.cb) ++ tThen)
  else if x.kind = 6 then tElse
  else if x.kind = 7 then tEndIf
  else if x.kind = 8 then tRead ++ txt numK x.to
  else if x.kind = 9 then tPrint ++ txt numK x.e
  else []
theorem tn_eq {t : Tn} (h : TnOk t) : txt numT t = txt numK t := txt_ext (fun n hn => numK_eq hn) t h.good
theorem stmtK_eq {x : Sx} (h : SxOk x) : stmtT x = stmtK x := by
  unfold stmtT stmtK
  by_cases k1 : x.kind = 1
  · rw [if_pos k1, if_pos k1, declK_eq (h.items k1).ok]
  rw [if_neg k1, if_neg k1]
  by_cases k2 : x.kind = 2
  · rw [if_pos k2, if_pos k2, tn_eq (h.to (.inl k2)), tn_eq (h.e (.inl k2))]
  rw [if_neg k2, if_neg k2]
  by_cases k3 : x.kind = 3
  · rw [if_pos k3, if_pos k3, tn_eq (h.lo k3), tn_eq (h.hi k3), itoaK_eq (h.step k3)]
  rw [if_neg k3, if_neg k3]
  by_cases k4 : x.kind = 4
  · rw [if_pos k4, if_pos k4]
  rw [if_neg k4, if_neg k4]
  by_cases k5 : x.kind = 5
  · rw [if_pos k5, if_pos k5, tn_eq (h.ca k5), tn_eq (h.cb k5)]
  rw [if_neg k5, if_neg k5]
  by_cases k6 : x.kind = 6
  · rw [if_pos k6, if_pos k6]
  rw [if_neg k6, if_neg k6]
  by_cases k7 : x.kind = 7
  · rw [if_pos k7, if_pos k7]
  rw [if_neg k7, if_neg k7]
  by_cases k8 : x.kind = 8
  · rw [if_pos k8, if_pos k8, tn_eq (h.to (.inr k8))]
  rw [if_neg k8, if_neg k8]
  by_cases k9 : x.kind = 9
  · rw [if_pos k9, if_pos k9, tn_eq (h.e (.inr k9))]
  rw [if_neg k9, if_neg k9]

/-! Contracts as facts. -/
noncomputable def fPparse : Fact Tryz.prog envF := Fact.pure 16 (fun s : List UInt8 => s.length < 1000000) (fun s => [.str s]) (fun s => pstmtAV (parseS (bodyOfLine s))) (fun s h H => pstmt_cs s h H) (fun x y _ _ h => by
  simp only [List.cons.injEq, AV.str.injEq, and_true] at h
  rw [h])
noncomputable def fPtext : Fact Tryz.prog envF := Fact.pure 17 SxOk (fun x => [.agg x.c]) (fun x => .str (stmtT x)) (fun x h H => stext_cs x h H) (fun x y _ _ h => by
  simp only [List.cons.injEq, AV.agg.injEq, and_true] at h
  rw [sxE.inj x y h])
end Go.Proofs.YtejjlojfgcgopaaGreatDoor

namespace Go.Proofs.YtejjlojfgcgopaaGreatDoor
open Go.RowKit Go.Proofs.Fw
set_option maxRecDepth 100000
set_option maxHeartbeats 4000000

def kS1 : List UInt8 := [32, 32, 100, 111, 32, 105, 32, 61, 32, 49, 44, 32, 110, 32, 45, 32, 49, 44, 32, 45, 50, 32, 33, 32, 100, 111, 119, 110, 10]
def kS2 : List UInt8 := [105, 110, 116, 101, 103, 101, 114, 32, 97, 40, 51, 44, 32, 52, 41, 44, 32, 120]
def kS3 : List UInt8 := [97, 40, 49, 41, 32, 61, 32, 50, 32, 43]
def kS4 : List UInt8 := [33, 32, 110, 111, 116, 104, 105, 110, 103]
def kX1 : List UInt8 := [100, 111, 32, 105, 32, 61, 32, 49, 44, 32, 110, 32, 45, 32, 49, 44, 32, 45, 50]
abbrev parM (s : List UInt8) : Sm := (parseS (bodyOfLine s)).1
abbrev parE (s : List UInt8) : Er := (parseS (bodyOfLine s)).2
theorem kE1 : parE kS1 = none := by kernel_rfl
theorem kE2 : parE kS2 = none := by kernel_rfl
theorem kE3 : parE kS3 = some ([(stmtTxt, 7), (exprTx, 2)], 2) := by kernel_rfl
theorem kE4 : parE kS4 = none := by kernel_rfl
theorem kB1 : sxB (parM kS1).x = true := by kernel_rfl
theorem kB2 : sxB (parM kS2).x = true := by kernel_rfl
theorem kT1 : stmtK (parM kS1).x = kX1 := by kernel_rfl
theorem kT2 : stmtK (parM kS2).x = kS2 := by kernel_rfl
theorem kK1 : (parM kS1).x.kind = 3 := by kernel_rfl
theorem kZ1 : (parM kS1).x.step = -2 := by kernel_rfl
theorem kK4 : (parM kS4).x.kind = 0 := by kernel_rfl
theorem kI2 : (parM kS2).x.items = [⟨[97], [3, 4]⟩, ⟨[120], []⟩] := by kernel_rfl

theorem within_run : run fzN oNil Tryz.prog envF 100 10 49 [.str stmtTxt, .int .i64 7, .agg [.slice .full 2 1 [.str exprTx, .int .i64 2], .int .i64 2]] [] = some (.agg [.slice .unk 2 2 [.str stmtTxt, .int .i64 7, .str exprTx, .int .i64 2], .int .i64 2], []) := by kernel_rfl
noncomputable def fAt : Fact Tryz.prog envF := Fact.pure 24 (fun _ : List UInt8 × Int × Int => True) (fun x => [.str x.1, .int .i64 x.2.1, .int .i64 x.2.2]) (fun x => .agg [.slice .full 2 1 [.str x.1, .int .i64 x.2.1], .int .i64 x.2.2])
  (fun x _ H => (Sound.toF (Sound.toX (Sound.toN oRat_sound)) _ _ _ _ _ (oRat_at x.1 x.2.1 x.2.2 H)).1) (fun x y _ _ h => by
    obtain ⟨a, b, c⟩ := x
    obtain ⟨a', b', c'⟩ := y
    simp only [List.cons.injEq, AV.str.injEq, AV.int.injEq, true_and, and_true] at h
    obtain ⟨rfl, rfl, rfl⟩ := h
    rfl)
noncomputable def fWiG : Fact Tryz.prog envF := Fact.pure 49 (fun _ : Unit => True) (fun _ => [.str stmtTxt, .int .i64 7, .agg [.slice .full 2 1 [.str exprTx, .int .i64 2], .int .i64 2]]) (fun _ => .agg [.slice .unk 2 2 [.str stmtTxt, .int .i64 7, .str exprTx, .int .i64 2], .int .i64 2])
  (fun _ _ H => (run_sound (base := oNil) oNil_sound methFOk mixed 100 10 _ _ _ _ _ within_run).1.frame lowF (by simp) H) (fun x y _ _ h => rfl)
/-- Tells, where it is true. -/
noncomputable def fTells : Fact Tryz.prog envF := Fact.pure 23 (fun x : List (List UInt8 × Int) × Int × Own => x.2.1 ≠ 0 ∧ x.1.length < 1000 ∧ (x.2.2 = .unk ∨ x.2.2 = .full)) (fun x => [errAV x.1 x.2.1, .agg [.slice x.2.2 2 x.1.length (partCells x.1), .int .i64 x.2.1]]) (fun _ => .bool true)
  (fun x h H => CS.toF (CS.toX (tells_cs x.1 x.2.1 h.1 h.2.1 x.2.2 h.2.2 H))) (fun x y _ _ h => rfl)
noncomputable def Lk6 : List (Fact Tryz.prog envF) := [fPparse, fPtext, fAt, fWiG, fTells]
theorem Lk6_nd : ((Lk6).map (·.f)).Nodup := show ([16, 17, 24, 49, 23] : List Nat).Nodup by decide
/-- What Parse and Text answer. -/
structure K6O (O : Orc) : Prop where
  parse : ∀ (s : List UInt8) (H : AH), s.length < 1000000 → O 16 [.str s] H = some (.tup [.agg (parM s).x.c, erI (parE s)], H)
  text : ∀ (x : Sx) (H : AH), SxOk x → O 17 [.agg x.c] H = some (.str (stmtT x), H)
  at_ : ∀ (w : List UInt8) (p c : Int) (H : AH), O 24 [.str w, .int .i64 p, .int .i64 c] H = some (.agg [.slice .full 2 1 [.str w, .int .i64 p], .int .i64 c], H)
  tells : ∀ (l : List (List UInt8 × Int)) (c : Int) (ow : Own) (H : AH), c ≠ 0 → l.length < 1000 → (ow = .unk ∨ ow = .full) → O 23 [errAV l c, .agg [.slice ow 2 l.length (partCells l), .int .i64 c]] H = some (.bool true, H)
theorem oK6_ok : K6O (oOf Lk6) := ⟨fun s H h => oOf_pure Lk6_nd (show fPparse ∈ Lk6 by simp [Lk6]) s h H, fun x H h => oOf_pure Lk6_nd (show fPtext ∈ Lk6 by simp [Lk6]) x h H,
  fun w p c H => oOf_pure Lk6_nd (show fAt ∈ Lk6 by simp [Lk6]) (w, p, c) trivial H, fun l c ow H h1 h2 h3 => oOf_pure Lk6_nd (show fTells ∈ Lk6 by simp [Lk6]) (l, c, ow) ⟨h1, h2, h3⟩ H⟩
theorem oK6_cx : Cx (oOf Lk6) Tryz.prog envF := oOf_cx _ methFOk mixed

theorem known6_cs (H : AH) : CS Tryz.prog envF 15 [] H (.bool true) H := by
  have X := oK6_cx
  have hO := oK6_ok
  have f5 := fun H => oOf_pure Lk6_nd (show fWiG ∈ Lk6 by simp [Lk6]) () trivial H
  generalize oOf Lk6 = O at X hO f5
  have p1 := fun H => hO.parse kS1 H (by decide)
  have p2 := fun H => hO.parse kS2 H (by decide)
  have p3 := fun H => hO.parse kS3 H (by decide)
  have p4 := fun H => hO.parse kS4 H (by decide)
  rw [kE1] at p1
  rw [kE2] at p2
  rw [kE3] at p3
  rw [kE4] at p4
  have o1 := sxB_ok kB1
  have o2 := sxB_ok kB2
  have t1 := fun H => hO.text _ H o1
  have t2 := fun H => hO.text _ H o2
  rw [stmtK_eq o1, kT1] at t1
  rw [stmtK_eq o2, kT2] at t2
  have a1 := fun H => hO.at_ exprTx 2 2 H
  have e1 := fun H => hO.tells [(stmtTxt, 7), (exprTx, 2)] 2 .unk H (by decide) (by decide) (.inl rfl)
  have k1 := kK1
  have z1 := kZ1
  have i2 := kI2
  have k4 := kK4
  generalize (parM kS1).x = M1 at *
  generalize (parM kS2).x = M2 at *
  generalize (parM kS3).x = M3 at *
  generalize (parM kS4).x = M4 at *
  simp only [erI, castP, kS1, kS2, kS3, kS4, kX1, stmtTxt, exprTx] at p1 p2 p3 p4 t1 t2 a1 e1 f5
  simp [errAV, partCells] at p3 e1
  refine CS.tr0 lowF Tryz.func15 (by kernel_rfl) 0 (by simp [Tryz.f15]) (fun B hBs hG => ?_) rfl rfl H
  refine Tr.goD X hG (by kernel_rfl) ?_
  simp [Sx.c, k1, z1] at p1 t1
  have hr2 : (itE.row M2.items) = [.str [97], .slice .unk 1 2 [.int .i64 3, .int .i64 4], .str [120], .nilSlice] := by rw [i2]; rfl
  have hv2 : itE.av M2.items = .slice .unk 2 2 (itE.row M2.items) := by rw [i2]; rfl
  rw [hr2] at hv2
  simp [Sx.c, hv2] at p2 t2
  simp [Sx.c, k4] at p4
  simp [Sx.c] at p3
  simp [Tryz.f15, p1, p2, p3, p4, t1, t2, a1, e1, f5]
noncomputable def fKn6 : Fact Tryz.prog envF := Fact.pure 15 (fun _ : Unit => True) (fun _ => []) (fun _ => .bool true) (fun _ _ H => known6_cs H) (fun _ _ _ _ _ => rfl)
end Go.Proofs.YtejjlojfgcgopaaGreatDoor
