/- ExprOrder: the document's Eval at sums and products; what the law's text returns. -/
import Derived.Test.YtpmonaempgjgbaaGreatDoorEyI
import Derived.Test.YtpmonaempgjgbaaGreatDoorFwG6
set_option linter.unusedSimpArgs false
set_option linter.unusedVariables false
namespace Go.Proofs.YtpmonaempgjgbaaGreatDoor
open Go.RowKit Go.Proofs.Fw
set_option maxRecDepth 100000
set_option maxHeartbeats 4000000

def envO : Env := ⟨envF.glob, envF.meth, fun t => envF.imm t || t == 27⟩
theorem CS.ofO {f : FuncId} {args : List AV} {H H' : AH} {v : AV} (h : CS Tryz.prog envO f args H v H') : CS Tryz.prog envF f args H v H' := fun g w cargs R hG hA => h g w cargs R hG hA
theorem CS.toO {f : FuncId} {args : List AV} {H H' : AH} {v : AV} (h : CS Tryz.prog envF f args H v H') : CS Tryz.prog envO f args H v H' := fun g w cargs R hG hA => h g w cargs R hG hA
theorem methOOk : MethOk Tryz.prog envO := methNOk
theorem lowO : ∀ i, low 0 (envO.glob i) = true := lowF
@[simp] theorem immOT : envO.imm 27 = true := by decide
@[simp] theorem immOE : envO.imm 55 = true := by decide
@[simp] theorem immOX : envO.imm 48 = true := by decide

def tabAV : AV := .agg [.nilSlice, .int .i64 0]
@[simp] theorem buTab : abuild Tryz.prog 27 [] = some (.agg [.nilSlice, .int .i64 0]) := by kernel_rfl
@[simp] theorem buWr0 : abuild Tryz.prog 41 [] = some (.agg [.nilSlice, .int .i64 0]) := by kernel_rfl
theorem tn_inj : ∀ a b : Ex, evOk a → evOk b → ofT a.tn = ofT b.tn → a = b
  | .num n, .num m, _, _, h => by
    simp only [Ex.tn, ofT, Tn.lf.injEq, true_and, and_true] at h
    have : n = m := by omega
    rw [this]
  | .num n, .bin k a b, _, _, h => by simp [Ex.tn, ofT] at h
  | .bin k a b, .num n, _, _, h => by simp [Ex.tn, ofT] at h
  | .bin k a b, .bin k' a' b', h1, h2, h => by
    simp only [Ex.tn, ofT, ofTs, Tn.nd.injEq, true_and, List.cons.injEq, and_true] at h
    obtain ⟨h3, h4, h5⟩ := h
    have hk : k = k' := by omega
    rw [hk, tn_inj a a' h1.2.1 h2.2.1 h4, tn_inj b b' h1.2.2 h2.2.2 h5]
def evAV (e : Ex) : AV := .tup [.int .i64 (evx e), noneAV]
theorem eval_cs : ∀ (e : Ex), evOk e → ∀ H, CS Tryz.prog envF 30 [tabAV, .nilSlice, .agg (tC (ofT e.tn))] H (evAV e) H
  | .num n, _, H => by
    refine CS.ofO (CS.tr0 lowO Tryz.func30 (by kernel_rfl) 0 (by simp [Tryz.f30]) (fun B hB hG => ?_) (by simp [evAV, noneAV]) (by simp [tabAV]) H)
    have X : Cx oNil Tryz.prog envO := ⟨oNil_sound, methOOk, mixed⟩
    refine Tr.goD X hG (by kernel_rfl) ?_
    simp [Tryz.f30, tabAV, Ex.tn, ofT, Tn.k, Tn.n, Tn.s, Tn.ar, tC, evAV, noneAV, evx]
  | .bin k a b, hok, H => by
    have iha := eval_cs a hok.2.1
    have ihb := eval_cs b hok.2.2
    have X : Cx (orElse (oFact 30 [tabAV, .nilSlice, .agg (tC (ofT a.tn))] (evAV a)) (oFact 30 [tabAV, .nilSlice, .agg (tC (ofT b.tn))] (evAV b))) Tryz.prog envO :=
      ⟨Sound.orElse (oFact_sound fun H => CS.toO (iha H)) (oFact_sound fun H => CS.toO (ihb H)), methOOk, mixed⟩
    have h1 : ∀ H, orElse (oFact 30 [tabAV, .nilSlice, .agg (tC (ofT a.tn))] (evAV a)) (oFact 30 [tabAV, .nilSlice, .agg (tC (ofT b.tn))] (evAV b)) 30 [tabAV, .nilSlice, .agg (tC (ofT a.tn))] H = some (evAV a, H) := fun H => by
      unfold orElse
      rw [oFact_at]
    have h2 : ∀ H, orElse (oFact 30 [tabAV, .nilSlice, .agg (tC (ofT a.tn))] (evAV a)) (oFact 30 [tabAV, .nilSlice, .agg (tC (ofT b.tn))] (evAV b)) 30 [tabAV, .nilSlice, .agg (tC (ofT b.tn))] H = some (evAV b, H) := fun H => by
      by_cases hab : ofT b.tn = ofT a.tn
      · have := tn_inj _ _ hok.2.2 hok.2.1 hab
        subst this
        exact h1 H
      · unfold orElse
        rw [show oFact 30 [tabAV, .nilSlice, .agg (tC (ofT a.tn))] (evAV a) 30 [tabAV, .nilSlice, .agg (tC (ofT b.tn))] H = none by
          unfold oFact
          rw [if_neg]
          rintro ⟨_, h⟩
          injection h with _ h
          injection h with _ h
          injection h with h _
          injection h with h
          exact hab (tC_inj _ _ h)]
        exact oFact_at H
    generalize orElse (oFact 30 [tabAV, .nilSlice, .agg (tC (ofT a.tn))] (evAV a)) (oFact 30 [tabAV, .nilSlice, .agg (tC (ofT b.tn))] (evAV b)) = O at X h1 h2
    obtain ⟨T, hT⟩ : ∃ T, T = ofT (Ex.bin k a b).tn := ⟨_, rfl⟩
    have tk : T.k = k := by rw [hT]; rfl
    have hkids : T.kids = [ofT a.tn, ofT b.tn] := by rw [hT]; rfl
    have hxe : evx (.bin k a b) = if k = 5 then w64 (evx a + evx b) else if k = 6 then w64 (evx a - evx b) else w64 (evx a * evx b) := rfl
    have hk3 := hok.1
    rw [← hT]
    simp only [evAV, tabAV, noneAV, hxe] at h1 h2 ⊢
    generalize ofT a.tn = A at *
    generalize ofT b.tn = Bb at *
    generalize evx a = x at *
    generalize evx b = y at *
    clear hT iha ihb hxe hok
    have hlen : T.kids.length = 2 := by rw [hkids]; rfl
    have hts : tsC T.kids = [.int .i64 A.k, .int .i64 A.n, .str A.s, A.ar, .int .i64 Bb.k, .int .i64 Bb.n, .str Bb.s, Bb.ar] := by rw [hkids]; simp [tsC]
    have hx0 := aidxT2 (t := T) (i := 0) (by omega)
    have hx1 := aidxT2 (t := T) (i := 1) (by omega)
    simp at hx0 hx1
    simp only [tC_eq] at h1 h2
    refine CS.ofO (CS.tr0 lowO Tryz.func30 (by kernel_rfl) 0 (by simp [Tryz.f30]) (fun B hB hG => ?_) (by simp) (by simp) H)
    refine Tr.goD X hG (by kernel_rfl) ?_
    have n1 : ¬ T.k = 1 := by omega
    have n2 : ¬ T.k = 2 := by omega
    have n3 : ¬ T.k = 3 := by omega
    have n4 : ¬ T.k = 4 := by omega
    simp [Tryz.f30, n1, n2, n3]
    refine LpD.turns X hG [6, 10, 12] [(0, 10), (1, 10), (2, 10), (3, 10), (4, 10), (5, 10), (6, 10), (7, 10), (8, 10), (9, 10)] (by kernel_rfl) ?_
    simp [hx0, hts, h1, n4]
    refine LpD.turns X hG [6, 10, 12] [(0, 10), (1, 10), (2, 10), (3, 10), (4, 10), (5, 10), (6, 10), (7, 10), (8, 10), (9, 10)] (by kernel_rfl) ?_
    simp [hx1, hts, h2]
    rcases hk3 with rfl | rfl | rfl
    · have e5 : T.k = 5 := by omega
      simp [e5, w64]
    · have e6 : T.k = 6 := by omega
      simp [e6, w64]
    · have e7 : T.k = 7 := by omega
      simp [e7, w64]

/-! The law. -/
/-- A row of bytes, as it comes in. -/
def bytesOf (lv : AV) (lb : List UInt8) : Prop := (lv = .nilSlice ∧ lb = []) ∨ lv = .slice .unk 1 lb.length (strCells lb)
theorem strCells_low (lb : List UInt8) : lowL 0 (strCells lb) = true := by
  unfold strCells
  induction lb with
  | nil => rfl
  | cons b lb ih => simp [ih]
theorem bsOps : abuildSlice Tryz.prog 76 4 [(0, .str [32, 43, 32]), (1, .str [32, 45, 32]), (2, .str [42]), (3, .str [42])] = some (.slice .full 1 4 [.str [32, 43, 32], .str [32, 45, 32], .str [42], .str [42]]) := by kernel_rfl
/-- The numbers of a row. -/
def natsOf (lb : List UInt8) : List Nat := lb.map (·.toNat)
theorem natsOf_lt (lb : List UInt8) : ∀ b ∈ natsOf lb, b < 256 := by
  intro b hb
  obtain ⟨c, _, rfl⟩ := List.mem_map.1 hb
  exact c.toNat_lt
theorem txO_append (a : List Nat) (b : Nat) : txO (a ++ [b]) = txO a ++ (opT (b % 4) ++ dd (b / 4)) := by
  induction a with
  | nil => simp [txO]
  | cons x a ih => rw [List.cons_append, txO, txO, ih]; simp
theorem txO_len : ∀ (a : List Nat), (∀ b ∈ a, b < 256) → (txO a).length ≤ 100 * a.length
  | [], _ => by simp [txO]
  | b :: a, h => by
    have h1 := txO_len a fun b hb => h b (List.mem_cons_of_mem _ hb)
    have h2 := dd_len (b / 4)
    have h3 := h b List.mem_cons_self
    have h4 : (opT (b % 4)).length ≤ 3 := by rcases opT_cases (b % 4) with ⟨_, h, _⟩ | ⟨_, h, _⟩ | ⟨_, h, _⟩ <;> rw [h] <;> simp
    rw [txO, List.length_append, List.length_append, List.length_cons]
    omega
def OrdI (lv : AV) (b0 : Nat) (bs : List Nat) (k : Nat) (t : List AV) (H : AH) : Prop :=
  ∃ (i : Nat) (st : Int × Int × Int), i + k = bs.length ∧ st = (bs.take i).foldl stp (0, ((b0 / 4 : Nat) : Int), 1) ∧
    t = mkT 108 [(0, lv), (3, .str (dd (b0 / 4) ++ txO (bs.take i))), (4, .int .i64 st.1), (5, .int .i64 st.2.1), (6, .int .i64 st.2.2), (7, .int .i64 ((i + 1 : Nat) : Int))] ∧ H = []
def oDec : Orc := oPure 9 (fun args => match args with
  | [.int .i64 n] => if n.natAbs < 1000 ∧ (n.natAbs : Int) = n then some n.natAbs else none
  | _ => none) fun n => .str (dd n)
theorem oDec_sound : Sound Tryz.prog envF oDec := oPure_sound fun args x H h => by
  split at h
  · rename_i n
    split at h
    · rename_i hn
      injection h with h
      subst h
      have := dec_cs n.natAbs (by have := hn.1; omega) H
      rwa [hn.2] at this
    · cases h
  · cases h
theorem oDec_at {n : Nat} (h : n < 1000) (H : AH) : oDec 9 [.int .i64 (n : Int)] H = some (.str (dd n), H) := by
  have h1 : (n : Int).natAbs < 1000 ∧ ((n : Int).natAbs : Int) = n := ⟨h, rfl⟩
  simp only [oDec, oPure, if_true, if_pos h1, Option.map_some]
  rfl
noncomputable def oOrd (e : Ex) : Orc := orElse oLw5 (orElse oDec (oFact 30 [tabAV, .nilSlice, .agg (tC (ofT e.tn))] (evAV e)))
theorem oOrd_cx {e : Ex} (he : evOk e) : Cx (oOrd e) Tryz.prog envF := ⟨Sound.orElse oLw5_cx.sound (Sound.orElse oDec_sound (oFact_sound fun H => eval_cs e he H)), methFOk, mixed⟩
theorem oLw5_dec (args : List AV) (H : AH) : oLw5 9 args H = none := by simp only [oLw5, oTab, List.lookup]; rfl
theorem oLw5_ev (args : List AV) (H : AH) : oLw5 30 args H = none := by simp only [oLw5, oTab, List.lookup]; rfl
structure OrdO (O : Orc) (e : Ex) : Prop where
  known : ∀ H, O 14 [] H = some (.bool true, H)
  read : ∀ (s : List UInt8) H, s.length < 1000000 → O 29 [.str s] H = some (.tup [.agg (tC (readP s).1.tn), .bool (readP s).2], H)
  of : ∀ (t : Tn) H, okT t = true → O 23 [.agg (tC t)] H = some (.agg (tC (ofT t)), H)
  dec : ∀ (n : Nat) H, n < 1000 → O 9 [.int .i64 (n : Int)] H = some (.str (dd n), H)
  ev : ∀ H, O 30 [tabAV, .nilSlice, .agg (tC (ofT e.tn))] H = some (evAV e, H)
theorem oOrd_ok (e : Ex) : OrdO (oOrd e) e where
  known := fun H => by unfold oOrd orElse; rw [oLw5_ok.known]
  read := fun s H h => by unfold oOrd orElse; rw [oLw5_ok.read s H h]
  of := fun t H h => by unfold oOrd orElse; rw [oLw5_ok.of t H h]
  dec := fun n H h => by
    unfold oOrd orElse
    rw [oLw5_dec]
    simp only
    rw [oDec_at h H]
  ev := fun H => by
    unfold oOrd orElse
    rw [oLw5_ev]
    simp only [orElse]
    rw [show oDec 30 [tabAV, .nilSlice, .agg (tC (ofT e.tn))] H = none by simp [oDec, oPure]]
    exact oFact_at H

theorem orderLaw_cs (lv : AV) (lb : List UInt8) (hlv : bytesOf lv lb) : CS Tryz.prog envF 6 [lv] [] (.bool true) [] := by
  rcases hlv with ⟨rfl, rfl⟩ | rfl
  · have X := (oOrd_cx (e := .num 0) (by show (0 : Nat) < _; decide))
    have hO := oOrd_ok (.num 0)
    generalize oOrd (.num 0) = O at X hO
    refine CS.tr0 lowF Tryz.func6 (by kernel_rfl) 0 (by simp [Tryz.f6]) (fun B hB hG => ?_) (by simp) (by simp) []
    refine Tr.goD X hG (by kernel_rfl) ?_
    simp [Tryz.f6, hO.known]
  have hlow : low 0 (AV.slice .unk 1 lb.length (strCells lb)) = true := by simp [strCells_low]
  by_cases h0 : lb = []
  · have X := (oOrd_cx (e := .num 0) (by show (0 : Nat) < _; decide))
    have hO := oOrd_ok (.num 0)
    generalize oOrd (.num 0) = O at X hO
    refine CS.tr0 lowF Tryz.func6 (by kernel_rfl) 0 (by simp [Tryz.f6]) (fun B hB hG => ?_) (by simp) (by simp [strCells_low]) []
    refine Tr.goD X hG (by kernel_rfl) ?_
    simp [Tryz.f6, hO.known, h0]
  by_cases h12 : lb.length ≤ 12
  rotate_left
  · have X := (oOrd_cx (e := .num 0) (by show (0 : Nat) < _; decide))
    have hO := oOrd_ok (.num 0)
    generalize oOrd (.num 0) = O at X hO
    refine CS.tr0 lowF Tryz.func6 (by kernel_rfl) 0 (by simp [Tryz.f6]) (fun B hB hG => ?_) (by simp) (by simp [strCells_low]) []
    refine Tr.goD X hG (by kernel_rfl) ?_
    have g1 : ¬ (lb.length : Int) < 1 := by omega
    have g2 : (12 : Int) < lb.length := by omega
    have g3 : ¬ lb.length = 0 := by omega
    have g4 : 1 ≤ lb.length := by omega
    have g5 : 12 < lb.length := by omega
    simp [Tryz.f6, hO.known, h0, g1, g2, g3, g4, g5]
  obtain ⟨c0, cs, rfl⟩ : ∃ c0 cs, lb = c0 :: cs := by
    cases lb with
    | nil => exact absurd rfl h0
    | cons c cs => exact ⟨c, cs, rfl⟩
  simp only [List.length_cons] at h12
  have hbs := natsOf_lt cs
  have hbl : (natsOf cs).length = cs.length := by rw [natsOf, List.length_map]
  have hc0 : c0.toNat < 256 := c0.toNat_lt
  obtain ⟨ts, hlx, hst⟩ := lex_row (c0.toNat / 4) (natsOf cs) (by omega) (fun b hb => by have := hbs b hb; omega)
  have hpr := parse_row hst
  have htl : ts.length = 1 + 2 * (natsOf cs).length := by
    have := congrArg List.length hst
    simp only [List.length_map, List.length_cons, items_length] at this
    omega
  have hrd : readP (dd (c0.toNat / 4) ++ txO (natsOf cs)) = (rowX (ts.length + 1) (c0.toNat / 4) (natsOf cs), true) := by
    simp only [readP, hlx, hpr]
    simp
  obtain ⟨hev, hok⟩ := row_ev (ts.length + 1) (c0.toNat / 4) (natsOf cs) (by omega) (by omega) hbs
  have hoT : okT (rowX (ts.length + 1) (c0.toNat / 4) (natsOf cs)).tn = true := by
    have := parseX_okT ts
    rwa [hpr] at this
  have hsl : (dd (c0.toNat / 4) ++ txO (natsOf cs)).length ≤ 10000 := by
    have h1 := txO_len _ hbs
    have h2 := dd_len (c0.toNat / 4)
    rw [List.length_append]
    omega
  generalize rowX (ts.length + 1) (c0.toNat / 4) (natsOf cs) = e at *
  have X := oOrd_cx hok
  have hO := oOrd_ok e
  generalize oOrd e = O at X hO
  refine CS.tr0 lowF Tryz.func6 (by kernel_rfl) 0 (by simp [Tryz.f6]) (fun B hB hG => ?_) (by simp) (by simp [strCells_low]) []
  refine Tr.goD X hG (by kernel_rfl) ?_
  have g1 : ¬ ((cs.length : Int) + 1 < 1) := by omega
  have g2 : ¬ ((12 : Int) < (cs.length : Int) + 1) := by omega
  have hd0 := fun H => hO.dec (c0.toNat / 4) H (by omega)
  have l0 : (strCells (c0 :: cs))[0]? = some (.int .u8 (c0.toNat : Int)) := rfl
  have td : ∀ m : Nat, ((m : Nat) : Int).tdiv 4 = ((m / 4 : Nat) : Int) := fun m => by rw [Int.tdiv_eq_ediv_of_nonneg (by omega)]; omega
  have tm : ∀ m : Nat, ((m : Nat) : Int).tmod 4 = ((m % 4 : Nat) : Int) := fun m => by rw [Int.tmod_eq_emod_of_nonneg (by omega)]; omega
  have wu : ∀ m : Nat, m < 256 → IntKind.u8.wrap ((m / 4 : Nat) : Int) = ((m / 4 : Nat) : Int) := fun m hm => by simp [IntKind.wrap, IntKind.bits, IntKind.signed]; omega
  have wi : ∀ m : Nat, m < 256 → IntKind.i64.wrap ((m / 4 : Nat) : Int) = ((m / 4 : Nat) : Int) := fun m hm => wrap_i64 (by omega) (by omega)
  have wu0 := wu _ hc0
  have wi0 := wi _ hc0
  simp [Tryz.f6, hO.known, g1, g2, hd0, l0, td, wu0, wi0, -Int.natCast_ediv, -Int.natCast_emod]
  refine LpD.loopN X hG (by kernel_rfl) (OrdI (.slice .unk 1 (c0 :: cs).length (strCells (c0 :: cs))) c0.toNat (natsOf cs)) cs.length (t' := mkT 108 [(0, .slice .unk 1 (c0 :: cs).length (strCells (c0 :: cs))), (3, .str (dd (c0.toNat / 4))), (4, .int .i64 0), (5, .int .i64 ((c0.toNat / 4 : Nat) : Int)), (6, .int .i64 1), (7, .int .i64 1)]) (H' := [])
    (Less.mk0 hB (by simp [strCells_low])) ⟨0, _, by omega, rfl, by simp [txO], rfl⟩ ?_
  rintro k t H ⟨i, st, hik, hst2, rfl, rfl⟩
  cases k with
  | zero =>
    obtain rfl : i = (natsOf cs).length := by omega
    rw [List.take_length] at hst2 ⊢
    have g3 : ¬ ((natsOf cs).length : Int) < cs.length := by omega
    have hr := fun H => hO.read _ H (show (dd (c0.toNat / 4) ++ txO (natsOf cs)).length < 1000000 by omega)
    have ho := fun H => hO.of e.tn H hoT
    have hev' := hO.ev
    rw [hrd] at hr
    rw [← hst2] at hev
    simp only [evAV, tabAV, noneAV] at hev'
    simp only [tC_eq] at hr ho hev'
    simp only [fin, w64] at hev
    generalize dd (c0.toNat / 4) ++ txO (natsOf cs) = s at *
    generalize e.tn = T at *
    generalize ofT T = T2 at *
    simp [Blk_exit, g3, hr, ho, hev', hev]
  | succ k =>
    have hi : i < (natsOf cs).length := by omega
    have hi2 : i < cs.length := by omega
    obtain ⟨b, hb⟩ : ∃ b, (natsOf cs)[i]? = some b := ⟨_, List.getElem?_eq_getElem hi⟩
    have hb256 := hbs b (List.mem_of_getElem? hb)
    have l1 : (strCells (c0 :: cs))[i + 1]? = some (.int .u8 (b : Int)) := by
      simp only [natsOf, List.getElem?_map] at hb
      simp only [strCells, List.map_cons, List.getElem?_cons_succ, List.getElem?_map]
      cases hc : cs[i]? with
      | none => rw [hc] at hb; cases hb
      | some c => rw [hc] at hb; injection hb with hb; subst hb; rfl
    have g3 : (i : Int) < cs.length := by omega
    have hd1 := fun H => hO.dec (b / 4) H (by omega)
    have htk : (natsOf cs).take (i + 1) = (natsOf cs).take i ++ [b] := by rw [List.take_add_one, hb, Option.toList_some]
    have hsl2 : (dd (c0.toNat / 4) ++ txO ((natsOf cs).take i)).length ≤ 10000 := by
      have h1 := txO_len ((natsOf cs).take i) fun x hx => hbs x (List.mem_of_mem_take hx)
      have h2 := dd_len (c0.toNat / 4)
      rw [List.length_take] at h1
      rw [List.length_append]
      omega
    have hdl := dd_len (b / 4)
    have w1 : IntKind.i64.wrap ((i : Int) + 1 + 1) = (i : Int) + 1 + 1 := wrap_i64 (by omega) (by omega)
    have wub := wu b hb256
    have wib := wi b hb256
    have wum : IntKind.u8.wrap ((b % 4 : Nat) : Int) = ((b % 4 : Nat) : Int) := by simp [IntKind.wrap, IntKind.bits, IntKind.signed]; omega
    have hst3 : ((natsOf cs).take (i + 1)).foldl stp (0, ((c0.toNat / 4 : Nat) : Int), 1) = stp st b := by rw [htk, List.foldl_append, ← hst2]; rfl
    have htx : dd (c0.toNat / 4) ++ txO ((natsOf cs).take (i + 1)) = (dd (c0.toNat / 4) ++ txO ((natsOf cs).take i)) ++ (opT (b % 4) ++ dd (b / 4)) := by rw [htk, txO_append]; simp
    generalize dd (c0.toNat / 4) ++ txO ((natsOf cs).take i) = s at *
    have e1 : s.length + (dd (b / 4)).length ≤ 9223372036854775000 := by omega
    obtain ⟨s1, s2, s3⟩ := st
    simp only at *
    rcases (by omega : b % 4 = 0 ∨ b % 4 = 1 ∨ b % 4 = 2 ∨ b % 4 = 3) with h4 | h4 | h4 | h4
    all_goals
      have e2 : ∀ m : Nat, m ≤ 10 → s.length + m ≤ 9223372036854775807 := fun m hm => by omega
      have e3 : ∀ m : Nat, m ≤ 10 → s.length + m + (dd (b / 4)).length ≤ 9223372036854775807 := fun m hm => by omega
      have g4 : (0 : Int) ≤ (i : Int) + 1 := by omega
      have e21 := e2 1 (by omega)
      have e23 := e2 3 (by omega)
      have e31 := e3 1 (by omega)
      have e33 := e3 3 (by omega)
      have e4 : s.length ≤ 9223372036854775806 := by omega
      have e5 : s.length ≤ 9223372036854775804 := by omega
      have e6 : s.length + (1 + (dd (b / 4)).length) ≤ 9223372036854775807 := by omega
      have e7 : s.length + (3 + (dd (b / 4)).length) ≤ 9223372036854775807 := by omega
      simp [g3, g4, l1, td, tm, wub, wib, wum, hd1, bsOps, h4, w1, e21, e23, e31, e33, e4, e5, e6, e7, -Int.natCast_ediv, -Int.natCast_emod]
      refine LpD.turns X hG [11] [(0, 11), (1, 11), (2, 11), (3, 11), (4, 11), (5, 11), (6, 11), (7, 11), (8, 11), (9, 11)] (by kernel_rfl) ?_
      simp [g3, g4, l1, td, tm, wub, wib, wum, hd1, bsOps, h4, w1, e21, e23, e31, e33, e4, e5, e6, e7, -Int.natCast_ediv, -Int.natCast_emod]
      refine Nxt.mk k (by omega) (Less.mk0 (l' := [(0, .slice .unk 1 (c0 :: cs).length (strCells (c0 :: cs))), (3, .str (s ++ (opT (b % 4) ++ dd (b / 4)))), (4, .int .i64 (stp (s1, s2, s3) b).1), (5, .int .i64 (stp (s1, s2, s3) b).2.1), (6, .int .i64 (stp (s1, s2, s3) b).2.2), (7, .int .i64 ((i + 1 + 1 : Nat) : Int))]) hB ?_)
        ⟨i + 1, stp (s1, s2, s3) b, by omega, hst3.symm, by rw [htx]; rfl, rfl⟩
      have x0 : IntKind.i64.wrap (1 - IntKind.i64.wrap (2 * IntKind.i64.wrap 0)) = 1 := by decide
      have x1 : IntKind.i64.wrap (1 - IntKind.i64.wrap (2 * IntKind.i64.wrap 1)) = -1 := by decide
      simp [strCells_low, stp, h4, opT, w64, x0, x1, -Int.natCast_ediv, -Int.natCast_emod]
theorem bytesOf_ints {lv : AV} {zs : List Int} (h : intsOf .u8 lv zs) (hw : ∀ z ∈ zs, (Lit.int .u8 z).wf = true) : ∃ lb, bytesOf lv lb := by
  rcases h with ⟨rfl, rfl⟩ | rfl
  · exact ⟨[], .inl ⟨rfl, rfl⟩⟩
  · refine ⟨zs.map fun z => UInt8.ofNat z.toNat, .inr ?_⟩
    have hc : strCells (zs.map fun z => UInt8.ofNat z.toNat) = zs.map (AV.int .u8) := by
      unfold strCells
      rw [List.map_map]
      refine List.map_congr_left fun z hz => ?_
      have e1 : IntKind.u8.min = 0 := rfl
      have e2 : IntKind.u8.max = 255 := rfl
      have hb : 0 ≤ z ∧ z ≤ 255 := by simpa [Lit.wf, e1, e2] using hw z hz
      have : (UInt8.ofNat z.toNat).toNat = z.toNat := by rw [UInt8.toNat_ofNat']; omega
      simp only [Function.comp, this]
      rw [Int.toNat_of_nonneg hb.1]
    rw [hc, List.length_map]
end Go.Proofs.YtpmonaempgjgbaaGreatDoor
