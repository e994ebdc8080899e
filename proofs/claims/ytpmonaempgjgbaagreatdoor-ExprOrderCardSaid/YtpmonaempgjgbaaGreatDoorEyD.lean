/- Contracts by trees: reading, comparisons in words, errors told; expr.Same. -/
import Derived.Test.YtpmonaempgjgbaaGreatDoorEyC
import Derived.Test.YtpmonaempgjgbaaGreatDoorEyT
import Derived.Test.YtpmonaempgjgbaaGreatDoorEyL
set_option linter.unusedSimpArgs false
set_option linter.unusedVariables false
namespace Go.Proofs.YtpmonaempgjgbaaGreatDoor
open Go.RowKit Go.Proofs.Fw
set_option maxRecDepth 100000
set_option maxHeartbeats 4000000

@[simp] theorem ids_nothing : idsOf AV.nothing = [] := nrfl rfl
/-! Words as an argument. -/
theorem wdCells_inj {a b : Wd} (h : wdCells a = wdCells b) : a = b := by
  obtain ⟨k, s, p, n⟩ := a
  obtain ⟨k', s', p', n'⟩ := b
  simp only [wdCells, List.cons.injEq, AV.int.injEq, AV.str.injEq, true_and, and_true] at h
  obtain ⟨h1, h2, h3, h4⟩ := h
  have e1 : k = k' := by omega
  have e2 : p = p' := by omega
  have e3 : n = n' := by omega
  rw [e1, h2, e2, e3]
theorem wdsCells_inj : ∀ {a b : List Wd}, wdsCells a = wdsCells b → a = b
  | [], [], _ => rfl
  | [], x :: b, h => by
    have hc : wdsCells (x :: b) = wdCells x ++ wdsCells b := rfl
    rw [hc] at h
    simp [wdCells, wdsCells] at h
  | x :: a, [], h => by
    have hc : wdsCells (x :: a) = wdCells x ++ wdsCells a := rfl
    rw [hc] at h
    simp [wdCells, wdsCells] at h
  | x :: a, y :: b, h => by
    have hc : wdsCells (x :: a) = wdCells x ++ wdsCells a := rfl
    have hd : wdsCells (y :: b) = wdCells y ++ wdsCells b := rfl
    rw [hc, hd] at h
    have := List.append_inj h rfl
    rw [wdCells_inj this.1, wdsCells_inj this.2]
theorem wdsAV_inj {a b : List Wd} (h : wdsAV a = wdsAV b) : a = b := by
  unfold wdsAV at h
  split at h
  · split at h
    · rename_i h1 h2; rw [h1, h2]
    · cases h
  · split at h
    · cases h
    · injection h with _ _ _ h
      exact wdsCells_inj h
open Classical in
/-- A function of words. -/
noncomputable def oW (f0 : FuncId) (out : List Wd → AV) : Orc := fun f args H => if h : f = f0 ∧ ∃ ts : List Wd, ts.length < 1000000 ∧ args = [wdsAV ts] then some (out h.2.choose, H) else none
theorem oW_at {f0 : FuncId} {out : List Wd → AV} {ts : List Wd} (h : ts.length < 1000000) (H : AH) : oW f0 out f0 [wdsAV ts] H = some (out ts, H) := by
  have hh : f0 = f0 ∧ ∃ us : List Wd, us.length < 1000000 ∧ [wdsAV ts] = [wdsAV us] := ⟨rfl, ts, h, rfl⟩
  have hc := hh.2.choose_spec.2
  injection hc with hc _
  have he : hh.2.choose = ts := (wdsAV_inj hc).symm
  simp only [oW, dif_pos hh]
  rw [he]
theorem oW_sound {E : Env} {f0 : FuncId} {out : List Wd → AV} (h : ∀ ts : List Wd, ts.length < 1000000 → ∀ H, CS Tryz.prog E f0 [wdsAV ts] H (out ts) H) : Sound Tryz.prog E (oW f0 out) := by
  intro f args H v H' ho
  unfold oW at ho
  split at ho
  · rename_i hx
    injection ho with ho
    simp only [Prod.mk.injEq] at ho
    obtain ⟨rfl, rfl⟩ := ho
    have hs := hx.2.choose_spec
    generalize hx.2.choose = u at *
    obtain ⟨rfl, _⟩ := hx
    rw [hs.2]
    exact ⟨h _ hs.1 _, Nat.le_refl _, fun _ _ h => h⟩
  · cases ho

/-! Readers, by trees. -/
def parseT (x : Ex × Nat × Option (Nat × Nat)) : AV := .tup [.agg (tC x.1.tn), .int .i64 x.2.1, eAV x.2.2]
def rparseT (x : Ex × Nat × Option (Nat × Nat)) : AV := .tup [.agg (tC x.1.tn), .int .i64 x.2.1, wrAV x.2.2]
def condT (c : List UInt8 × Ex × Ex) : AV := .agg (.str c.1 :: (tC c.2.1.tn ++ tC c.2.2.tn))
def parseCT (x : (List UInt8 × Ex × Ex) × Nat × Option (Nat × Nat)) : AV := .tup [condT x.1, .int .i64 x.2.1, eAV x.2.2]
def rparseCT (x : (List UInt8 × Ex × Ex) × Nat × Option (Nat × Nat)) : AV := .tup [condT x.1, .int .i64 x.2.1, wrAV x.2.2]
theorem rep_exAV (g : Gh) (e : Ex) (v : Value) (h : RepV g (exAV e) v) : RepV g (.agg (tC e.tn)) v := by
  unfold exAV at h
  simp only [RepV] at h ⊢
  obtain ⟨vs, rfl, h⟩ := h
  exact ⟨vs, rfl, rep_tn g e vs h⟩
theorem rep_cond (g : Gh) (c : List UInt8 × Ex × Ex) (v : Value) (h : RepV g (condAV c) v) : RepV g (condT c) v := by
  unfold condAV at h
  unfold condT
  simp only [RepV] at h ⊢
  obtain ⟨vs, rfl, u, us, rfl, h1, h2⟩ := h
  obtain ⟨v1, v2, rfl, h3, h4⟩ := repL_append2 h2
  exact ⟨_, rfl, u, _, rfl, h1, (rep_tn g _ v1 h3).append (rep_tn g _ v2 h4)⟩
theorem parseT_cs (ts : List Wd) (hts : ts.length < 1000000) (H : AH) : CS Tryz.prog envF 17 [wdsAV ts] H (parseT (parseX ts)) H := CS.toF (CS.weak (v' := parseT (parseX ts)) (parse_cs ts hts H) fun g cv h => by
  unfold parseAV at h
  unfold parseT
  simp only [RepV] at h ⊢
  obtain ⟨vs, rfl, u, us, rfl, h1, h2⟩ := h
  exact ⟨_, rfl, u, us, rfl, rep_exAV g _ _ h1, h2⟩)
theorem rparseT_cs (ts : List Wd) (hts : ts.length < 1000000) (H : AH) : CS Tryz.prog envF 18 [wdsAV ts] H (rparseT (parseX ts)) H := by
  have := rparse_cs ts hts H
  rw [rparseX_eq] at this
  exact CS.toF (CS.weak (v' := rparseT (parseX ts)) this fun g cv h => by
    unfold rparseAV at h
    unfold rparseT
    simp only [RepV] at h ⊢
    obtain ⟨vs, rfl, u, us, rfl, h1, h2⟩ := h
    exact ⟨_, rfl, u, us, rfl, rep_exAV g _ _ h1, h2⟩)
theorem parseCT_cs (ts : List Wd) (hts : ts.length < 1000000) (H : AH) : CS Tryz.prog envF 19 [wdsAV ts] H (parseCT (parseC ts)) H := CS.toF (CS.weak (v' := parseCT (parseC ts)) (parsec_cs ts hts H) fun g cv h => by
  unfold parseCAV at h
  unfold parseCT
  simp only [RepV] at h ⊢
  obtain ⟨vs, rfl, u, us, rfl, h1, h2⟩ := h
  exact ⟨_, rfl, u, us, rfl, rep_cond g _ _ h1, h2⟩)
theorem rparseCT_cs (ts : List Wd) (hts : ts.length < 1000000) (H : AH) : CS Tryz.prog envF 20 [wdsAV ts] H (rparseCT (parseC ts)) H := by
  have := rparsec_cs ts hts H
  rw [rparseC_eq] at this
  exact CS.toF (CS.weak (v' := rparseCT (parseC ts)) this fun g cv h => by
    unfold rparseCAV at h
    unfold rparseCT
    simp only [RepV] at h ⊢
    obtain ⟨vs, rfl, u, us, rfl, h1, h2⟩ := h
    exact ⟨_, rfl, u, us, rfl, rep_cond g _ _ h1, h2⟩)

/-! Errors told. -/
theorem tellsX_cs (x : Option (Nat × Nat)) (hx : errOk x) (H : AH) : CS Tryz.prog envF 21 [eAV x, wrAV x] H (.bool true) H := by
  cases x with
  | none =>
    refine CS.tr0 lowF Tryz.func21 (by kernel_rfl) 0 (by simp [Tryz.f21]) (fun B hB hG => ?_) rfl (by simp [wrAV, eAV, pAV]) H
    refine Tr.goD oNilF hG (by kernel_rfl) ?_
    have hi : envF.imm 41 = true := by decide
    simp [Tryz.f21, wrAV, pAV_none, cI_none, eAV_none, hi]
  | some y =>
    obtain ⟨p, c⟩ := y
    have hc : (c : Int) ≠ 0 := by
      intro h
      have : c = 0 := by omega
      subst this
      exact hx p rfl
    exact CS.toF (CS.toX (tells_cs [(exprTxt, (p : Int))] c hc (by simp) .full (.inr rfl) H))
open Classical in
noncomputable def oTells : Orc := fun f args H => if f = 21 ∧ ∃ x, errOk x ∧ args = [eAV x, wrAV x] then some (.bool true, H) else none
theorem oTells_at {x : Option (Nat × Nat)} (h : errOk x) (H : AH) : oTells 21 [eAV x, wrAV x] H = some (.bool true, H) := by
  simp only [oTells]
  rw [if_pos ⟨rfl, x, h, rfl⟩]
theorem oTells_sound : Sound Tryz.prog envF oTells := by
  intro f args H v H' ho
  unfold oTells at ho
  split at ho
  · rename_i hx
    obtain ⟨rfl, x, hx, rfl⟩ := hx
    injection ho with ho
    simp only [Prod.mk.injEq] at ho
    obtain ⟨rfl, rfl⟩ := ho
    exact ⟨tellsX_cs x hx _, Nat.le_refl _, fun _ _ h => h⟩
  · cases ho

/-! Comparisons in words. -/
theorem condText_cs {S : Int → Prop} {nt : Int → List UInt8} (hS : NumOk S nt) (op : List UInt8) (a b : Tn) (ha : okT a = true) (hb : okT b = true) (ga : good S a) (gb : good S b) (la : (txt nt a).length < 1099511627776) (lb : (txt nt b).length < 1099511627776)
    (lo : op.length < 1099511627776) (H : AH) : CS Tryz.prog envF 46 [.agg (.str op :: (tC a ++ tC b))] H (.str (txt nt a ++ [32] ++ op ++ [32] ++ txt nt b)) H := by
  have X : Cx (oTn 26 (fun u => u = a ∨ u = b) (fun u => .str (txt nt u))) Tryz.prog envF := ⟨oTn_sound fun u hu H => by
    rcases hu with rfl | rfl
    · exact text_cs hS _ ha ga la H
    · exact text_cs hS _ hb gb lb H, methFOk, mixed⟩
  have h1 := fun H => oTn_at (f0 := 26) (S := fun u => u = a ∨ u = b) (out := fun u => .str (txt nt u)) (t := a) (.inl rfl) H
  have h2 := fun H => oTn_at (f0 := 26) (S := fun u => u = a ∨ u = b) (out := fun u => .str (txt nt u)) (t := b) (.inr rfl) H
  generalize oTn 26 (fun u => u = a ∨ u = b) (fun u => .str (txt nt u)) = O at X h1 h2
  refine CS.tr0 lowF Tryz.func46 (by kernel_rfl) 0 (by simp [Tryz.f46]) (fun B hB hG => ?_) (by simp) (by simp) H
  refine Tr.goD X hG (by kernel_rfl) ?_
  simp only [tC_eq] at h1 h2
  generalize txt nt a = x at *
  generalize txt nt b = y at *
  have e1 : x.length ≤ 9223372036854775806 := by omega
  have e2 : x.length + (op.length + 1) ≤ 9223372036854775807 := by omega
  have e3 : x.length + (op.length + 1) ≤ 9223372036854775806 := by omega
  have e4 : x.length + (op.length + (y.length + 1 + 1)) ≤ 9223372036854775807 := by omega
  have e5 : x.length + (op.length + (y.length + 1) + 1) ≤ 9223372036854775807 := by omega
  have e6 : x.length + (op.length + 1 + 1) ≤ 9223372036854775807 := by omega
  have e7 : x.length + (op.length + 1 + 1) + y.length ≤ 9223372036854775807 := by omega
  have e8 : x.length + 1 + op.length ≤ 9223372036854775807 := by omega
  have e9 : x.length + 1 + op.length + 1 ≤ 9223372036854775807 := by omega
  have e10 : x.length + 1 + op.length ≤ 9223372036854775806 := by omega
  have e11 : x.length + 1 + op.length + 1 + y.length ≤ 9223372036854775807 := by omega
  have e12 : x.length + (op.length + 1) + 1 + y.length ≤ 9223372036854775807 := by omega
  simp [Tryz.f46]
  refine LpD.turns X hG [2, 10] [(2, 4), (2, 5), (2, 8), (2, 9), (3, 10), (4, 10), (5, 10), (6, 10), (7, 10)] (by kernel_rfl) ?_
  simp [h1, h2, e1, e2, e3, e4, e5, e6, e7, e8, e9, e10, e11, e12]

theorem beq_cast (a b : Nat) : ((a : Int) == (b : Int)) = decide (a = b) := by
  rw [Bool.eq_iff_iff]
  simp only [beq_iff_eq, decide_eq_true_eq]
  omega
/-! A text, read. -/
def oLnF : Orc := oPure 45 (fun args => match args with
    | [.str s] => if s.length < maxS then some s else none
    | _ => none) fun s => lineAV (lex (s.length + 1) s 0 false)
theorem oLnF_sound : Sound Tryz.prog envF oLnF := oPure_sound fun args x H h => by
  split at h
  · split at h
    · rename_i s hs
      injection h with h
      subst h
      exact CS.toF (CS.toX (CS.toN (line_cs s hs H)))
    · cases h
  · cases h
theorem oLnF_at {s : List UInt8} (h : s.length < maxS) (H : AH) : oLnF 45 [.str s] H = some (lineAV (lex (s.length + 1) s 0 false), H) := by simp [oLnF, oPure, h]
def readP (s : List UInt8) : Ex × Bool := match lex (s.length + 1) s 0 false with
  | .ok ts => ((parseX ts).1, decide ((parseX ts).2.2 = none) && decide ((parseX ts).2.1 = ts.length))
  | .error _ => (.none, false)
noncomputable def oRead : Orc := oTab [(45, oLnF), (17, oW 17 fun ts => parseT (parseX ts))]
theorem oRead_cx : Cx oRead Tryz.prog envF := ⟨oTab_sound (by
  intro p hp
  simp only [List.mem_cons, List.not_mem_nil, or_false] at hp
  rcases hp with rfl | rfl
  · exact oLnF_sound
  · exact oW_sound parseT_cs), methFOk, mixed⟩
theorem lex_count {s : List UInt8} {l : List Wd} (hs : s.length < 1000000) (h : lex (s.length + 1) s 0 false = .ok l) : l.length < 1000000 := by
  have := (lex_in _ _ _ _ _ (by omega) h).2
  omega
theorem eAV_some_ne (y : Nat × Nat) : eAV (some y) ≠ .nilIface := by
  obtain ⟨p, c⟩ := y
  simp [eAV, errAV]
theorem read_cs (s : List UInt8) (hs : s.length < 1000000) (H : AH) : CS Tryz.prog envF 29 [.str s] H (.tup [.agg (tC (readP s).1.tn), .bool (readP s).2]) H := by
  have h1 := fun H => (show oRead 45 [.str s] H = oLnF 45 [.str s] H by simp only [oRead, oTab, List.lookup]; rfl).trans (oLnF_at (by rw [maxS_eq]; omega) H)
  have h2 := fun (ts : List Wd) (h : ts.length < 1000000) H => (show oRead 17 [wdsAV ts] H = oW 17 (fun ts => parseT (parseX ts)) 17 [wdsAV ts] H by simp only [oRead, oTab, List.lookup]; rfl).trans (oW_at h H)
  have X := oRead_cx
  generalize oRead = O at X h1 h2
  refine CS.tr0 lowF Tryz.func29 (by kernel_rfl) 0 (by simp [Tryz.f29]) (fun B hB hG => ?_) (by simp) (by simp) H
  refine Tr.goD X hG (by kernel_rfl) ?_
  unfold readP
  cases hl : lex (s.length + 1) s 0 false with
  | error x =>
    obtain ⟨p, e⟩ := x
    rw [hl] at h1
    simp [Tryz.f29, h1, lineAV, faultAV, Ex.tn, Tn.k, Tn.n, Tn.s, Tn.ar, tC]
  | ok ts =>
    have hts := lex_count hs hl
    rw [hl] at h1
    have h3 := fun H => h2 ts hts H
    simp only
    generalize parseX ts = q at *
    obtain ⟨e, n, x⟩ := q
    simp [parseT] at h3
    simp [Tryz.f29, h1, lineAV, h3]
    refine LpD.turns X hG [9] [(0, 9), (1, 9), (2, 9), (3, 9), (4, 9), (5, 9), (6, 9), (7, 9), (8, 9)] (by kernel_rfl) ?_
    cases x with
    | some y => simp
    | none => simp [beq_cast]
end Go.Proofs.YtpmonaempgjgbaaGreatDoor
