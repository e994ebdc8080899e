/- ExprWords: what the law's text returns. -/
import Derived.Test.YtpmonaempgjgbaaGreatDoorEyE
import Derived.Test.YtpmonaempgjgbaaGreatDoorTrE
set_option linter.unusedSimpArgs false
set_option linter.unusedVariables false
namespace Go.Proofs.YtpmonaempgjgbaaGreatDoor
open Go.RowKit Go.Proofs.Fw
set_option maxRecDepth 100000
set_option maxHeartbeats 4000000

/-! What a reader returns is no greater than its words let it be. -/
def okTR (f : Rd) : Prop := ∀ r, okT (f r).1.tn = true
theorem okT_bin {k : Nat} {a b : Ex} (ha : okT a.tn = true) (hb : okT b.tn = true) : okT (Ex.bin k a b).tn = true := by
  simp [Ex.tn, okT, okTs, ha, hb]
theorem rowL_okT {ts : List Wd} {of : Rd} (h : okTR of) {f : List UInt8} {one : Nat} {s : List UInt8} {two : Nat} : ∀ (n : Nat) (e : Ex) (r : St), okT e.tn = true → okT (rowL ts of f one s two n e r).1.tn = true
  | 0, e, r, he => he
  | n + 1, e, r, he => by
    simp only [rowL]
    split
    · rfl
    · split
      · exact rowL_okT h n _ _ (okT_bin he (h _))
      · split
        · exact rowL_okT h n _ _ (okT_bin he (h _))
        · exact he
theorem rowF_okT {ts : List Wd} {of : Rd} (h : okTR of) {f : List UInt8} {one : Nat} {s : List UInt8} {two : Nat} : okTR (rowF ts of f one s two) := fun r => rowL_okT h _ _ _ (h r)
theorem okTs_append : ∀ {a b : List Tn}, okTs a = true → okTs b = true → okTs (a ++ b) = true
  | [], _, _, h => h
  | t :: a, b, h1, h2 => by
    simp only [okTs, Bool.and_eq_true] at h1
    simp only [List.cons_append, okTs, Bool.and_eq_true]
    exact ⟨h1.1, okTs_append h1.2 h2⟩
theorem tns_append : ∀ a b : List Ex, Ex.tns (a ++ b) = Ex.tns a ++ Ex.tns b
  | [], b => rfl
  | e :: a, b => by rw [List.cons_append, Ex.tns, Ex.tns, tns_append a b, List.cons_append]
theorem subL_okT {ts : List Wd} {sum : Rd} (h : okTR sum) : ∀ (n : Nat) (a : List Ex) (r : St), okTs (Ex.tns a) = true → okTs (Ex.tns (subL ts sum n a r).1) = true ∧ (subL ts sum n a r).1.length ≤ a.length + n
  | 0, a, r, ha => ⟨ha, Nat.le_refl _⟩
  | n + 1, a, r, ha => by
    have h1 : okTs (Ex.tns (a ++ [(sum r).1])) = true := by
      rw [tns_append]
      refine okTs_append ha ?_
      simp only [Ex.tns, okTs, h r, Bool.and_self]
    simp only [subL]
    split
    · obtain ⟨h2, h3⟩ := subL_okT h n (a ++ [(sum r).1]) _ h1
      refine ⟨h2, ?_⟩
      rw [List.length_append] at h3
      simp only [List.length_cons, List.length_nil] at h3
      exact Nat.le_trans h3 (by omega)
    · refine ⟨h1, ?_⟩
      rw [List.length_append]
      simp only [List.length_cons, List.length_nil]
      omega
theorem inF_okT {p : Nat} {of : Rd} (h : okTR of) : okTR (inF p of) := fun r => by
  simp only [inF]
  generalize (if r.deep + 1 > 20 then (⟨r.at_, r.deep + 1, r.err⟩ : St).fail p 4 else ⟨r.at_, r.deep + 1, r.err⟩) = r2
  split
  · exact h _
  · rfl
theorem nameF_okT {ts : List Wd} {sum : Rd} (h : okTR sum) (s : List UInt8) : okTR (nameF ts sum s) := fun r => by
  simp only [nameF]
  split
  · obtain ⟨h1, h2⟩ := subL_okT h (ts := ts) 6 [] r.step.step rfl
    simp only [Ex.tn, okT, tns_length, h1, Bool.and_true, decide_eq_true_eq]
    simp only [List.length_nil] at h2
    omega
  · rfl
theorem facF_okT {ts : List Wd} {sum fac : Rd} (h : okTR sum) (hf : okTR fac) : okTR (facF ts sum fac) := fun r => by
  unfold facF
  split
  · split
    · rfl
    · split
      · exact nameF_okT h _ r
      · split
        · have := inF_okT (p := r.at_) hf r.step
          simp [Ex.tn, okT, okTs, this]
        · split
          · exact inF_okT h _
          · rfl
  · rfl
theorem fac_okT (ts : List Wd) : ∀ n, okTR (fac ts n)
  | 0 => fun _ => rfl
  | n + 1 => facF_okT (rowF_okT (rowF_okT (fac_okT ts n))) (fac_okT ts n)
theorem sumAt_okT (ts : List Wd) : okTR (sumAt ts) := rowF_okT (rowF_okT (fac_okT ts _))
theorem parseX_okT (ts : List Wd) : okT (parseX ts).1.tn = true := by
  unfold parseX
  split
  · exact sumAt_okT ts _
  · rfl
theorem parseC_okT (ts : List Wd) : okT (parseC ts).1.2.1.tn = true ∧ okT (parseC ts).1.2.2.tn = true := by
  unfold parseC
  simp only
  split
  · exact ⟨sumAt_okT ts _, sumAt_okT ts _⟩
  · exact ⟨rfl, rfl⟩
theorem parseX_err (ts : List Wd) : errOk (parseX ts).2.2 := by
  rw [← rparseX_eq]
  unfold rparseX
  split
  · exact errOk_none
  · rename_i x hx
    have := rsumAt_okE ts ⟨0, 0, none⟩ errOk_none
    rw [hx] at this
    exact this
theorem condMid_okE (ts : List Wd) (r : St) (h : errOk r.err) : errOk (condMid ts r).2.err := by
  unfold condMid
  split
  · exact h
  · split
    · split
      · exact h
      · simp only [St.fail, ‹r.err = none›]
        exact errOk_some (by decide)
    · simp only [St.fail, ‹r.err = none›]
      exact errOk_some (by decide)
theorem parseC_err (ts : List Wd) : errOk (parseC ts).2.2 := by
  rw [← rparseC_eq]
  unfold rparseC
  have h1 := condMid_okE ts _ (rsumAt_okE ts ⟨0, 0, none⟩ errOk_none)
  split
  · rename_i x hx
    rw [hx] at h1
    exact h1
  · split
    · exact errOk_none
    · rename_i x hx
      have := rsumAt_okE ts _ h1
      rw [hx] at this
      exact this

/-! The law. -/
def oTkF : Orc := oPure 15 (fun args => match args with
    | [.str s] => if s.length < maxS then some s else none
    | _ => none) fun s => toksAV (lex (s.length + 1) s 0 false)
theorem oTkF_sound : Sound Tryz.prog envF oTkF := oPure_sound fun args x H h => by
  split at h
  · split at h
    · rename_i s hs
      injection h with h
      subst h
      exact CS.toF (CS.toX (CS.toN (rtoks_cs s hs H)))
    · cases h
  · cases h
theorem oTkF_at {s : List UInt8} (h : s.length < maxS) (H : AH) : oTkF 15 [.str s] H = some (toksAV (lex (s.length + 1) s 0 false), H) := by simp [oTkF, oPure, h]
structure LawO (O : Orc) : Prop where
  known : ∀ H, O 14 [] H = some (.bool true, H)
  toks : ∀ (s : List UInt8) H, s.length < maxS → O 15 [.str s] H = some (toksAV (lex (s.length + 1) s 0 false), H)
  to : ∀ (ts : List Wd) H, ts.length < 1000000 → O 16 [wdsAV ts] H = some (wdsAV ts, H)
  parse : ∀ (ts : List Wd) H, ts.length < 1000000 → O 17 [wdsAV ts] H = some (parseT (parseX ts), H)
  rparse : ∀ (ts : List Wd) H, ts.length < 1000000 → O 18 [wdsAV ts] H = some (rparseT (parseX ts), H)
  cparse : ∀ (ts : List Wd) H, ts.length < 1000000 → O 19 [wdsAV ts] H = some (parseCT (parseC ts), H)
  rcparse : ∀ (ts : List Wd) H, ts.length < 1000000 → O 20 [wdsAV ts] H = some (rparseCT (parseC ts), H)
  tells : ∀ x H, errOk x → O 21 [eAV x, wrAV x] H = some (.bool true, H)
  of : ∀ (t : Tn) H, okT t = true → O 23 [.agg (tC t)] H = some (.agg (tC (ofT t)), H)
  same : ∀ (t u : Tn) H, okT t = true → O 22 [.agg (tC t), .agg (tC u)] H = some (.bool (sameT t u), H)
  at_ : ∀ (w : List UInt8) (p e : Int) H, O 31 [.str w, .int .i64 p, .int .i64 e] H = some (.agg [.slice .full 2 1 [.str w, .int .i64 p], .int .i64 e], H)
  read : ∀ (s : List UInt8) H, s.length < 1000000 → O 29 [.str s] H = some (.tup [.agg (tC (readP s).1.tn), .bool (readP s).2], H)

noncomputable def oLw5 : Orc := oTab [(14, call0 14 (.bool true)), (15, oTkF), (16, oW 16 wdsAV),
  (17, oW 17 fun ts => parseT (parseX ts)), (18, oW 18 fun ts => rparseT (parseX ts)),
  (19, oW 19 fun ts => parseCT (parseC ts)), (20, oW 20 fun ts => rparseCT (parseC ts)),
  (21, oTells), (23, oTn 23 (fun t => okT t = true) fun t => .agg (tC (ofT t))),
  (22, oTn2 22 (fun t _ => okT t = true) fun t u => .bool (sameT t u)), (31, oRat),
  (29, oPure 29 (fun args => match args with
    | [.str s] => if s.length < 1000000 then some s else none
    | _ => none) fun s => .tup [.agg (tC (readP s).1.tn), .bool (readP s).2])]
theorem oLw5_cx : Cx oLw5 Tryz.prog envF := ⟨oTab_sound (by
  intro p hp
  simp only [List.mem_cons, List.not_mem_nil, or_false] at hp
  rcases hp with rfl | rfl | rfl | rfl | rfl | rfl | rfl | rfl | rfl | rfl | rfl | rfl
  · exact Sound.call0 lowF (known_cs [])
  · exact oTkF_sound
  · exact oW_sound fun ts h H => CS.toF (to_cs ts h H)
  · exact oW_sound parseT_cs
  · exact oW_sound rparseT_cs
  · exact oW_sound parseCT_cs
  · exact oW_sound rparseCT_cs
  · exact oTells_sound
  · exact oTn_sound (f0 := 23) (S := fun t => okT t = true) (out := fun t => .agg (tC (ofT t))) fun t h H => CS.toF (of_cs t h H)
  · exact oTn2_sound (f0 := 22) (S := fun t _ => okT t = true) (out := fun t u => .bool (sameT t u)) fun t u h H => CS.toF (same_cs t u h H)
  · exact Sound.toF (Sound.toX (Sound.toN oRat_sound))
  · refine oPure_sound fun args x H h => ?_
    split at h
    · split at h
      · injection h with h
        subst h
        exact read_cs _ ‹_› H
      · cases h
    · cases h), methFOk, mixed⟩
theorem oLw5_ok : LawO oLw5 where
  known := fun H => by simp [oLw5, oTab, List.lookup, call0]
  toks := fun s H h => (show oLw5 15 [.str s] H = oTkF 15 [.str s] H by simp only [oLw5, oTab, List.lookup]; rfl).trans (oTkF_at h H)
  to := fun ts H h => (show oLw5 16 [wdsAV ts] H = oW 16 wdsAV 16 [wdsAV ts] H by simp only [oLw5, oTab, List.lookup]; rfl).trans (oW_at h H)
  parse := fun ts H h => (show oLw5 17 [wdsAV ts] H = oW 17 (fun ts => parseT (parseX ts)) 17 [wdsAV ts] H by simp only [oLw5, oTab, List.lookup]; rfl).trans (oW_at h H)
  rparse := fun ts H h => (show oLw5 18 [wdsAV ts] H = oW 18 (fun ts => rparseT (parseX ts)) 18 [wdsAV ts] H by simp only [oLw5, oTab, List.lookup]; rfl).trans (oW_at h H)
  cparse := fun ts H h => (show oLw5 19 [wdsAV ts] H = oW 19 (fun ts => parseCT (parseC ts)) 19 [wdsAV ts] H by simp only [oLw5, oTab, List.lookup]; rfl).trans (oW_at h H)
  rcparse := fun ts H h => (show oLw5 20 [wdsAV ts] H = oW 20 (fun ts => rparseCT (parseC ts)) 20 [wdsAV ts] H by simp only [oLw5, oTab, List.lookup]; rfl).trans (oW_at h H)
  tells := fun x H h => (show oLw5 21 [eAV x, wrAV x] H = oTells 21 [eAV x, wrAV x] H by simp only [oLw5, oTab, List.lookup]; rfl).trans (oTells_at h H)
  of := fun t H h => (show oLw5 23 [.agg (tC t)] H = oTn 23 (fun t => okT t = true) (fun t => .agg (tC (ofT t))) 23 [.agg (tC t)] H by simp only [oLw5, oTab, List.lookup]; rfl).trans (oTn_at h H)
  same := fun t u H h => (show oLw5 22 [.agg (tC t), .agg (tC u)] H = oTn2 22 (fun t _ => okT t = true) (fun t u => .bool (sameT t u)) 22 [.agg (tC t), .agg (tC u)] H by simp only [oLw5, oTab, List.lookup]; rfl).trans (oTn2_at h H)
  at_ := fun w p e H => (show oLw5 31 [.str w, .int .i64 p, .int .i64 e] H = oRat 31 [.str w, .int .i64 p, .int .i64 e] H by simp only [oLw5, oTab, List.lookup]; rfl).trans (oRat_at w p e H)
  read := fun s H h => by simp [oLw5, oTab, List.lookup, oPure, h]

theorem wordsLaw_cs (s : List UInt8) (H : AH) : CS Tryz.prog envF 4 [.str s] H (.bool true) H := by
  have X := oLw5_cx
  have hO := oLw5_ok
  generalize oLw5 = O at X hO
  refine CS.tr0 lowF Tryz.func4 (by kernel_rfl) 0 (by simp [Tryz.f4]) (fun B hB hG => ?_) (by simp) (by simp) H
  refine Tr.goD X hG (by kernel_rfl) ?_
  have hk := hO.known
  by_cases hl : s.length ≤ 300
  · have hl' : ¬ (300 : Int) < s.length := by omega
    have ht := fun H => hO.toks s H (by rw [maxS_eq]; omega)
    cases hx : lex (s.length + 1) s 0 false with
    | error x =>
      obtain ⟨p, e⟩ := x
      rw [hx] at ht
      have he := lex_err _ _ _ _ _ _ hx
      simp [Tryz.f4, hk, hl', ht, toksAV, atAV, he]
    | ok ts =>
      have hts := lex_count (by omega) hx
      rw [hx] at ht
      have h1 := fun H => hO.to ts H hts
      have h2 := fun H => hO.parse ts H hts
      have h3 := fun H => hO.rparse ts H hts
      have h4 := fun H => hO.cparse ts H hts
      have h5 := fun H => hO.rcparse ts H hts
      have h6 := fun H => hO.tells _ H (parseX_err ts)
      have h7 := fun H => hO.tells _ H (parseC_err ts)
      have h8 := fun H => hO.of _ H (parseX_okT ts)
      have h9 := fun H => hO.of _ H (parseC_okT ts).1
      have h10 := fun H => hO.of _ H (parseC_okT ts).2
      have h11 := fun H => hO.same (ofT (parseX ts).1.tn) (parseX ts).1.tn H (okT_of _ (parseX_okT ts))
      have h12 := fun H => hO.same (ofT (parseC ts).1.2.1.tn) (parseC ts).1.2.1.tn H (okT_of _ (parseC_okT ts).1)
      have h13 := fun H => hO.same (ofT (parseC ts).1.2.2.tn) (parseC ts).1.2.2.tn H (okT_of _ (parseC_okT ts).2)
      simp only [same_of] at h11 h12 h13
      generalize parseX ts = a at *
      generalize parseC ts = b at *
      obtain ⟨e, n, x⟩ := a
      obtain ⟨⟨op, e1, e2⟩, m, y⟩ := b
      simp only at h6 h7 h8 h9 h10 h11 h12 h13
      simp only [parseT, rparseT, parseCT, rparseCT, condT, wrAV] at h2 h3 h4 h5 h6 h7
      generalize e.tn = t at *
      generalize e1.tn = t1 at *
      generalize e2.tn = t2 at *
      generalize ofT t = u at *
      generalize ofT t1 = u1 at *
      generalize ofT t2 = u2 at *
      simp only [tC_eq, List.cons_append, List.nil_append] at h2 h3 h4 h5 h8 h9 h10 h11 h12 h13
      simp [Tryz.f4, hk, hl', ht, toksAV, noneAV, h1, h2, h3, h4, h5]
      refine LpD.turns X hG [] [] (by kernel_rfl) ?_
      simp [h6, h7, h8, h9, h10, h11, h12, h13]
  · have hl' : (300 : Int) < s.length := by omega
    simp [Tryz.f4, hk, hl']
end Go.Proofs.YtpmonaempgjgbaaGreatDoor
