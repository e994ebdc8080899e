/- ExprWords: what the law's text returns. -/
import Derived.Test.YtejjlojfgcgopaaGreatDoorEyE
import Derived.Test.YtejjlojfgcgopaaGreatDoorTrE
set_option linter.unusedSimpArgs false
set_option linter.unusedVariables false
namespace Go.Proofs.YtejjlojfgcgopaaGreatDoor
open Go.RowKit Go.Proofs.Fw
set_option maxRecDepth 100000
set_option maxHeartbeats 4000000

/-! What a reader returns is no greater than its words let it be. -/
def okTR (f : Rd) : Prop := ∀ r, okT (f r).1.tn = true
theorem okT_bin {k : Nat} {a b : Ex} (ha : okT a.tn = true) (hb : okT b.tn = true) : okT (Ex.bin k a b).tn = true := by
  simp [Ex.tn, okT, okTs, ha, hb]
theorem rowL_okT {ts : List Wd} {of : Rd} (h : okTR of) {f : List UInt8} {one : Nat} {s : List UInt8} {two : Nat} : ∀ (n : Nat) (e : Ex) (r : St), okT e.tn = true → okT (rowL ts of f one s two n e r).1.tn = true
  | 0, e, r, he => he
  | n + 1, e, r, he => by
    simp only [rowL]
    split
    · rfl
    · split
      · exact rowL_okT h n _ _ (okT_bin he (h _))
      · split
        · exact rowL_okT h n _ _ (okT_bin he (h _))
        · exact he
theorem rowF_okT {ts : List Wd} {of : Rd} (h : okTR of) {f : List UInt8} {one : Nat} {s : List UInt8} {two : Nat} : okTR (rowF ts of f one s two) := fun r => rowL_okT h _ _ _ (h r)
theorem okTs_append : ∀ {a b : List Tn}, okTs a = true → okTs b = true → okTs (a ++ b) = true
  | [], _, _, h => h
  | t :: a, b, h1, h2 => by
    simp only [okTs, Bool.and_eq_true] at h1
    simp only [List.cons_append, okTs, Bool.and_eq_true]
    exact ⟨h1.1, okTs_append h1.2 h2⟩
theorem tns_append : ∀ a b : List Ex, Ex.tns (a ++ b) = Ex.tns a ++ Ex.tns b
  | [], b => rfl
  | e :: a, b => by rw [List.cons_append, Ex.tns, Ex.tns, tns_append a b, List.cons_append]
theorem subL_okT {ts : List Wd} {sum : Rd} (h : okTR sum) : ∀ (n : Nat) (a : List Ex) (r : St), okTs (Ex.tns a) = true → okTs (Ex.tns (subL ts sum n a r).1) = true ∧ (subL ts sum n a r).1.length ≤ a.length + n
  | 0, a, r, ha => ⟨ha, Nat.le_refl _⟩
  | n + 1, a, r, ha => by
    have h1 : okTs (Ex.tns (a ++ [(sum r).1])) = true := by
      rw [tns_append]
      refine okTs_append ha ?_
      simp only [Ex.tns, okTs, h r, Bool.and_self]
    simp only [subL]
    split
    · obtain ⟨h2, h3⟩ := subL_okT h n (a ++ [(sum r).1]) _ h1
      refine ⟨h2, ?_⟩
      rw [List.length_append] at h3
      simp only [List.length_cons, List.length_nil] at h3
      exact Nat.le_trans h3 (by omega)
    · refine ⟨h1, ?_⟩
      rw [List.length_append]
      simp only [List.length_cons, List.length_nil]
      omega
theorem inF_okT {p : Nat} {of : Rd} (h : okTR of) : okTR (inF p of) := fun r => by
  simp only [inF]
  generalize (if r.deep + 1 > 20 then (⟨r.at_, r.deep + 1, r.err⟩ : St).fail p 4 else ⟨r.at_, r.deep + 1, r.err⟩) = r2
  split
  · exact h _
  · rfl
theorem nameF_okT {ts : List Wd} {sum : Rd} (h : okTR sum) (s : List UInt8) : okTR (nameF ts sum s) := fun r => by
  simp only [nameF]
  split
  · obtain ⟨h1, h2⟩ := subL_okT h (ts := ts) 6 [] r.step.step rfl
    simp only [Ex.tn, okT, tns_length, h1, Bool.and_true, decide_eq_true_eq]
    simp only [List.length_nil] at h2
    omega
  · rfl
theorem facF_okT {ts : List Wd} {sum fac : Rd} (h : okTR sum) (hf : okTR fac) : okTR (facF ts sum fac) := fun r => by
  unfold facF
  split
  · split
    · rfl
    · split
      · exact nameF_okT h _ r
      · split
        · have := inF_okT (p := r.at_) hf r.step
          simp [Ex.tn, okT, okTs, this]
        · split
          · exact inF_okT h _
          · rfl
  · rfl
theorem fac_okT (ts : List Wd) : ∀ n, okTR (fac ts n)
  | 0 => fun _ => rfl
  | n + 1 => facF_okT (rowF_okT (rowF_okT (fac_okT ts n))) (fac_okT ts n)
theorem sumAt_okT (ts : List Wd) : okTR (sumAt ts) := rowF_okT (rowF_okT (fac_okT ts _))
theorem parseX_okT (ts : List Wd) : okT (parseX ts).1.tn = true := by
  unfold parseX
  split
  · exact sumAt_okT ts _
  · rfl
theorem parseC_okT (ts : List Wd) : okT (parseC ts).1.2.1.tn = true ∧ okT (parseC ts).1.2.2.tn = true := by
  unfold parseC
  simp only
  split
  · exact ⟨sumAt_okT ts _, sumAt_okT ts _⟩
  · exact ⟨rfl, rfl⟩
theorem parseX_err (ts : List Wd) : errOk (parseX ts).2.2 := by
  rw [← rparseX_eq]
  unfold rparseX
  split
  · exact errOk_none
  · rename_i x hx
    have := rsumAt_okE ts ⟨0, 0, none⟩ errOk_none
    rw [hx] at this
    exact this
theorem condMid_okE (ts : List Wd) (r : St) (h : errOk r.err) : errOk (condMid ts r).2.err := by
  unfold condMid
  split
  · exact h
  · split
    · split
      · exact h
      · simp only [St.fail, ‹r.err = none›]
        exact errOk_some (by decide)
    · simp only [St.fail, ‹r.err = none›]
      exact errOk_some (by decide)
theorem parseC_err (ts : List Wd) : errOk (parseC ts).2.2 := by
  rw [← rparseC_eq]
  unfold rparseC
  have h1 := condMid_okE ts _ (rsumAt_okE ts ⟨0, 0, none⟩ errOk_none)
  split
  · rename_i x hx
    rw [hx] at h1
    exact h1
  · split
    · exact errOk_none
    · rename_i x hx
      have := rsumAt_okE ts _ h1
      rw [hx] at this
      exact this

/-! The law. -/
def oTkF : Orc := oPure 20 (fun args => match args with
    | [.str s] => if s.length < maxS then some s else none
    | _ => none) fun s => toksAV (lex (s.length + 1) s 0 false)
theorem oTkF_sound : Sound Tryz.prog envF oTkF := oPure_sound fun args x H h => by
  split at h
  · split at h
    · rename_i s hs
      injection h with h
      subst h
      exact CS.toF (CS.toX (CS.toN (rtoks_cs s hs H)))
    · cases h
  · cases h
theorem oTkF_at {s : List UInt8} (h : s.length < maxS) (H : AH) : oTkF 20 [.str s] H = some (toksAV (lex (s.length + 1) s 0 false), H) := by simp [oTkF, oPure, h]
end Go.Proofs.YtejjlojfgcgopaaGreatDoor
