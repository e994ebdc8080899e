/- tok.word and tok.Line at every text, as oracles. -/
import Derived.Test.YtpmonaempgjgbaaGreatDoorTkK
import Derived.Test.YtpmonaempgjgbaaGreatDoorTkI
set_option linter.unusedSimpArgs false
set_option linter.unusedVariables false
namespace Go.Proofs.YtpmonaempgjgbaaGreatDoor
open Go.RowKit Go.Proofs.Fw
set_option maxRecDepth 100000
set_option maxHeartbeats 4000000
-- 

/-- How long a text may be. -/
def maxS : Nat := 137438953470
theorem maxS_eq : maxS = 137438953470 := rfl

def oFront : Orc := oPure 78 (fun args => match args with
    | [.str s, .func (.func g) [] []] => if s.length < maxS then (if g = 79 then some (isInner, s) else if g = 114 then some (isDigit, s) else none) else none
    | _ => none) fun x => .int .i64 (frontLen x.1 x.2)
theorem oFront_sound : Sound Tryz.prog envT oFront := oPure_sound fun args x H h => by
  split at h
  · rename_i s g
    split at h
    · rename_i hs
      rw [maxS_eq] at hs
      split at h
      · rename_i hg
        subst hg
        injection h with h
        subst h
        exact evFunc_ok oBytes_sound methT mixed (front_ev oBytes s _ isInner (goFn_all _ (by simp)) oBytes_31 (by omega) H)
      · split at h
        · rename_i hg
          subst hg
          injection h with h
          subst h
          exact evFunc_ok oBytes_sound methT mixed (front_ev oBytes s _ isDigit (goFn_all _ (by simp)) oBytes_34 (by omega) H)
        · cases h
    · cases h
  · cases h

def oSign : Orc := oPure 118 (fun args => match args with
    | [.str (c :: r)] => some (c, r)
    | _ => none) fun x => .int .i64 (signLen (x.1 :: x.2))
theorem oSign_sound : Sound Tryz.prog envT oSign := oPure_sound fun args x H h => by
  split at h
  · injection h with h
    subst h
    exact evFunc_ok oIdx_sound methT mixed (sign_ev oIdx _ _ H)
  · cases h

/-- Digits, as strconv.ParseInt is handed them. -/
def digArgs : List AV → Option (List UInt8)
  | [.str s, .int .i64 10, .int .i64 64] => if s ≠ [] ∧ s.length < maxS ∧ s.all (fun b => decide (48 ≤ b.toNat) && decide (b.toNat ≤ 57)) = true then some s else none
  | _ => none
theorem digArgs_some {args : List AV} {s : List UInt8} (h : digArgs args = some s) : args = [.str s, .int .i64 10, .int .i64 64] ∧ s ≠ [] ∧ s.length < maxS ∧ allDigits s := by
  unfold digArgs at h
  split at h
  · split at h
    · rename_i s' hs
      injection h with h
      subst h
      obtain ⟨h1, h2, h3⟩ := hs
      refine ⟨rfl, h1, h2, fun b hb => ?_⟩
      have := List.all_eq_true.1 h3 b hb
      simpa using this
    · cases h
  · cases h
theorem digArgs_at {s : List UInt8} (h1 : s ≠ []) (h2 : s.length < maxS) (h3 : allDigits s) : digArgs [.str s, .int .i64 10, .int .i64 64] = some s := by
  exact if_pos ⟨h1, h2, List.all_eq_true.2 fun b hb => by simpa using h3 b hb⟩

def oPu : Orc := oPure 167 digArgs puRes
theorem oPu_sound : Sound Tryz.prog envT oPu := oPure_sound fun args x H h => by
  obtain ⟨rfl, h1, h2, h3⟩ := digArgs_some h
  rw [maxS_eq] at h2
  exact evFunc_ok oIdx_sound methT mixed (pu_ev oIdx x h1 h3 (by omega) H)
def oPi : Orc := oPure 145 digArgs piRes
theorem oPi_sound : Sound Tryz.prog envT oPi := oPure_sound fun args x H h => by
  obtain ⟨rfl, h1, h2, h3⟩ := digArgs_some h
  exact evFunc_ok oPu_sound methT mixed (pi_ev oPu x h1 h3 H (by simp [oPu, oPure, digArgs_at h1 h2 h3]))
def oClone : Orc := oPure 183 (fun args => match args with
    | [.str s] => if s.length < maxS then some s else none
    | _ => none) .str
theorem oClone_sound : Sound Tryz.prog envT oClone := oPure_sound fun args x H h => by
  split at h
  · split at h
    · rename_i hs
      rw [maxS_eq] at hs
      injection h with h
      subst h
      exact clone_cs envT _ H (by omega)
    · cases h
  · cases h
theorem oClone_at {s : List UInt8} (h : s.length < maxS) (H : AH) : oClone 183 [.str s] H = some (.str s, H) := by simp [oClone, oPure, h]
def oRange : Orc := oPure 169 (fun args => match args with
    | [.str f, .str s] => if s.length < maxS then some (f, s) else none
    | _ => none) fun x => numErrAV x.1 x.2
theorem oRange_sound : Sound Tryz.prog envT oRange := oPure_sound fun args x H h => by
  split at h
  · split at h
    · rename_i hs
      injection h with h
      subst h
      exact range_cs oClone ⟨oClone_sound, methT, mixed⟩ _ _ (fun H => oClone_at hs H) H
    · cases h
  · cases h
def oToErr : Orc := oPure 146 (fun args => match args with
    | [.str f, .str s, .int .i64 10, .int .i64 64, .iface 273 (.int .i64 1)] => if s.length < maxS then some (f, s) else none
    | _ => none) fun x => .iface 276 (numErrAV x.1 x.2)
theorem oToErr_sound : Sound Tryz.prog envT oToErr := oPure_sound fun args x H h => by
  split at h
  · split at h
    · rename_i hs
      injection h with h
      subst h
      exact toErr_cs oRange ⟨oRange_sound, methT, mixed⟩ _ _ (fun H => by simp [oRange, oPure, hs]) H
    · cases h
  · cases h
def oPar : Orc := oPure 117 digArgs parRes
theorem oPar_sound : Sound Tryz.prog envT oPar := oPure_sound fun args x H h => by
  obtain ⟨rfl, h1, h2, h3⟩ := digArgs_some h
  refine par_cs (oTab [(145, oPi), (146, oToErr)]) ⟨oTab_sound fun p hp => ?_, methT, mixed⟩ x (fun H => ?_) (fun H => ?_) H
  · simp only [List.mem_cons, List.not_mem_nil, or_false] at hp
    rcases hp with rfl | rfl
    · exact oPi_sound
    · exact oToErr_sound
  · simp [oTab, oPi, oPure, digArgs_at h1 h2 h3]
  · simp [oTab, oToErr, oPure, h2]

def oWs : Orc := oTab [(77, oBytes), (114, oBytes), (78, oFront), (80, oKeyF), (117, oPar), (118, oSign)]
theorem oWs_sound : Sound Tryz.prog envT oWs := oTab_sound fun p hp => by
  simp only [List.mem_cons, List.not_mem_nil, or_false] at hp
  rcases hp with rfl | rfl | rfl | rfl | rfl | rfl
  · exact oBytes_sound
  · exact oBytes_sound
  · exact oFront_sound
  · exact oKeyF_sound
  · exact oPar_sound
  · exact oSign_sound

theorem signLen_le : ∀ s : List UInt8, signLen s ≤ s.length
  | [] => Nat.le_refl _
  | [c] => by
    simp only [signLen, List.length_cons, List.length_nil]
    split
    · omega
    · split <;> omega
  | c :: d :: r => by
    unfold signLen
    simp only [List.length_cons]
    split
    · split <;> omega
    · split <;> omega

theorem front_all (p : UInt8 → Bool) : ∀ (s : List UInt8), ∀ b ∈ s.take (frontLen p s), p b = true
  | [], b, h => by simp at h
  | c :: s, b, h => by
    unfold frontLen at h
    rw [List.takeWhile_cons] at h
    split at h
    · rename_i hc
      simp only [List.length_cons, List.take_succ_cons, List.mem_cons] at h
      rcases h with rfl | h
      · exact hc
      · exact front_all p s b (by unfold frontLen; exact h)
    · simp at h

theorem frontLen_pos {p : UInt8 → Bool} {c : UInt8} {s : List UInt8} (h : p c = true) : 0 < frontLen p (c :: s) := by
  unfold frontLen
  rw [List.takeWhile_cons, if_pos h]
  simp

theorem word_cs (c : UInt8) (r : List UInt8) (hs : (c :: r).length < maxS) (H : AH) : CS Tryz.prog envT 87 [.str (c :: r)] H (wordAV (c :: r)) H := by
  have key : ∀ (v : AV), (∃ H', evFunc oWs Tryz.prog envT 0 87 [.str (c :: r)] [] = some (v, H')) → v = wordAV (c :: r) → CS Tryz.prog envT 87 [.str (c :: r)] H (wordAV (c :: r)) H := by
    rintro v ⟨H', h⟩ rfl
    have := CS.of_ev oWs_sound methT mixed lowT (f := 87) (args := [.str (c :: r)]) (v := wordAV (c :: r)) 0 ⟨H', h, rfl, rfl⟩ rfl H
    exact this
  have hlen : ∀ p, (frontLen p (c :: r) : Int) ≤ (r.length : Int) + 1 := fun p => by
    have := frontLen_le p (c :: r)
    simp only [List.length_cons] at this
    omega
  have hmin : ∀ p, min (frontLen p (c :: r)) (r.length + 1) = frontLen p (c :: r) := fun p => by
    have := frontLen_le p (c :: r)
    simp only [List.length_cons] at this
    omega
  have hfr : ∀ H, oWs 78 [.str (c :: r), .func (.func 79) [] []] H = some (.int .i64 (frontLen isInner (c :: r)), H) := fun H => by
    simp only [List.length_cons] at hs
    simp [oWs, oTab, oFront, oPure, hs]
  have hfd : ∀ H, oWs 78 [.str (c :: r), .func (.func 114) [] []] H = some (.int .i64 (frontLen isDigit (c :: r)), H) := fun H => by
    simp only [List.length_cons] at hs
    simp [oWs, oTab, oFront, oPure, hs]
  have h25 : ∀ H, oWs 77 [.int .u8 (c.toNat : Int)] H = some (.bool (isSmall c), H) := fun H => oBytes_25 c H
  have h34 : ∀ H, oWs 114 [.int .u8 (c.toNat : Int)] H = some (.bool (isDigit c), H) := fun H => oBytes_34 c H
  cases h1 : isSmall c
  · rw [h1] at h25
    cases h2 : isDigit c
    · rw [h2] at h34
      have h36 : ∀ H, oWs 118 [.str (c :: r)] H = some (.int .i64 (signLen (c :: r)), H) := fun H => by simp [oWs, oTab, oSign, oPure]
      refine key _ (word_sign oWs c r 0 h25 h34 h36 (by have := signLen_le (c :: r); simp only [List.length_cons] at this; omega)) ?_
      by_cases h0 : signLen (c :: r) = 0
      · simp [wordAV, wordOf, h1, h2, h0, tokAV]
      · simp [wordAV, wordOf, h1, h2, h0, tokAV]
    · rw [h2] at h34
      have hd : allDigits ((c :: r).take (frontLen isDigit (c :: r))) := fun b hb => by
        have := front_all isDigit (c :: r) b hb
        simpa [isDigit] using this
      have hne : (c :: r).take (frontLen isDigit (c :: r)) ≠ [] := fun h => by
        have h3 := frontLen_pos (s := r) h2
        rw [List.take_eq_nil_iff] at h
        rcases h with h | h
        · omega
        · cases h
      have hlt : ((c :: r).take (frontLen isDigit (c :: r))).length < maxS := Nat.lt_of_le_of_lt (List.length_take_le _ _) (by have := frontLen_le isDigit (c :: r); omega)
      have h35 : ∀ H, oWs 117 [.str ((c :: r).take (frontLen isDigit (c :: r))), .int .i64 10, .int .i64 64] H = some (parRes ((c :: r).take (frontLen isDigit (c :: r))), H) := fun H => by
        simp only [oWs, oTab, List.lookup]
        simp [oPar, oPure, digArgs_at hne hlt hd]
      unfold parRes at h35
      by_cases h3 : numOf ((c :: r).take (frontLen isDigit (c :: r))) < 9223372036854775808
      · rw [if_pos h3] at h35
        refine key _ (word_number oWs c r _ .nilIface false (by simp) 0 h25 h34 hfd h35 (hlen _) (hmin _)) ?_
        simp [wordAV, wordOf, h1, h2, h3, tokAV]
      · rw [if_neg h3] at h35
        refine key _ (word_number oWs c r _ _ true (by simp) 0 h25 h34 hfd h35 (hlen _) (hmin _)) ?_
        simp [wordAV, wordOf, h1, h2, h3, tokAV]
  · rw [h1] at h25
    have h14 : ∀ H, oWs 80 [.str ((c :: r).take (frontLen isInner (c :: r)))] H = some (.bool (isKey ((c :: r).take (frontLen isInner (c :: r)))), H) := fun H => by
      simp only [oWs, oTab, List.lookup]
      simp [oKeyF, callS]
    refine key _ (word_name oWs c r _ 0 h25 hfr h14 (hlen _) (hmin _)) ?_
    simp only [wordAV, wordOf, h1, tokAV]
    by_cases h2 : isKey ((c :: r).take (frontLen isInner (c :: r))) = true
    · by_cases h3 : 31 < frontLen isInner (c :: r)
      · simp [h2, h3]
      · simp [h2, h3]
    · by_cases h3 : 31 < frontLen isInner (c :: r)
      · simp [h2, h3]
      · simp [h2, h3]

def oWord : Orc := oPure 87 (fun args => match args with
    | [.str (c :: r)] => if (c :: r).length < maxS then some (c, r) else none
    | _ => none) fun x => wordAV (x.1 :: x.2)
theorem oWord_sound : Sound Tryz.prog envT oWord := oPure_sound fun args x H h => by
  split at h
  · split at h
    · rename_i hs
      injection h with h
      subst h
      exact word_cs _ _ hs H
    · cases h
  · cases h
end Go.Proofs.YtpmonaempgjgbaaGreatDoor
