/- The reference's Toks tells the same words. -/
import Derived.Test.YtejjlojfgcgopaaGreatDoorTrC
import Derived.Test.YtejjlojfgcgopaaGreatDoorTkM
set_option linter.unusedSimpArgs false
set_option linter.unusedVariables false
namespace Go.Proofs.YtejjlojfgcgopaaGreatDoor
open Go.RowKit Go.Proofs.Fw
set_option maxRecDepth 100000
set_option maxHeartbeats 4000000
-- 

noncomputable def c10 : Code := bodyOf Tryz.f20
noncomputable def tail10 : Code := tailC 3 c10
noncomputable def for10 : Code := fstC tail10
noncomputable def end10 : Code := sndC tail10
noncomputable def body10 : Code := inC (inC for10)
noncomputable def F10 : Func := Tryz.f20

/-- A Wrong of one part, as At tells it. -/
def atAV (w : List UInt8) (p e : Nat) : AV := .agg [.slice .full 2 1 [.str w, .int .i64 p], .int .i64 e]
def noneAV : AV := .agg [.nilSlice, .int .i64 0]
def toksAV : Except (Nat × Nat) (List Wd) → AV
  | .ok l => .tup [wdsAV l, noneAV]
  | .error (p, e) => .tup [.nilSlice, atAV wordTxt p e]

def outR (l : List Wd) : AV := if l = [] then .nilSlice else .slice (.tok 1) 4 l.length (wdsCells l)
def resB : Ent := .box [.nilSlice, .int .i64 0]
def HR (l : List Wd) : AH := if l = [] then [some resB] else [some resB, some (.tok l.length)]
theorem HR_cases (l : List Wd) : (l = [] ∧ HR l = [some resB]) ∨ (l ≠ [] ∧ HR l = [some resB, some (.tok l.length)]) := by
  unfold HR
  by_cases h : l = []
  · exact .inl ⟨h, if_pos h⟩
  · exact .inr ⟨h, if_neg h⟩

theorem app10 (l : List Wd) (w : Wd) (fid : Nat) (H : AH) (hl : l.length < 137438953470) (h1 : l = [] → fid = 1) (h2 : l ≠ [] → H.at 1 = some (.tok l.length)) :
    aappend Tryz.prog H fid 54 54 (outR l) (.slice .full 4 1 [.int .i64 w.kind, .str w.text, .int .i64 w.at_, .int .i64 w.n]) = some (outR (l ++ [w]), [(1, .tok (l.length + 1))]) := by
  by_cases h : l = []
  · subst h
    rw [h1 rfl]
    simp only [outR, if_true]
    rw [aappend_nil Ty.ec54 (by omega) (by omega) (by simp [AV.one])]
    simp [wdsCells, wdCells]
  · have hne : l ++ [w] ≠ [] := by simp
    simp only [outR, if_neg h, if_neg hne]
    rw [aappend_tok Ty.ec54 (h2 h) (by omega) (by omega) (by simp [AV.one])]
    simp [wdsCells, wdCells]

theorem bsR (a : Int) (b : List UInt8) (c d : Int) : abuildSlice Tryz.prog 54 1 [(0, .agg [.int .i64 a, .str b, .int .i64 c, .int .i64 d])] = some (.slice .full 4 1 [.int .i64 a, .str b, .int .i64 c, .int .i64 d]) := by kernel_rfl
theorem buR (a : Int) (b : List UInt8) (c d : Int) : abuild Tryz.prog 144 [(0, .int .i64 a), (1, .str b), (2, .int .i64 c), (3, .int .i64 d)] = some (.agg [.int .i64 a, .str b, .int .i64 c, .int .i64 d]) := by kernel_rfl
theorem buW : abuild Tryz.prog 57 [] = some (.agg [.nilSlice, .int .i64 0]) := by kernel_rfl

/-- The state at the loop's head. -/
def tR (s : List UInt8) (l : List Wd) (i : Nat) : List AV := mkT 139 [(0, .str s), (3, .ptr 0 0), (4, outR l), (5, .int .i64 i)]

theorem outR_low (l : List Wd) (m : Nat) (h : l = [] ∨ 1 < m) : low m (outR l) = true := by
  unfold outR
  split
  · rfl
  · rename_i hn
    have : 1 < m := by rcases h with h | h; exact absurd h hn; exact h
    simp [this, lowL_mono (Nat.zero_le m) _ (wdsCells_low l)]

/-- Behind an append. -/
theorem less10 {B : Bs} (hB : B.H = []) {s : List UInt8} {l : List Wd} {i : Nat} {a : List (Nat × AV)} {H : AH} (h0 : (a.lookup 0).getD .undef = .str s) (h3 : (a.lookup 3).getD .undef = .ptr 0 0) (h4 : (a.lookup 4).getD .undef = outR l) (h5 : (a.lookup 5).getD .undef = .int .i64 i)
    (hH : H.take (HR l).length = HR l) : Less B (mkT 139 a) H (tR s l i) (HR l) := by
  refine Less.mkT (HR l).length (by simp [hB]) ?_ hH ?_
  · intro p hp
    simp only [List.mem_cons, List.not_mem_nil, or_false] at hp
    rcases hp with rfl | rfl | rfl | rfl
    · exact .same h0 rfl
    · refine .same h3 ?_
      rcases HR_cases l with ⟨_, h⟩ | ⟨_, h⟩ <;> simp [h]
    · refine .same h4 (outR_low l _ ?_)
      rcases HR_cases l with ⟨h, _⟩ | ⟨_, h⟩
      · exact .inl h
      · exact .inr (by rw [h]; simp)
    · exact .same h5 rfl
  · rcases HR_cases l with ⟨_, h⟩ | ⟨_, h⟩ <;> simp [h, resB]

def oRkey : Orc := oPure 63 (fun args => match args with
    | [.str s] => some s
    | _ => none) fun s => .bool (isKey s)
theorem oRkey_sound : Sound Tryz.prog envT oRkey := oPure_sound fun args x H h => by
  split at h
  · injection h with h
    subst h
    exact rkey_cs _ H
  · cases h
def oRsign : Orc := oPure 66 (fun args => match args with
    | [.str s, .int .i64 n] => if 0 ≤ n ∧ n.toNat < s.length ∧ s.length < maxS then some (s, n.toNat) else none
    | _ => none) fun x => .int .i64 (signLen (x.1.drop x.2))
theorem oRsign_sound : Sound Tryz.prog envT oRsign := oPure_sound fun args x H h => by
  split at h
  · split at h
    · rename_i s n hn
      injection h with h
      subst h
      have := rsign_cs s n.toNat hn.2.1 hn.2.2 H
      rwa [Int.toNat_of_nonneg hn.1] at this
    · cases h
  · cases h
def oRnum : Orc := oPure 65 (fun args => match args with
    | [.str s] => if s.length < maxS ∧ s.all (fun b => decide (48 ≤ b.toNat) && decide (b.toNat ≤ 57)) = true then some s else none
    | _ => none) numRes
theorem oRnum_sound : Sound Tryz.prog envT oRnum := oPure_sound fun args x H h => by
  split at h
  · split at h
    · rename_i s hn
      injection h with h
      subst h
      exact rnum_cs s (fun b hb => by simpa using List.all_eq_true.1 hn.2 b hb) hn.1 H
    · cases h
  · cases h
def oRat : Orc := oPure 24 (fun args => match args with
    | [.str w, .int .i64 p, .int .i64 e] => some (w, p, e)
    | _ => none) fun x => .agg [.slice .full 2 1 [.str x.1, .int .i64 x.2.1], .int .i64 x.2.2]
theorem oRat_sound : Sound Tryz.prog envT oRat := oPure_sound fun args x H h => by
  split at h
  · injection h with h
    subst h
    exact rat_cs _ _ _ H
  · cases h
def oR : Orc := oTab [(61, oRb), (64, oRb), (62, callB 62 isInner), (63, oRkey), (66, oRsign), (65, oRnum), (24, oRat)]
theorem oR_sound : Sound Tryz.prog envT oR := oTab_sound fun p hp => by
  simp only [List.mem_cons, List.not_mem_nil, or_false] at hp
  rcases hp with rfl | rfl | rfl | rfl | rfl | rfl | rfl
  · exact oRb_sound
  · exact oRb_sound
  · exact callB_sound rbehind_cs
  · exact oRkey_sound
  · exact oRsign_sound
  · exact oRnum_sound
  · exact oRat_sound
theorem oR_cx : Cx oR Tryz.prog envT := ⟨oR_sound, methT, mixed⟩
theorem oR_l (b : UInt8) (H : AH) : oR 61 [.int .u8 (b.toNat : Int)] H = some (.bool (isSmall b), H) := by simp [oR, oTab, oRb_l]
theorem oR_d (b : UInt8) (H : AH) : oR 64 [.int .u8 (b.toNat : Int)] H = some (.bool (isDigit b), H) := by simp [oR, oTab, oRb_d]
theorem oR_b (b : UInt8) (H : AH) : oR 62 [.int .u8 (b.toNat : Int)] H = some (.bool (isInner b), H) := by simp [oR, oTab, callB_at]
theorem oR_k (s : List UInt8) (H : AH) : oR 63 [.str s] H = some (.bool (isKey s), H) := by simp [oR, oTab, oRkey, oPure]
theorem oR_at (w : List UInt8) (p e : Int) (H : AH) : oR 24 [.str w, .int .i64 p, .int .i64 e] H = some (.agg [.slice .full 2 1 [.str w, .int .i64 p], .int .i64 e], H) := by simp [oR, oTab, oRat, oPure]
theorem oR_s (s : List UInt8) (n : Nat) (H : AH) (h : n < s.length) (hs : s.length < maxS) : oR 66 [.str s, .int .i64 n] H = some (.int .i64 (signLen (s.drop n)), H) := by
  simp [oR, oTab, oRsign, oPure, h, hs]
theorem oR_n (s : List UInt8) (H : AH) (h : allDigits s) (hs : s.length < maxS) : oR 65 [.str s] H = some (numRes s, H) := by
  have : s.all (fun b => decide (48 ≤ b.toNat) && decide (b.toNat ≤ 57)) = true := List.all_eq_true.2 fun b hb => by simpa using h b hb
  simp only [oR, oTab, List.lookup]
  simp [oRnum, oPure, hs]
  exact h

def ScanI (s : List UInt8) (l : List Wd) (i F : Nat) (H : AH) (k : Nat) (t : List AV) (H' : AH) : Prop :=
  ∃ m, m + k = F ∧ t = mkT 139 [(0, .str s), (3, .ptr 0 0), (4, outR l), (5, .int .i64 ((i + m : Nat) : Int)), (6, .int .i64 ((i : Nat) : Int))] ∧ H' = H

theorem lessScan {B : Bs} (hB : B.H = []) {s : List UInt8} {l : List Wd} {i j : Nat} {a : List (Nat × AV)} {H : AH} (hH : H = HR l) (h0 : (a.lookup 0).getD .undef = .str s) (h3 : (a.lookup 3).getD .undef = .ptr 0 0) (h4 : (a.lookup 4).getD .undef = outR l)
    (h5 : (a.lookup 5).getD .undef = .int .i64 ((j : Nat) : Int)) (h6 : (a.lookup 6).getD .undef = .int .i64 ((i : Nat) : Int)) :
    Less B (mkT 139 a) H (mkT 139 [(0, .str s), (3, .ptr 0 0), (4, outR l), (5, .int .i64 ((j : Nat) : Int)), (6, .int .i64 ((i : Nat) : Int))]) H := by
  subst hH
  refine Less.mkT (HR l).length (by simp [hB]) ?_ (by simp) ?_
  · intro p hp
    simp only [List.mem_cons, List.not_mem_nil, or_false] at hp
    rcases hp with rfl | rfl | rfl | rfl | rfl
    · exact .same h0 rfl
    · refine .same h3 ?_
      rcases HR_cases l with ⟨_, h⟩ | ⟨_, h⟩ <;> simp [h]
    · refine .same h4 (outR_low l _ ?_)
      rcases HR_cases l with ⟨h, _⟩ | ⟨_, h⟩
      · exact .inl h
      · exact .inr (by rw [h]; simp)
    · exact .same h5 rfl
    · exact .same h6 rfl
  · rcases HR_cases l with ⟨_, h⟩ | ⟨_, h⟩ <;> simp [h, resB]

/-- What a scan finds. -/
theorem scanIn (p : UInt8 → Bool) (s : List UInt8) (i m : Nat) (h : m < frontLen p (s.drop i)) : ∃ h : i + m < s.length, p s[i + m] = true := by
  obtain ⟨h1, h2⟩ := frontLen_in p (s.drop i) m h
  rw [List.length_drop] at h1
  exact ⟨by omega, by simpa [List.getElem_drop] using h2⟩
theorem scan_out (p : UInt8 → Bool) (s : List UInt8) (i : Nat) (h : i + frontLen p (s.drop i) < s.length) : p s[i + frontLen p (s.drop i)] = false := by
  have := frontLen_out p (s.drop i) (by rw [List.length_drop]; omega)
  simpa [List.getElem_drop] using this
theorem scan_le (p : UInt8 → Bool) (s : List UInt8) (i : Nat) (hi : i ≤ s.length) : i + frontLen p (s.drop i) ≤ s.length := by
  have := frontLen_le p (s.drop i)
  rw [List.length_drop] at this
  omega
theorem take_drop_eq (s : List UInt8) (i F : Nat) : (s.take (i + F)).drop i = (s.drop i).take F := by
  rw [List.drop_take]
  congr 1
  omega

theorem toks_letter (B : Bs) (hB : B.H = []) (hG : GlobOk envT B.g) (s : List UInt8) (l : List Wd) (i m : Nat) (hi : i < s.length) (hs : s.length < 137438953470) (hll : l.length ≤ i)
    (hb1 : ¬ (s[i].toNat : Int) = 32) (hb2 : ¬ (s[i].toNat : Int) = 9) (hsm : isSmall s[i] = true) (hF : m = frontLen isInner (s.drop i)) (Q : AEx → List AV → AH → Prop) (K : Nat) (hK : K = if isKey ((s.drop i).take m) then 4 else 1)
    (hN : m ≤ 31 → ∀ t H, Less B t H (tR s (l ++ [⟨K, (s.drop i).take m, i, 0⟩]) (i + m)) (HR (l ++ [⟨K, (s.drop i).take m, i, 0⟩])) → Q .normal t H)
    (hE : 31 < m → ∀ t H, Fin Tryz.prog F10 0 1 (toksAV (.error (i, 4))) [] .ret t H → Q .ret t H) :
    Go oR Tryz.prog envT (LpT Tryz.prog B) body10 [] (tR s l i) (HR l) Q := by
  have hle : i + m ≤ s.length := by rw [hF]; exact scan_le isInner s i (by omega)
  have hi' : (i : Int) < s.length := by omega
  have e1 : ((i : Int) + (m : Int)).toNat = i + m := by omega
  have e2 : (i : Int) + (m : Int) ≤ s.length := by omega
  have e3 : (0 : Int) ≤ (i : Int) + (m : Int) := by omega
  have e4 : (i : Int) ≤ (i : Int) + (m : Int) := by omega
  have e5 : IntKind.i64.wrap (m : Int) = (m : Int) := wrap_i64 (by omega) (by omega)
  have e7 : (i : Int) + (m : Int) - (i : Int) = (m : Int) := by omega
  have e8 : IntKind.i64.wrap ((i : Int) + (m : Int)) = (i : Int) + (m : Int) := wrap_i64 (by omega) (by omega)
  rcases HR_cases l with ⟨hl, hH⟩ | ⟨hl, hH⟩
  · rw [hH]
    have happ := fun H => app10 l ⟨K, (s.drop i).take m, i, 0⟩ 1 H (by omega) (fun _ => rfl) (fun h => absurd hl h)
    simp [body10, for10, tail10, c10, Tryz.f20, tR, hi, hi', hb1, hb2, oR_l, hsm]
    refine LpT.loop oR_cx hG (by kernel_rfl) (ScanI s l i m _) m (lessScan (j := i + 0) hB hH.symm (by simp) (by simp) (by simp) (by simp) (by simp)) ⟨0, by omega, rfl, rfl⟩ ?_
    rintro k t H ⟨d, hd, rfl, rfl⟩
    cases k with
    | succ k =>
      obtain ⟨h1, h2⟩ := scanIn isInner s i d (by omega)
      have f1 : (i : Int) + (d : Int) < s.length := by omega
      have f2 : ((i : Int) + (d : Int)).toNat = i + d := by omega
      have f3 : (0 : Int) ≤ (i : Int) + (d : Int) := by omega
      have f4 : IntKind.i64.wrap ((i : Int) + (d : Int) + 1) = (i : Int) + (d : Int) + 1 := wrap_i64 (by omega) (by omega)
      simp [f1, f2, f3, f4, h1, oR_b, oR_d, h2]
      refine ⟨k, by omega, _, _, lessScan (j := i + (d + 1)) hB hH.symm (by simp) (by simp) (by simp) (by simp; omega) (by simp), d + 1, by omega, rfl, rfl⟩
    | zero =>
      obtain rfl : d = m := by omega
      by_cases h1 : i + d < s.length
      · have h2 : isInner s[i + d] = false := by
          have := scan_out isInner s i (by rw [← hF]; exact h1)
          simpa only [← hF] using this
        have f1 : (i : Int) + (d : Int) < s.length := by omega
        by_cases h31 : 31 < d
        · have f5 : (31 : Int) < (d : Int) := by omega
          by_cases hk : isKey ((s.drop i).take d) = true
          · simp only [hk, if_true, if_false, Bool.false_eq_true] at hK
            subst hK
            simp at happ
            simp [f1, f5, hk, e1, e2, e3, e4, e5, e7, e8, oR_b, take_drop_eq, oR_k, oR_at, h1, h2, resB]
            refine hE (by omega) _ _ ?_
            rw [Fin_ret]
            simp [F10, Tryz.f20, toksAV, atAV, wordTxt, resB]
          · simp only [hk, if_true, if_false, Bool.false_eq_true] at hK
            subst hK
            simp at happ
            simp [f1, f5, hk, e1, e2, e3, e4, e5, e7, e8, oR_b, take_drop_eq, oR_k, oR_at, h1, h2, resB]
            refine hE (by omega) _ _ ?_
            rw [Fin_ret]
            simp [F10, Tryz.f20, toksAV, atAV, wordTxt, resB]
        · have f5 : ¬ (31 : Int) < (d : Int) := by omega
          by_cases hk : isKey ((s.drop i).take d) = true
          · simp only [hk, if_true, if_false, Bool.false_eq_true] at hK
            subst hK
            simp at happ
            simp [f1, f5, hk, e1, e2, e3, e4, e5, e7, e8, oR_b, take_drop_eq, oR_k, oR_at, h1, h2, buR, bsR, happ]
            refine hN (by omega) _ _ (less10 hB ?_ ?_ ?_ ?_ ?_)
            · simp
            · simp
            · simp
            · simp
            · simp [HR, hl]
          · simp only [hk, if_true, if_false, Bool.false_eq_true] at hK
            subst hK
            simp at happ
            simp [f1, f5, hk, e1, e2, e3, e4, e5, e7, e8, oR_b, take_drop_eq, oR_k, oR_at, h1, h2, buR, bsR, happ]
            refine hN (by omega) _ _ (less10 hB ?_ ?_ ?_ ?_ ?_)
            · simp
            · simp
            · simp
            · simp
            · simp [HR, hl]
      · have f1 : ¬ (i : Int) + (d : Int) < s.length := by omega
        by_cases h31 : 31 < d
        · have f5 : (31 : Int) < (d : Int) := by omega
          by_cases hk : isKey ((s.drop i).take d) = true
          · simp only [hk, if_true, if_false, Bool.false_eq_true] at hK
            subst hK
            simp at happ
            simp [f1, f5, hk, e1, e2, e3, e4, e5, e7, e8, oR_b, take_drop_eq, oR_k, oR_at, resB]
            refine hE (by omega) _ _ ?_
            rw [Fin_ret]
            simp [F10, Tryz.f20, toksAV, atAV, wordTxt, resB]
          · simp only [hk, if_true, if_false, Bool.false_eq_true] at hK
            subst hK
            simp at happ
            simp [f1, f5, hk, e1, e2, e3, e4, e5, e7, e8, oR_b, take_drop_eq, oR_k, oR_at, resB]
            refine hE (by omega) _ _ ?_
            rw [Fin_ret]
            simp [F10, Tryz.f20, toksAV, atAV, wordTxt, resB]
        · have f5 : ¬ (31 : Int) < (d : Int) := by omega
          by_cases hk : isKey ((s.drop i).take d) = true
          · simp only [hk, if_true, if_false, Bool.false_eq_true] at hK
            subst hK
            simp at happ
            simp [f1, f5, hk, e1, e2, e3, e4, e5, e7, e8, oR_b, take_drop_eq, oR_k, oR_at, buR, bsR, happ]
            refine hN (by omega) _ _ (less10 hB ?_ ?_ ?_ ?_ ?_)
            · simp
            · simp
            · simp
            · simp
            · simp [HR, hl]
          · simp only [hk, if_true, if_false, Bool.false_eq_true] at hK
            subst hK
            simp at happ
            simp [f1, f5, hk, e1, e2, e3, e4, e5, e7, e8, oR_b, take_drop_eq, oR_k, oR_at, buR, bsR, happ]
            refine hN (by omega) _ _ (less10 hB ?_ ?_ ?_ ?_ ?_)
            · simp
            · simp
            · simp
            · simp
            · simp [HR, hl]
  · rw [hH]
    have happ := fun fid => app10 l ⟨K, (s.drop i).take m, i, 0⟩ fid [some resB, some (.tok l.length), none] (by omega) (fun h => absurd h hl) (fun _ => by simp)
    simp [body10, for10, tail10, c10, Tryz.f20, tR, hi, hi', hb1, hb2, oR_l, hsm]
    refine LpT.loop oR_cx hG (by kernel_rfl) (ScanI s l i m _) m (lessScan (j := i + 0) hB hH.symm (by simp) (by simp) (by simp) (by simp) (by simp)) ⟨0, by omega, rfl, rfl⟩ ?_
    rintro k t H ⟨d, hd, rfl, rfl⟩
    cases k with
    | succ k =>
      obtain ⟨h1, h2⟩ := scanIn isInner s i d (by omega)
      have f1 : (i : Int) + (d : Int) < s.length := by omega
      have f2 : ((i : Int) + (d : Int)).toNat = i + d := by omega
      have f3 : (0 : Int) ≤ (i : Int) + (d : Int) := by omega
      have f4 : IntKind.i64.wrap ((i : Int) + (d : Int) + 1) = (i : Int) + (d : Int) + 1 := wrap_i64 (by omega) (by omega)
      simp [f1, f2, f3, f4, h1, oR_b, oR_d, h2]
      refine ⟨k, by omega, _, _, lessScan (j := i + (d + 1)) hB hH.symm (by simp) (by simp) (by simp) (by simp; omega) (by simp), d + 1, by omega, rfl, rfl⟩
    | zero =>
      obtain rfl : d = m := by omega
      by_cases h1 : i + d < s.length
      · have h2 : isInner s[i + d] = false := by
          have := scan_out isInner s i (by rw [← hF]; exact h1)
          simpa only [← hF] using this
        have f1 : (i : Int) + (d : Int) < s.length := by omega
        by_cases h31 : 31 < d
        · have f5 : (31 : Int) < (d : Int) := by omega
          by_cases hk : isKey ((s.drop i).take d) = true
          · simp only [hk, if_true, if_false, Bool.false_eq_true] at hK
            subst hK
            simp at happ
            simp [f1, f5, hk, e1, e2, e3, e4, e5, e7, e8, oR_b, take_drop_eq, oR_k, oR_at, h1, h2, resB]
            refine hE (by omega) _ _ ?_
            rw [Fin_ret]
            simp [F10, Tryz.f20, toksAV, atAV, wordTxt, resB]
          · simp only [hk, if_true, if_false, Bool.false_eq_true] at hK
            subst hK
            simp at happ
            simp [f1, f5, hk, e1, e2, e3, e4, e5, e7, e8, oR_b, take_drop_eq, oR_k, oR_at, h1, h2, resB]
            refine hE (by omega) _ _ ?_
            rw [Fin_ret]
            simp [F10, Tryz.f20, toksAV, atAV, wordTxt, resB]
        · have f5 : ¬ (31 : Int) < (d : Int) := by omega
          by_cases hk : isKey ((s.drop i).take d) = true
          · simp only [hk, if_true, if_false, Bool.false_eq_true] at hK
            subst hK
            simp at happ
            simp [f1, f5, hk, e1, e2, e3, e4, e5, e7, e8, oR_b, take_drop_eq, oR_k, oR_at, h1, h2, buR, bsR, happ]
            refine hN (by omega) _ _ (less10 hB ?_ ?_ ?_ ?_ ?_)
            · simp
            · simp
            · simp
            · simp
            · simp [HR, hl]
          · simp only [hk, if_true, if_false, Bool.false_eq_true] at hK
            subst hK
            simp at happ
            simp [f1, f5, hk, e1, e2, e3, e4, e5, e7, e8, oR_b, take_drop_eq, oR_k, oR_at, h1, h2, buR, bsR, happ]
            refine hN (by omega) _ _ (less10 hB ?_ ?_ ?_ ?_ ?_)
            · simp
            · simp
            · simp
            · simp
            · simp [HR, hl]
      · have f1 : ¬ (i : Int) + (d : Int) < s.length := by omega
        by_cases h31 : 31 < d
        · have f5 : (31 : Int) < (d : Int) := by omega
          by_cases hk : isKey ((s.drop i).take d) = true
          · simp only [hk, if_true, if_false, Bool.false_eq_true] at hK
            subst hK
            simp at happ
            simp [f1, f5, hk, e1, e2, e3, e4, e5, e7, e8, oR_b, take_drop_eq, oR_k, oR_at, resB]
            refine hE (by omega) _ _ ?_
            rw [Fin_ret]
            simp [F10, Tryz.f20, toksAV, atAV, wordTxt, resB]
          · simp only [hk, if_true, if_false, Bool.false_eq_true] at hK
            subst hK
            simp at happ
            simp [f1, f5, hk, e1, e2, e3, e4, e5, e7, e8, oR_b, take_drop_eq, oR_k, oR_at, resB]
            refine hE (by omega) _ _ ?_
            rw [Fin_ret]
            simp [F10, Tryz.f20, toksAV, atAV, wordTxt, resB]
        · have f5 : ¬ (31 : Int) < (d : Int) := by omega
          by_cases hk : isKey ((s.drop i).take d) = true
          · simp only [hk, if_true, if_false, Bool.false_eq_true] at hK
            subst hK
            simp at happ
            simp [f1, f5, hk, e1, e2, e3, e4, e5, e7, e8, oR_b, take_drop_eq, oR_k, oR_at, buR, bsR, happ]
            refine hN (by omega) _ _ (less10 hB ?_ ?_ ?_ ?_ ?_)
            · simp
            · simp
            · simp
            · simp
            · simp [HR, hl]
          · simp only [hk, if_true, if_false, Bool.false_eq_true] at hK
            subst hK
            simp at happ
            simp [f1, f5, hk, e1, e2, e3, e4, e5, e7, e8, oR_b, take_drop_eq, oR_k, oR_at, buR, bsR, happ]
            refine hN (by omega) _ _ (less10 hB ?_ ?_ ?_ ?_ ?_)
            · simp
            · simp
            · simp
            · simp
            · simp [HR, hl]

theorem toks_digit (B : Bs) (hB : B.H = []) (hG : GlobOk envT B.g) (s : List UInt8) (l : List Wd) (i m : Nat) (hi : i < s.length) (hs : s.length < 137438953470) (hll : l.length ≤ i)
    (hb1 : ¬ (s[i].toNat : Int) = 32) (hb2 : ¬ (s[i].toNat : Int) = 9) (hsm : isSmall s[i] = false) (hdg : isDigit s[i] = true) (hF : m = frontLen isDigit (s.drop i)) (Q : AEx → List AV → AH → Prop)
    (hN : numOf ((s.drop i).take m) < 9223372036854775808 → (∀ h : i + m < s.length, isSmall s[i + m] = false) → ∀ t H, Less B t H (tR s (l ++ [⟨2, (s.drop i).take m, i, numOf ((s.drop i).take m)⟩]) (i + m)) (HR (l ++ [⟨2, (s.drop i).take m, i, numOf ((s.drop i).take m)⟩])) → Q .normal t H)
    (hE : ¬ numOf ((s.drop i).take m) < 9223372036854775808 → ∀ t H, Fin Tryz.prog F10 0 1 (toksAV (.error (i, 5))) [] .ret t H → Q .ret t H)
    (hE2 : numOf ((s.drop i).take m) < 9223372036854775808 → (∃ h : i + m < s.length, isSmall s[i + m] = true) → ∀ t H, Fin Tryz.prog F10 0 1 (toksAV (.error (i + m, 3))) [] .ret t H → Q .ret t H) :
    Go oR Tryz.prog envT (LpT Tryz.prog B) body10 [] (tR s l i) (HR l) Q := by
  have hle : i + m ≤ s.length := by rw [hF]; exact scan_le isDigit s i (by omega)
  have hi' : (i : Int) < s.length := by omega
  have e1 : ((i : Int) + (m : Int)).toNat = i + m := by omega
  have e2 : (i : Int) + (m : Int) ≤ s.length := by omega
  have e3 : (0 : Int) ≤ (i : Int) + (m : Int) := by omega
  have e4 : (i : Int) ≤ (i : Int) + (m : Int) := by omega
  have e5 : IntKind.i64.wrap (m : Int) = (m : Int) := wrap_i64 (by omega) (by omega)
  have e7 : (i : Int) + (m : Int) - (i : Int) = (m : Int) := by omega
  have e8 : IntKind.i64.wrap ((i : Int) + (m : Int)) = (i : Int) + (m : Int) := wrap_i64 (by omega) (by omega)
  have hall : allDigits ((s.drop i).take m) := fun b hb => by
    have := front_all isDigit (s.drop i) b (by rw [← hF]; exact hb)
    simpa [isDigit] using this
  have hlt : ((s.drop i).take m).length < maxS := by
    rw [maxS_eq, List.length_take, List.length_drop]
    omega
  have hn := fun H => oR_n ((s.drop i).take m) H hall hlt
  unfold numRes at hn
  rcases HR_cases l with ⟨hl, hH⟩ | ⟨hl, hH⟩
  · rw [hH]
    have happ := fun H => app10 l ⟨2, (s.drop i).take m, i, numOf ((s.drop i).take m)⟩ 1 H (by omega) (fun _ => rfl) (fun h => absurd hl h)
    simp at happ
    simp [body10, for10, tail10, c10, Tryz.f20, tR, hi, hi', hb1, hb2, oR_l, oR_d, hsm, hdg]
    refine LpT.loop oR_cx hG (by kernel_rfl) (ScanI s l i m _) m (lessScan (j := i + 0) hB hH.symm (by simp) (by simp) (by simp) (by simp) (by simp)) ⟨0, by omega, rfl, rfl⟩ ?_
    rintro k t H ⟨d, hd, rfl, rfl⟩
    cases k with
    | succ k =>
      obtain ⟨h1, h2⟩ := scanIn isDigit s i d (by omega)
      have f1 : (i : Int) + (d : Int) < s.length := by omega
      have f2 : ((i : Int) + (d : Int)).toNat = i + d := by omega
      have f3 : (0 : Int) ≤ (i : Int) + (d : Int) := by omega
      have f4 : IntKind.i64.wrap ((i : Int) + (d : Int) + 1) = (i : Int) + (d : Int) + 1 := wrap_i64 (by omega) (by omega)
      simp [f1, f2, f3, f4, h1, oR_b, oR_d, h2]
      refine ⟨k, by omega, _, _, lessScan (j := i + (d + 1)) hB hH.symm (by simp) (by simp) (by simp) (by simp; omega) (by simp), d + 1, by omega, rfl, rfl⟩
    | zero =>
      obtain rfl : d = m := by omega
      generalize hT : (s.drop i).take d = T at hn happ hN hE hE2
      have hT2 : (s.take (i + d)).drop i = T := by rw [take_drop_eq]; exact hT
      generalize numOf T = N at hn happ hN hE hE2
      by_cases h1 : i + d < s.length
      · have h2 : isDigit s[i + d] = false := by
          have := scan_out isDigit s i (by rw [← hF]; exact h1)
          simpa only [← hF] using this
        have f1 : (i : Int) + (d : Int) < s.length := by omega
        by_cases hov : N < 9223372036854775808
        · rw [if_pos hov] at hn
          cases h3 : isSmall s[i + d]
          · simp [f1, e1, e2, e3, e4, e5, e7, e8, oR_b, oR_d, oR_l, hT2, oR_at, hn, h1, h2, h3, buR, bsR, happ]
            refine hN hov (fun _ => h3) _ _ (less10 hB ?_ ?_ ?_ ?_ ?_)
            · simp
            · simp
            · simp
            · simp
            · simp [HR, hl]
          · simp [f1, e1, e2, e3, e4, e5, e7, e8, oR_b, oR_d, oR_l, hT2, oR_at, hn, h1, h2, h3, resB]
            refine hE2 hov ⟨h1, h3⟩ _ _ ?_
            rw [Fin_ret]
            simp [F10, Tryz.f20, toksAV, atAV, wordTxt, resB]
        · rw [if_neg hov] at hn
          simp [f1, e1, e2, e3, e4, e5, e7, e8, oR_b, oR_d, oR_l, hT2, oR_at, hn, h1, h2, resB]
          refine hE hov _ _ ?_
          rw [Fin_ret]
          simp [F10, Tryz.f20, toksAV, atAV, wordTxt, resB]
      · have f1 : ¬ (i : Int) + (d : Int) < s.length := by omega
        by_cases hov : N < 9223372036854775808
        · rw [if_pos hov] at hn
          simp [f1, e1, e2, e3, e4, e5, e7, e8, oR_b, oR_d, oR_l, hT2, oR_at, hn, buR, bsR, happ]
          refine hN hov (fun h => absurd h h1) _ _ (less10 hB ?_ ?_ ?_ ?_ ?_)
          · simp
          · simp
          · simp
          · simp
          · simp [HR, hl]
        · rw [if_neg hov] at hn
          simp [f1, e1, e2, e3, e4, e5, e7, e8, oR_b, oR_d, oR_l, hT2, oR_at, hn, resB]
          refine hE hov _ _ ?_
          rw [Fin_ret]
          simp [F10, Tryz.f20, toksAV, atAV, wordTxt, resB]
  · rw [hH]
    have happ := fun fid => app10 l ⟨2, (s.drop i).take m, i, numOf ((s.drop i).take m)⟩ fid [some resB, some (.tok l.length), none] (by omega) (fun h => absurd h hl) (fun _ => by simp)
    simp at happ
    simp [body10, for10, tail10, c10, Tryz.f20, tR, hi, hi', hb1, hb2, oR_l, oR_d, hsm, hdg]
    refine LpT.loop oR_cx hG (by kernel_rfl) (ScanI s l i m _) m (lessScan (j := i + 0) hB hH.symm (by simp) (by simp) (by simp) (by simp) (by simp)) ⟨0, by omega, rfl, rfl⟩ ?_
    rintro k t H ⟨d, hd, rfl, rfl⟩
    cases k with
    | succ k =>
      obtain ⟨h1, h2⟩ := scanIn isDigit s i d (by omega)
      have f1 : (i : Int) + (d : Int) < s.length := by omega
      have f2 : ((i : Int) + (d : Int)).toNat = i + d := by omega
      have f3 : (0 : Int) ≤ (i : Int) + (d : Int) := by omega
      have f4 : IntKind.i64.wrap ((i : Int) + (d : Int) + 1) = (i : Int) + (d : Int) + 1 := wrap_i64 (by omega) (by omega)
      simp [f1, f2, f3, f4, h1, oR_b, oR_d, h2]
      refine ⟨k, by omega, _, _, lessScan (j := i + (d + 1)) hB hH.symm (by simp) (by simp) (by simp) (by simp; omega) (by simp), d + 1, by omega, rfl, rfl⟩
    | zero =>
      obtain rfl : d = m := by omega
      generalize hT : (s.drop i).take d = T at hn happ hN hE hE2
      have hT2 : (s.take (i + d)).drop i = T := by rw [take_drop_eq]; exact hT
      generalize numOf T = N at hn happ hN hE hE2
      by_cases h1 : i + d < s.length
      · have h2 : isDigit s[i + d] = false := by
          have := scan_out isDigit s i (by rw [← hF]; exact h1)
          simpa only [← hF] using this
        have f1 : (i : Int) + (d : Int) < s.length := by omega
        by_cases hov : N < 9223372036854775808
        · rw [if_pos hov] at hn
          cases h3 : isSmall s[i + d]
          · simp [f1, e1, e2, e3, e4, e5, e7, e8, oR_b, oR_d, oR_l, hT2, oR_at, hn, h1, h2, h3, buR, bsR, happ]
            refine hN hov (fun _ => h3) _ _ (less10 hB ?_ ?_ ?_ ?_ ?_)
            · simp
            · simp
            · simp
            · simp
            · simp [HR, hl]
          · simp [f1, e1, e2, e3, e4, e5, e7, e8, oR_b, oR_d, oR_l, hT2, oR_at, hn, h1, h2, h3, resB]
            refine hE2 hov ⟨h1, h3⟩ _ _ ?_
            rw [Fin_ret]
            simp [F10, Tryz.f20, toksAV, atAV, wordTxt, resB]
        · rw [if_neg hov] at hn
          simp [f1, e1, e2, e3, e4, e5, e7, e8, oR_b, oR_d, oR_l, hT2, oR_at, hn, h1, h2, resB]
          refine hE hov _ _ ?_
          rw [Fin_ret]
          simp [F10, Tryz.f20, toksAV, atAV, wordTxt, resB]
      · have f1 : ¬ (i : Int) + (d : Int) < s.length := by omega
        by_cases hov : N < 9223372036854775808
        · rw [if_pos hov] at hn
          simp [f1, e1, e2, e3, e4, e5, e7, e8, oR_b, oR_d, oR_l, hT2, oR_at, hn, buR, bsR, happ]
          refine hN hov (fun h => absurd h h1) _ _ (less10 hB ?_ ?_ ?_ ?_ ?_)
          · simp
          · simp
          · simp
          · simp
          · simp [HR, hl]
        · rw [if_neg hov] at hn
          simp [f1, e1, e2, e3, e4, e5, e7, e8, oR_b, oR_d, oR_l, hT2, oR_at, hn, resB]
          refine hE hov _ _ ?_
          rw [Fin_ret]
          simp [F10, Tryz.f20, toksAV, atAV, wordTxt, resB]

theorem toks_sign (B : Bs) (hB : B.H = []) (hG : GlobOk envT B.g) (s : List UInt8) (l : List Wd) (i m : Nat) (hi : i < s.length) (hs : s.length < 137438953470) (hll : l.length ≤ i)
    (hb1 : ¬ (s[i].toNat : Int) = 32) (hb2 : ¬ (s[i].toNat : Int) = 9) (hsm : isSmall s[i] = false) (hdg : isDigit s[i] = false) (hF : m = signLen (s.drop i)) (Q : AEx → List AV → AH → Prop)
    (hN : m ≠ 0 → ∀ t H, Less B t H (tR s (l ++ [⟨3, (s.drop i).take m, i, 0⟩]) (i + m)) (HR (l ++ [⟨3, (s.drop i).take m, i, 0⟩])) → Q .normal t H)
    (hE : m = 0 → ∀ t H, Fin Tryz.prog F10 0 1 (toksAV (.error (i, 3))) [] .ret t H → Q .ret t H) :
    Go oR Tryz.prog envT (LpT Tryz.prog B) body10 [] (tR s l i) (HR l) Q := by
  have hle : i + m ≤ s.length := by
    have := signLen_le (s.drop i)
    rw [List.length_drop] at this
    omega
  have hi' : (i : Int) < s.length := by omega
  have e1 : ((i : Int) + (m : Int)).toNat = i + m := by omega
  have e2 : (i : Int) + (m : Int) ≤ s.length := by omega
  have e3 : (0 : Int) ≤ (i : Int) + (m : Int) := by omega
  have e4 : (i : Int) ≤ (i : Int) + (m : Int) := by omega
  have e5 : IntKind.i64.wrap (m : Int) = (m : Int) := wrap_i64 (by omega) (by omega)
  have e7 : (i : Int) + (m : Int) - (i : Int) = (m : Int) := by omega
  have e8 : IntKind.i64.wrap ((i : Int) + (m : Int)) = (i : Int) + (m : Int) := wrap_i64 (by omega) (by omega)
  have hsg := fun H => oR_s s i H hi (by rw [maxS_eq]; omega)
  rw [← hF] at hsg
  rcases HR_cases l with ⟨hl, hH⟩ | ⟨hl, hH⟩
  · rw [hH]
    have happ := fun H => app10 l ⟨3, (s.drop i).take m, i, 0⟩ 1 H (by omega) (fun _ => rfl) (fun h => absurd hl h)
    simp at happ
    by_cases h0 : m = 0
    · have g0 : (m : Int) = 0 := by omega
      simp [body10, for10, tail10, c10, Tryz.f20, tR, hi, hi', hb1, hb2, oR_l, oR_d, hsm, hdg, e1, e2, e3, e4, e5, e7, e8, take_drop_eq, oR_at, hsg, g0, h0, resB]
      refine hE h0 _ _ ?_
      rw [Fin_ret]
      simp [F10, Tryz.f20, toksAV, atAV, wordTxt, resB]
    · have g0 : ¬ (m : Int) = 0 := by omega
      simp [body10, for10, tail10, c10, Tryz.f20, tR, hi, hi', hb1, hb2, oR_l, oR_d, hsm, hdg, e1, e2, e3, e4, e5, e7, e8, take_drop_eq, oR_at, hsg, g0, h0, buR, bsR, happ]
      refine hN h0 _ _ (less10 hB ?_ ?_ ?_ ?_ ?_)
      · simp
      · simp
      · simp
      · simp
      · simp [HR, hl]
  · rw [hH]
    have happ := fun fid => app10 l ⟨3, (s.drop i).take m, i, 0⟩ fid [some resB, some (.tok l.length), none] (by omega) (fun h => absurd h hl) (fun _ => by simp)
    simp at happ
    by_cases h0 : m = 0
    · have g0 : (m : Int) = 0 := by omega
      simp [body10, for10, tail10, c10, Tryz.f20, tR, hi, hi', hb1, hb2, oR_l, oR_d, hsm, hdg, e1, e2, e3, e4, e5, e7, e8, take_drop_eq, oR_at, hsg, g0, h0, resB]
      refine hE h0 _ _ ?_
      rw [Fin_ret]
      simp [F10, Tryz.f20, toksAV, atAV, wordTxt, resB]
    · have g0 : ¬ (m : Int) = 0 := by omega
      simp [body10, for10, tail10, c10, Tryz.f20, tR, hi, hi', hb1, hb2, oR_l, oR_d, hsm, hdg, e1, e2, e3, e4, e5, e7, e8, take_drop_eq, oR_at, hsg, g0, h0, buR, bsR, happ]
      refine hN h0 _ _ (less10 hB ?_ ?_ ?_ ?_ ?_)
      · simp
      · simp
      · simp
      · simp
      · simp [HR, hl]

theorem toks_blank (B : Bs) (hB : B.H = []) (hG : GlobOk envT B.g) (s : List UInt8) (l : List Wd) (i : Nat) (hi : i < s.length) (hs : s.length < 137438953470)
    (hb : s[i].toNat = 32 ∨ s[i].toNat = 9) (Q : AEx → List AV → AH → Prop) (hN : ∀ t H, Less B t H (tR s l (i + 1)) (HR l) → Q .normal t H) :
    Go oR Tryz.prog envT (LpT Tryz.prog B) body10 [] (tR s l i) (HR l) Q := by
  have hi' : (i : Int) < s.length := by omega
  have w : IntKind.i64.wrap ((i : Int) + 1) = (i : Int) + 1 := wrap_i64 (by omega) (by omega)
  rcases HR_cases l with ⟨hl, hH⟩ | ⟨hl, hH⟩
  all_goals
    rw [hH]
    rcases hb with hb | hb
    all_goals
      simp [body10, for10, tail10, c10, Tryz.f20, tR, hi, hi', hb, w]
      refine hN _ _ (less10 hB ?_ ?_ ?_ ?_ ?_)
      · simp
      · simp
      · simp
      · simp
      · simp [HR, hl]
end Go.Proofs.YtejjlojfgcgopaaGreatDoor
