/- A line's parts: the program's and the reference's. -/
import Derived.Test.YtejjlojfgcgopaaGreatDoorTrE
import Derived.Test.YtejjlojfgcgopaaGreatDoorTkM
import Derived.Test.YtejjlojfgcgopaaGreatDoorTv
set_option linter.unusedSimpArgs false
set_option linter.unusedVariables false
namespace Go.Proofs.YtejjlojfgcgopaaGreatDoor
open Go.RowKit Go.Proofs.Fw
set_option maxRecDepth 100000
set_option maxHeartbeats 4000000
-- 

def notBang (b : UInt8) : Bool := !(b.toNat == 33)
def noteLen (s : List UInt8) : Nat := frontLen notBang s
def bodyOfLine (s : List UInt8) : List UInt8 := (cutNl s).take (noteLen (cutNl s))
def partsAV (s : List UInt8) : AV := .tup [.str (bodyOfLine s), .str ((cutNl s).drop (noteLen (cutNl s))), .str (nlOf s)]

theorem indexByte_note : ∀ s : List UInt8, Lib.indexByte s 33 = if noteLen s < s.length then (noteLen s : Int) else -1
  | [] => rfl
  | b :: s => by
    have ih := indexByte_note s
    have hle := frontLen_le notBang s
    simp only [Lib.indexByte]
    by_cases h : b.toNat = 33
    · have hb : (b == 33) = true := by rw [beq_iff_eq]; exact UInt8.toNat_inj.1 (by rw [h]; rfl)
      have hn : noteLen (b :: s) = 0 := by simp [noteLen, frontLen, notBang, h]
      rw [if_pos hb, hn, if_pos (by simp)]
      rfl
    · have hb : (b == 33) = false := by
        rw [beq_eq_false_iff_ne]
        intro h'
        exact h (by rw [h']; rfl)
      have hn : noteLen (b :: s) = noteLen s + 1 := by
        simp only [noteLen, frontLen, List.takeWhile_cons]
        rw [if_pos (by simp [notBang, h])]
        rfl
      have hns : noteLen s ≤ s.length := hle
      rw [if_neg (by simp [hb]), hn, ih]
      by_cases hl : noteLen s < s.length
      · have h2 : ((noteLen s : Int) == -1) = false := by simp only [beq_eq_false_iff_ne]; omega
        simp only [if_pos hl, h2, Bool.false_eq_true, if_false]
        rw [if_pos (by simp only [List.length_cons]; omega)]
        rfl
      · have h1 : ((-1 : Int) == -1) = true := rfl
        simp only [if_neg hl, List.length_cons, h1, if_true]
        rw [if_neg (by omega)]

/-! The program's Part. -/
def oSuf : Orc := oPure 171 (fun args => match args with
    | [.str s, .str [10]] => if s.length < maxS then some s else none
    | _ => none) fun s => .bool (hasNl s)
theorem oSuf_sound : Sound Tryz.prog envT oSuf := oPure_sound fun args x H h => by
  split at h
  · split at h
    · rename_i s hs
      injection h with h
      subst h
      rw [maxS_eq] at hs
      exact evFunc_ok oIdx_sound methT mixed (suffix_ev oIdx s 0 H (by omega))
    · cases h
  · cases h
def cutAV (s : List UInt8) : AV := .tup [.str (cutNl s), .bool (hasNl s)]
def oCutI : Orc := oPure 129 (fun args => match args with
    | [.str s, .str [10]] => if s.length < maxS then some s else none
    | _ => none) cutAV
theorem oCutI_sound : Sound Tryz.prog envT oCutI := oPure_sound fun args x H h => by
  split at h
  · split at h
    · rename_i s hs
      injection h with h
      subst h
      have hs' := hs
      rw [maxS_eq] at hs'
      exact evFunc_ok oSuf_sound methT mixed (cut46_ev oSuf s 0 H (by omega) (by simp [oSuf, oPure, hs]))
    · cases h
  · cases h
def oCut : Orc := oPure 85 (fun args => match args with
    | [.str s, .str [10]] => if s.length < maxS then some s else none
    | _ => none) cutAV
theorem oCut_sound : Sound Tryz.prog envT oCut := oPure_sound fun args x H h => by
  split at h
  · split at h
    · rename_i s hs
      injection h with h
      subst h
      exact evFunc_ok oCutI_sound methT mixed (cut32_ev oCutI s 0 H (by simp [oCutI, oPure, hs, cutAV]))
    · cases h
  · cases h
def oIxB : Orc := oPure 86 (fun args => match args with
    | [.str s, .int .u8 33] => some s
    | _ => none) fun s => .int .i64 (Lib.indexByte s 33)
theorem oIxB_sound : Sound Tryz.prog envT oIxB := oPure_sound fun args x H h => by
  split at h
  · rename_i s
    injection h with h
    subst h
    exact evFunc_ok oIdx_sound methT mixed (idx33_ev oIdx s 33 _ 0 H (by simp [oIdx]))
  · cases h
def oPp : Orc := oTab [(85, oCut), (86, oIxB)]
theorem oPp_sound : Sound Tryz.prog envT oPp := oTab_sound fun p hp => by
  simp only [List.mem_cons, List.not_mem_nil, or_false] at hp
  rcases hp with rfl | rfl
  · exact oCut_sound
  · exact oIxB_sound

theorem part_cs (s : List UInt8) (hs : s.length < maxS) (H : AH) : CS Tryz.prog envT 50 [.str s] H (partsAV s) H := by
  have h32 : oPp 85 [.str s, .str [10]] H = some (.tup [.str (cutNl s), .bool (hasNl s)], H) := by simp [oPp, oTab, oCut, oPure, hs, cutAV]
  have h33 : oPp 86 [.str (cutNl s), .int .u8 33] H = some (.int .i64 (Lib.indexByte (cutNl s) 33), H) := by simp [oPp, oTab, oIxB, oPure]
  have hle := frontLen_le notBang (cutNl s)
  rw [indexByte_note] at h33
  by_cases h : noteLen (cutNl s) < (cutNl s).length
  · rw [if_pos h] at h33
    exact evFunc_ok oPp_sound methT mixed (part_note oPp s _ 0 H h32 h33 (by omega))
  · rw [if_neg h] at h33
    have heq : noteLen (cutNl s) = (cutNl s).length := by unfold noteLen at h ⊢; omega
    have := evFunc_ok oPp_sound methT mixed (part_plain oPp s _ 0 H h32 h33 (by omega))
    simpa [partsAV, bodyOfLine, heq] using this

/-! The reference's. -/
def PartI (b e : List UInt8) (k : Nat) (t : List AV) (H : AH) : Prop :=
  ∃ i, i + k = noteLen b ∧ t = mkT 42 [(0, .str b), (5, .str e), (6, .int .i64 ((i : Nat) : Int))] ∧ H = []

theorem rparts_loop (B : Bs) (hB : B.H = []) (hG : GlobOk envT B.g) (b e : List UInt8) (hb : b.length < maxS) (a : List (Nat × AV)) (h0 : (a.lookup 0).getD .undef = .str b) (h5 : (a.lookup 5).getD .undef = .str e) :
    Tr Tryz.prog B (sndC (sndC (sndC (bodyOf Tryz.f116)))) (mkT 42 a) [] (Fin Tryz.prog Tryz.f116 0 0 (.tup [.str (b.take (noteLen b)), .str (b.drop (noteLen b)), .str e]) []) := by
  rw [maxS_eq] at hb
  refine Tr.less (t' := mkT 42 [(0, .str b), (5, .str e)]) (H' := []) (Less.mk0 hB (by simp [h0, h5])) ?_
  refine Tr.go cxN hG (by kernel_rfl) ?_
  simp [Tryz.f116]
  refine LpT.loop cxN hG (by kernel_rfl) (PartI b e) (noteLen b) (t' := mkT 42 [(0, .str b), (5, .str e), (6, .int .i64 ((0 : Nat) : Int))]) (H' := []) (Less.mk0 hB (by simp)) ⟨0, by omega, rfl, rfl⟩ ?_
  rintro k t H ⟨i, hik, rfl, rfl⟩
  have hle := frontLen_le notBang b
  change noteLen b ≤ _ at hle
  cases k with
  | succ k =>
    obtain ⟨h1, h2⟩ := frontLen_in notBang b i (by show i < noteLen b; omega)
    have f1 : (i : Int) < b.length := by omega
    have f2 : ¬ (b[i].toNat : Int) = 33 := by
      simp only [notBang, Bool.not_eq_true', beq_eq_false_iff_ne] at h2
      omega
    have w : IntKind.i64.wrap ((i : Int) + 1) = (i : Int) + 1 := wrap_i64 (by omega) (by omega)
    simp [f1, h1, f2, w]
    exact ⟨k, by omega, _, _, Less.mk0 hB (l' := [(0, .str b), (5, .str e), (6, .int .i64 ((i + 1 : Nat) : Int))]) (by simp), i + 1, by omega, rfl, rfl⟩
  | zero =>
    obtain rfl : i = noteLen b := by omega
    by_cases h : noteLen b < b.length
    · have h2 : notBang b[noteLen b] = false := frontLen_out notBang b h
      have f1 : (noteLen b : Int) < b.length := by omega
      have f3 : (noteLen b : Int) ≤ b.length := by omega
      have f2 : (b[noteLen b].toNat : Int) = 33 := by
        simp only [notBang, Bool.not_eq_false', beq_iff_eq] at h2
        omega
      simp [f1, h, f2, f3]
    · have f1 : ¬ (noteLen b : Int) < b.length := by omega
      have h3 : noteLen b = b.length := by omega
      simp [h3]

theorem nl_last {s : List UInt8} (h : 0 < s.length) : hasNl s = (s[s.length - 1].toNat == 10) := by
  unfold hasNl
  have hd : s.drop (s.length - 1) = [s[s.length - 1]] := by
    have := List.drop_eq_getElem_cons (l := s) (i := s.length - 1) (by omega)
    rw [this, List.drop_of_length_le (by omega)]
  rw [hd, decide_eq_true (by omega), Bool.true_and, Bool.eq_iff_iff]
  simp only [beq_iff_eq, List.cons.injEq, and_true]
  constructor
  · intro h; rw [h]; rfl
  · intro h; exact UInt8.toNat_inj.1 (by rw [h]; rfl)

theorem cutNl_len (s : List UInt8) : (cutNl s).length ≤ s.length := by
  unfold cutNl
  split
  · rw [List.length_take]; omega
  · exact Nat.le_refl _

theorem rparts_cs (s : List UInt8) (hs : s.length < maxS) (H : AH) : CS Tryz.prog envT 116 [.str s] H (partsAV s) H := by
  have hs' := hs
  rw [maxS_eq] at hs'
  refine CS.tr0 lowT Tryz.func116 (by kernel_rfl) 0 (by simp [Tryz.f116]) (fun B hB hG => ?_) rfl rfl H
  obtain ⟨R, hR⟩ : ∃ R, R = sndC (sndC (sndC (bodyOf Tryz.f116))) := ⟨_, rfl⟩
  have key := rparts_loop B hB hG (cutNl s) (nlOf s) (Nat.lt_of_le_of_lt (cutNl_len s) hs)
  rw [← hR] at key
  refine Tr.pre cxN hG 3 (R := R) (by rw [hR]; kernel_rfl) (by kernel_rfl) (by kernel_rfl) ?_
  rw [Go_of]
  by_cases h0 : 0 < s.length
  · have f1 : (0 : Int) < s.length := by omega
    have f2 : IntKind.i64.wrap ((s.length : Int) - 1) = (s.length : Int) - 1 := wrap_i64 (by omega) (by omega)
    have f3 : ((s.length : Int) - 1).toNat = s.length - 1 := by omega
    have f4 : (0 : Int) ≤ (s.length : Int) - 1 := by omega
    have f5 : (s.length : Int) - 1 ≤ s.length := by omega
    have f6 : s.length - 1 < s.length := by omega
    have f7 : (1 : Int) ≤ (s.length : Int) := by omega
    have f8 : 1 ≤ s.length := by omega
    have hn := nl_last h0
    by_cases h1 : s[s.length - 1].toNat = 10
    · have g1 : (s[s.length - 1].toNat : Int) = 10 := by omega
      simp [Tryz.f116, f1, f2, f3, f4, f5, f6, f7, f8, h0, h1, g1]
      refine key _ ?_ ?_
      · simp [cutNl, hn, h1]
      · simp [nlOf, hn, h1]
    · have g1 : ¬ (s[s.length - 1].toNat : Int) = 10 := by omega
      simp [Tryz.f116, f1, f2, f3, f4, f5, f6, f7, f8, h0, h1, g1]
      refine key _ ?_ ?_
      · simp [cutNl, hn, h1]
      · simp [nlOf, hn, h1]
  · have : s = [] := List.eq_nil_of_length_eq_zero (by omega)
    subst this
    simp [Tryz.f116]
    refine key _ ?_ ?_
    · simp [cutNl, hasNl]
    · simp [nlOf, hasNl]
end Go.Proofs.YtejjlojfgcgopaaGreatDoor
