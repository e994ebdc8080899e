/- The program's trees: the builder's state as it lies, and put in it (written by gen_bd2.py). -/
import Derived.Test.YtejjlojfgcgopaaGreatDoorZ15
set_option linter.unusedSimpArgs false
set_option linter.unusedVariables false
namespace Go.Proofs.YtejjlojfgcgopaaGreatDoor
open Go.RowKit Go.Proofs.Fw
set_option maxRecDepth 100000
set_option maxHeartbeats 4000000
structure Fr where
  line : Int
  end_ : Int
  st : Sx
  body : List Nd
  els : List Nd
  mid : Int
def Fr.nd (f : Fr) : Nd := .mk f.line f.end_ f.st f.body f.els f.mid
def Fr.pre (f : Fr) : List AV := .int .i64 f.line :: .int .i64 f.end_ :: f.st.c
def upC : Nat → AV
  | 0 => .nilPtr
  | n + 1 => .ptr (2 + 3 * n) 0
def Fr.c (d : Nat) (f : Fr) : List AV := f.pre ++ [ndE.tk (3 + 3 * d) f.body, ndE.tk (4 + 3 * d) f.els, .int .i64 f.mid, upC d]
def Fr.h (d : Nat) (f : Fr) : AH := [some (.box (f.c d)), tokE f.body, tokE f.els]
def frH : List Fr → AH
  | [] => []
  | f :: r => frH r ++ f.h r.length
structure Bd where
  l : List Nd
  fs : List Fr
  o : Bool
def Bd.c (s : Bd) : List AV := [ndE.tk 1 s.l, upC s.fs.length, .int .i64 (s.fs.length : Int), .bool s.o]
def bdH (s : Bd) : AH := some (.box s.c) :: tokE s.l :: frH s.fs
def Fr.put (f : Fr) (n : Nd) : Fr := if 0 ≤ f.mid then { f with els := f.els ++ [n] } else { f with body := f.body ++ [n] }
def Bd.put (s : Bd) (n : Nd) : Bd := match s.fs with
  | [] => { s with l := s.l ++ [n] }
  | f :: r => { s with fs := f.put n :: r }
def Fr.ok (m : Nat) (f : Fr) : Prop := f.body.length ≤ m ∧ f.els.length ≤ m
def Bd.ok (m : Nat) (s : Bd) : Prop := s.l.length ≤ m ∧ ∀ f ∈ s.fs, f.ok m
theorem Bd.put_ok {m : Nat} {s : Bd} (h : s.ok m) (n : Nd) : (s.put n).ok (m + 1) := by
  obtain ⟨l, fs, o⟩ := s
  obtain ⟨h1, h2⟩ := h
  cases fs with
  | nil =>
    simp only [Bd.put]
    exact ⟨by simp only [List.length_append, List.length_cons, List.length_nil] at h1 ⊢; omega, fun f hf => by cases hf⟩
  | cons f r =>
    simp only [Bd.put]
    refine ⟨by simp only at h1 ⊢; omega, fun g hg => ?_⟩
    rcases List.mem_cons.1 hg with rfl | hg
    · have h3 := h2 f List.mem_cons_self
      unfold Fr.ok at h3 ⊢
      unfold Fr.put
      split <;> simp only [List.length_append, List.length_cons, List.length_nil] <;> omega
    · have h3 := h2 g (List.mem_cons_of_mem _ hg)
      unfold Fr.ok at h3 ⊢
      omega
theorem Bd.ok_mono {m n : Nat} (hmn : m ≤ n) {s : Bd} (h : s.ok m) : s.ok n := ⟨by have := h.1; omega, fun f hf => by have := h.2 f hf; unfold Fr.ok at this ⊢; omega⟩
theorem frH_len : ∀ r : List Fr, (frH r).length = 3 * r.length
  | [] => rfl
  | f :: r => by simp only [frH, List.length_append, frH_len r, Fr.h, List.length_cons, List.length_nil]; omega
theorem Fr.pre_len (f : Fr) : f.pre.length = 31 := rfl
theorem Fr.pre_low (f : Fr) : lowL 0 f.pre = true := by
  have := Sx.c_low f.st
  simp [Fr.pre, this]
theorem Fr.c_len (d : Nat) (f : Fr) : (f.c d).length = 35 := rfl
theorem at_appL {A B : AH} {i : Nat} (h : i < A.length) : AH.at (A ++ B) i = A.at i := by unfold AH.at; rw [List.getElem?_append_left h]
theorem at_appR {A B : AH} {i : Nat} (h : A.length ≤ i) : AH.at (A ++ B) i = B.at (i - A.length) := by unfold AH.at; rw [List.getElem?_append_right h]
theorem bd_split (l : List Nd) (f : Fr) (r : List Fr) (o : Bool) (K : AH) : bdH ⟨l, f :: r, o⟩ ++ K = ([some (.box (Bd.c ⟨l, f :: r, o⟩)), tokE l] ++ frH r) ++ (f.h r.length ++ K) := by simp [bdH, frH]
theorem bd_at (l : List Nd) (f : Fr) (r : List Fr) (o : Bool) (K : AH) (i : Nat) : (bdH ⟨l, f :: r, o⟩ ++ K).at (2 + 3 * r.length + i) = (f.h r.length ++ K).at i := by
  rw [bd_split, at_appR (by simp [frH_len]; omega)]
  congr 1
  simp [frH_len]; omega
theorem bd_atF (l : List Nd) (f : Fr) (r : List Fr) (o : Bool) (K : AH) : (bdH ⟨l, f :: r, o⟩ ++ K).at (2 + 3 * r.length) = some (.box (f.c r.length)) := bd_at l f r o K 0
theorem bd_atB (l : List Nd) (f : Fr) (r : List Fr) (o : Bool) (K : AH) : (bdH ⟨l, f :: r, o⟩ ++ K).at (3 + 3 * r.length) = tokE f.body := by
  have := bd_at l f r o K 1
  rw [show 3 + 3 * r.length = 2 + 3 * r.length + 1 by omega, this]
  rfl
theorem bd_atE (l : List Nd) (f : Fr) (r : List Fr) (o : Bool) (K : AH) : (bdH ⟨l, f :: r, o⟩ ++ K).at (4 + 3 * r.length) = tokE f.els := by
  have := bd_at l f r o K 2
  rw [show 4 + 3 * r.length = 2 + 3 * r.length + 2 by omega, this]
  rfl
theorem bd_len (l : List Nd) (f : Fr) (r : List Fr) (o : Bool) (K : AH) : (bdH ⟨l, f :: r, o⟩ ++ K).length = 5 + 3 * r.length + K.length := by
  rw [bd_split]
  simp [frH_len, Fr.h]; omega
theorem bd_else (l : List Nd) (f f' : Fr) (r : List Fr) (o : Bool) (K : AH) {j : Nat} (h1 : j ≠ 2 + 3 * r.length) (h2 : j = 3 + 3 * r.length → tokE f'.body = tokE f.body) (h3 : j = 4 + 3 * r.length → tokE f'.els = tokE f.els) :
    (bdH ⟨l, f' :: r, o⟩ ++ K).at j = (bdH ⟨l, f :: r, o⟩ ++ K).at j := by
  rcases Nat.lt_or_ge j (2 + 3 * r.length) with h | h
  · have e : ∀ g : Fr, (bdH ⟨l, g :: r, o⟩ ++ K).at j = AH.at ([some (.box (Bd.c ⟨l, g :: r, o⟩)), tokE l] ++ frH r) j := fun g => by rw [bd_split, at_appL (by simp [frH_len]; omega)]
    rw [e f', e f]
    rfl
  · obtain ⟨i, rfl⟩ := Nat.exists_eq_add_of_le h
    rw [bd_at, bd_at]
    rcases (by omega : i = 0 ∨ i = 1 ∨ i = 2 ∨ 3 ≤ i) with rfl | rfl | rfl | hi
    · exact absurd rfl h1
    · exact h2 (by omega)
    · exact h3 (by omega)
    · rw [at_appR (show (f'.h r.length).length ≤ i from hi), at_appR (show (f.h r.length).length ≤ i from hi)]
      rfl
theorem renL_app (φ : Nat → Nat) : ∀ a b : List AV, renL φ (a ++ b) = renL φ a ++ renL φ b
  | [], b => rfl
  | x :: a, b => by simp [renL, renL_app φ a b]
def phiB (N d T2 T : Nat) (i : Nat) : Nat := if i = 0 then 0 else if i = 1 then 2 + 3 * d else if i = 2 then 1 else if i = 3 then (if d = 0 then N else 3 * d - 1) else if i = 4 then T2 else T
theorem phiB_inj {N d T2 T : Nat} (h : (T2 = 3 + 3 * d ∧ T = 4 + 3 * d) ∨ (T2 = 4 + 3 * d ∧ T = 3 + 3 * d)) (hN : 5 + 3 * d ≤ N) : ∀ i j, i < 6 → j < 6 → phiB N d T2 T i = phiB N d T2 T j → i = j := by
  intro i j hi hj he
  unfold phiB at he
  rcases (by omega : i = 0 ∨ i = 1 ∨ i = 2 ∨ i = 3 ∨ i = 4 ∨ i = 5) with rfl | rfl | rfl | rfl | rfl | rfl <;> rcases (by omega : j = 0 ∨ j = 1 ∨ j = 2 ∨ j = 3 ∨ j = 4 ∨ j = 5) with rfl | rfl | rfl | rfl | rfl | rfl <;> simp at he ⊢ <;> (try split at he) <;> omega
theorem put_fr_body_nil (l : List Nd) (f : Fr) (r : List Fr) (o : Bool) (n : Nd) (K : AH) (hmid : f.mid < 0) (h0 : f.body = []) :
    CS Tryz.prog envS 128 [.ptr 0 0, .agg (ndC n)] (bdH ⟨l, f :: r, o⟩ ++ K) (.tup []) (bdH ⟨l, { f with body := f.body ++ [n] } :: r, o⟩ ++ K) := by
  have hs := put_body_nil (ndC n) f.pre (ndE.tk 2 l) (ndE.tk 4 f.els) (if r.length = 0 then .nilPtr else .ptr 3 0) (some .hid) (if r.length = 0 then none else some .hid) (some .hid) f.mid hmid f.pre_len (ndC_len n) (ndC_one n) (ndC_low n) (Enc.tk_low _ (by decide) _) (Enc.tk_low _ (by decide) _) (by split <;> rfl) f.pre_low rfl (by split <;> rfl) rfl ((f :: r).length : Int) o
  generalize hf' : ({ f with body := f.body ++ [n] } : Fr) = f'
  have hN := bd_len l f r o K
  have hN' := bd_len l f' r o K
  have e1 : f'.body = f.body ++ [n] := by subst hf'; rfl
  have e2 : f'.els = f.els := by subst hf'; rfl
  have e3 : f'.pre = f.pre := by subst hf'; rfl
  have e4 : f'.mid = f.mid := by subst hf'; rfl
  have hphi := phiB_inj (N := (bdH ⟨l, f :: r, o⟩ ++ K).length) (d := r.length) (T2 := (4 + 3 * r.length)) (T := (3 + 3 * r.length)) (by omega) (by omega)
  have six : ∀ {i : Nat}, i < 6 → i = 0 ∨ i = 1 ∨ i = 2 ∨ i = 3 ∨ i = 4 ∨ i = 5 := fun h => by omega
  have low6 := fun (l : List AV) (h : lowL 0 l = true) (m : Nat) => lowL_mono (Nat.zero_le m) l h
  have hup : ren (phiB (bdH ⟨l, f :: r, o⟩ ++ K).length r.length (4 + 3 * r.length) (3 + 3 * r.length)) (if r.length = 0 then .nilPtr else .ptr 3 0) = upC r.length := by
    cases hd : r.length with
    | zero => rfl
    | succ d =>
      simp [ren, upC, phiB]
      omega
  have hms : ∀ f0 : Fr, ∀ i, i ∈ [0, 2 + 3 * r.length, (3 + 3 * r.length)] → (mask (bdH ⟨l, f0 :: r, o⟩ ++ K) [0, 2 + 3 * r.length, (3 + 3 * r.length)]).at i = (bdH ⟨l, f0 :: r, o⟩ ++ K).at i := fun f0 i hi => mask_mem hi
  have hmo : ∀ f0 : Fr, ∀ i, i ∉ [0, 2 + 3 * r.length, (3 + 3 * r.length)] → i < 5 + 3 * r.length → (mask (bdH ⟨l, f0 :: r, o⟩ ++ K) [0, 2 + 3 * r.length, (3 + 3 * r.length)]).at i = some .hid := fun f0 i hi hl => mask_at_out hi (by rw [bd_len]; omega)
  have hmb : ∀ f0 : Fr, (mask (bdH ⟨l, f0 :: r, o⟩ ++ K) [0, 2 + 3 * r.length, (3 + 3 * r.length)]).at (bdH ⟨l, f :: r, o⟩ ++ K).length = none := fun f0 => at_ge (by rw [mask_length, bd_len, bd_len]; omega)
  have g3 : ∀ f0 : Fr, (mask (bdH ⟨l, f0 :: r, o⟩ ++ K) [0, 2 + 3 * r.length, (3 + 3 * r.length)]).at (phiB (bdH ⟨l, f :: r, o⟩ ++ K).length r.length (4 + 3 * r.length) (3 + 3 * r.length) 3) = Option.map (renE (phiB (bdH ⟨l, f :: r, o⟩ ++ K).length r.length (4 + 3 * r.length) (3 + 3 * r.length))) (if r.length = 0 then none else some .hid) := by
    intro f0
    by_cases hd : r.length = 0
    · have : phiB (bdH ⟨l, f :: r, o⟩ ++ K).length r.length (4 + 3 * r.length) (3 + 3 * r.length) 3 = (bdH ⟨l, f :: r, o⟩ ++ K).length := by simp [phiB, hd]
      rw [this, hmb, if_pos hd]
      rfl
    · have : phiB (bdH ⟨l, f :: r, o⟩ ++ K).length r.length (4 + 3 * r.length) (3 + 3 * r.length) 3 = 3 * r.length - 1 := by simp [phiB, hd]
      rw [this, if_neg hd, hmo f0 _ (by simp <;> omega) (by omega)]
      rfl
  have := CS.graft (k := 5) (n := 6) (phiB (bdH ⟨l, f :: r, o⟩ ++ K).length r.length (4 + 3 * r.length) (3 + 3 * r.length)) [0, 2 + 3 * r.length, (3 + 3 * r.length)] (H := bdH ⟨l, f :: r, o⟩ ++ K) (H' := bdH ⟨l, f' :: r, o⟩ ++ K) hs rfl rfl (by decide) hphi lowS (by simp [low6 _ (ndC_low n)]) rfl
    (by simp [lowH, lowE, lowL_append, low6 _ f.pre_low, Enc.tk_low] <;> split <;> simp [low])
    (by simp [lowH, lowE, lowL_append, low6 _ f.pre_low, Enc.tk_low, low6 _ (ndC_low n)] <;> split <;> simp [low]) (by rw [bd_len, bd_len]) ?_ ?_ ?_ ?_ ?_
  · simpa [renL, ren, renL_low _ _ (ndC_low n), phiB] using this
  · intro i hi
    rcases six (show i < 6 by omega) with rfl | rfl | rfl | rfl | rfl | rfl
    · rw [show phiB (bdH ⟨l, f :: r, o⟩ ++ K).length r.length (4 + 3 * r.length) (3 + 3 * r.length) 0 = 0 from rfl, hms f 0 (by simp)]
      show some (Ent.box (Bd.c ⟨l, f :: r, o⟩)) = _
      simp [AH.at, renE, renL, ren, Bd.c, Enc.tk_ren, phiB, upC]
    · rw [show phiB (bdH ⟨l, f :: r, o⟩ ++ K).length r.length (4 + 3 * r.length) (3 + 3 * r.length) 1 = 2 + 3 * r.length from rfl, hms f _ (by simp), bd_atF]
      simp only [AH.at, List.getElem?_cons_succ, List.getElem?_cons_zero, Option.join_some, Option.map_some, renE, renL_app, renL_low _ _ f.pre_low, renL, hup, Enc.tk_ren, ren]
      simp [Fr.c, h0, phiB]
      first | done | rfl
    · rw [show phiB (bdH ⟨l, f :: r, o⟩ ++ K).length r.length (4 + 3 * r.length) (3 + 3 * r.length) 2 = 1 from rfl, hmo f 1 (by simp <;> omega) (by omega)]
      rfl
    · exact g3 f
    · rw [show phiB (bdH ⟨l, f :: r, o⟩ ++ K).length r.length (4 + 3 * r.length) (3 + 3 * r.length) 4 = (4 + 3 * r.length) from rfl, hmo f _ (by simp <;> omega) (by omega)]
      rfl
    · omega
  · intro i hi1 hi2
    obtain rfl : i = 5 := by omega
    rw [show phiB (bdH ⟨l, f :: r, o⟩ ++ K).length r.length (4 + 3 * r.length) (3 + 3 * r.length) 5 = (3 + 3 * r.length) from rfl, hms f _ (by simp), bd_atB, h0]
    rfl
  · intro i hi
    rcases six hi with rfl | rfl | rfl | rfl | rfl | rfl
    · rw [show phiB (bdH ⟨l, f :: r, o⟩ ++ K).length r.length (4 + 3 * r.length) (3 + 3 * r.length) 0 = 0 from rfl, hms f' 0 (by simp)]
      show some (Ent.box (Bd.c ⟨l, f' :: r, o⟩)) = _
      simp [AH.at, renE, renL, ren, Bd.c, Enc.tk_ren, phiB, upC]
    · rw [show phiB (bdH ⟨l, f :: r, o⟩ ++ K).length r.length (4 + 3 * r.length) (3 + 3 * r.length) 1 = 2 + 3 * r.length from rfl, hms f' _ (by simp), bd_atF]
      simp only [AH.at, List.getElem?_cons_succ, List.getElem?_cons_zero, Option.join_some, Option.map_some, renE, renL_app, renL_low _ _ f.pre_low, renL, hup, Enc.tk_ren, ren]
      simp [Fr.c, e1, e2, e3, e4, phiB, Enc.tk_ne, renL_low _ _ (ndC_low n), renL_app, Enc.row_append, Enc.row_one1, h0, renL_low _ _ (ndE.row_low _)]
      first | done | rfl | exact ⟨rfl, rfl⟩
    · rw [show phiB (bdH ⟨l, f :: r, o⟩ ++ K).length r.length (4 + 3 * r.length) (3 + 3 * r.length) 2 = 1 from rfl, hmo f' 1 (by simp <;> omega) (by omega)]
      rfl
    · exact g3 f'
    · rw [show phiB (bdH ⟨l, f :: r, o⟩ ++ K).length r.length (4 + 3 * r.length) (3 + 3 * r.length) 4 = (4 + 3 * r.length) from rfl, hmo f' _ (by simp <;> omega) (by omega)]
      rfl
    · rw [show phiB (bdH ⟨l, f :: r, o⟩ ++ K).length r.length (4 + 3 * r.length) (3 + 3 * r.length) 5 = (3 + 3 * r.length) from rfl, hms f' _ (by simp), bd_atB, e1, tokE_ne (by simp)]
      simp [AH.at, renE, h0]
  · intro j hj
    have h1 := hj 1 (by decide)
    have h5 := hj 5 (by decide)
    rw [show phiB (bdH ⟨l, f :: r, o⟩ ++ K).length r.length (4 + 3 * r.length) (3 + 3 * r.length) 1 = 2 + 3 * r.length from rfl] at h1
    rw [show phiB (bdH ⟨l, f :: r, o⟩ ++ K).length r.length (4 + 3 * r.length) (3 + 3 * r.length) 5 = (3 + 3 * r.length) from rfl] at h5
    exact bd_else l f f' r o K (fun h => h1 h.symm) (fun h => absurd h.symm h5) (fun _ => by rw [e2])
  · intro j hj _
    simp only [List.mem_cons, List.not_mem_nil, or_false, not_or] at hj
    obtain ⟨h0', h1, h5⟩ := hj
    exact bd_else l f f' r o K h1 (fun h => absurd h h5) (fun _ => by rw [e2])
theorem put_fr_body_tok (l : List Nd) (f : Fr) (r : List Fr) (o : Bool) (n : Nd) (K : AH) (hmid : f.mid < 0) (h0 : f.body ≠ []) (hm : f.body.length < 137438953472) :
    CS Tryz.prog envS 128 [.ptr 0 0, .agg (ndC n)] (bdH ⟨l, f :: r, o⟩ ++ K) (.tup []) (bdH ⟨l, { f with body := f.body ++ [n] } :: r, o⟩ ++ K) := by
  have hs := put_body_tok (ndC n) f.pre (ndE.row f.body) f.body.length hm (ndE.row_low _) (ndE.tk 2 l) (ndE.tk 4 f.els) (if r.length = 0 then .nilPtr else .ptr 3 0) (some .hid) (if r.length = 0 then none else some .hid) (some .hid) f.mid hmid f.pre_len (ndC_len n) (ndC_one n) (ndC_low n) (Enc.tk_low _ (by decide) _) (Enc.tk_low _ (by decide) _) (by split <;> rfl) f.pre_low rfl (by split <;> rfl) rfl ((f :: r).length : Int) o
  generalize hf' : ({ f with body := f.body ++ [n] } : Fr) = f'
  have hN := bd_len l f r o K
  have hN' := bd_len l f' r o K
  have e1 : f'.body = f.body ++ [n] := by subst hf'; rfl
  have e2 : f'.els = f.els := by subst hf'; rfl
  have e3 : f'.pre = f.pre := by subst hf'; rfl
  have e4 : f'.mid = f.mid := by subst hf'; rfl
  have hphi := phiB_inj (N := (bdH ⟨l, f :: r, o⟩ ++ K).length) (d := r.length) (T2 := (4 + 3 * r.length)) (T := (3 + 3 * r.length)) (by omega) (by omega)
  have six : ∀ {i : Nat}, i < 6 → i = 0 ∨ i = 1 ∨ i = 2 ∨ i = 3 ∨ i = 4 ∨ i = 5 := fun h => by omega
  have low6 := fun (l : List AV) (h : lowL 0 l = true) (m : Nat) => lowL_mono (Nat.zero_le m) l h
  have hup : ren (phiB (bdH ⟨l, f :: r, o⟩ ++ K).length r.length (4 + 3 * r.length) (3 + 3 * r.length)) (if r.length = 0 then .nilPtr else .ptr 3 0) = upC r.length := by
    cases hd : r.length with
    | zero => rfl
    | succ d =>
      simp [ren, upC, phiB]
      omega
  have hms : ∀ f0 : Fr, ∀ i, i ∈ [0, 2 + 3 * r.length, (3 + 3 * r.length)] → (mask (bdH ⟨l, f0 :: r, o⟩ ++ K) [0, 2 + 3 * r.length, (3 + 3 * r.length)]).at i = (bdH ⟨l, f0 :: r, o⟩ ++ K).at i := fun f0 i hi => mask_mem hi
  have hmo : ∀ f0 : Fr, ∀ i, i ∉ [0, 2 + 3 * r.length, (3 + 3 * r.length)] → i < 5 + 3 * r.length → (mask (bdH ⟨l, f0 :: r, o⟩ ++ K) [0, 2 + 3 * r.length, (3 + 3 * r.length)]).at i = some .hid := fun f0 i hi hl => mask_at_out hi (by rw [bd_len]; omega)
  have hmb : ∀ f0 : Fr, (mask (bdH ⟨l, f0 :: r, o⟩ ++ K) [0, 2 + 3 * r.length, (3 + 3 * r.length)]).at (bdH ⟨l, f :: r, o⟩ ++ K).length = none := fun f0 => at_ge (by rw [mask_length, bd_len, bd_len]; omega)
  have g3 : ∀ f0 : Fr, (mask (bdH ⟨l, f0 :: r, o⟩ ++ K) [0, 2 + 3 * r.length, (3 + 3 * r.length)]).at (phiB (bdH ⟨l, f :: r, o⟩ ++ K).length r.length (4 + 3 * r.length) (3 + 3 * r.length) 3) = Option.map (renE (phiB (bdH ⟨l, f :: r, o⟩ ++ K).length r.length (4 + 3 * r.length) (3 + 3 * r.length))) (if r.length = 0 then none else some .hid) := by
    intro f0
    by_cases hd : r.length = 0
    · have : phiB (bdH ⟨l, f :: r, o⟩ ++ K).length r.length (4 + 3 * r.length) (3 + 3 * r.length) 3 = (bdH ⟨l, f :: r, o⟩ ++ K).length := by simp [phiB, hd]
      rw [this, hmb, if_pos hd]
      rfl
    · have : phiB (bdH ⟨l, f :: r, o⟩ ++ K).length r.length (4 + 3 * r.length) (3 + 3 * r.length) 3 = 3 * r.length - 1 := by simp [phiB, hd]
      rw [this, if_neg hd, hmo f0 _ (by simp <;> omega) (by omega)]
      rfl
  have := CS.graft (k := 6) (n := 6) (phiB (bdH ⟨l, f :: r, o⟩ ++ K).length r.length (4 + 3 * r.length) (3 + 3 * r.length)) [0, 2 + 3 * r.length, (3 + 3 * r.length)] (H := bdH ⟨l, f :: r, o⟩ ++ K) (H' := bdH ⟨l, f' :: r, o⟩ ++ K) hs rfl rfl (by decide) hphi lowS (by simp [low6 _ (ndC_low n)]) rfl
    (by simp [lowH, lowE, lowL_append, low6 _ f.pre_low, Enc.tk_low] <;> split <;> simp [low])
    (by simp [lowH, lowE, lowL_append, low6 _ f.pre_low, Enc.tk_low, low6 _ (ndC_low n)] <;> split <;> simp [low]) (by rw [bd_len, bd_len]) ?_ ?_ ?_ ?_ ?_
  · simpa [renL, ren, renL_low _ _ (ndC_low n), phiB] using this
  · intro i hi
    rcases six (show i < 6 by omega) with rfl | rfl | rfl | rfl | rfl | rfl
    · rw [show phiB (bdH ⟨l, f :: r, o⟩ ++ K).length r.length (4 + 3 * r.length) (3 + 3 * r.length) 0 = 0 from rfl, hms f 0 (by simp)]
      show some (Ent.box (Bd.c ⟨l, f :: r, o⟩)) = _
      simp [AH.at, renE, renL, ren, Bd.c, Enc.tk_ren, phiB, upC]
    · rw [show phiB (bdH ⟨l, f :: r, o⟩ ++ K).length r.length (4 + 3 * r.length) (3 + 3 * r.length) 1 = 2 + 3 * r.length from rfl, hms f _ (by simp), bd_atF]
      simp only [AH.at, List.getElem?_cons_succ, List.getElem?_cons_zero, Option.join_some, Option.map_some, renE, renL_app, renL_low _ _ f.pre_low, renL, hup, Enc.tk_ren, ren]
      simp [Fr.c, h0, phiB, Enc.tk_ne, ren, renL_low _ _ (ndE.row_low _)]
      first | done | rfl
    · rw [show phiB (bdH ⟨l, f :: r, o⟩ ++ K).length r.length (4 + 3 * r.length) (3 + 3 * r.length) 2 = 1 from rfl, hmo f 1 (by simp <;> omega) (by omega)]
      rfl
    · exact g3 f
    · rw [show phiB (bdH ⟨l, f :: r, o⟩ ++ K).length r.length (4 + 3 * r.length) (3 + 3 * r.length) 4 = (4 + 3 * r.length) from rfl, hmo f _ (by simp <;> omega) (by omega)]
      rfl
    · rw [show phiB (bdH ⟨l, f :: r, o⟩ ++ K).length r.length (4 + 3 * r.length) (3 + 3 * r.length) 5 = (3 + 3 * r.length) from rfl, hms f _ (by simp), bd_atB, tokE_ne h0]
      rfl
  · intro i hi1 hi2
    omega
  · intro i hi
    rcases six hi with rfl | rfl | rfl | rfl | rfl | rfl
    · rw [show phiB (bdH ⟨l, f :: r, o⟩ ++ K).length r.length (4 + 3 * r.length) (3 + 3 * r.length) 0 = 0 from rfl, hms f' 0 (by simp)]
      show some (Ent.box (Bd.c ⟨l, f' :: r, o⟩)) = _
      simp [AH.at, renE, renL, ren, Bd.c, Enc.tk_ren, phiB, upC]
    · rw [show phiB (bdH ⟨l, f :: r, o⟩ ++ K).length r.length (4 + 3 * r.length) (3 + 3 * r.length) 1 = 2 + 3 * r.length from rfl, hms f' _ (by simp), bd_atF]
      simp only [AH.at, List.getElem?_cons_succ, List.getElem?_cons_zero, Option.join_some, Option.map_some, renE, renL_app, renL_low _ _ f.pre_low, renL, hup, Enc.tk_ren, ren]
      simp [Fr.c, e1, e2, e3, e4, phiB, Enc.tk_ne, renL_low _ _ (ndC_low n), renL_app, Enc.row_append, Enc.row_one1, h0, renL_low _ _ (ndE.row_low _)]
      first | done | rfl | exact ⟨rfl, rfl⟩
    · rw [show phiB (bdH ⟨l, f :: r, o⟩ ++ K).length r.length (4 + 3 * r.length) (3 + 3 * r.length) 2 = 1 from rfl, hmo f' 1 (by simp <;> omega) (by omega)]
      rfl
    · exact g3 f'
    · rw [show phiB (bdH ⟨l, f :: r, o⟩ ++ K).length r.length (4 + 3 * r.length) (3 + 3 * r.length) 4 = (4 + 3 * r.length) from rfl, hmo f' _ (by simp <;> omega) (by omega)]
      rfl
    · rw [show phiB (bdH ⟨l, f :: r, o⟩ ++ K).length r.length (4 + 3 * r.length) (3 + 3 * r.length) 5 = (3 + 3 * r.length) from rfl, hms f' _ (by simp), bd_atB, e1, tokE_ne (by simp)]
      simp [AH.at, renE, h0]
  · intro j hj
    have h1 := hj 1 (by decide)
    have h5 := hj 5 (by decide)
    rw [show phiB (bdH ⟨l, f :: r, o⟩ ++ K).length r.length (4 + 3 * r.length) (3 + 3 * r.length) 1 = 2 + 3 * r.length from rfl] at h1
    rw [show phiB (bdH ⟨l, f :: r, o⟩ ++ K).length r.length (4 + 3 * r.length) (3 + 3 * r.length) 5 = (3 + 3 * r.length) from rfl] at h5
    exact bd_else l f f' r o K (fun h => h1 h.symm) (fun h => absurd h.symm h5) (fun _ => by rw [e2])
  · intro j hj _
    simp only [List.mem_cons, List.not_mem_nil, or_false, not_or] at hj
    obtain ⟨h0', h1, h5⟩ := hj
    exact bd_else l f f' r o K h1 (fun h => absurd h h5) (fun _ => by rw [e2])
theorem put_fr_else_nil (l : List Nd) (f : Fr) (r : List Fr) (o : Bool) (n : Nd) (K : AH) (hmid : 0 ≤ f.mid) (h0 : f.els = []) :
    CS Tryz.prog envS 128 [.ptr 0 0, .agg (ndC n)] (bdH ⟨l, f :: r, o⟩ ++ K) (.tup []) (bdH ⟨l, { f with els := f.els ++ [n] } :: r, o⟩ ++ K) := by
  have hs := put_else_nil (ndC n) f.pre (ndE.tk 2 l) (ndE.tk 4 f.body) (if r.length = 0 then .nilPtr else .ptr 3 0) (some .hid) (if r.length = 0 then none else some .hid) (some .hid) f.mid hmid f.pre_len (ndC_len n) (ndC_one n) (ndC_low n) (Enc.tk_low _ (by decide) _) (Enc.tk_low _ (by decide) _) (by split <;> rfl) f.pre_low rfl (by split <;> rfl) rfl ((f :: r).length : Int) o
  generalize hf' : ({ f with els := f.els ++ [n] } : Fr) = f'
  have hN := bd_len l f r o K
  have hN' := bd_len l f' r o K
  have e1 : f'.els = f.els ++ [n] := by subst hf'; rfl
  have e2 : f'.body = f.body := by subst hf'; rfl
  have e3 : f'.pre = f.pre := by subst hf'; rfl
  have e4 : f'.mid = f.mid := by subst hf'; rfl
  have hphi := phiB_inj (N := (bdH ⟨l, f :: r, o⟩ ++ K).length) (d := r.length) (T2 := (3 + 3 * r.length)) (T := (4 + 3 * r.length)) (by omega) (by omega)
  have six : ∀ {i : Nat}, i < 6 → i = 0 ∨ i = 1 ∨ i = 2 ∨ i = 3 ∨ i = 4 ∨ i = 5 := fun h => by omega
  have low6 := fun (l : List AV) (h : lowL 0 l = true) (m : Nat) => lowL_mono (Nat.zero_le m) l h
  have hup : ren (phiB (bdH ⟨l, f :: r, o⟩ ++ K).length r.length (3 + 3 * r.length) (4 + 3 * r.length)) (if r.length = 0 then .nilPtr else .ptr 3 0) = upC r.length := by
    cases hd : r.length with
    | zero => rfl
    | succ d =>
      simp [ren, upC, phiB]
      omega
  have hms : ∀ f0 : Fr, ∀ i, i ∈ [0, 2 + 3 * r.length, (4 + 3 * r.length)] → (mask (bdH ⟨l, f0 :: r, o⟩ ++ K) [0, 2 + 3 * r.length, (4 + 3 * r.length)]).at i = (bdH ⟨l, f0 :: r, o⟩ ++ K).at i := fun f0 i hi => mask_mem hi
  have hmo : ∀ f0 : Fr, ∀ i, i ∉ [0, 2 + 3 * r.length, (4 + 3 * r.length)] → i < 5 + 3 * r.length → (mask (bdH ⟨l, f0 :: r, o⟩ ++ K) [0, 2 + 3 * r.length, (4 + 3 * r.length)]).at i = some .hid := fun f0 i hi hl => mask_at_out hi (by rw [bd_len]; omega)
  have hmb : ∀ f0 : Fr, (mask (bdH ⟨l, f0 :: r, o⟩ ++ K) [0, 2 + 3 * r.length, (4 + 3 * r.length)]).at (bdH ⟨l, f :: r, o⟩ ++ K).length = none := fun f0 => at_ge (by rw [mask_length, bd_len, bd_len]; omega)
  have g3 : ∀ f0 : Fr, (mask (bdH ⟨l, f0 :: r, o⟩ ++ K) [0, 2 + 3 * r.length, (4 + 3 * r.length)]).at (phiB (bdH ⟨l, f :: r, o⟩ ++ K).length r.length (3 + 3 * r.length) (4 + 3 * r.length) 3) = Option.map (renE (phiB (bdH ⟨l, f :: r, o⟩ ++ K).length r.length (3 + 3 * r.length) (4 + 3 * r.length))) (if r.length = 0 then none else some .hid) := by
    intro f0
    by_cases hd : r.length = 0
    · have : phiB (bdH ⟨l, f :: r, o⟩ ++ K).length r.length (3 + 3 * r.length) (4 + 3 * r.length) 3 = (bdH ⟨l, f :: r, o⟩ ++ K).length := by simp [phiB, hd]
      rw [this, hmb, if_pos hd]
      rfl
    · have : phiB (bdH ⟨l, f :: r, o⟩ ++ K).length r.length (3 + 3 * r.length) (4 + 3 * r.length) 3 = 3 * r.length - 1 := by simp [phiB, hd]
      rw [this, if_neg hd, hmo f0 _ (by simp <;> omega) (by omega)]
      rfl
  have := CS.graft (k := 5) (n := 6) (phiB (bdH ⟨l, f :: r, o⟩ ++ K).length r.length (3 + 3 * r.length) (4 + 3 * r.length)) [0, 2 + 3 * r.length, (4 + 3 * r.length)] (H := bdH ⟨l, f :: r, o⟩ ++ K) (H' := bdH ⟨l, f' :: r, o⟩ ++ K) hs rfl rfl (by decide) hphi lowS (by simp [low6 _ (ndC_low n)]) rfl
    (by simp [lowH, lowE, lowL_append, low6 _ f.pre_low, Enc.tk_low] <;> split <;> simp [low])
    (by simp [lowH, lowE, lowL_append, low6 _ f.pre_low, Enc.tk_low, low6 _ (ndC_low n)] <;> split <;> simp [low]) (by rw [bd_len, bd_len]) ?_ ?_ ?_ ?_ ?_
  · simpa [renL, ren, renL_low _ _ (ndC_low n), phiB] using this
  · intro i hi
    rcases six (show i < 6 by omega) with rfl | rfl | rfl | rfl | rfl | rfl
    · rw [show phiB (bdH ⟨l, f :: r, o⟩ ++ K).length r.length (3 + 3 * r.length) (4 + 3 * r.length) 0 = 0 from rfl, hms f 0 (by simp)]
      show some (Ent.box (Bd.c ⟨l, f :: r, o⟩)) = _
      simp [AH.at, renE, renL, ren, Bd.c, Enc.tk_ren, phiB, upC]
    · rw [show phiB (bdH ⟨l, f :: r, o⟩ ++ K).length r.length (3 + 3 * r.length) (4 + 3 * r.length) 1 = 2 + 3 * r.length from rfl, hms f _ (by simp), bd_atF]
      simp only [AH.at, List.getElem?_cons_succ, List.getElem?_cons_zero, Option.join_some, Option.map_some, renE, renL_app, renL_low _ _ f.pre_low, renL, hup, Enc.tk_ren, ren]
      simp [Fr.c, h0, phiB]
      first | done | rfl
    · rw [show phiB (bdH ⟨l, f :: r, o⟩ ++ K).length r.length (3 + 3 * r.length) (4 + 3 * r.length) 2 = 1 from rfl, hmo f 1 (by simp <;> omega) (by omega)]
      rfl
    · exact g3 f
    · rw [show phiB (bdH ⟨l, f :: r, o⟩ ++ K).length r.length (3 + 3 * r.length) (4 + 3 * r.length) 4 = (3 + 3 * r.length) from rfl, hmo f _ (by simp <;> omega) (by omega)]
      rfl
    · omega
  · intro i hi1 hi2
    obtain rfl : i = 5 := by omega
    rw [show phiB (bdH ⟨l, f :: r, o⟩ ++ K).length r.length (3 + 3 * r.length) (4 + 3 * r.length) 5 = (4 + 3 * r.length) from rfl, hms f _ (by simp), bd_atE, h0]
    rfl
  · intro i hi
    rcases six hi with rfl | rfl | rfl | rfl | rfl | rfl
    · rw [show phiB (bdH ⟨l, f :: r, o⟩ ++ K).length r.length (3 + 3 * r.length) (4 + 3 * r.length) 0 = 0 from rfl, hms f' 0 (by simp)]
      show some (Ent.box (Bd.c ⟨l, f' :: r, o⟩)) = _
      simp [AH.at, renE, renL, ren, Bd.c, Enc.tk_ren, phiB, upC]
    · rw [show phiB (bdH ⟨l, f :: r, o⟩ ++ K).length r.length (3 + 3 * r.length) (4 + 3 * r.length) 1 = 2 + 3 * r.length from rfl, hms f' _ (by simp), bd_atF]
      simp only [AH.at, List.getElem?_cons_succ, List.getElem?_cons_zero, Option.join_some, Option.map_some, renE, renL_app, renL_low _ _ f.pre_low, renL, hup, Enc.tk_ren, ren]
      simp [Fr.c, e1, e2, e3, e4, phiB, Enc.tk_ne, renL_low _ _ (ndC_low n), renL_app, Enc.row_append, Enc.row_one1, h0, renL_low _ _ (ndE.row_low _)]
      first | done | rfl | exact ⟨rfl, rfl⟩
    · rw [show phiB (bdH ⟨l, f :: r, o⟩ ++ K).length r.length (3 + 3 * r.length) (4 + 3 * r.length) 2 = 1 from rfl, hmo f' 1 (by simp <;> omega) (by omega)]
      rfl
    · exact g3 f'
    · rw [show phiB (bdH ⟨l, f :: r, o⟩ ++ K).length r.length (3 + 3 * r.length) (4 + 3 * r.length) 4 = (3 + 3 * r.length) from rfl, hmo f' _ (by simp <;> omega) (by omega)]
      rfl
    · rw [show phiB (bdH ⟨l, f :: r, o⟩ ++ K).length r.length (3 + 3 * r.length) (4 + 3 * r.length) 5 = (4 + 3 * r.length) from rfl, hms f' _ (by simp), bd_atE, e1, tokE_ne (by simp)]
      simp [AH.at, renE, h0]
  · intro j hj
    have h1 := hj 1 (by decide)
    have h5 := hj 5 (by decide)
    rw [show phiB (bdH ⟨l, f :: r, o⟩ ++ K).length r.length (3 + 3 * r.length) (4 + 3 * r.length) 1 = 2 + 3 * r.length from rfl] at h1
    rw [show phiB (bdH ⟨l, f :: r, o⟩ ++ K).length r.length (3 + 3 * r.length) (4 + 3 * r.length) 5 = (4 + 3 * r.length) from rfl] at h5
    exact bd_else l f f' r o K (fun h => h1 h.symm) (fun _ => by rw [e2]) (fun h => absurd h.symm h5)
  · intro j hj _
    simp only [List.mem_cons, List.not_mem_nil, or_false, not_or] at hj
    obtain ⟨h0', h1, h5⟩ := hj
    exact bd_else l f f' r o K h1 (fun _ => by rw [e2]) (fun h => absurd h h5)
theorem put_fr_else_tok (l : List Nd) (f : Fr) (r : List Fr) (o : Bool) (n : Nd) (K : AH) (hmid : 0 ≤ f.mid) (h0 : f.els ≠ []) (hm : f.els.length < 137438953472) :
    CS Tryz.prog envS 128 [.ptr 0 0, .agg (ndC n)] (bdH ⟨l, f :: r, o⟩ ++ K) (.tup []) (bdH ⟨l, { f with els := f.els ++ [n] } :: r, o⟩ ++ K) := by
  have hs := put_else_tok (ndC n) f.pre (ndE.row f.els) f.els.length hm (ndE.row_low _) (ndE.tk 2 l) (ndE.tk 4 f.body) (if r.length = 0 then .nilPtr else .ptr 3 0) (some .hid) (if r.length = 0 then none else some .hid) (some .hid) f.mid hmid f.pre_len (ndC_len n) (ndC_one n) (ndC_low n) (Enc.tk_low _ (by decide) _) (Enc.tk_low _ (by decide) _) (by split <;> rfl) f.pre_low rfl (by split <;> rfl) rfl ((f :: r).length : Int) o
  generalize hf' : ({ f with els := f.els ++ [n] } : Fr) = f'
  have hN := bd_len l f r o K
  have hN' := bd_len l f' r o K
  have e1 : f'.els = f.els ++ [n] := by subst hf'; rfl
  have e2 : f'.body = f.body := by subst hf'; rfl
  have e3 : f'.pre = f.pre := by subst hf'; rfl
  have e4 : f'.mid = f.mid := by subst hf'; rfl
  have hphi := phiB_inj (N := (bdH ⟨l, f :: r, o⟩ ++ K).length) (d := r.length) (T2 := (3 + 3 * r.length)) (T := (4 + 3 * r.length)) (by omega) (by omega)
  have six : ∀ {i : Nat}, i < 6 → i = 0 ∨ i = 1 ∨ i = 2 ∨ i = 3 ∨ i = 4 ∨ i = 5 := fun h => by omega
  have low6 := fun (l : List AV) (h : lowL 0 l = true) (m : Nat) => lowL_mono (Nat.zero_le m) l h
  have hup : ren (phiB (bdH ⟨l, f :: r, o⟩ ++ K).length r.length (3 + 3 * r.length) (4 + 3 * r.length)) (if r.length = 0 then .nilPtr else .ptr 3 0) = upC r.length := by
    cases hd : r.length with
    | zero => rfl
    | succ d =>
      simp [ren, upC, phiB]
      omega
  have hms : ∀ f0 : Fr, ∀ i, i ∈ [0, 2 + 3 * r.length, (4 + 3 * r.length)] → (mask (bdH ⟨l, f0 :: r, o⟩ ++ K) [0, 2 + 3 * r.length, (4 + 3 * r.length)]).at i = (bdH ⟨l, f0 :: r, o⟩ ++ K).at i := fun f0 i hi => mask_mem hi
  have hmo : ∀ f0 : Fr, ∀ i, i ∉ [0, 2 + 3 * r.length, (4 + 3 * r.length)] → i < 5 + 3 * r.length → (mask (bdH ⟨l, f0 :: r, o⟩ ++ K) [0, 2 + 3 * r.length, (4 + 3 * r.length)]).at i = some .hid := fun f0 i hi hl => mask_at_out hi (by rw [bd_len]; omega)
  have hmb : ∀ f0 : Fr, (mask (bdH ⟨l, f0 :: r, o⟩ ++ K) [0, 2 + 3 * r.length, (4 + 3 * r.length)]).at (bdH ⟨l, f :: r, o⟩ ++ K).length = none := fun f0 => at_ge (by rw [mask_length, bd_len, bd_len]; omega)
  have g3 : ∀ f0 : Fr, (mask (bdH ⟨l, f0 :: r, o⟩ ++ K) [0, 2 + 3 * r.length, (4 + 3 * r.length)]).at (phiB (bdH ⟨l, f :: r, o⟩ ++ K).length r.length (3 + 3 * r.length) (4 + 3 * r.length) 3) = Option.map (renE (phiB (bdH ⟨l, f :: r, o⟩ ++ K).length r.length (3 + 3 * r.length) (4 + 3 * r.length))) (if r.length = 0 then none else some .hid) := by
    intro f0
    by_cases hd : r.length = 0
    · have : phiB (bdH ⟨l, f :: r, o⟩ ++ K).length r.length (3 + 3 * r.length) (4 + 3 * r.length) 3 = (bdH ⟨l, f :: r, o⟩ ++ K).length := by simp [phiB, hd]
      rw [this, hmb, if_pos hd]
      rfl
    · have : phiB (bdH ⟨l, f :: r, o⟩ ++ K).length r.length (3 + 3 * r.length) (4 + 3 * r.length) 3 = 3 * r.length - 1 := by simp [phiB, hd]
      rw [this, if_neg hd, hmo f0 _ (by simp <;> omega) (by omega)]
      rfl
  have := CS.graft (k := 6) (n := 6) (phiB (bdH ⟨l, f :: r, o⟩ ++ K).length r.length (3 + 3 * r.length) (4 + 3 * r.length)) [0, 2 + 3 * r.length, (4 + 3 * r.length)] (H := bdH ⟨l, f :: r, o⟩ ++ K) (H' := bdH ⟨l, f' :: r, o⟩ ++ K) hs rfl rfl (by decide) hphi lowS (by simp [low6 _ (ndC_low n)]) rfl
    (by simp [lowH, lowE, lowL_append, low6 _ f.pre_low, Enc.tk_low] <;> split <;> simp [low])
    (by simp [lowH, lowE, lowL_append, low6 _ f.pre_low, Enc.tk_low, low6 _ (ndC_low n)] <;> split <;> simp [low]) (by rw [bd_len, bd_len]) ?_ ?_ ?_ ?_ ?_
  · simpa [renL, ren, renL_low _ _ (ndC_low n), phiB] using this
  · intro i hi
    rcases six (show i < 6 by omega) with rfl | rfl | rfl | rfl | rfl | rfl
    · rw [show phiB (bdH ⟨l, f :: r, o⟩ ++ K).length r.length (3 + 3 * r.length) (4 + 3 * r.length) 0 = 0 from rfl, hms f 0 (by simp)]
      show some (Ent.box (Bd.c ⟨l, f :: r, o⟩)) = _
      simp [AH.at, renE, renL, ren, Bd.c, Enc.tk_ren, phiB, upC]
    · rw [show phiB (bdH ⟨l, f :: r, o⟩ ++ K).length r.length (3 + 3 * r.length) (4 + 3 * r.length) 1 = 2 + 3 * r.length from rfl, hms f _ (by simp), bd_atF]
      simp only [AH.at, List.getElem?_cons_succ, List.getElem?_cons_zero, Option.join_some, Option.map_some, renE, renL_app, renL_low _ _ f.pre_low, renL, hup, Enc.tk_ren, ren]
      simp [Fr.c, h0, phiB, Enc.tk_ne, ren, renL_low _ _ (ndE.row_low _)]
      first | done | rfl
    · rw [show phiB (bdH ⟨l, f :: r, o⟩ ++ K).length r.length (3 + 3 * r.length) (4 + 3 * r.length) 2 = 1 from rfl, hmo f 1 (by simp <;> omega) (by omega)]
      rfl
    · exact g3 f
    · rw [show phiB (bdH ⟨l, f :: r, o⟩ ++ K).length r.length (3 + 3 * r.length) (4 + 3 * r.length) 4 = (3 + 3 * r.length) from rfl, hmo f _ (by simp <;> omega) (by omega)]
      rfl
    · rw [show phiB (bdH ⟨l, f :: r, o⟩ ++ K).length r.length (3 + 3 * r.length) (4 + 3 * r.length) 5 = (4 + 3 * r.length) from rfl, hms f _ (by simp), bd_atE, tokE_ne h0]
      rfl
  · intro i hi1 hi2
    omega
  · intro i hi
    rcases six hi with rfl | rfl | rfl | rfl | rfl | rfl
    · rw [show phiB (bdH ⟨l, f :: r, o⟩ ++ K).length r.length (3 + 3 * r.length) (4 + 3 * r.length) 0 = 0 from rfl, hms f' 0 (by simp)]
      show some (Ent.box (Bd.c ⟨l, f' :: r, o⟩)) = _
      simp [AH.at, renE, renL, ren, Bd.c, Enc.tk_ren, phiB, upC]
    · rw [show phiB (bdH ⟨l, f :: r, o⟩ ++ K).length r.length (3 + 3 * r.length) (4 + 3 * r.length) 1 = 2 + 3 * r.length from rfl, hms f' _ (by simp), bd_atF]
      simp only [AH.at, List.getElem?_cons_succ, List.getElem?_cons_zero, Option.join_some, Option.map_some, renE, renL_app, renL_low _ _ f.pre_low, renL, hup, Enc.tk_ren, ren]
      simp [Fr.c, e1, e2, e3, e4, phiB, Enc.tk_ne, renL_low _ _ (ndC_low n), renL_app, Enc.row_append, Enc.row_one1, h0, renL_low _ _ (ndE.row_low _)]
      first | done | rfl | exact ⟨rfl, rfl⟩
    · rw [show phiB (bdH ⟨l, f :: r, o⟩ ++ K).length r.length (3 + 3 * r.length) (4 + 3 * r.length) 2 = 1 from rfl, hmo f' 1 (by simp <;> omega) (by omega)]
      rfl
    · exact g3 f'
    · rw [show phiB (bdH ⟨l, f :: r, o⟩ ++ K).length r.length (3 + 3 * r.length) (4 + 3 * r.length) 4 = (3 + 3 * r.length) from rfl, hmo f' _ (by simp <;> omega) (by omega)]
      rfl
    · rw [show phiB (bdH ⟨l, f :: r, o⟩ ++ K).length r.length (3 + 3 * r.length) (4 + 3 * r.length) 5 = (4 + 3 * r.length) from rfl, hms f' _ (by simp), bd_atE, e1, tokE_ne (by simp)]
      simp [AH.at, renE, h0]
  · intro j hj
    have h1 := hj 1 (by decide)
    have h5 := hj 5 (by decide)
    rw [show phiB (bdH ⟨l, f :: r, o⟩ ++ K).length r.length (3 + 3 * r.length) (4 + 3 * r.length) 1 = 2 + 3 * r.length from rfl] at h1
    rw [show phiB (bdH ⟨l, f :: r, o⟩ ++ K).length r.length (3 + 3 * r.length) (4 + 3 * r.length) 5 = (4 + 3 * r.length) from rfl] at h5
    exact bd_else l f f' r o K (fun h => h1 h.symm) (fun _ => by rw [e2]) (fun h => absurd h.symm h5)
  · intro j hj _
    simp only [List.mem_cons, List.not_mem_nil, or_false, not_or] at hj
    obtain ⟨h0', h1, h5⟩ := hj
    exact bd_else l f f' r o K h1 (fun _ => by rw [e2]) (fun h => absurd h h5)
theorem put_top0 (n : Nd) (o : Bool) (K : AH) : CS Tryz.prog envS 128 [.ptr 0 0, .agg (ndC n)] (bdH ⟨[], [], o⟩ ++ K) (.tup []) (bdH ⟨[n], [], o⟩ ++ K) := by
  have hs := put0_cs (ndC_len n) (ndC_one n) (ndC_low n) 0 o
  have low6 := fun (l : List AV) (h : lowL 0 l = true) (m : Nat) => lowL_mono (Nat.zero_le m) l h
  have := CS.grow (k := 1) (n := 2) (fun i => i) (H := bdH ⟨[], [], o⟩ ++ K) (H' := bdH ⟨[n], [], o⟩ ++ K) hs rfl rfl (by decide) (fun i j _ _ h => h) lowS (by simp [low6 _ (ndC_low n)]) rfl (by simp [lowH, lowE]) (by simp [lowH, lowE, low6 _ (ndC_low n)]) (by
      intro i hi
      obtain rfl : i = 0 := by omega
      simp [bdH, AH.at, Bd.c, renE, renL, ren, upC]) (by
      intro i hi hi2
      obtain rfl : i = 1 := by omega
      simp [bdH, AH.at]) (by
      intro i hi
      rcases (by omega : i = 0 ∨ i = 1) with rfl | rfl
      · simp [bdH, AH.at, Bd.c, renE, renL, ren, upC, Enc.tk_ne, renL_low _ _ (ndC_low n), Enc.row_one1]
        exact ⟨rfl, rfl⟩
      · simp [bdH, AH.at, tokE_ne, renE]) (by
      intro j hj
      have h0 := hj 0 (by decide)
      have h1 := hj 1 (by decide)
      obtain ⟨i, rfl⟩ : ∃ i, j = i + 2 := ⟨j - 2, by omega⟩
      simp [bdH, AH.at, frH])
  simpa [renL, ren, renL_low _ _ (ndC_low n)] using this
theorem put_cs (s : Bd) (n : Nd) (K : AH) {m : Nat} (hs : s.ok m) (hm : m < 137438953472) : CS Tryz.prog envS 128 [.ptr 0 0, .agg (ndC n)] (bdH s ++ K) (.tup []) (bdH (s.put n) ++ K) := by
  obtain ⟨l, fs, o⟩ := s
  obtain ⟨h1, h2⟩ := hs
  simp only at h1
  cases fs with
  | nil =>
    by_cases h0 : l = []
    · subst h0
      exact put_top0 n o K
    · have := put_top_tok (H := bdH ⟨l, [], o⟩ ++ K) (b := 0) (T := 1) (ndC n) (ndE.row l) l.length (by omega) (ndC_len n) (ndC_one n) (ndC_low n) (ndE.row_low _) 0 o (by simp [bdH, AH.at, Bd.c, upC, Enc.tk_ne _ _ h0]; rfl) (by simp [bdH, AH.at, tokE_ne h0])
      have e5 : ndE.sz = 34 := rfl
      have e6 : ndE.c n = ndC n := rfl
      simpa [bdH, Bd.put, frH, Bd.c, upC, Enc.tk_ne, tokE_ne, Enc.row_append, Enc.row_one1, e5, e6, h0] using this
  | cons f r =>
    obtain ⟨h3, h4⟩ := h2 f List.mem_cons_self
    simp only [Bd.put, Fr.put]
    by_cases hmid : 0 ≤ f.mid
    · rw [if_pos hmid]
      by_cases h0 : f.els = []
      · exact put_fr_else_nil l f r o n K hmid h0
      · exact put_fr_else_tok l f r o n K hmid h0 (by omega)
    · rw [if_neg hmid]
      by_cases h0 : f.body = []
      · exact put_fr_body_nil l f r o n K (by omega) h0
      · exact put_fr_body_tok l f r o n K (by omega) h0 (by omega)
end Go.Proofs.YtejjlojfgcgopaaGreatDoor
