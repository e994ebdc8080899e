/- Regions within a round of a range over a function, and withi .. The environment of the laws on words; calls of the library t -/
import Derived.Test.YtejjlojfgcgopaaGreatDoorZ6
import Derived.Test.YtejjlojfgcgopaaGreatDoorZ4
import Derived.Test.YtejjlojfgcgopaaGreatDoorZ2
import Derived.RangeFuncRecord
import Derived.LoopNIn
import Derived.OrdersIn
import Derived.Test.YtejjlojfgcgopaaGreatDoorChecked
import Derived.KernelRfl
import Derived.Test.YtejjlojfgcgopaaGreatDoorRows
import Derived.WalkKit
import Derived.Lib.Bytealg
import Derived.Lib.Strings
import Derived.Lib.Walk
set_option linter.unusedSimpArgs false
set_option linter.unusedVariables false
namespace Go.Proofs.Fw
open Go.RowKit
def wideF (ro : Option Nat) : Fence := { Fence.wide with round := ro }
theorem wideF_in (l : Nat) : (wideF none).inRound l = wideF (some l) := rfl
theorem callsIn_wideF {ro : Option Nat} {n : Nat} {P : Program} {f : FuncId} {args : Array Value} {w : World} {R : Ending → World → Prop} (h : Calls P f args w R) : CallsIn (wideF ro) n P f args w R := (callsIn_wide (n := n)).2 h
theorem calls_wideF {n : Nat} {P : Program} {f : FuncId} {args : Array Value} {w : World} {R : Ending → World → Prop} (h : CallsIn (wideF none) n P f args w R) : Calls P f args w R := (callsIn_wide (n := n)).1 h
def noDef (o : Op) : Bool := match o with
  | .defer _ => false
  | _ => true
section
variable {P : Program} {ro : Option Nat} {n : Nat}
theorem opIn_of {o : Oper} (hnd : noDef o.op = true) {K : Act → World → Prop} {Q : Exit → Act → World → Prop} {a : Act} {w : World} (h : o.wp P a w K Q) : o.wpIn (wideF ro) n P a w K Q := by
  refine ⟨fun _ _ => trivial, ?_⟩
  have hsem : Oper.semAt (wideF ro).round a.eval o = execOp a.eval o := Oper.semAt_eq _ _ _ (fun c hc => by rw [hc] at hnd; cases hnd)
  rw [hsem]
  unfold Oper.wp at h
  revert h
  generalize (execOp a.eval o).run P w = r
  intro h
  cases r with
  | ok nx w' =>
    cases nx with
    | enter f args => exact ⟨(fun hh => by cases hh), callsIn_wideF h⟩
    | row r args => 
      refine ⟨(fun hh => by cases hh), ?_⟩
      intro c cs _
      obtain ⟨v, w2, hr, hs⟩ := h c cs
      exact ⟨v, w2, hr, (stepsIn_wide (P := P)).2 hs⟩
    | _ => first | exact h | exact h.elim
  | halt r w' => cases r <;> first | exact h | exact h.elim
theorem wpOpsIn_of {ops : Array Oper} {Q : Exit → Act → World → Prop} (hno : ¬ LetsOut Q) (hnd : ∀ (i : Nat) (o : Oper), ops[i]? = some o → noDef o.op = true) : ∀ (is : List Nat) (a : Act) (w : World), wpOps P ops Q is a w → wpOpsIn (wideF ro) n P ops Q is a w
  | [], a, w, h => h
  | i :: is, a, w, h => by
    simp only [wpOps] at h
    simp only [wpOpsIn]
    cases ho : ops[i]? with
    | none =>
      rw [ho] at h
      exact wpOpsIn_of hno hnd is a w h
    | some o =>
      rw [ho] at h
      simp only at h ⊢
      split
      · rename_i hw
        rw [if_pos hw] at h
        rcases h with h | h
        · exact Oper.wpIn_mono (fun a w h => wpOpsIn_of hno hnd is a w h) (opIn_of (hnd i o ho) h)
        · exact absurd h.2 hno
      · rename_i hw
        rw [if_neg hw] at h
        exact ⟨fun _ _ => trivial, wpOpsIn_of hno hnd is _ w h⟩
theorem wpAnyIn_of {md : Region.Mode} {ops : Array Oper} {Q : Exit → Act → World → Prop} (hno : ¬ LetsOut Q) (hnd : ∀ (i : Nat) (o : Oper), ops[i]? = some o → noDef o.op = true) : ∀ (m : Nat) (listed : Array Bool) (a : Act) (w : World), wpAny P md ops Q m listed a w → wpAnyIn (wideF ro) n P md ops Q m listed a w
  | 0, listed, a, w, h => h
  | m + 1, listed, a, w, h => by
    refine ⟨h.1, fun i hi => ?_⟩
    have h2 := h.2 i hi
    unfold wpOp at h2
    unfold wpOpIn
    cases ho : ops[i]? with
    | none =>
      rw [ho] at h2
      exact wpAnyIn_of hno hnd m _ a w h2
    | some o =>
      rw [ho] at h2
      simp only at h2 ⊢
      split
      · rename_i hw
        rw [if_pos hw] at h2
        rcases h2 with h2 | h2
        · exact Oper.wpIn_mono (fun a w h => wpAnyIn_of hno hnd m _ a w h) (opIn_of (hnd i o ho) h2)
        · exact absurd h2.2 hno
      · rename_i hw
        rw [if_neg hw] at h2
        exact ⟨fun _ _ => trivial, wpAnyIn_of hno hnd m _ _ w h2⟩
variable {E : Env} {O : Orc} {g : Gh} {H : AH} {w : World}
def noDefs (ops : Array Oper) : Bool := ops.toList.all fun o => noDef o.op
theorem noDefs_at {ops : Array Oper} (h : noDefs ops = true) (i : Nat) (o : Oper) (hi : ops[i]? = some o) : noDef o.op = true :=
  List.all_eq_true.1 h o (by rw [← Array.getElem?_toList] at hi; exact List.mem_of_getElem? hi)
theorem drawR (X : Cx O P E) {ops : Array Oper} (hnd : noDefs ops = true) {id : Nat} {t t1 : List AV} {H1 : AH} {a : Act} {Q : Exit → Act → World → Prop} (h : evDraw O P E ops t H = some (t1, H1))
    (R : Rel g H w) (hG : GlobOk E g) (hT : RepL g t a.tmps.toList) (hd : a.defers = [])
    (hQ : ∀ g' a' w', Rel g' H1 w' → Post g H w g' H1 w' → RepL g' t1 a'.tmps.toList → a'.defers = [] → Q .normal a' w') : (Code.region id ops true).wpIn (wideF ro) n P Q a w := by
  have h1 := evDraw_any X.sound X.meth (Q := fun e a' w' => e = .normal ∧ Q .normal a' w') h R hG hT hd (fun g' a' w' R' p' q r => ⟨rfl, hQ g' a' w' R' p' q r⟩)
  refine wpIn_mono (wpIn_region_any X.mix (wpAnyIn_of (by rintro ⟨_, _, h, _⟩; cases h) (noDefs_at hnd) _ _ _ _ h1)) ?_
  rintro e a' w' ⟨rfl, h⟩
  exact h
theorem WTr.draw {ks : List Nat} {bad : List (Nat × Nat)} {ops : Array Oper} {t : List AV} {K : List AV → AH → Prop} (hd : okDrawB ops ks bad = true)
    (h : WTr O P E ops ks (bad.flatMap fun p => [p.1, p.2]) 0 (withIds E ops.toList H.length) t (grow H (idCount E ops.toList)) [] fun t1 H1 f => badOk f bad = true ∧ K t1 H1) : ∃ t1 H1, evDraw O P E ops t H = some (t1, H1) ∧ K t1 H1 := by
  simp only [okDrawB, Bool.and_eq_true] at hd
  obtain ⟨t1, H1, its, h1, h2, h3, h4⟩ := WTr.items (ms := masksFrom [] ops.toList) h
  obtain ⟨q1, q2, q3, q4⟩ := evD_items _ _ _ _ _ _ _ h1
  have hp : its.Pairwise fun a b => a.i ≠ b.i := by
    have : (its.map (·.i)).Pairwise (· ≠ ·) := by
      rw [q4]
      exact (List.pairwise_lt_range' ..).imp (fun h => Nat.ne_of_lt h)
    exact List.pairwise_map.1 this
  rw [List.nil_append] at h3
  have hsyn : its.map Item.syn = synItems 0 (masksFrom [] ops.toList) (withIds E ops.toList H.length) := evD_syn h1
  have hc : chk ops its = true := chk_of_B hp h2 h3 its (fun _ h => h) (by rw [hsyn, syn_withIds]; exact hd.1)
  refine ⟨t1, H1, ?_, h4⟩
  unfold evDraw
  rw [h1]
  simp only
  rw [if_pos ⟨hc, hd.2⟩]
end
end Go.Proofs.Fw

namespace Go.Proofs.Fw
open Go.RowKit
section
variable {P : Program} {E : Env} {O : Orc} {ro : Option Nat} {B : Bs} {Ω : World → Prop} {t : List AV} {H : AH} {Q : AEx → List AV → AH → Prop} {D : List Deferred}
def SatD (B : Bs) (D : List Deferred) (t : List AV) (H : AH) (a : Act) (w : World) : Prop := ∃ g, Rel g H w ∧ Post B.g B.H B.w g H w ∧ RepL g t a.tmps.toList ∧ a.defers = D
theorem SatD.nil {a : Act} {w : World} : SatD B [] t H a w ↔ Sat B t H a w := Iff.rfl
def TrR (ro : Option Nat) (P : Program) (B : Bs) (Ω : World → Prop) (D : List Deferred) (c : Code) (t : List AV) (H : AH) (Q : AEx → List AV → AH → Prop) : Prop :=
  ∀ (Q' : Exit → Act → World → Prop) a w, SatD B D t H a w → (∀ ex t' H' a' w', Q ex t' H' → SatD B D t' H' a' w' → Q' ex.ex a' w') → (∀ a' w', a'.defers = D → Ω w' → Q' .ret a' w') → c.wpIn (wideF ro) 0 P Q' a w
theorem TrR.mono {c : Code} {Q1 : AEx → List AV → AH → Prop} (h : TrR ro P B Ω D c t H Q1) (hQ : ∀ e t H, Q1 e t H → Q e t H) : TrR ro P B Ω D c t H Q :=
  fun Q' a w hs k ho => h Q' a w hs (fun ex t' H' a' w' h1 h2 => k ex t' H' a' w' (hQ _ _ _ h1) h2) ho
theorem TrR.skip (h : Q .normal t H) : TrR ro P B Ω D .skip t H Q := fun Q' a w hs k _ => wpIn_skip (k _ _ _ _ _ h hs)
theorem TrR.ret (h : Q .ret t H) : TrR ro P B Ω D .ret t H Q := fun Q' a w hs k _ => wpIn_ret (k _ _ _ _ _ h hs)
theorem TrR.exit {id : Nat} (h : Q (.exit id) t H) : TrR ro P B Ω D (.exit id) t H Q := fun Q' a w hs k _ => wpIn_exit (k _ _ _ _ _ h hs)
theorem TrR.seq {c d : Code} (h : TrR ro P B Ω D c t H (Goes (fun t1 H1 => TrR ro P B Ω D d t1 H1 Q) Q)) : TrR ro P B Ω D (.seq c d) t H Q := by
  intro Q' a w hs k ho
  refine wpIn_seq (h _ a w hs (fun ex t' H' a' w' h1 h2 => ?_) (fun a' w' hd h => ho a' w' hd h))
  cases ex with
  | normal => exact h1 Q' a' w' h2 k ho
  | exit id => exact k _ _ _ _ _ h1 h2
  | ret => exact k _ _ _ _ _ h1 h2
theorem TrR.block {id : Nat} {c : Code} (h : TrR ro P B Ω D c t H (Blk id Q)) : TrR ro P B Ω D (.block id c) t H Q := by
  intro Q' a w hs k ho
  refine wpIn_block (h _ a w hs (fun ex t' H' a' w' h1 h2 => ?_) (fun a' w' hd h => ho a' w' hd h))
  cases ex with
  | normal => exact k _ _ _ _ _ h1 h2
  | ret => exact k _ _ _ _ _ h1 h2
  | exit id' =>
    simp only [Blk] at h1
    simp only [AEx.ex, Exit.inBlock]
    split
    · rename_i hid
      rw [if_pos hid] at h1
      exact k _ _ _ _ _ h1 h2
    · rename_i hid
      rw [if_neg hid] at h1
      exact k _ _ _ _ _ h1 h2
theorem TrR.cond (hG : GlobOk E B.g) {c : Operand} {x y : Code} (b : Bool) (hc : aeval E t c = .bool b) (h1 : b = true → TrR ro P B Ω D x t H Q) (h2 : b = false → TrR ro P B Ω D y t H Q) : TrR ro P B Ω D (.cond c x y) t H Q := by
  intro Q' a w hs k ho
  obtain ⟨g, R, p, hT, hd⟩ := hs
  have he : a.eval c = .bool b := by
    have := aeval_ok (hG.mono p.le) hT c
    rw [hc] at this
    simpa [RepV] using this
  cases b with
  | true => exact wpIn_cond_true he (h1 rfl Q' a w ⟨g, R, p, hT, hd⟩ k ho)
  | false => exact wpIn_cond_false he (h2 rfl Q' a w ⟨g, R, p, hT, hd⟩ k ho)
def LessD (B : Bs) (D : List Deferred) (t : List AV) (H : AH) (t' : List AV) (H' : AH) : Prop := ∀ a w, SatD B D t H a w → SatD B D t' H' a w
theorem Less.toD {t' : List AV} {H' : AH} (h : Less B t H t' H') : LessD B D t H t' H' := fun a w ⟨g, R, p, hT, hd⟩ => by
  obtain ⟨g', R', p', hT', _⟩ := h { a with defers := [] } w ⟨g, R, p, hT, rfl⟩
  exact ⟨g', R', p', hT', hd⟩
theorem TrR.less {c : Code} {t' : List AV} {H' : AH} (hl : Less B t H t' H') (h : TrR ro P B Ω D c t' H' Q) : TrR ro P B Ω D c t H Q :=
  fun Q' a w hs k ho => h Q' a w (hl.toD a w hs) k ho
theorem TrR.loop {L : Code} (I : Nat → List AV → AH → Prop) (k : Nat) (hI : I k t H)
    (h : ∀ k t H, I k t H → TrR ro P B Ω D L t H (Goes (fun t1 H1 => ∃ j t2 H2, j < k ∧ Less B t1 H1 t2 H2 ∧ I j t2 H2) Q)) : TrR ro P B Ω D (.loop L) t H Q := by
  intro Q' a w hs hk ho
  refine wpIn_loop_rounds (k + 1) ?_
  have key : ∀ (m k : Nat) {t : List AV} {H : AH} {a : Act} {w : World}, k < m → I k t H → SatD B D t H a w → Code.roundsIn (wideF ro) 0 P L Q' m a w := by
    intro m
    induction m with
    | zero => intro k t H a w hm; omega
    | succ m ih =>
      intro k t H a w hm hI hs
      rw [roundsIn_succ]
      refine h k t H hI _ a w hs (fun ex t' H' a' w' h1 h2 => ?_) (fun a' w' hd h => ho a' w' hd h)
      cases ex with
      | normal =>
        obtain ⟨j, t2, H2, hj, hl, hI'⟩ := h1
        exact ih j (by omega) hI' (hl.toD a' w' h2)
      | exit id => exact hk _ _ _ _ _ h1 h2
      | ret => exact hk _ _ _ _ _ h1 h2
  exact key (k + 1) k (by omega) hI hs
theorem evOps_okD (hS : Sound P E O) (hM : MethOk P E) {ops : Array Oper} {Q : Exit → Act → World → Prop} : ∀ (ps : List (Oper × Nat)) (is : List Nat) {g : Gh} {H : AH} {w : World} {tmps : List AV} {a : Act}
    {tmps' : List AV} {H' : AH}, evOps O P E ops ps tmps H = some (tmps', H') → All2 (fun i p => ops[i]? = some p.1) is ps → Ready E H ps → Rel g H w → GlobOk E g → RepL g tmps a.tmps.toList → a.defers = D →
    (∀ g' a' w', Rel g' H' w' → Post g H w g' H' w' → RepL g' tmps' a'.tmps.toList → a'.defers = D → Q .normal a' w') → wpOps P ops Q is a w
  | [], is, g, H, w, tmps, a, tmps', H', h, hf, _, R, _, hT, hd, hQ => by
    cases hf
    simp only [evOps] at h
    injection h with h; simp only [Prod.mk.injEq] at h; obtain ⟨rfl, rfl⟩ := h
    exact hQ g a w R (Post.refl g H w) hT hd
  | (o, fid) :: ps, is, g, H, w, tmps, a, tmps', H', h, hf, hr, R, hG, hT, hd, hQ => by
    cases hf with
    | cons hi hf =>
      rename_i i is
      cases hr with
      | cons _ _ r1 r2 r3 =>
        simp only [evOps] at h
        simp only [wpOps, hi]
        split at h
        · cases h
        · rename_i hw
          rw [wantedA_ok hT hw]
          simp only [Bool.false_eq_true, if_false]
          exact evOps_okD hS hM ps is h hf r3 R hG (putT_ok hT (by simp [AV.nothing, RepV, RepL, undef])) (by rw [put_defers]; exact hd) hQ
        · rename_i hw
          rw [wantedA_ok hT hw]
          simp only [if_true]
          split at h
          · rename_i v H1 hst
            refine .inl (stepO_ok hS hM R hG hT r1 hst fun g' u w' R' p' hv => ?_)
            obtain ⟨f1, f2⟩ := stepO_free hS hst
            refine evOps_okD hS hM ps is h hf (Ready.step (p := (o, fid)) r3 f1 fun q hq hn hl hfr => ?_) R' (hG.mono p'.le) (putT_ok (RepL.mono p'.le _ _ hT) hv) (by rw [put_defers]; exact hd)
              (fun g2 a2 w2 R2 p2 => hQ g2 a2 w2 R2 (Post.trans R p' p2))
            refine f2 q.2 hl hfr ?_
            by_cases hno : needsId E o.op = true
            · exact .inl (r2 hno q hq hn)
            · exact .inr (by simpa using hno)
          · cases h
theorem TrR.region (X : Cx O P E) (hG : GlobOk E B.g) {id : Nat} {ops : Array Oper} (hnd : noDefs ops = true)
    (h : WOx O P E ops (withIds E ops.toList H.length) t (grow H (idCount E ops.toList)) fun t1 H1 => Q .normal t1 H1) : TrR ro P B Ω D (.region id ops false) t H Q := by
  intro Q' a w hs k _
  obtain ⟨g, R, p, hT, hdf⟩ := hs
  have hw := WOx.sound h
  unfold WO at hw
  cases he : evOps O P E ops (withIds E ops.toList H.length) t (grow H (idCount E ops.toList)) with
  | none => rw [he] at hw; exact hw.elim
  | some x =>
    obtain ⟨t', H'⟩ := x
    rw [he] at hw
    have hf := forall_withIds (E := E) ops ops.toList H.length 0 (fun j => by simp)
    rw [Array.length_toList, ← List.range_eq_range'] at hf
    have h1 : wpOps P ops (fun e a' w' => e = .normal ∧ Q' .normal a' w') (List.range ops.size) a w := by
      refine evOps_okD X.sound X.meth _ _ he hf (ready_withIds H 0 (fun _ _ _ => trivial) ops.toList H.length _ (fun id hid => ?_) (by rw [grow_eq, List.length_append, List.length_replicate]; exact Nat.le_refl _)) (R.grow _) (hG.mono p.le) hT hdf
        (fun g' a' w' R' p' q r => ⟨rfl, k .normal t' H' a' w' hw ⟨g', R', Post.trans B.R p p'.ungrow, q, r⟩⟩)
      rw [at_grow]
      exact at_ge hid
    refine wpIn_mono (wpIn_region (wpOpsIn_of (by rintro ⟨_, _, h, _⟩; cases h) (noDefs_at hnd) _ _ _ h1)) ?_
    rintro e a' w' ⟨rfl, h⟩
    exact h
theorem TrR.turns (X : Cx O P E) (hG : GlobOk E B.g) (ks : List Nat) (bad : List (Nat × Nat)) {id : Nat} {ops : Array Oper} (hnd : noDefs ops = true) (hd : okDrawB ops ks bad = true)
    (h : WTr O P E ops ks (bad.flatMap fun p => [p.1, p.2]) 0 (withIds E ops.toList H.length) t (grow H (idCount E ops.toList)) [] fun t1 H1 f => badOk f bad = true ∧ Q .normal t1 H1) : TrR ro P B Ω [] (.region id ops true) t H Q := by
  intro Q' a w hs k _
  obtain ⟨g, R, p, hT, hdf⟩ := hs
  obtain ⟨t', H', he, hw⟩ := WTr.draw hd h
  exact drawR X hnd he R (hG.mono p.le) hT hdf fun g' a' w' R' p' q r => k .normal t' H' a' w' hw ⟨g', R', Post.trans B.R p p', q, r⟩
def isR (S : List Nat) : Code → Bool
  | .region id _ false => S.contains id
  | _ => false
def softR (S : List Nat) : Code → Code
  | .region id ops true => .loop (.scope (.region id ops true))
  | .region id ops false => if S.contains id = true then .loop (.scope (.region id ops false)) else .region id ops false
  | .rangeFunc a b c d => .loop (.scope (.rangeFunc a b c d))
  | .seq a b => if isR S a = true then .loop (.scope (.seq a b)) else .seq (softR S a) (softR S b)
  | .cond c a b => .cond c (softR S a) (softR S b)
  | .block id c => .block id (softR S c)
  | c => c
theorem softR_draw (S : List Nat) (id : Nat) (ops : Array Oper) : softR S (.region id ops true) = .loop (.scope (.region id ops true)) := nrfl rfl
theorem softR_region (S : List Nat) (id : Nat) (ops : Array Oper) : softR S (.region id ops false) = if S.contains id = true then .loop (.scope (.region id ops false)) else .region id ops false := nrfl rfl
theorem softR_range (S : List Nat) (a : Operand) (b : Array Tmp) (c d : Code) : softR S (.rangeFunc a b c d) = .loop (.scope (.rangeFunc a b c d)) := nrfl rfl
theorem softR_seq (S : List Nat) (a b : Code) : softR S (.seq a b) = if isR S a = true then .loop (.scope (.seq a b)) else .seq (softR S a) (softR S b) := nrfl rfl
theorem isR_region (S : List Nat) (id : Nat) (ops : Array Oper) : isR S (.region id ops false) = S.contains id := nrfl rfl
theorem isR_draw (S : List Nat) (id : Nat) (ops : Array Oper) : isR S (.region id ops true) = false := nrfl rfl
theorem isR_seq (S : List Nat) (a b : Code) : isR S (.seq a b) = false := nrfl rfl
theorem isR_cond (S : List Nat) (c : Operand) (a b : Code) : isR S (.cond c a b) = false := nrfl rfl
theorem isR_block (S : List Nat) (id : Nat) (c : Code) : isR S (.block id c) = false := nrfl rfl
theorem isR_loop (S : List Nat) (c : Code) : isR S (.loop c) = false := nrfl rfl
theorem isR_skip (S : List Nat) : isR S .skip = false := nrfl rfl
attribute [simp] isR_region isR_draw isR_seq isR_cond isR_block isR_loop isR_skip
theorem softR_cond (S : List Nat) (c : Operand) (a b : Code) : softR S (.cond c a b) = .cond c (softR S a) (softR S b) := nrfl rfl
theorem softR_block (S : List Nat) (id : Nat) (c : Code) : softR S (.block id c) = .block id (softR S c) := nrfl rfl
theorem softR_loop (S : List Nat) (c : Code) : softR S (.loop c) = .loop c := nrfl rfl
theorem softR_skip (S : List Nat) : softR S .skip = .skip := nrfl rfl
theorem softR_ret (S : List Nat) : softR S .ret = .ret := nrfl rfl
theorem softR_exit (S : List Nat) (id : Nat) : softR S (.exit id) = .exit id := nrfl rfl
attribute [simp] softR_draw softR_region softR_range softR_seq softR_cond softR_block softR_loop softR_skip softR_ret softR_exit
def okSoftR : Code → Bool
  | .loop (.scope _) => false
  | .region _ ops _ => noDefs ops
  | .seq a b => okSoftR a && okSoftR b
  | .cond _ a b => okSoftR a && okSoftR b
  | .block _ c => okSoftR c
  | .scope _ => false
  | _ => true
def LpR (ro : Option Nat) (P : Program) (B : Bs) (Ω : World → Prop) (D : List Deferred) : LoopP := fun c t H Q => match c with
  | .scope r => TrR ro P B Ω D r t H Q
  | c => TrR ro P B Ω D (.loop c) t H Q
theorem Wt.softR (X : Cx O P E) (hG : GlobOk E B.g) (S : List Nat) : ∀ {c : Code} {t : List AV} {H : AH} {Q : AEx → List AV → AH → Prop}, okSoftR c = true → Wt O P E (LpR ro P B Ω D) (Fw.softR S c) t H Q → TrR ro P B Ω D c t H Q
  | .skip, t, H, Q, _, h => TrR.skip h
  | .region id ops false, t, H, Q, hd, h => by
    simp only [Fw.softR] at h
    split at h
    · exact h
    · exact TrR.region X hG hd h
  | .region id ops true, t, H, Q, _, h => h
  | .seq a b, t, H, Q, hd, h => by
    simp only [okSoftR, Bool.and_eq_true] at hd
    simp only [Fw.softR] at h
    split at h
    · exact h
    · simp only [Wt] at h
      refine TrR.seq (TrR.mono (Wt.softR X hG S hd.1 h) ?_)
      intro e t1 H1 h1
      cases e with
      | normal => exact Wt.softR X hG S hd.2 h1
      | exit id => exact h1
      | ret => exact h1
  | .cond c a b, t, H, Q, hd, h => by
    simp only [okSoftR, Bool.and_eq_true] at hd
    simp only [Fw.softR, Wt] at h
    unfold WB at h
    split at h
    · rename_i v hv
      exact TrR.cond hG v hv (fun e => Wt.softR X hG S hd.1 (h.1 e)) (fun e => Wt.softR X hG S hd.2 (h.2 e))
    · exact h.elim
  | .block id c, t, H, Q, hd, h => by
    simp only [okSoftR] at hd
    simp only [Fw.softR, Wt] at h
    exact TrR.block (Wt.softR X hG S hd h)
  | .exit id, t, H, Q, _, h => TrR.exit h
  | .ret, t, H, Q, _, h => TrR.ret h
  | .loop c, t, H, Q, hd, h => by
    simp only [Fw.softR, Wt] at h
    cases c <;> first | exact h | cases hd
  | .rangeFunc _ _ _ _, _, _, _, _, h => h
  | .scope _, _, _, _, hd, _ => by cases hd
  | .label _, _, _, _, _, h => h.elim
  | .goto _, _, _, _, _, h => h.elim
  | .refuse _, _, _, _, _, h => h.elim
theorem TrR.go (X : Cx O P E) (hG : GlobOk E B.g) (S : List Nat) {c : Code} (hd : okSoftR c = true) (h : Go O P E (LpR ro P B Ω D) (softR S c) [] t H Q) : TrR ro P B Ω D c t H Q := Wt.softR X hG S hd h
theorem LpR.turns {Lp : LoopP} {ks0 : List Fr} {O' : Orc} (X : Cx O' P E) (hG : GlobOk E B.g) (ks : List Nat) (bad : List (Nat × Nat)) {id : Nat} {ops : Array Oper} (hnd : noDefs ops = true) (hd : okDrawB ops ks bad = true)
    (h : WTr O' P E ops ks (bad.flatMap fun p => [p.1, p.2]) 0 (withIds E ops.toList H.length) t (grow H (idCount E ops.toList)) [] fun t1 H1 f => badOk f bad = true ∧ Go O P E Lp .skip ks0 t1 H1 Q) : LpR ro P B Ω [] (.scope (.region id ops true)) t H (unwind O P E Lp ks0 Q) :=
  TrR.turns X hG ks bad hnd hd (by simpa only [unwind_normal] using h)
theorem LpR.loopN {L : Code} (X : Cx O P E) (hG : GlobOk E B.g) (S : List Nat) (hd : okSoftR L = true) (I : Nat → List AV → AH → Prop) (k : Nat) {t' : List AV} {H' : AH} (hl : Less B t H t' H') (hI : I k t' H')
    (h : ∀ k t H, I k t H → Go O P E (LpR ro P B Ω D) (softR S L) [] t H (Goes (Nxt B I k) Q)) : LpR ro P B Ω D L t H Q := by
  have key : TrR ro P B Ω D (.loop L) t H Q := TrR.less hl (TrR.loop I k hI fun k t H hI => TrR.go X hG S hd (h k t H hI))
  cases L <;> first | exact key | cases hd
end
end Go.Proofs.Fw

namespace Go.Proofs.YtejjlojfgcgopaaGreatDoor.Ty
open Go.RowKit Go.Proofs.Fw
set_option maxRecDepth 100000
theorem sz2 : szOf Tryz.prog 2 = some 1 := by kernel_rfl
theorem ag2 : aggB Tryz.prog 2 = some false := by kernel_rfl
theorem zv2 : zeroAV Tryz.prog 2 = some (.int .i64 0) := by kernel_rfl
theorem sz3 : szOf Tryz.prog 3 = some 1 := by kernel_rfl
theorem ag3 : aggB Tryz.prog 3 = some false := by kernel_rfl
theorem zv3 : zeroAV Tryz.prog 3 = some (.int .i64 0) := by kernel_rfl
theorem sz4 : szOf Tryz.prog 4 = some 1 := by kernel_rfl
theorem ag4 : aggB Tryz.prog 4 = some false := by kernel_rfl
theorem zv4 : zeroAV Tryz.prog 4 = some (.bool false) := by kernel_rfl
theorem sz5 : szOf Tryz.prog 5 = some 1 := by kernel_rfl
theorem ag5 : aggB Tryz.prog 5 = some false := by kernel_rfl
theorem zv5 : zeroAV Tryz.prog 5 = some (.int .u8 0) := by kernel_rfl
theorem sz9 : szOf Tryz.prog 9 = some 1 := by kernel_rfl
theorem ag9 : aggB Tryz.prog 9 = some false := by kernel_rfl
theorem zv9 : zeroAV Tryz.prog 9 = some (.str []) := by kernel_rfl
theorem sz23 : szOf Tryz.prog 23 = some 1 := by kernel_rfl
theorem ag23 : aggB Tryz.prog 23 = some false := by kernel_rfl
theorem zv23 : zeroAV Tryz.prog 23 = some (.nilSlice) := by kernel_rfl
theorem ec23 : elemChk Tryz.prog 23 1 = true := by kernel_rfl
theorem sz33 : szOf Tryz.prog 33 = some 1 := by kernel_rfl
theorem ag33 : aggB Tryz.prog 33 = some false := by kernel_rfl
theorem zv33 : zeroAV Tryz.prog 33 = some (.nilIface) := by kernel_rfl
theorem sz54 : szOf Tryz.prog 54 = some 1 := by kernel_rfl
theorem ag54 : aggB Tryz.prog 54 = some false := by kernel_rfl
theorem zv54 : zeroAV Tryz.prog 54 = some (.nilSlice) := by kernel_rfl
theorem ec54 : elemChk Tryz.prog 54 4 = true := by kernel_rfl
theorem sz55 : szOf Tryz.prog 55 = some 1 := by kernel_rfl
theorem ag55 : aggB Tryz.prog 55 = some false := by kernel_rfl
theorem zv55 : zeroAV Tryz.prog 55 = some (.nilSlice) := by kernel_rfl
theorem ec55 : elemChk Tryz.prog 55 2 = true := by kernel_rfl
theorem sz57 : szOf Tryz.prog 57 = some 2 := by kernel_rfl
theorem ag57 : aggB Tryz.prog 57 = some true := by kernel_rfl
theorem zv57 : zeroAV Tryz.prog 57 = some (.agg [.nilSlice, .int .i64 0]) := by kernel_rfl
theorem fa57_0 (id off : Nat) : afieldAddr Tryz.prog 57 (.ptr id off) 0 = some (.ptr id (off + 0)) := by kernel_rfl
theorem fv57_0 (cs : List AV) (off : Nat) : afieldAddr Tryz.prog 57 (.vptr cs off) 0 = some (.vptr cs (off + 0)) := by kernel_rfl
theorem fl57_0 (cs : List AV) : afield Tryz.prog 57 (.agg cs) 0 = ldAt Tryz.prog 55 cs 0 := by kernel_rfl
theorem fa57_1 (id off : Nat) : afieldAddr Tryz.prog 57 (.ptr id off) 1 = some (.ptr id (off + 1)) := by kernel_rfl
theorem fv57_1 (cs : List AV) (off : Nat) : afieldAddr Tryz.prog 57 (.vptr cs off) 1 = some (.vptr cs (off + 1)) := by kernel_rfl
theorem fl57_1 (cs : List AV) : afield Tryz.prog 57 (.agg cs) 1 = ldAt Tryz.prog 3 cs 1 := by kernel_rfl
theorem sz125 : szOf Tryz.prog 125 = some 1 := by kernel_rfl
theorem ag125 : aggB Tryz.prog 125 = some false := by kernel_rfl
theorem zv125 : zeroAV Tryz.prog 125 = some (.nilSlice) := by kernel_rfl
theorem ec125 : elemChk Tryz.prog 125 4 = true := by kernel_rfl
theorem sz134 : szOf Tryz.prog 134 = some 1 := by kernel_rfl
theorem ag134 : aggB Tryz.prog 134 = some false := by kernel_rfl
theorem zv134 : zeroAV Tryz.prog 134 = some (.int .i64 0) := by kernel_rfl
theorem sz144 : szOf Tryz.prog 144 = some 4 := by kernel_rfl
theorem ag144 : aggB Tryz.prog 144 = some true := by kernel_rfl
theorem zv144 : zeroAV Tryz.prog 144 = some (.agg [.int .i64 0, .str [], .int .i64 0, .int .i64 0]) := by kernel_rfl
theorem fa144_0 (id off : Nat) : afieldAddr Tryz.prog 144 (.ptr id off) 0 = some (.ptr id (off + 0)) := by kernel_rfl
theorem fv144_0 (cs : List AV) (off : Nat) : afieldAddr Tryz.prog 144 (.vptr cs off) 0 = some (.vptr cs (off + 0)) := by kernel_rfl
theorem fl144_0 (cs : List AV) : afield Tryz.prog 144 (.agg cs) 0 = ldAt Tryz.prog 3 cs 0 := by kernel_rfl
theorem fa144_1 (id off : Nat) : afieldAddr Tryz.prog 144 (.ptr id off) 1 = some (.ptr id (off + 1)) := by kernel_rfl
theorem fv144_1 (cs : List AV) (off : Nat) : afieldAddr Tryz.prog 144 (.vptr cs off) 1 = some (.vptr cs (off + 1)) := by kernel_rfl
theorem fl144_1 (cs : List AV) : afield Tryz.prog 144 (.agg cs) 1 = ldAt Tryz.prog 9 cs 1 := by kernel_rfl
theorem fa144_2 (id off : Nat) : afieldAddr Tryz.prog 144 (.ptr id off) 2 = some (.ptr id (off + 2)) := by kernel_rfl
theorem fv144_2 (cs : List AV) (off : Nat) : afieldAddr Tryz.prog 144 (.vptr cs off) 2 = some (.vptr cs (off + 2)) := by kernel_rfl
theorem fl144_2 (cs : List AV) : afield Tryz.prog 144 (.agg cs) 2 = ldAt Tryz.prog 3 cs 2 := by kernel_rfl
theorem fa144_3 (id off : Nat) : afieldAddr Tryz.prog 144 (.ptr id off) 3 = some (.ptr id (off + 3)) := by kernel_rfl
theorem fv144_3 (cs : List AV) (off : Nat) : afieldAddr Tryz.prog 144 (.vptr cs off) 3 = some (.vptr cs (off + 3)) := by kernel_rfl
theorem fl144_3 (cs : List AV) : afield Tryz.prog 144 (.agg cs) 3 = ldAt Tryz.prog 2 cs 3 := by kernel_rfl
theorem sz152 : szOf Tryz.prog 152 = some 1 := by kernel_rfl
theorem ag152 : aggB Tryz.prog 152 = some false := by kernel_rfl
theorem zv152 : zeroAV Tryz.prog 152 = some (.nilPtr) := by kernel_rfl
theorem sz156 : szOf Tryz.prog 156 = some 3 := by kernel_rfl
theorem ag156 : aggB Tryz.prog 156 = some true := by kernel_rfl
theorem zv156 : zeroAV Tryz.prog 156 = some (.agg [.str [], .int .i64 0, .nilIface]) := by kernel_rfl
theorem fa156_0 (id off : Nat) : afieldAddr Tryz.prog 156 (.ptr id off) 0 = some (.ptr id (off + 0)) := by kernel_rfl
theorem fv156_0 (cs : List AV) (off : Nat) : afieldAddr Tryz.prog 156 (.vptr cs off) 0 = some (.vptr cs (off + 0)) := by kernel_rfl
theorem fl156_0 (cs : List AV) : afield Tryz.prog 156 (.agg cs) 0 = ldAt Tryz.prog 9 cs 0 := by kernel_rfl
theorem fa156_1 (id off : Nat) : afieldAddr Tryz.prog 156 (.ptr id off) 1 = some (.ptr id (off + 1)) := by kernel_rfl
theorem fv156_1 (cs : List AV) (off : Nat) : afieldAddr Tryz.prog 156 (.vptr cs off) 1 = some (.vptr cs (off + 1)) := by kernel_rfl
theorem fl156_1 (cs : List AV) : afield Tryz.prog 156 (.agg cs) 1 = ldAt Tryz.prog 3 cs 1 := by kernel_rfl
theorem fa156_2 (id off : Nat) : afieldAddr Tryz.prog 156 (.ptr id off) 2 = some (.ptr id (off + 2)) := by kernel_rfl
theorem fv156_2 (cs : List AV) (off : Nat) : afieldAddr Tryz.prog 156 (.vptr cs off) 2 = some (.vptr cs (off + 2)) := by kernel_rfl
theorem fl156_2 (cs : List AV) : afield Tryz.prog 156 (.agg cs) 2 = ldAt Tryz.prog 33 cs 2 := by kernel_rfl
theorem sz158 : szOf Tryz.prog 158 = some 2 := by kernel_rfl
theorem ag158 : aggB Tryz.prog 158 = some true := by kernel_rfl
theorem zv158 : zeroAV Tryz.prog 158 = some (.agg [.str [], .int .i64 0]) := by kernel_rfl
theorem fa158_0 (id off : Nat) : afieldAddr Tryz.prog 158 (.ptr id off) 0 = some (.ptr id (off + 0)) := by kernel_rfl
theorem fv158_0 (cs : List AV) (off : Nat) : afieldAddr Tryz.prog 158 (.vptr cs off) 0 = some (.vptr cs (off + 0)) := by kernel_rfl
theorem fl158_0 (cs : List AV) : afield Tryz.prog 158 (.agg cs) 0 = ldAt Tryz.prog 9 cs 0 := by kernel_rfl
theorem fa158_1 (id off : Nat) : afieldAddr Tryz.prog 158 (.ptr id off) 1 = some (.ptr id (off + 1)) := by kernel_rfl
theorem fv158_1 (cs : List AV) (off : Nat) : afieldAddr Tryz.prog 158 (.vptr cs off) 1 = some (.vptr cs (off + 1)) := by kernel_rfl
theorem fl158_1 (cs : List AV) : afield Tryz.prog 158 (.agg cs) 1 = ldAt Tryz.prog 3 cs 1 := by kernel_rfl
theorem sz192 : szOf Tryz.prog 192 = some 4 := by kernel_rfl
theorem ag192 : aggB Tryz.prog 192 = some true := by kernel_rfl
theorem zv192 : zeroAV Tryz.prog 192 = some (.agg [.int .i64 0, .str [], .int .i64 0, .int .i64 0]) := by kernel_rfl
theorem fa192_0 (id off : Nat) : afieldAddr Tryz.prog 192 (.ptr id off) 0 = some (.ptr id (off + 0)) := by kernel_rfl
theorem fv192_0 (cs : List AV) (off : Nat) : afieldAddr Tryz.prog 192 (.vptr cs off) 0 = some (.vptr cs (off + 0)) := by kernel_rfl
theorem fl192_0 (cs : List AV) : afield Tryz.prog 192 (.agg cs) 0 = ldAt Tryz.prog 3 cs 0 := by kernel_rfl
theorem fa192_1 (id off : Nat) : afieldAddr Tryz.prog 192 (.ptr id off) 1 = some (.ptr id (off + 1)) := by kernel_rfl
theorem fv192_1 (cs : List AV) (off : Nat) : afieldAddr Tryz.prog 192 (.vptr cs off) 1 = some (.vptr cs (off + 1)) := by kernel_rfl
theorem fl192_1 (cs : List AV) : afield Tryz.prog 192 (.agg cs) 1 = ldAt Tryz.prog 9 cs 1 := by kernel_rfl
theorem fa192_2 (id off : Nat) : afieldAddr Tryz.prog 192 (.ptr id off) 2 = some (.ptr id (off + 2)) := by kernel_rfl
theorem fv192_2 (cs : List AV) (off : Nat) : afieldAddr Tryz.prog 192 (.vptr cs off) 2 = some (.vptr cs (off + 2)) := by kernel_rfl
theorem fl192_2 (cs : List AV) : afield Tryz.prog 192 (.agg cs) 2 = ldAt Tryz.prog 3 cs 2 := by kernel_rfl
theorem fa192_3 (id off : Nat) : afieldAddr Tryz.prog 192 (.ptr id off) 3 = some (.ptr id (off + 3)) := by kernel_rfl
theorem fv192_3 (cs : List AV) (off : Nat) : afieldAddr Tryz.prog 192 (.vptr cs off) 3 = some (.vptr cs (off + 3)) := by kernel_rfl
theorem fl192_3 (cs : List AV) : afield Tryz.prog 192 (.agg cs) 3 = ldAt Tryz.prog 2 cs 3 := by kernel_rfl
theorem sz203 : szOf Tryz.prog 203 = some 1 := by kernel_rfl
theorem ag203 : aggB Tryz.prog 203 = some false := by kernel_rfl
theorem zv203 : zeroAV Tryz.prog 203 = some (.int .u64 0) := by kernel_rfl
theorem sz326 : szOf Tryz.prog 326 = some 1 := by kernel_rfl
theorem ag326 : aggB Tryz.prog 326 = some false := by kernel_rfl
theorem zv326 : zeroAV Tryz.prog 326 = some (.nilPtr) := by kernel_rfl
theorem sz341 : szOf Tryz.prog 341 = some 3 := by kernel_rfl
theorem ag341 : aggB Tryz.prog 341 = some true := by kernel_rfl
theorem zv341 : zeroAV Tryz.prog 341 = some (.agg [.str [], .str [], .nilIface]) := by kernel_rfl
theorem fa341_0 (id off : Nat) : afieldAddr Tryz.prog 341 (.ptr id off) 0 = some (.ptr id (off + 0)) := by kernel_rfl
theorem fv341_0 (cs : List AV) (off : Nat) : afieldAddr Tryz.prog 341 (.vptr cs off) 0 = some (.vptr cs (off + 0)) := by kernel_rfl
theorem fl341_0 (cs : List AV) : afield Tryz.prog 341 (.agg cs) 0 = ldAt Tryz.prog 9 cs 0 := by kernel_rfl
theorem fa341_1 (id off : Nat) : afieldAddr Tryz.prog 341 (.ptr id off) 1 = some (.ptr id (off + 1)) := by kernel_rfl
theorem fv341_1 (cs : List AV) (off : Nat) : afieldAddr Tryz.prog 341 (.vptr cs off) 1 = some (.vptr cs (off + 1)) := by kernel_rfl
theorem fl341_1 (cs : List AV) : afield Tryz.prog 341 (.agg cs) 1 = ldAt Tryz.prog 9 cs 1 := by kernel_rfl
theorem fa341_2 (id off : Nat) : afieldAddr Tryz.prog 341 (.ptr id off) 2 = some (.ptr id (off + 2)) := by kernel_rfl
theorem fv341_2 (cs : List AV) (off : Nat) : afieldAddr Tryz.prog 341 (.vptr cs off) 2 = some (.vptr cs (off + 2)) := by kernel_rfl
theorem fl341_2 (cs : List AV) : afield Tryz.prog 341 (.agg cs) 2 = ldAt Tryz.prog 33 cs 2 := by kernel_rfl
theorem go20 : goFn Tryz.prog 20 = true := by kernel_rfl
theorem go24 : goFn Tryz.prog 24 = true := by kernel_rfl
theorem go51 : goFn Tryz.prog 51 = true := by kernel_rfl
theorem go61 : goFn Tryz.prog 61 = true := by kernel_rfl
theorem go62 : goFn Tryz.prog 62 = true := by kernel_rfl
theorem go63 : goFn Tryz.prog 63 = true := by kernel_rfl
theorem go64 : goFn Tryz.prog 64 = true := by kernel_rfl
theorem go65 : goFn Tryz.prog 65 = true := by kernel_rfl
theorem go66 : goFn Tryz.prog 66 = true := by kernel_rfl
theorem go87 : goFn Tryz.prog 87 = true := by kernel_rfl
theorem go88 : goFn Tryz.prog 88 = true := by kernel_rfl
theorem go135 : goFn Tryz.prog 135 = true := by kernel_rfl
theorem go175 : goFn Tryz.prog 175 = true := by kernel_rfl
theorem go176 : goFn Tryz.prog 176 = true := by kernel_rfl
theorem go206 : goFn Tryz.prog 206 = true := by kernel_rfl
theorem go221 : goFn Tryz.prog 221 = true := by kernel_rfl
attribute [simp] sz2 ag2 zv2 Tryz.underlying2 sz3 ag3 zv3 Tryz.underlying3 sz4 ag4 zv4 Tryz.underlying4 sz5 ag5 zv5 Tryz.underlying5 sz9 ag9 zv9 Tryz.underlying9
attribute [simp] sz23 ag23 zv23 ec23 Tryz.underlying23 sz33 ag33 zv33 Tryz.underlying33 sz54 ag54 zv54 ec54 Tryz.underlying54 sz55 ag55 zv55 ec55 Tryz.underlying55 sz57
attribute [simp] ag57 zv57 fa57_0 fv57_0 fl57_0 fa57_1 fv57_1 fl57_1 Tryz.underlying57 sz125 ag125 zv125 ec125 Tryz.underlying125 sz134 ag134 zv134 Tryz.underlying134 sz144 ag144
attribute [simp] zv144 fa144_0 fv144_0 fl144_0 fa144_1 fv144_1 fl144_1 fa144_2 fv144_2 fl144_2 fa144_3 fv144_3 fl144_3 Tryz.underlying144 sz152 ag152 zv152 Tryz.underlying152 sz156 ag156
attribute [simp] zv156 fa156_0 fv156_0 fl156_0 fa156_1 fv156_1 fl156_1 fa156_2 fv156_2 fl156_2 Tryz.underlying156 sz158 ag158 zv158 fa158_0 fv158_0 fl158_0 fa158_1 fv158_1 fl158_1
attribute [simp] Tryz.underlying158 sz192 ag192 zv192 fa192_0 fv192_0 fl192_0 fa192_1 fv192_1 fl192_1 fa192_2 fv192_2 fl192_2 fa192_3 fv192_3 fl192_3 Tryz.underlying192 sz203 ag203 zv203
attribute [simp] Tryz.underlying203 sz326 ag326 zv326 Tryz.underlying326 sz341 ag341 zv341 fa341_0 fv341_0 fl341_0 fa341_1 fv341_1 fl341_1 fa341_2 fv341_2 fl341_2 Tryz.underlying341 go20 go24
attribute [simp] go51 go61 go62 go63 go64 go65 go66 go87 go88 go135 go175 go176 go206 go221
end Go.Proofs.YtejjlojfgcgopaaGreatDoor.Ty

namespace Go.Proofs.YtejjlojfgcgopaaGreatDoor.Tw
open Go.RowKit Go.Proofs.Fw
set_option maxRecDepth 100000
theorem sz154 : szOf Tryz.prog 154 = some 1 := by kernel_rfl
theorem ag154 : aggB Tryz.prog 154 = some false := by kernel_rfl
theorem zv154 : zeroAV Tryz.prog 154 = some (.nilPtr) := by kernel_rfl
theorem sz159 : szOf Tryz.prog 159 = some 1 := by kernel_rfl
theorem ag159 : aggB Tryz.prog 159 = some false := by kernel_rfl
theorem zv159 : zeroAV Tryz.prog 159 = some (.nilPtr) := by kernel_rfl
theorem go70 : goFn Tryz.prog 70 = true := by kernel_rfl
theorem go71 : goFn Tryz.prog 71 = true := by kernel_rfl
theorem go102 : goFn Tryz.prog 102 = true := by kernel_rfl
theorem go256 : goFn Tryz.prog 256 = true := by kernel_rfl
attribute [simp] sz154 ag154 zv154 Tryz.underlying154 sz159 ag159 zv159 Tryz.underlying159 go70 go71 go102 go256
end Go.Proofs.YtejjlojfgcgopaaGreatDoor.Tw

namespace Go.Proofs.YtejjlojfgcgopaaGreatDoor.Tx
open Go.RowKit Go.Proofs.Fw
set_option maxRecDepth 100000
theorem sz25 : szOf Tryz.prog 25 = some 1 := by kernel_rfl
theorem ag25 : aggB Tryz.prog 25 = some false := by kernel_rfl
theorem zv25 : zeroAV Tryz.prog 25 = some (.nilSlice) := by kernel_rfl
theorem ec25 : elemChk Tryz.prog 25 4 = true := by kernel_rfl
theorem sz27 : szOf Tryz.prog 27 = some 4 := by kernel_rfl
theorem ag27 : aggB Tryz.prog 27 = some true := by kernel_rfl
theorem zv27 : zeroAV Tryz.prog 27 = some (.agg [.int .i64 0, .int .i64 0, .str [], .nilSlice]) := by kernel_rfl
theorem fa27_0 (id off : Nat) : afieldAddr Tryz.prog 27 (.ptr id off) 0 = some (.ptr id (off + 0)) := by kernel_rfl
theorem fv27_0 (cs : List AV) (off : Nat) : afieldAddr Tryz.prog 27 (.vptr cs off) 0 = some (.vptr cs (off + 0)) := by kernel_rfl
theorem fl27_0 (cs : List AV) : afield Tryz.prog 27 (.agg cs) 0 = ldAt Tryz.prog 3 cs 0 := by kernel_rfl
theorem fa27_1 (id off : Nat) : afieldAddr Tryz.prog 27 (.ptr id off) 1 = some (.ptr id (off + 1)) := by kernel_rfl
theorem fv27_1 (cs : List AV) (off : Nat) : afieldAddr Tryz.prog 27 (.vptr cs off) 1 = some (.vptr cs (off + 1)) := by kernel_rfl
theorem fl27_1 (cs : List AV) : afield Tryz.prog 27 (.agg cs) 1 = ldAt Tryz.prog 2 cs 1 := by kernel_rfl
theorem fa27_2 (id off : Nat) : afieldAddr Tryz.prog 27 (.ptr id off) 2 = some (.ptr id (off + 2)) := by kernel_rfl
theorem fv27_2 (cs : List AV) (off : Nat) : afieldAddr Tryz.prog 27 (.vptr cs off) 2 = some (.vptr cs (off + 2)) := by kernel_rfl
theorem fl27_2 (cs : List AV) : afield Tryz.prog 27 (.agg cs) 2 = ldAt Tryz.prog 9 cs 2 := by kernel_rfl
theorem fa27_3 (id off : Nat) : afieldAddr Tryz.prog 27 (.ptr id off) 3 = some (.ptr id (off + 3)) := by kernel_rfl
theorem fv27_3 (cs : List AV) (off : Nat) : afieldAddr Tryz.prog 27 (.vptr cs off) 3 = some (.vptr cs (off + 3)) := by kernel_rfl
theorem fl27_3 (cs : List AV) : afield Tryz.prog 27 (.agg cs) 3 = ldAt Tryz.prog 25 cs 3 := by kernel_rfl
theorem sz29 : szOf Tryz.prog 29 = some 9 := by kernel_rfl
theorem ag29 : aggB Tryz.prog 29 = some true := by kernel_rfl
theorem zv29 : zeroAV Tryz.prog 29 = some (.agg [.str [], .int .i64 0, .int .i64 0, .str [], .nilSlice, .int .i64 0, .int .i64 0, .str [], .nilSlice]) := by kernel_rfl
theorem fa29_0 (id off : Nat) : afieldAddr Tryz.prog 29 (.ptr id off) 0 = some (.ptr id (off + 0)) := by kernel_rfl
theorem fv29_0 (cs : List AV) (off : Nat) : afieldAddr Tryz.prog 29 (.vptr cs off) 0 = some (.vptr cs (off + 0)) := by kernel_rfl
theorem fl29_0 (cs : List AV) : afield Tryz.prog 29 (.agg cs) 0 = ldAt Tryz.prog 9 cs 0 := by kernel_rfl
theorem fa29_1 (id off : Nat) : afieldAddr Tryz.prog 29 (.ptr id off) 1 = some (.ptr id (off + 1)) := by kernel_rfl
theorem fv29_1 (cs : List AV) (off : Nat) : afieldAddr Tryz.prog 29 (.vptr cs off) 1 = some (.vptr cs (off + 1)) := by kernel_rfl
theorem fl29_1 (cs : List AV) : afield Tryz.prog 29 (.agg cs) 1 = ldAt Tryz.prog 27 cs 1 := by kernel_rfl
theorem fa29_2 (id off : Nat) : afieldAddr Tryz.prog 29 (.ptr id off) 2 = some (.ptr id (off + 5)) := by kernel_rfl
theorem fv29_2 (cs : List AV) (off : Nat) : afieldAddr Tryz.prog 29 (.vptr cs off) 2 = some (.vptr cs (off + 5)) := by kernel_rfl
theorem fl29_2 (cs : List AV) : afield Tryz.prog 29 (.agg cs) 2 = ldAt Tryz.prog 27 cs 5 := by kernel_rfl
theorem sz40 : szOf Tryz.prog 40 = some 1 := by kernel_rfl
theorem ag40 : aggB Tryz.prog 40 = some false := by kernel_rfl
theorem zv40 : zeroAV Tryz.prog 40 = some (.nilSlice) := by kernel_rfl
theorem ec40 : elemChk Tryz.prog 40 4 = true := by kernel_rfl
theorem sz42 : szOf Tryz.prog 42 = some 4 := by kernel_rfl
theorem ag42 : aggB Tryz.prog 42 = some true := by kernel_rfl
theorem zv42 : zeroAV Tryz.prog 42 = some (.agg [.int .i64 0, .int .i64 0, .str [], .nilSlice]) := by kernel_rfl
theorem fa42_0 (id off : Nat) : afieldAddr Tryz.prog 42 (.ptr id off) 0 = some (.ptr id (off + 0)) := by kernel_rfl
theorem fv42_0 (cs : List AV) (off : Nat) : afieldAddr Tryz.prog 42 (.vptr cs off) 0 = some (.vptr cs (off + 0)) := by kernel_rfl
theorem fl42_0 (cs : List AV) : afield Tryz.prog 42 (.agg cs) 0 = ldAt Tryz.prog 3 cs 0 := by kernel_rfl
theorem fa42_1 (id off : Nat) : afieldAddr Tryz.prog 42 (.ptr id off) 1 = some (.ptr id (off + 1)) := by kernel_rfl
theorem fv42_1 (cs : List AV) (off : Nat) : afieldAddr Tryz.prog 42 (.vptr cs off) 1 = some (.vptr cs (off + 1)) := by kernel_rfl
theorem fl42_1 (cs : List AV) : afield Tryz.prog 42 (.agg cs) 1 = ldAt Tryz.prog 2 cs 1 := by kernel_rfl
theorem fa42_2 (id off : Nat) : afieldAddr Tryz.prog 42 (.ptr id off) 2 = some (.ptr id (off + 2)) := by kernel_rfl
theorem fv42_2 (cs : List AV) (off : Nat) : afieldAddr Tryz.prog 42 (.vptr cs off) 2 = some (.vptr cs (off + 2)) := by kernel_rfl
theorem fl42_2 (cs : List AV) : afield Tryz.prog 42 (.agg cs) 2 = ldAt Tryz.prog 9 cs 2 := by kernel_rfl
theorem fa42_3 (id off : Nat) : afieldAddr Tryz.prog 42 (.ptr id off) 3 = some (.ptr id (off + 3)) := by kernel_rfl
theorem fv42_3 (cs : List AV) (off : Nat) : afieldAddr Tryz.prog 42 (.vptr cs off) 3 = some (.vptr cs (off + 3)) := by kernel_rfl
theorem fl42_3 (cs : List AV) : afield Tryz.prog 42 (.agg cs) 3 = ldAt Tryz.prog 40 cs 3 := by kernel_rfl
theorem sz44 : szOf Tryz.prog 44 = some 9 := by kernel_rfl
theorem ag44 : aggB Tryz.prog 44 = some true := by kernel_rfl
theorem zv44 : zeroAV Tryz.prog 44 = some (.agg [.str [], .int .i64 0, .int .i64 0, .str [], .nilSlice, .int .i64 0, .int .i64 0, .str [], .nilSlice]) := by kernel_rfl
theorem fa44_0 (id off : Nat) : afieldAddr Tryz.prog 44 (.ptr id off) 0 = some (.ptr id (off + 0)) := by kernel_rfl
theorem fv44_0 (cs : List AV) (off : Nat) : afieldAddr Tryz.prog 44 (.vptr cs off) 0 = some (.vptr cs (off + 0)) := by kernel_rfl
theorem fl44_0 (cs : List AV) : afield Tryz.prog 44 (.agg cs) 0 = ldAt Tryz.prog 9 cs 0 := by kernel_rfl
theorem fa44_1 (id off : Nat) : afieldAddr Tryz.prog 44 (.ptr id off) 1 = some (.ptr id (off + 1)) := by kernel_rfl
theorem fv44_1 (cs : List AV) (off : Nat) : afieldAddr Tryz.prog 44 (.vptr cs off) 1 = some (.vptr cs (off + 1)) := by kernel_rfl
theorem fl44_1 (cs : List AV) : afield Tryz.prog 44 (.agg cs) 1 = ldAt Tryz.prog 42 cs 1 := by kernel_rfl
theorem fa44_2 (id off : Nat) : afieldAddr Tryz.prog 44 (.ptr id off) 2 = some (.ptr id (off + 5)) := by kernel_rfl
theorem fv44_2 (cs : List AV) (off : Nat) : afieldAddr Tryz.prog 44 (.vptr cs off) 2 = some (.vptr cs (off + 5)) := by kernel_rfl
theorem fl44_2 (cs : List AV) : afield Tryz.prog 44 (.agg cs) 2 = ldAt Tryz.prog 42 cs 5 := by kernel_rfl
theorem sz292 : szOf Tryz.prog 292 = some 1 := by kernel_rfl
theorem ag292 : aggB Tryz.prog 292 = some false := by kernel_rfl
theorem zv292 : zeroAV Tryz.prog 292 = some (.nilPtr) := by kernel_rfl
theorem sz293 : szOf Tryz.prog 293 = some 4 := by kernel_rfl
theorem ag293 : aggB Tryz.prog 293 = some true := by kernel_rfl
theorem zv293 : zeroAV Tryz.prog 293 = some (.agg [.nilSlice, .int .i64 0, .nilSlice, .int .i64 0]) := by kernel_rfl
theorem fa293_0 (id off : Nat) : afieldAddr Tryz.prog 293 (.ptr id off) 0 = some (.ptr id (off + 0)) := by kernel_rfl
theorem fv293_0 (cs : List AV) (off : Nat) : afieldAddr Tryz.prog 293 (.vptr cs off) 0 = some (.vptr cs (off + 0)) := by kernel_rfl
theorem fl293_0 (cs : List AV) : afield Tryz.prog 293 (.agg cs) 0 = ldAt Tryz.prog 54 cs 0 := by kernel_rfl
theorem fa293_1 (id off : Nat) : afieldAddr Tryz.prog 293 (.ptr id off) 1 = some (.ptr id (off + 1)) := by kernel_rfl
theorem fv293_1 (cs : List AV) (off : Nat) : afieldAddr Tryz.prog 293 (.vptr cs off) 1 = some (.vptr cs (off + 1)) := by kernel_rfl
theorem fl293_1 (cs : List AV) : afield Tryz.prog 293 (.agg cs) 1 = ldAt Tryz.prog 3 cs 1 := by kernel_rfl
theorem fa293_2 (id off : Nat) : afieldAddr Tryz.prog 293 (.ptr id off) 2 = some (.ptr id (off + 2)) := by kernel_rfl
theorem fv293_2 (cs : List AV) (off : Nat) : afieldAddr Tryz.prog 293 (.vptr cs off) 2 = some (.vptr cs (off + 2)) := by kernel_rfl
theorem fl293_2 (cs : List AV) : afield Tryz.prog 293 (.agg cs) 2 = ldAt Tryz.prog 57 cs 2 := by kernel_rfl
theorem sz302 : szOf Tryz.prog 302 = some 1 := by kernel_rfl
theorem ag302 : aggB Tryz.prog 302 = some false := by kernel_rfl
theorem zv302 : zeroAV Tryz.prog 302 = some (.nilPtr) := by kernel_rfl
theorem sz304 : szOf Tryz.prog 304 = some 4 := by kernel_rfl
theorem ag304 : aggB Tryz.prog 304 = some true := by kernel_rfl
theorem zv304 : zeroAV Tryz.prog 304 = some (.agg [.nilSlice, .int .i64 0, .int .i64 0, .nilIface]) := by kernel_rfl
theorem fa304_0 (id off : Nat) : afieldAddr Tryz.prog 304 (.ptr id off) 0 = some (.ptr id (off + 0)) := by kernel_rfl
theorem fv304_0 (cs : List AV) (off : Nat) : afieldAddr Tryz.prog 304 (.vptr cs off) 0 = some (.vptr cs (off + 0)) := by kernel_rfl
theorem fl304_0 (cs : List AV) : afield Tryz.prog 304 (.agg cs) 0 = ldAt Tryz.prog 125 cs 0 := by kernel_rfl
theorem fa304_1 (id off : Nat) : afieldAddr Tryz.prog 304 (.ptr id off) 1 = some (.ptr id (off + 1)) := by kernel_rfl
theorem fv304_1 (cs : List AV) (off : Nat) : afieldAddr Tryz.prog 304 (.vptr cs off) 1 = some (.vptr cs (off + 1)) := by kernel_rfl
theorem fl304_1 (cs : List AV) : afield Tryz.prog 304 (.agg cs) 1 = ldAt Tryz.prog 3 cs 1 := by kernel_rfl
theorem fa304_2 (id off : Nat) : afieldAddr Tryz.prog 304 (.ptr id off) 2 = some (.ptr id (off + 2)) := by kernel_rfl
theorem fv304_2 (cs : List AV) (off : Nat) : afieldAddr Tryz.prog 304 (.vptr cs off) 2 = some (.vptr cs (off + 2)) := by kernel_rfl
theorem fl304_2 (cs : List AV) : afield Tryz.prog 304 (.agg cs) 2 = ldAt Tryz.prog 3 cs 2 := by kernel_rfl
theorem fa304_3 (id off : Nat) : afieldAddr Tryz.prog 304 (.ptr id off) 3 = some (.ptr id (off + 3)) := by kernel_rfl
theorem fv304_3 (cs : List AV) (off : Nat) : afieldAddr Tryz.prog 304 (.vptr cs off) 3 = some (.vptr cs (off + 3)) := by kernel_rfl
theorem fl304_3 (cs : List AV) : afield Tryz.prog 304 (.agg cs) 3 = ldAt Tryz.prog 33 cs 3 := by kernel_rfl
theorem go141 : goFn Tryz.prog 141 = true := by kernel_rfl
theorem go145 : goFn Tryz.prog 145 = true := by kernel_rfl
theorem go165 : goFn Tryz.prog 165 = true := by kernel_rfl
theorem go168 : goFn Tryz.prog 168 = true := by kernel_rfl
theorem go169 : goFn Tryz.prog 169 = true := by kernel_rfl
theorem go178 : goFn Tryz.prog 178 = true := by kernel_rfl
theorem go179 : goFn Tryz.prog 179 = true := by kernel_rfl
theorem go180 : goFn Tryz.prog 180 = true := by kernel_rfl
theorem go181 : goFn Tryz.prog 181 = true := by kernel_rfl
theorem go193 : goFn Tryz.prog 193 = true := by kernel_rfl
theorem go194 : goFn Tryz.prog 194 = true := by kernel_rfl
theorem go195 : goFn Tryz.prog 195 = true := by kernel_rfl
theorem go196 : goFn Tryz.prog 196 = true := by kernel_rfl
theorem go197 : goFn Tryz.prog 197 = true := by kernel_rfl
theorem go209 : goFn Tryz.prog 209 = true := by kernel_rfl
theorem go210 : goFn Tryz.prog 210 = true := by kernel_rfl
theorem go215 : goFn Tryz.prog 215 = true := by kernel_rfl
theorem go224 : goFn Tryz.prog 224 = true := by kernel_rfl
theorem go225 : goFn Tryz.prog 225 = true := by kernel_rfl
theorem go232 : goFn Tryz.prog 232 = true := by kernel_rfl
theorem go233 : goFn Tryz.prog 233 = true := by kernel_rfl
theorem go234 : goFn Tryz.prog 234 = true := by kernel_rfl
theorem go235 : goFn Tryz.prog 235 = true := by kernel_rfl
attribute [simp] sz25 ag25 zv25 ec25 Tryz.underlying25 sz27 ag27 zv27 fa27_0 fv27_0 fl27_0 fa27_1 fv27_1 fl27_1 fa27_2 fv27_2 fl27_2 fa27_3 fv27_3 fl27_3
attribute [simp] Tryz.underlying27 sz29 ag29 zv29 fa29_0 fv29_0 fl29_0 fa29_1 fv29_1 fl29_1 fa29_2 fv29_2 fl29_2 Tryz.underlying29 sz40 ag40 zv40 ec40 Tryz.underlying40 sz42
attribute [simp] ag42 zv42 fa42_0 fv42_0 fl42_0 fa42_1 fv42_1 fl42_1 fa42_2 fv42_2 fl42_2 fa42_3 fv42_3 fl42_3 Tryz.underlying42 sz44 ag44 zv44 fa44_0 fv44_0
attribute [simp] fl44_0 fa44_1 fv44_1 fl44_1 fa44_2 fv44_2 fl44_2 Tryz.underlying44 sz292 ag292 zv292 Tryz.underlying292 sz293 ag293 zv293 fa293_0 fv293_0 fl293_0 fa293_1 fv293_1
attribute [simp] fl293_1 fa293_2 fv293_2 fl293_2 Tryz.underlying293 sz302 ag302 zv302 Tryz.underlying302 sz304 ag304 zv304 fa304_0 fv304_0 fl304_0 fa304_1 fv304_1 fl304_1 fa304_2 fv304_2
attribute [simp] fl304_2 fa304_3 fv304_3 fl304_3 Tryz.underlying304 go141 go145 go165 go168 go169 go178 go179 go180 go181 go193 go194 go195 go196 go197 go209
attribute [simp] go210 go215 go224 go225 go232 go233 go234 go235
end Go.Proofs.YtejjlojfgcgopaaGreatDoor.Tx

namespace Go.Proofs.YtejjlojfgcgopaaGreatDoor.Tu
open Go.RowKit Go.Proofs.Fw
set_option maxRecDepth 100000
theorem sz49 : szOf Tryz.prog 49 = some 1 := by kernel_rfl
theorem ag49 : aggB Tryz.prog 49 = some false := by kernel_rfl
theorem zv49 : zeroAV Tryz.prog 49 = some (.nilSlice) := by kernel_rfl
theorem ec49 : elemChk Tryz.prog 49 1 = true := by kernel_rfl
theorem sz80 : szOf Tryz.prog 80 = some 2 := by kernel_rfl
theorem ag80 : aggB Tryz.prog 80 = some true := by kernel_rfl
theorem zv80 : zeroAV Tryz.prog 80 = some (.agg [.nilSlice, .int .i64 0]) := by kernel_rfl
theorem fa80_0 (id off : Nat) : afieldAddr Tryz.prog 80 (.ptr id off) 0 = some (.ptr id (off + 0)) := by kernel_rfl
theorem fv80_0 (cs : List AV) (off : Nat) : afieldAddr Tryz.prog 80 (.vptr cs off) 0 = some (.vptr cs (off + 0)) := by kernel_rfl
theorem fl80_0 (cs : List AV) : afield Tryz.prog 80 (.agg cs) 0 = ldAt Tryz.prog 78 cs 0 := by kernel_rfl
theorem fa80_1 (id off : Nat) : afieldAddr Tryz.prog 80 (.ptr id off) 1 = some (.ptr id (off + 1)) := by kernel_rfl
theorem fv80_1 (cs : List AV) (off : Nat) : afieldAddr Tryz.prog 80 (.vptr cs off) 1 = some (.vptr cs (off + 1)) := by kernel_rfl
theorem fl80_1 (cs : List AV) : afield Tryz.prog 80 (.agg cs) 1 = ldAt Tryz.prog 2 cs 1 := by kernel_rfl
theorem sz89 : szOf Tryz.prog 89 = some 4 := by kernel_rfl
theorem ag89 : aggB Tryz.prog 89 = some true := by kernel_rfl
theorem zv89 : zeroAV Tryz.prog 89 = some (.agg [.str [], .nilSlice, .int .i64 0, .int .i64 0]) := by kernel_rfl
theorem fa89_0 (id off : Nat) : afieldAddr Tryz.prog 89 (.ptr id off) 0 = some (.ptr id (off + 0)) := by kernel_rfl
theorem fv89_0 (cs : List AV) (off : Nat) : afieldAddr Tryz.prog 89 (.vptr cs off) 0 = some (.vptr cs (off + 0)) := by kernel_rfl
theorem fl89_0 (cs : List AV) : afield Tryz.prog 89 (.agg cs) 0 = ldAt Tryz.prog 9 cs 0 := by kernel_rfl
theorem fa89_1 (id off : Nat) : afieldAddr Tryz.prog 89 (.ptr id off) 1 = some (.ptr id (off + 1)) := by kernel_rfl
theorem fv89_1 (cs : List AV) (off : Nat) : afieldAddr Tryz.prog 89 (.vptr cs off) 1 = some (.vptr cs (off + 1)) := by kernel_rfl
theorem fl89_1 (cs : List AV) : afield Tryz.prog 89 (.agg cs) 1 = ldAt Tryz.prog 49 cs 1 := by kernel_rfl
theorem fa89_2 (id off : Nat) : afieldAddr Tryz.prog 89 (.ptr id off) 2 = some (.ptr id (off + 2)) := by kernel_rfl
theorem fv89_2 (cs : List AV) (off : Nat) : afieldAddr Tryz.prog 89 (.vptr cs off) 2 = some (.vptr cs (off + 2)) := by kernel_rfl
theorem fl89_2 (cs : List AV) : afield Tryz.prog 89 (.agg cs) 2 = ldAt Tryz.prog 3 cs 2 := by kernel_rfl
theorem fa89_3 (id off : Nat) : afieldAddr Tryz.prog 89 (.ptr id off) 3 = some (.ptr id (off + 3)) := by kernel_rfl
theorem fv89_3 (cs : List AV) (off : Nat) : afieldAddr Tryz.prog 89 (.vptr cs off) 3 = some (.vptr cs (off + 3)) := by kernel_rfl
theorem fl89_3 (cs : List AV) : afield Tryz.prog 89 (.agg cs) 3 = ldAt Tryz.prog 2 cs 3 := by kernel_rfl
theorem sz96 : szOf Tryz.prog 96 = some 1 := by kernel_rfl
theorem ag96 : aggB Tryz.prog 96 = some false := by kernel_rfl
theorem zv96 : zeroAV Tryz.prog 96 = some (.int .u64 0) := by kernel_rfl
theorem sz139 : szOf Tryz.prog 139 = some 1 := by kernel_rfl
theorem ag139 : aggB Tryz.prog 139 = some false := by kernel_rfl
theorem zv139 : zeroAV Tryz.prog 139 = some (.nilSlice) := by kernel_rfl
theorem ec139 : elemChk Tryz.prog 139 1 = true := by kernel_rfl
theorem sz201 : szOf Tryz.prog 201 = some 1 := by kernel_rfl
theorem ag201 : aggB Tryz.prog 201 = some false := by kernel_rfl
theorem zv201 : zeroAV Tryz.prog 201 = some (.nilMap) := by kernel_rfl
theorem go18 : goFn Tryz.prog 18 = true := by kernel_rfl
theorem go23 : goFn Tryz.prog 23 = true := by kernel_rfl
theorem go56 : goFn Tryz.prog 56 = true := by kernel_rfl
theorem go58 : goFn Tryz.prog 58 = true := by kernel_rfl
theorem go59 : goFn Tryz.prog 59 = true := by kernel_rfl
theorem go67 : goFn Tryz.prog 67 = true := by kernel_rfl
theorem go69 : goFn Tryz.prog 69 = true := by kernel_rfl
theorem go93 : goFn Tryz.prog 93 = true := by kernel_rfl
theorem go94 : goFn Tryz.prog 94 = true := by kernel_rfl
theorem go95 : goFn Tryz.prog 95 = true := by kernel_rfl
theorem go96 : goFn Tryz.prog 96 = true := by kernel_rfl
theorem go98 : goFn Tryz.prog 98 = true := by kernel_rfl
theorem go99 : goFn Tryz.prog 99 = true := by kernel_rfl
theorem go100 : goFn Tryz.prog 100 = true := by kernel_rfl
attribute [simp] sz49 ag49 zv49 ec49 Tryz.underlying49 sz80 ag80 zv80 fa80_0 fv80_0 fl80_0 fa80_1 fv80_1 fl80_1 Tryz.underlying80 sz89 ag89 zv89 fa89_0 fv89_0
attribute [simp] fl89_0 fa89_1 fv89_1 fl89_1 fa89_2 fv89_2 fl89_2 fa89_3 fv89_3 fl89_3 Tryz.underlying89 sz96 ag96 zv96 Tryz.underlying96 sz139 ag139 zv139 ec139 Tryz.underlying139
attribute [simp] sz201 ag201 zv201 Tryz.underlying201 go18 go23 go56 go58 go59 go67 go69 go93 go94 go95 go96 go98 go99 go100
end Go.Proofs.YtejjlojfgcgopaaGreatDoor.Tu

namespace Go.Proofs.YtejjlojfgcgopaaGreatDoor
open Go.RowKit Go.Proofs.Fw
theorem mixed : Tryz.prog.follows .mixedOrders = true := by kernel_rfl
def spaceCells : List AV := (List.range 256).map fun i => .int .u8 (if i = 32 ∨ (9 ≤ i ∧ i ≤ 13) then 1 else 0)
def rangeTxt : List UInt8 := [118, 97, 108, 117, 101, 32, 111, 117, 116, 32, 111, 102, 32, 114, 97, 110, 103, 101]
def rangeAV : AV := .vptr [.iface 357 (.vptr [.str rangeTxt] 0)] 0
def globT : List (Nat × AV) := [(3, .vptr spaceCells 0), (6, rangeAV)]
def envT : Env := ⟨globOf globT, fun _ _ => none, fun t => t == 156 || t == 341, fun _ => false⟩
@[simp] theorem envT_soft (t : TypeId) : envT.soft t = false := by rfl
theorem methT : MethOk Tryz.prog envT := fun _ _ _ h => by cases h
theorem lowT : ∀ i, low 0 (envT.glob i) = true := low_globOf (by
  intro x hx
  simp only [globT, List.mem_cons, List.not_mem_nil, or_false] at hx
  rcases hx with rfl | rfl
  · show lowL 0 spaceCells = true
    kernel_rfl
  · rfl)
set_option maxHeartbeats 1000000 in
set_option maxRecDepth 100000 in
theorem idxByte (s : ByteArray) (c : Int) (w : World) : Calls Tryz.prog 130 #[.string s, .int .u8 c] w fun e w' => e = .returned (.int .i64 (Lib.indexByte s.data.toList c.toNat.toUInt8)) ∧ w' = w := by
  go_enter Tryz.func130, Tryz.ntmps130
  go_wp2
  rw [run_callFunc_extern Tryz.func172 (by kernel_rfl) (by kernel_rfl) (by kernel_rfl) (e := Extern.BytealgIndexByte.indexByte) (by kernel_rfl), Lib.run_indexByteString]
  simp only [Result.andThen]
  rw [Oper.upon_value]
  go_wp2
  go_ret
  exact ⟨rfl, rfl⟩
def oIdx : Orc := fun f args H => if f = 130 then (match args with
  | [.str s, .int .u8 c] => some (.int .i64 (Lib.indexByte s c.toNat.toUInt8), H)
  | _ => none) else none
theorem oIdx_sound : Sound Tryz.prog envT oIdx := Sound.pure fun f args H v H' h => by
  unfold oIdx at h
  split at h
  · rename_i hf
    split at h
    · rename_i s c
      injection h with h
      simp only [Prod.mk.injEq] at h
      obtain ⟨rfl, rfl⟩ := h
      subst hf
      refine ⟨rfl, CS.of_calls fun g w cargs hA => ?_⟩
      simp only [RepL, RepV] at hA
      obtain ⟨_, _, rfl, rfl, _, _, rfl, rfl, rfl⟩ := hA
      refine (idxByte _ c w).mono fun e w' => ?_
      rintro ⟨rfl, rfl⟩
      exact ⟨_, rfl, fun g => by simp only [RepV], rfl⟩
    · cases h
  · cases h
def keyTxt : List UInt8 := [105,110,116,101,103,101,114,32,100,111,32,101,110,100,32,105,102,32,116,104,101,110,32,101,108,115,101,32,114,101,97,100,32,112,114,105,110,116]
def keysL : List (List UInt8) := [[105,110,116,101,103,101,114],[100,111],[101,110,100],[105,102],[116,104,101,110],[101,108,115,101],[114,101,97,100],[112,114,105,110,116]]
def keysAV : AV := .slice .unk 1 8 (keysL.map .str)
def fzT : FuncId → Nat := fun f => if f = 174 then 3 else 0
set_option maxRecDepth 100000 in
theorem fields_run : run fzT oIdx Tryz.prog envT 100 6 174 [.str keyTxt] [] = some (keysAV, []) := by kernel_rfl
end Go.Proofs.YtejjlojfgcgopaaGreatDoor
namespace Go.Proofs.YtejjlojfgcgopaaGreatDoor
open Go.RowKit Go.Proofs.Fw
def oKeys : Orc := callS 174 fun s => if s = keyTxt then some keysAV else none
def base1 : Orc := orElse oKeys oIdx
theorem base1_sound : Sound Tryz.prog envT base1 := Sound.orElse (Sound.callS lowT fun s v h => by
  split at h
  · rename_i hs
    injection h with h
    subst hs; subst h
    exact (run_sound oIdx_sound methT mixed 100 6 _ _ _ _ _ fields_run).1
  · cases h) oIdx_sound
end Go.Proofs.YtejjlojfgcgopaaGreatDoor
