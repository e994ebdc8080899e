/- A run in small steps; the simp set of runs. -/
import Derived.Test.YtejjlojfgcgopaaGreatDoorZ3
set_option linter.unusedSimpArgs false
set_option linter.unusedVariables false
namespace Go.Proofs.Fw
open Go.RowKit
theorem nrfl {α : Sort _} {a b : α} (h : a = b) : a = b := h
inductive Fr where
  | seq (c : Code)
  | blk (id : Nat)
section
variable (O : Orc) (P : Program) (E : Env) (Lp : LoopP)
def unwind : List Fr → (AEx → List AV → AH → Prop) → AEx → List AV → AH → Prop
  | [], Q => Q
  | .seq b :: ks, Q => Goes (fun t H => Wt O P E Lp b t H (unwind ks Q)) (unwind ks Q)
  | .blk id :: ks, Q => Blk id (unwind ks Q)
def Go (c : Code) (ks : List Fr) (t : List AV) (H : AH) (Q : AEx → List AV → AH → Prop) : Prop := Wt O P E Lp c t H (unwind O P E Lp ks Q)
def GoO (ops : Array Oper) (l : List (Oper × Nat)) (ks : List Fr) (t : List AV) (H : AH) (Q : AEx → List AV → AH → Prop) : Prop := WOx O P E ops l t H fun t1 H1 => unwind O P E Lp ks Q .normal t1 H1
def GoS (r : Option (AV × AH)) (dst : Option Tmp) (ops : Array Oper) (l : List (Oper × Nat)) (ks : List Fr) (t : List AV) (Q : AEx → List AV → AH → Prop) : Prop := WS r fun r => GoO O P E Lp ops l ks (putT t dst r.1) r.2 Q
def GoV (r : Option AV) (dst : Option Tmp) (ops : Array Oper) (l : List (Oper × Nat)) (ks : List Fr) (t : List AV) (H : AH) (Q : AEx → List AV → AH → Prop) : Prop := WS r fun v => GoO O P E Lp ops l ks (putT t dst v) H Q
def GoU (r : Option (AV × Ups)) (dst : Option Tmp) (ops : Array Oper) (l : List (Oper × Nat)) (ks : List Fr) (t : List AV) (H : AH) (Q : AEx → List AV → AH → Prop) : Prop := WS r fun r => GoO O P E Lp ops l ks (putT t dst r.1) (applyUps H r.2) Q
def GoG (w : Option Bool) (ops : Array Oper) (o : Oper) (fid : Nat) (l : List (Oper × Nat)) (ks : List Fr) (t : List AV) (H : AH) (Q : AEx → List AV → AH → Prop) : Prop :=
  WG w (GoO O P E Lp ops l ks (putT t o.dst .nothing) H Q) (GoS O P E Lp (stepO O P E (aeval E t) H fid o) o.dst ops l ks t Q)
def GoP (ops : Array Oper) (l : List (Oper × Nat)) (ks : List Fr) (t : List AV) (H : AH) (Q : AEx → List AV → AH → Prop) : Prop := WPx O P E ops l t H fun t1 => unwind O P E Lp ks Q .normal t1 H
def GoPU (r : Option (AV × Ups)) (dst : Option Tmp) (ops : Array Oper) (l : List (Oper × Nat)) (ks : List Fr) (t : List AV) (H : AH) (Q : AEx → List AV → AH → Prop) : Prop := WU r fun v => GoP O P E Lp ops l ks (putT t dst v) H Q
def GoPV (r : Option AV) (dst : Option Tmp) (ops : Array Oper) (l : List (Oper × Nat)) (ks : List Fr) (t : List AV) (H : AH) (Q : AEx → List AV → AH → Prop) : Prop := WS r fun v => GoP O P E Lp ops l ks (putT t dst v) H Q
def GoPG (w : Option Bool) (ops : Array Oper) (o : Oper) (fid : Nat) (l : List (Oper × Nat)) (ks : List Fr) (t : List AV) (H : AH) (Q : AEx → List AV → AH → Prop) : Prop :=
  WG w (GoP O P E Lp ops l ks (putT t o.dst .nothing) H Q) (GoPU O P E Lp (stepU O P E (aeval E t) (mask H (visIds E H (aeval E t) (o, fid))) fid (visIds E H (aeval E t) (o, fid)) o) o.dst ops l ks t H Q)
def GoB (v : AV) (a b : Code) (ks : List Fr) (t : List AV) (H : AH) (Q : AEx → List AV → AH → Prop) : Prop := WB v (Go O P E Lp a ks t H Q) (Go O P E Lp b ks t H Q)
def GoD (p : Prop) (a b : Code) (ks : List Fr) (t : List AV) (H : AH) (Q : AEx → List AV → AH → Prop) : Prop := (p → Go O P E Lp a ks t H Q) ∧ (¬ p → Go O P E Lp b ks t H Q)
def GoGD (p : Prop) (ops : Array Oper) (o : Oper) (fid : Nat) (l : List (Oper × Nat)) (ks : List Fr) (t : List AV) (H : AH) (Q : AEx → List AV → AH → Prop) : Prop :=
  (¬ p → GoO O P E Lp ops l ks (putT t o.dst .nothing) H Q) ∧ (p → GoS O P E Lp (stepO O P E (aeval E t) H fid o) o.dst ops l ks t Q)
def GoPGD (p : Prop) (ops : Array Oper) (o : Oper) (fid : Nat) (l : List (Oper × Nat)) (ks : List Fr) (t : List AV) (H : AH) (Q : AEx → List AV → AH → Prop) : Prop :=
  (¬ p → GoP O P E Lp ops l ks (putT t o.dst .nothing) H Q) ∧
    (p → GoPU O P E Lp (stepU O P E (aeval E t) (mask H (visIds E H (aeval E t) (o, fid))) fid (visIds E H (aeval E t) (o, fid)) o) o.dst ops l ks t H Q)
def GoX (b : Prop) [Decidable b] (id : Nat) (ks : List Fr) (t : List AV) (H : AH) (Q : AEx → List AV → AH → Prop) : Prop := if b then Go O P E Lp .skip ks t H Q else Go O P E Lp (.exit id) ks t H Q
end
def callV (O : Orc) (P : Program) (v : AV) (as : List AV) (H : AH) : Option (AV × AH) :=
  match v with
  | .func (.func i) first cap => if goFn P i = true then O i (first ++ as ++ cap) H else none
  | _ => none
def callI (O : Orc) (P : Program) (E : Env) (v : AV) (name : String) (as : List AV) (H : AH) : Option (AV × AH) :=
  match v with
  | .iface t x => (match E.meth t name with
    | some i => if goFn P i = true then O i (x :: as) H else none
    | none => none)
  | _ => none
section
variable {O : Orc} {P : Program} {E : Env} {Lp : LoopP} {ks : List Fr} {t : List AV} {H : AH} {Q : AEx → List AV → AH → Prop}
theorem Go_of {c : Code} : Wx O P E c t H Q = Go O P E noLoop c [] t H Q := nrfl rfl
theorem Go_loop (c : Code) : Go O P E Lp (.loop c) ks t H Q = Lp c t H (unwind O P E Lp ks Q) := nrfl rfl
theorem Go_seq (a b : Code) : Go O P E Lp (.seq a b) ks t H Q = Go O P E Lp a (.seq b :: ks) t H Q := nrfl rfl
theorem Go_block (id : Nat) (c : Code) : Go O P E Lp (.block id c) ks t H Q = Go O P E Lp c (.blk id :: ks) t H Q := nrfl rfl
theorem Go_region (id : Nat) (ops : Array Oper) : Go O P E Lp (.region id ops false) ks t H Q = GoO O P E Lp ops (withIds E ops.toList H.length) ks t (grow H (idCount E ops.toList)) Q := nrfl rfl
theorem Go_draw (id : Nat) (ops : Array Oper) : Go O P E Lp (.region id ops true) ks t H Q = GoP O P E Lp ops (withIds E ops.toList H.length) ks t H Q := nrfl rfl
theorem Go_cond (c : Operand) (a b : Code) : Go O P E Lp (.cond c a b) ks t H Q = GoB O P E Lp (aeval E t c) a b ks t H Q := nrfl rfl
theorem Go_skip_seq (b : Code) : Go O P E Lp .skip (.seq b :: ks) t H Q = Go O P E Lp b ks t H Q := nrfl rfl
theorem Go_skip_blk (id : Nat) : Go O P E Lp .skip (.blk id :: ks) t H Q = Go O P E Lp .skip ks t H Q := nrfl rfl
theorem Go_skip : Go O P E Lp .skip [] t H Q = Q .normal t H := nrfl rfl
theorem Go_ret_seq (b : Code) : Go O P E Lp .ret (.seq b :: ks) t H Q = Go O P E Lp .ret ks t H Q := nrfl rfl
theorem Go_ret_blk (id : Nat) : Go O P E Lp .ret (.blk id :: ks) t H Q = Go O P E Lp .ret ks t H Q := nrfl rfl
theorem Go_ret : Go O P E Lp .ret [] t H Q = Q .ret t H := nrfl rfl
theorem Go_exit_seq (id : Nat) (b : Code) : Go O P E Lp (.exit id) (.seq b :: ks) t H Q = Go O P E Lp (.exit id) ks t H Q := nrfl rfl
theorem Go_exit_blk (id id' : Nat) : Go O P E Lp (.exit id) (.blk id' :: ks) t H Q = GoX O P E Lp (id = id') id ks t H Q := nrfl rfl
theorem Go_exit (id : Nat) : Go O P E Lp (.exit id) [] t H Q = Q (.exit id) t H := nrfl rfl
theorem GoX_T (id : Nat) [Decidable True] : GoX O P E Lp True id ks t H Q = Go O P E Lp .skip ks t H Q := if_pos trivial
theorem GoX_F (id : Nat) [Decidable False] : GoX O P E Lp False id ks t H Q = Go O P E Lp (.exit id) ks t H Q := if_neg not_false
theorem GoB_bool (v : Bool) (a b : Code) : GoB O P E Lp (.bool v) a b ks t H Q = GoD O P E Lp (v = true) a b ks t H Q := by simp only [GoB, WB, GoD, Bool.not_eq_true]
theorem GoD_T (a b : Code) : GoD O P E Lp True a b ks t H Q = Go O P E Lp a ks t H Q := by simp [GoD]
theorem GoD_F (a b : Code) : GoD O P E Lp False a b ks t H Q = Go O P E Lp b ks t H Q := by simp [GoD]
theorem GoD_split {p : Prop} {a b : Code} (h1 : p → Go O P E Lp a ks t H Q) (h2 : ¬ p → Go O P E Lp b ks t H Q) : GoD O P E Lp p a b ks t H Q := ⟨h1, h2⟩
theorem GoO_nil (ops : Array Oper) : GoO O P E Lp ops [] ks t H Q = Go O P E Lp .skip ks t H Q := nrfl rfl
theorem GoO_cons (ops : Array Oper) (o : Oper) (fid : Nat) (l : List (Oper × Nat)) : GoO O P E Lp ops ((o, fid) :: l) ks t H Q = GoG O P E Lp (wantedA ops t o) ops o fid l ks t H Q := nrfl rfl
theorem GoG_some (b : Bool) (ops : Array Oper) (o : Oper) (fid : Nat) (l : List (Oper × Nat)) : GoG O P E Lp (some b) ops o fid l ks t H Q = GoGD O P E Lp (b = true) ops o fid l ks t H Q := by simp only [GoG, WG, GoGD, Bool.not_eq_true]
theorem GoGD_T (ops : Array Oper) (o : Oper) (fid : Nat) (l : List (Oper × Nat)) : GoGD O P E Lp True ops o fid l ks t H Q = GoS O P E Lp (stepO O P E (aeval E t) H fid o) o.dst ops l ks t Q := by simp [GoGD]
theorem GoGD_F (ops : Array Oper) (o : Oper) (fid : Nat) (l : List (Oper × Nat)) : GoGD O P E Lp False ops o fid l ks t H Q = GoO O P E Lp ops l ks (putT t o.dst .nothing) H Q := by simp [GoGD]
theorem GoS_some (v : AV) (H1 : AH) (dst : Option Tmp) (ops : Array Oper) (l : List (Oper × Nat)) : GoS O P E Lp (some (v, H1)) dst ops l ks t Q = GoO O P E Lp ops l ks (putT t dst v) H1 Q := nrfl rfl
theorem GoV_some (v : AV) (dst : Option Tmp) (ops : Array Oper) (l : List (Oper × Nat)) : GoV O P E Lp (some v) dst ops l ks t H Q = GoO O P E Lp ops l ks (putT t dst v) H Q := nrfl rfl
theorem GoV_map {α : Type} (r : Option α) (f : α → AV) (dst : Option Tmp) (ops : Array Oper) (l : List (Oper × Nat)) : GoV O P E Lp (r.map f) dst ops l ks t H Q = WS r fun x => GoO O P E Lp ops l ks (putT t dst (f x)) H Q := by
  cases r <;> rfl
theorem GoU_some (v : AV) (u : Ups) (dst : Option Tmp) (ops : Array Oper) (l : List (Oper × Nat)) : GoU O P E Lp (some (v, u)) dst ops l ks t H Q = GoO O P E Lp ops l ks (putT t dst v) (applyUps H u) Q := nrfl rfl
theorem GoP_nil (ops : Array Oper) : GoP O P E Lp ops [] ks t H Q = Go O P E Lp .skip ks t H Q := nrfl rfl
theorem GoP_cons (ops : Array Oper) (o : Oper) (fid : Nat) (l : List (Oper × Nat)) : GoP O P E Lp ops ((o, fid) :: l) ks t H Q = GoPG O P E Lp (wantedA ops t o) ops o fid l ks t H Q := nrfl rfl
theorem GoPG_some (b : Bool) (ops : Array Oper) (o : Oper) (fid : Nat) (l : List (Oper × Nat)) : GoPG O P E Lp (some b) ops o fid l ks t H Q = GoPGD O P E Lp (b = true) ops o fid l ks t H Q := by simp only [GoPG, WG, GoPGD, Bool.not_eq_true]
theorem GoPGD_T (ops : Array Oper) (o : Oper) (fid : Nat) (l : List (Oper × Nat)) : GoPGD O P E Lp True ops o fid l ks t H Q =
  GoPU O P E Lp (stepU O P E (aeval E t) (mask H (visIds E H (aeval E t) (o, fid))) fid (visIds E H (aeval E t) (o, fid)) o) o.dst ops l ks t H Q := by simp [GoPGD]
theorem GoPGD_F (ops : Array Oper) (o : Oper) (fid : Nat) (l : List (Oper × Nat)) : GoPGD O P E Lp False ops o fid l ks t H Q = GoP O P E Lp ops l ks (putT t o.dst .nothing) H Q := by simp [GoPGD]
theorem GoPU_some (v : AV) (dst : Option Tmp) (ops : Array Oper) (l : List (Oper × Nat)) : GoPU O P E Lp (some (v, [])) dst ops l ks t H Q = GoP O P E Lp ops l ks (putT t dst v) H Q := nrfl rfl
theorem GoPV_some (v : AV) (dst : Option Tmp) (ops : Array Oper) (l : List (Oper × Nat)) : GoPV O P E Lp (some v) dst ops l ks t H Q = GoP O P E Lp ops l ks (putT t dst v) H Q := nrfl rfl
def apick (c a b : AV) : Option AV := match c with
  | .bool t => some (if t then a else b)
  | _ => none
theorem apick_bool (c : Bool) (a b : AV) : apick (.bool c) a b = some (if c then a else b) := nrfl rfl
def aface (P : Program) (t : TypeId) (x : AV) : Option AV := match P.underlying t with
  | some (.interface _) => none
  | some _ => some (.iface t x)
  | none => none
def aalloc (P : Program) (fid : Nat) (t : TypeId) : Option (AV × Ups) := match zeroAV P t with
  | some z => some (.ptr fid 0, [(fid, .box (cellsAV z))])
  | none => none
def abox (E : Env) (fid : Nat) (t : TypeId) (x : AV) : Option (AV × Ups) :=
  if E.imm t = true then (if x.known = true then some (.vptr (cellsAV x) 0, []) else none)
  else if x.known = true then some (.ptr fid 0, [(fid, .box (cellsAV x))]) else none
theorem GoS_map (r : Option AV) {d : Option Tmp} {ops : Array Oper} {l : List (Oper × Nat)} : GoS O P E Lp (r.map fun a => (a, H)) d ops l ks t Q = GoV O P E Lp r d ops l ks t H Q := by cases r <;> rfl
theorem GoS_rd (r : Option AV) {d : Option Tmp} {ops : Array Oper} {l : List (Oper × Nat)} : GoS O P E Lp (match r.map (fun a => (a, ([] : Ups))) with
    | some (r, u) => some (r, applyUps H u)
    | none => none) d ops l ks t Q = GoV O P E Lp r d ops l ks t H Q := by cases r <;> rfl
theorem GoS_up (r : Option (AV × Ups)) {d : Option Tmp} {ops : Array Oper} {l : List (Oper × Nat)} : GoS O P E Lp (r.map fun r => (r.1, applyUps H r.2)) d ops l ks t Q = GoU O P E Lp r d ops l ks t H Q := by cases r <;> rfl
theorem GoS_ups (r : Option (AV × Ups)) {d : Option Tmp} {ops : Array Oper} {l : List (Oper × Nat)} : GoS O P E Lp (match r with
    | some (r, u) => some (r, applyUps H u)
    | none => none) d ops l ks t Q = GoU O P E Lp r d ops l ks t H Q := by
  cases r with
  | none => rfl
  | some r => obtain ⟨a, u⟩ := r; rfl
theorem GoPU_rd (r : Option AV) {d : Option Tmp} {ops : Array Oper} {l : List (Oper × Nat)} : GoPU O P E Lp (r.map fun a => (a, [])) d ops l ks t H Q = GoPV O P E Lp r d ops l ks t H Q := by cases r <;> rfl
section
variable (ρ : Operand → AV) (fid : Nat) (d dst : Option Tmp) (ty : TypeId) (pos : String) (after : Array Edge) (guard : Option (Nat × Bool)) (ops : Array Oper) (l : List (Oper × Nat))
theorem step_pick (c a b : Operand) : stepO O P E ρ H fid ⟨dst, .pick c a b, ty, pos, after, guard⟩ = (apick (ρ c) (ρ a) (ρ b)).map (fun a => (a, H)) := by
  simp only [stepO, aop, apick]
  cases ρ c <;> rfl
theorem stepU_pick (c a b : Operand) (S : List Nat) (H' : AH) : stepU O P E ρ H' fid S ⟨dst, .pick c a b, ty, pos, after, guard⟩ = (apick (ρ c) (ρ a) (ρ b)).map (fun a => (a, [])) := by
  simp only [stepU, aop, apick]
  cases ρ c <;> rfl
theorem step_makeInterface (u : TypeId) (x : Operand) : stepO O P E ρ H fid ⟨dst, .makeInterface u x, ty, pos, after, guard⟩ = (aface P u (ρ x)).map (fun a => (a, H)) := by
  simp only [stepO, aop, aface]
  cases P.underlying u with
  | none => rfl
  | some k => cases k <;> rfl
theorem stepU_makeInterface (u : TypeId) (x : Operand) (S : List Nat) (H' : AH) : stepU O P E ρ H' fid S ⟨dst, .makeInterface u x, ty, pos, after, guard⟩ = (aface P u (ρ x)).map (fun a => (a, [])) := by
  simp only [stepU, aop, aface]
  cases P.underlying u with
  | none => rfl
  | some k => cases k <;> rfl
theorem step_alloc (u : TypeId) : stepO O P E ρ H fid ⟨dst, .alloc u, ty, pos, after, guard⟩ = (aalloc P fid u).map (fun r => (r.1, applyUps H r.2)) := by
  simp only [stepO, aop, aalloc]
  cases zeroAV P u <;> rfl
theorem step_box (u : TypeId) (x : Operand) : stepO O P E ρ H fid ⟨dst, .box u x, ty, pos, after, guard⟩ = (abox E fid u (ρ x)).map (fun r => (r.1, applyUps H r.2)) := by
  simp only [stepO, aop, abox]
  cases E.imm u <;> cases (ρ x).known <;> rfl
theorem step_call (f : Operand) (as : Array Operand) (us : Array TypeId) : stepO O P E ρ H fid ⟨dst, .call ⟨.value f, as, us⟩, ty, pos, after, guard⟩ = callV O P (ρ f) (as.toList.map ρ) H := by
  simp only [stepO, callee, callV]
  cases ρ f with
  | func fn a b => cases fn <;> rfl
  | _ => rfl
theorem step_invoke (f : Operand) (nm : String) (as : Array Operand) (us : Array TypeId) : stepO O P E ρ H fid ⟨dst, .call ⟨.invoke f nm, as, us⟩, ty, pos, after, guard⟩ = callI O P E (ρ f) nm (as.toList.map ρ) H := by
  simp only [stepO, callee, callI]
  cases ρ f with
  | iface u x =>
    simp only
    cases E.meth u nm <;> rfl
  | _ => rfl
theorem GoS_move (x : Operand) : GoS O P E Lp (stepO O P E ρ H fid ⟨dst, .move x, ty, pos, after, guard⟩) d ops l ks t Q = GoV O P E Lp (some (ρ x)) d ops l ks t H Q := nrfl rfl
theorem GoPU_move (x : Operand) (S : List Nat) (H' : AH) : GoPU O P E Lp (stepU O P E ρ H' fid S ⟨dst, .move x, ty, pos, after, guard⟩) d ops l ks t H Q = GoPV O P E Lp (some (ρ x)) d ops l ks t H Q := nrfl rfl
theorem GoS_assign (x : Operand) : GoS O P E Lp (stepO O P E ρ H fid ⟨dst, .assign x, ty, pos, after, guard⟩) d ops l ks t Q = GoV O P E Lp (some (ρ x)) d ops l ks t H Q := nrfl rfl
theorem GoPU_assign (x : Operand) (S : List Nat) (H' : AH) : GoPU O P E Lp (stepU O P E ρ H' fid S ⟨dst, .assign x, ty, pos, after, guard⟩) d ops l ks t H Q = GoPV O P E Lp (some (ρ x)) d ops l ks t H Q := nrfl rfl
theorem GoS_build (u : TypeId) (parts : Array (Nat × Operand)) : GoS O P E Lp (stepO O P E ρ H fid ⟨dst, .build u parts, ty, pos, after, guard⟩) d ops l ks t Q = GoV O P E Lp (abuild P u (parts.toList.map fun p => (p.1, ρ p.2))) d ops l ks t H Q := GoS_rd (abuild P u (parts.toList.map fun p => (p.1, ρ p.2)))
theorem GoPU_build (u : TypeId) (parts : Array (Nat × Operand)) (S : List Nat) (H' : AH) : GoPU O P E Lp (stepU O P E ρ H' fid S ⟨dst, .build u parts, ty, pos, after, guard⟩) d ops l ks t H Q = GoPV O P E Lp (abuild P u (parts.toList.map fun p => (p.1, ρ p.2))) d ops l ks t H Q := GoPU_rd (abuild P u (parts.toList.map fun p => (p.1, ρ p.2)))
theorem GoS_buildSlice (u : TypeId) (len : Nat) (parts : Array (Nat × Operand)) : GoS O P E Lp (stepO O P E ρ H fid ⟨dst, .buildSlice u len parts, ty, pos, after, guard⟩) d ops l ks t Q = GoV O P E Lp (abuildSlice P u len (parts.toList.map fun p => (p.1, ρ p.2))) d ops l ks t H Q := GoS_rd (abuildSlice P u len (parts.toList.map fun p => (p.1, ρ p.2)))
theorem GoPU_buildSlice (u : TypeId) (len : Nat) (parts : Array (Nat × Operand)) (S : List Nat) (H' : AH) : GoPU O P E Lp (stepU O P E ρ H' fid S ⟨dst, .buildSlice u len parts, ty, pos, after, guard⟩) d ops l ks t H Q = GoPV O P E Lp (abuildSlice P u len (parts.toList.map fun p => (p.1, ρ p.2))) d ops l ks t H Q := GoPU_rd (abuildSlice P u len (parts.toList.map fun p => (p.1, ρ p.2)))
theorem GoS_load (u : TypeId) (a : Operand) : GoS O P E Lp (stepO O P E ρ H fid ⟨dst, .load u a, ty, pos, after, guard⟩) d ops l ks t Q = GoV O P E Lp (aload P H u (ρ a)) d ops l ks t H Q := GoS_rd (aload P H u (ρ a))
theorem GoPU_load (u : TypeId) (a : Operand) (S : List Nat) (H' : AH) : GoPU O P E Lp (stepU O P E ρ H' fid S ⟨dst, .load u a, ty, pos, after, guard⟩) d ops l ks t H Q = GoPV O P E Lp (aload P H' u (ρ a)) d ops l ks t H Q := GoPU_rd (aload P H' u (ρ a))
theorem GoS_nilCheck (x : Operand) : GoS O P E Lp (stepO O P E ρ H fid ⟨dst, .nilCheck x, ty, pos, after, guard⟩) d ops l ks t Q = GoV O P E Lp (anilCheck (ρ x)) d ops l ks t H Q := GoS_rd (anilCheck (ρ x))
theorem GoPU_nilCheck (x : Operand) (S : List Nat) (H' : AH) : GoPU O P E Lp (stepU O P E ρ H' fid S ⟨dst, .nilCheck x, ty, pos, after, guard⟩) d ops l ks t H Q = GoPV O P E Lp (anilCheck (ρ x)) d ops l ks t H Q := GoPU_rd (anilCheck (ρ x))
theorem GoS_binOp (op : BinOp) (u : TypeId) (x y : Operand) (w : TypeId) : GoS O P E Lp (stepO O P E ρ H fid ⟨dst, .binOp op u x y w, ty, pos, after, guard⟩) d ops l ks t Q = GoV O P E Lp (abin P op u (isConstO x || isConstO y) (ρ x) (ρ y)) d ops l ks t H Q := GoS_rd (abin P op u (isConstO x || isConstO y) (ρ x) (ρ y))
theorem GoPU_binOp (op : BinOp) (u : TypeId) (x y : Operand) (w : TypeId) (S : List Nat) (H' : AH) : GoPU O P E Lp (stepU O P E ρ H' fid S ⟨dst, .binOp op u x y w, ty, pos, after, guard⟩) d ops l ks t H Q = GoPV O P E Lp (abin P op u (isConstO x || isConstO y) (ρ x) (ρ y)) d ops l ks t H Q := GoPU_rd (abin P op u (isConstO x || isConstO y) (ρ x) (ρ y))
theorem GoS_unOp (op : UnOp) (u : TypeId) (x : Operand) : GoS O P E Lp (stepO O P E ρ H fid ⟨dst, .unOp op u x, ty, pos, after, guard⟩) d ops l ks t Q = GoV O P E Lp (aun op (ρ x)) d ops l ks t H Q := GoS_rd (aun op (ρ x))
theorem GoPU_unOp (op : UnOp) (u : TypeId) (x : Operand) (S : List Nat) (H' : AH) : GoPU O P E Lp (stepU O P E ρ H' fid S ⟨dst, .unOp op u x, ty, pos, after, guard⟩) d ops l ks t H Q = GoPV O P E Lp (aun op (ρ x)) d ops l ks t H Q := GoPU_rd (aun op (ρ x))
theorem GoS_convert (src dst' : TypeId) (x : Operand) : GoS O P E Lp (stepO O P E ρ H fid ⟨dst, .convert src dst' x, ty, pos, after, guard⟩) d ops l ks t Q = GoV O P E Lp (aconvert P H src dst' (ρ x)) d ops l ks t H Q := GoS_rd (aconvert P H src dst' (ρ x))
theorem GoPU_convert (src dst' : TypeId) (x : Operand) (S : List Nat) (H' : AH) : GoPU O P E Lp (stepU O P E ρ H' fid S ⟨dst, .convert src dst' x, ty, pos, after, guard⟩) d ops l ks t H Q = GoPV O P E Lp (aconvert P H' src dst' (ρ x)) d ops l ks t H Q := GoPU_rd (aconvert P H' src dst' (ρ x))
theorem GoS_makeFunc (fn : Fn) (first captured : Array Operand) : GoS O P E Lp (stepO O P E ρ H fid ⟨dst, .makeFunc fn first captured, ty, pos, after, guard⟩) d ops l ks t Q = GoV O P E Lp (some (.func fn (first.toList.map ρ) (captured.toList.map ρ))) d ops l ks t H Q := nrfl rfl
theorem GoPU_makeFunc (fn : Fn) (first captured : Array Operand) (S : List Nat) (H' : AH) : GoPU O P E Lp (stepU O P E ρ H' fid S ⟨dst, .makeFunc fn first captured, ty, pos, after, guard⟩) d ops l ks t H Q = GoPV O P E Lp (some (.func fn (first.toList.map ρ) (captured.toList.map ρ))) d ops l ks t H Q := nrfl rfl
theorem GoS_slice (u : TypeId) (x : Operand) (lo hi mx : Option Operand) : GoS O P E Lp (stepO O P E ρ H fid ⟨dst, .slice u x lo hi mx, ty, pos, after, guard⟩) d ops l ks t Q = GoV O P E Lp (aslice P u (ρ x) (lo.map ρ) (hi.map ρ) (mx.map ρ)) d ops l ks t H Q := GoS_rd (aslice P u (ρ x) (lo.map ρ) (hi.map ρ) (mx.map ρ))
theorem GoPU_slice (u : TypeId) (x : Operand) (lo hi mx : Option Operand) (S : List Nat) (H' : AH) : GoPU O P E Lp (stepU O P E ρ H' fid S ⟨dst, .slice u x lo hi mx, ty, pos, after, guard⟩) d ops l ks t H Q = GoPV O P E Lp (aslice P u (ρ x) (lo.map ρ) (hi.map ρ) (mx.map ρ)) d ops l ks t H Q := GoPU_rd (aslice P u (ρ x) (lo.map ρ) (hi.map ρ) (mx.map ρ))
theorem GoS_fieldAddr (u : TypeId) (x : Operand) (f : Nat) : GoS O P E Lp (stepO O P E ρ H fid ⟨dst, .fieldAddr u x f, ty, pos, after, guard⟩) d ops l ks t Q = GoV O P E Lp (afieldAddr P u (ρ x) f) d ops l ks t H Q := GoS_rd (afieldAddr P u (ρ x) f)
theorem GoPU_fieldAddr (u : TypeId) (x : Operand) (f : Nat) (S : List Nat) (H' : AH) : GoPU O P E Lp (stepU O P E ρ H' fid S ⟨dst, .fieldAddr u x f, ty, pos, after, guard⟩) d ops l ks t H Q = GoPV O P E Lp (afieldAddr P u (ρ x) f) d ops l ks t H Q := GoPU_rd (afieldAddr P u (ρ x) f)
theorem GoS_field (u : TypeId) (x : Operand) (f : Nat) : GoS O P E Lp (stepO O P E ρ H fid ⟨dst, .field u x f, ty, pos, after, guard⟩) d ops l ks t Q = GoV O P E Lp (afield P u (ρ x) f) d ops l ks t H Q := GoS_rd (afield P u (ρ x) f)
theorem GoPU_field (u : TypeId) (x : Operand) (f : Nat) (S : List Nat) (H' : AH) : GoPU O P E Lp (stepU O P E ρ H' fid S ⟨dst, .field u x f, ty, pos, after, guard⟩) d ops l ks t H Q = GoPV O P E Lp (afield P u (ρ x) f) d ops l ks t H Q := GoPU_rd (afield P u (ρ x) f)
theorem GoS_indexAddr (u : TypeId) (x i : Operand) : GoS O P E Lp (stepO O P E ρ H fid ⟨dst, .indexAddr u x i, ty, pos, after, guard⟩) d ops l ks t Q = GoV O P E Lp (aindexAddr P u (ρ x) (ρ i)) d ops l ks t H Q := GoS_rd (aindexAddr P u (ρ x) (ρ i))
theorem GoPU_indexAddr (u : TypeId) (x i : Operand) (S : List Nat) (H' : AH) : GoPU O P E Lp (stepU O P E ρ H' fid S ⟨dst, .indexAddr u x i, ty, pos, after, guard⟩) d ops l ks t H Q = GoPV O P E Lp (aindexAddr P u (ρ x) (ρ i)) d ops l ks t H Q := GoPU_rd (aindexAddr P u (ρ x) (ρ i))
theorem GoS_index (u : TypeId) (x i : Operand) : GoS O P E Lp (stepO O P E ρ H fid ⟨dst, .index u x i, ty, pos, after, guard⟩) d ops l ks t Q = GoV O P E Lp (aindex P u (ρ x) (ρ i)) d ops l ks t H Q := GoS_rd (aindex P u (ρ x) (ρ i))
theorem GoPU_index (u : TypeId) (x i : Operand) (S : List Nat) (H' : AH) : GoPU O P E Lp (stepU O P E ρ H' fid S ⟨dst, .index u x i, ty, pos, after, guard⟩) d ops l ks t H Q = GoPV O P E Lp (aindex P u (ρ x) (ρ i)) d ops l ks t H Q := GoPU_rd (aindex P u (ρ x) (ρ i))
theorem GoS_typeAssert (x : Operand) (u w : TypeId) (ok : Bool) : GoS O P E Lp (stepO O P E ρ H fid ⟨dst, .typeAssert x u w ok, ty, pos, after, guard⟩) d ops l ks t Q = GoV O P E Lp (atypeAssert P (ρ x) w ok) d ops l ks t H Q := GoS_rd (atypeAssert P (ρ x) w ok)
theorem GoPU_typeAssert (x : Operand) (u w : TypeId) (ok : Bool) (S : List Nat) (H' : AH) : GoPU O P E Lp (stepU O P E ρ H' fid S ⟨dst, .typeAssert x u w ok, ty, pos, after, guard⟩) d ops l ks t H Q = GoPV O P E Lp (atypeAssert P (ρ x) w ok) d ops l ks t H Q := GoPU_rd (atypeAssert P (ρ x) w ok)
theorem GoS_extract (x : Operand) (i : Nat) : GoS O P E Lp (stepO O P E ρ H fid ⟨dst, .extract x i, ty, pos, after, guard⟩) d ops l ks t Q = GoV O P E Lp (aextract (ρ x) i) d ops l ks t H Q := GoS_rd (aextract (ρ x) i)
theorem GoPU_extract (x : Operand) (i : Nat) (S : List Nat) (H' : AH) : GoPU O P E Lp (stepU O P E ρ H' fid S ⟨dst, .extract x i, ty, pos, after, guard⟩) d ops l ks t H Q = GoPV O P E Lp (aextract (ρ x) i) d ops l ks t H Q := GoPU_rd (aextract (ρ x) i)
theorem GoS_len (x : Operand) (u : TypeId) : GoS O P E Lp (stepO O P E ρ H fid ⟨dst, .call ⟨.builtin .len, #[x], #[u]⟩, ty, pos, after, guard⟩) d ops l ks t Q = GoV O P E Lp (alen P u (ρ x)) d ops l ks t H Q := GoS_rd (alen P u (ρ x))
theorem GoPU_len (x : Operand) (u : TypeId) (S : List Nat) (H' : AH) : GoPU O P E Lp (stepU O P E ρ H' fid S ⟨dst, .call ⟨.builtin .len, #[x], #[u]⟩, ty, pos, after, guard⟩) d ops l ks t H Q = GoPV O P E Lp (alen P u (ρ x)) d ops l ks t H Q := GoPU_rd (alen P u (ρ x))
theorem GoS_cap (x : Operand) (u : TypeId) : GoS O P E Lp (stepO O P E ρ H fid ⟨dst, .call ⟨.builtin .cap, #[x], #[u]⟩, ty, pos, after, guard⟩) d ops l ks t Q = GoV O P E Lp (acap P u (ρ x)) d ops l ks t H Q := GoS_rd (acap P u (ρ x))
theorem GoPU_cap (x : Operand) (u : TypeId) (S : List Nat) (H' : AH) : GoPU O P E Lp (stepU O P E ρ H' fid S ⟨dst, .call ⟨.builtin .cap, #[x], #[u]⟩, ty, pos, after, guard⟩) d ops l ks t H Q = GoPV O P E Lp (acap P u (ρ x)) d ops l ks t H Q := GoPU_rd (acap P u (ρ x))
theorem GoS_max (x y : Operand) (us : Array TypeId) : GoS O P E Lp (stepO O P E ρ H fid ⟨dst, .call ⟨.builtin .max, #[x, y], us⟩, ty, pos, after, guard⟩) d ops l ks t Q = GoV O P E Lp (amax2 (ρ x) (ρ y)) d ops l ks t H Q := GoS_rd (amax2 (ρ x) (ρ y))
theorem GoPU_max (x y : Operand) (us : Array TypeId) (S : List Nat) (H' : AH) : GoPU O P E Lp (stepU O P E ρ H' fid S ⟨dst, .call ⟨.builtin .max, #[x, y], us⟩, ty, pos, after, guard⟩) d ops l ks t H Q = GoPV O P E Lp (amax2 (ρ x) (ρ y)) d ops l ks t H Q := GoPU_rd (amax2 (ρ x) (ρ y))
theorem GoS_min (x y : Operand) (us : Array TypeId) : GoS O P E Lp (stepO O P E ρ H fid ⟨dst, .call ⟨.builtin .min, #[x, y], us⟩, ty, pos, after, guard⟩) d ops l ks t Q = GoV O P E Lp (amin2 (ρ x) (ρ y)) d ops l ks t H Q := GoS_rd (amin2 (ρ x) (ρ y))
theorem GoPU_min (x y : Operand) (us : Array TypeId) (S : List Nat) (H' : AH) : GoPU O P E Lp (stepU O P E ρ H' fid S ⟨dst, .call ⟨.builtin .min, #[x, y], us⟩, ty, pos, after, guard⟩) d ops l ks t H Q = GoPV O P E Lp (amin2 (ρ x) (ρ y)) d ops l ks t H Q := GoPU_rd (amin2 (ρ x) (ρ y))
theorem GoS_pick (c a b : Operand) : GoS O P E Lp (stepO O P E ρ H fid ⟨dst, .pick c a b, ty, pos, after, guard⟩) d ops l ks t Q = GoV O P E Lp (apick (ρ c) (ρ a) (ρ b)) d ops l ks t H Q := by
  rw [show stepO O P E ρ H fid ⟨dst, .pick c a b, ty, pos, after, guard⟩ = (apick (ρ c) (ρ a) (ρ b)).map (fun a => (a, H)) from step_pick ..]
  exact GoS_map _
theorem GoPU_pick (c a b : Operand) (S : List Nat) (H' : AH) : GoPU O P E Lp (stepU O P E ρ H' fid S ⟨dst, .pick c a b, ty, pos, after, guard⟩) d ops l ks t H Q = GoPV O P E Lp (apick (ρ c) (ρ a) (ρ b)) d ops l ks t H Q := by
  rw [show stepU O P E ρ H' fid S ⟨dst, .pick c a b, ty, pos, after, guard⟩ = (apick (ρ c) (ρ a) (ρ b)).map (fun a => (a, [])) from stepU_pick ..]
  exact GoPU_rd _
theorem GoS_makeInterface (u : TypeId) (x : Operand) : GoS O P E Lp (stepO O P E ρ H fid ⟨dst, .makeInterface u x, ty, pos, after, guard⟩) d ops l ks t Q = GoV O P E Lp (aface P u (ρ x)) d ops l ks t H Q := by
  rw [show stepO O P E ρ H fid ⟨dst, .makeInterface u x, ty, pos, after, guard⟩ = (aface P u (ρ x)).map (fun a => (a, H)) from step_makeInterface ..]
  exact GoS_map _
theorem GoPU_makeInterface (u : TypeId) (x : Operand) (S : List Nat) (H' : AH) : GoPU O P E Lp (stepU O P E ρ H' fid S ⟨dst, .makeInterface u x, ty, pos, after, guard⟩) d ops l ks t H Q = GoPV O P E Lp (aface P u (ρ x)) d ops l ks t H Q := by
  rw [show stepU O P E ρ H' fid S ⟨dst, .makeInterface u x, ty, pos, after, guard⟩ = (aface P u (ρ x)).map (fun a => (a, [])) from stepU_makeInterface ..]
  exact GoPU_rd _
theorem GoS_alloc (u : TypeId) : GoS O P E Lp (stepO O P E ρ H fid ⟨dst, .alloc u, ty, pos, after, guard⟩) d ops l ks t Q = GoU O P E Lp (aalloc P fid u) d ops l ks t H Q := by
  rw [show stepO O P E ρ H fid ⟨dst, .alloc u, ty, pos, after, guard⟩ = (aalloc P fid u).map (fun r => (r.1, applyUps H r.2)) from step_alloc ..]
  exact GoS_up _
theorem GoS_box (u : TypeId) (x : Operand) : GoS O P E Lp (stepO O P E ρ H fid ⟨dst, .box u x, ty, pos, after, guard⟩) d ops l ks t Q = GoU O P E Lp (abox E fid u (ρ x)) d ops l ks t H Q := by
  rw [show stepO O P E ρ H fid ⟨dst, .box u x, ty, pos, after, guard⟩ = (abox E fid u (ρ x)).map (fun r => (r.1, applyUps H r.2)) from step_box ..]
  exact GoS_up _
theorem GoS_store (u : TypeId) (a x : Operand) : GoS O P E Lp (stepO O P E ρ H fid ⟨dst, .store u a x, ty, pos, after, guard⟩) d ops l ks t Q = GoU O P E Lp (astore P H u (ρ a) (ρ x)) d ops l ks t H Q := GoS_ups (astore P H u (ρ a) (ρ x))
theorem GoS_makeSlice (u : TypeId) (x y : Operand) : GoS O P E Lp (stepO O P E ρ H fid ⟨dst, .makeSlice u x y, ty, pos, after, guard⟩) d ops l ks t Q = GoU O P E Lp (amakeSlice P fid u (ρ x) (ρ y)) d ops l ks t H Q := GoS_ups (amakeSlice P fid u (ρ x) (ρ y))
theorem GoS_append (s x : Operand) (u w : TypeId) : GoS O P E Lp (stepO O P E ρ H fid ⟨dst, .call ⟨.builtin .append, #[s, x], #[u, w]⟩, ty, pos, after, guard⟩) d ops l ks t Q = GoU O P E Lp (aapp P E H fid u w (ρ s) (ρ x)) d ops l ks t H Q := GoS_ups (aapp P E H fid u w (ρ s) (ρ x))
theorem GoS_copy (s x : Operand) (u w : TypeId) : GoS O P E Lp (stepO O P E ρ H fid ⟨dst, .call ⟨.builtin .copy, #[s, x], #[u, w]⟩, ty, pos, after, guard⟩) d ops l ks t Q = GoU O P E Lp (acopy P H u (ρ s) (ρ x)) d ops l ks t H Q := GoS_ups (acopy P H u (ρ s) (ρ x))
theorem GoS_call (f : Operand) (as : Array Operand) (us : Array TypeId) : GoS O P E Lp (stepO O P E ρ H fid ⟨dst, .call ⟨.value f, as, us⟩, ty, pos, after, guard⟩) d ops l ks t Q = GoS O P E Lp (callV O P (ρ f) (as.toList.map ρ) H) d ops l ks t Q := by
  rw [step_call]
theorem GoS_invoke (f : Operand) (nm : String) (as : Array Operand) (us : Array TypeId) : GoS O P E Lp (stepO O P E ρ H fid ⟨dst, .call ⟨.invoke f nm, as, us⟩, ty, pos, after, guard⟩) d ops l ks t Q = GoS O P E Lp (callI O P E (ρ f) nm (as.toList.map ρ) H) d ops l ks t Q := by
  rw [step_invoke]
end
end
theorem aeval_mkT (E : Env) (n : Nat) (l : List (Nat × AV)) (k : Nat) (h : k < n) : aeval E (mkT n l) (.tmp k) = (l.lookup k).getD .undef := mkT_getD n l k h
theorem aeval_const (E : Env) (t : List AV) (v : Value) : aeval E t (.const v) = (ofValC v).getD .undef := nrfl rfl
theorem aeval_global (E : Env) (t : List AV) (g : Nat) : aeval E t (.global g) = E.glob g := nrfl rfl
theorem aeval_func (E : Env) (t : List AV) (f : FuncId) : aeval E t (.func f) = .func (.func f) [] [] := nrfl rfl
theorem wantedA_none (ops : Array Oper) (t : List AV) (dst : Option Tmp) (op : Op) (ty : TypeId) (pos : String) (after : Array Edge) : wantedA ops t ⟨dst, op, ty, pos, after, none⟩ = some true := nrfl rfl
def gd (v : AV) (want : Bool) : Option Bool := match v with
  | .bool b => some (b == want)
  | .tup _ => some false
  | _ => none
theorem gd_bool (b want : Bool) : gd (.bool b) want = some (b == want) := nrfl rfl
theorem gd_nothing (want : Bool) : gd .nothing want = some false := nrfl rfl
theorem wantedA_some (ops : Array Oper) (n : Nat) (l : List (Nat × AV)) (dst : Option Tmp) (op : Op) (ty : TypeId) (pos : String) (after : Array Edge) (j : Nat) (want : Bool) {d : Nat} (hd : (ops[j]?).bind (·.dst) = some d) (h : d < n) :
    wantedA ops (mkT n l) ⟨dst, op, ty, pos, after, some (j, want)⟩ = gd ((l.lookup d).getD .undef) want := by
  unfold wantedA
  simp only [hd, mkT_get, if_pos h]
  cases (l.lookup d).getD .undef <;> rfl
theorem putT_some (n : Nat) (l : List (Nat × AV)) (d : Tmp) (v : AV) : putT (mkT n l) (some d) v = mkT n ((d, v) :: l) := mkT_set n l d v
theorem putT_none (t : List AV) (v : AV) : putT t none v = t := nrfl rfl
section
variable {O : Orc} {P : Program} {E : Env} {Lp : LoopP} {ks : List Fr} {t : List AV} {H : AH} {Q : AEx → List AV → AH → Prop}
def GoPC (O : Orc) (P : Program) (E : Env) (Lp : LoopP) (r : Option (AV × AH)) (n : Nat) (d : Option Tmp) (ops : Array Oper) (l : List (Oper × Nat)) (ks : List Fr) (t : List AV) (H : AH) (Q : AEx → List AV → AH → Prop) : Prop :=
  WS r fun r => r.2.length = n ∧ GoP O P E Lp ops l ks (putT t d r.1) H Q
theorem GoPC_some (v : AV) (H1 : AH) (n : Nat) (d : Option Tmp) (ops : Array Oper) (l : List (Oper × Nat)) : GoPC O P E Lp (some (v, H1)) n d ops l ks t H Q = (H1.length = n ∧ GoP O P E Lp ops l ks (putT t d v) H Q) := nrfl rfl
theorem GoPU_call (ρ : Operand → AV) (fid : Nat) (d dst : Option Tmp) (ty : TypeId) (pos : String) (after : Array Edge) (guard : Option (Nat × Bool)) (ops : Array Oper) (l : List (Oper × Nat)) (f : Operand) (as : Array Operand) (us : Array TypeId) (H' : AH) :
    GoPU O P E Lp (stepU O P E ρ H' fid [] ⟨dst, .call ⟨.value f, as, us⟩, ty, pos, after, guard⟩) d ops l ks t H Q = GoPC O P E Lp (callV O P (ρ f) (as.toList.map ρ) H') H'.length d ops l ks t H Q := by
  simp only [stepU, callee, callV]
  cases ρ f with
  | func fn a b =>
    cases fn with
    | func i =>
      simp only
      cases goFn P i with
      | true =>
        simp only [if_true]
        cases O i (a ++ as.toList.map ρ ++ b) H' with
        | none => rfl
        | some r =>
          obtain ⟨v, H1⟩ := r
          simp only [GoPC, WS]
          by_cases h : H1.length = H'.length
          · rw [if_pos h]
            simp [GoPU, WU, h]
          · rw [if_neg h]
            simp [GoPU, WU, h]
      | false => rfl
    | _ => rfl
  | _ => rfl
end
section
variable {O : Orc} {P : Program} {E : Env} {Lp : LoopP} {ks : List Fr} {t : List AV} {H : AH} {Q : AEx → List AV → AH → Prop}
theorem GoPU_box (ρ : Operand → AV) (fid : Nat) (d dst : Option Tmp) (ty : TypeId) (pos : String) (after : Array Edge) (guard : Option (Nat × Bool)) (ops : Array Oper) (l : List (Oper × Nat)) (S : List Nat) (u : TypeId) (x : Operand) (H' : AH) :
    GoPU O P E Lp (stepU O P E ρ H' fid S ⟨dst, .box u x, ty, pos, after, guard⟩) d ops l ks t H Q = GoPU O P E Lp (abox E fid u (ρ x)) d ops l ks t H Q := by
  simp only [stepU, aop, abox]
end
end Go.Proofs.Fw
namespace Go.Proofs.Fw
open Go.RowKit
def elemChk (P : Program) (t : TypeId) (sz : Nat) : Bool :=
  match P.underlying t with
  | some (.slice e) => (match P.info? e with
    | some i => (match i.zero with
      | some z => (z.cells.size == i.size) && (i.size == sz) && decide (0 < sz) && decide (i.bytes ≤ 1024)
      | none => false)
    | none => false)
  | _ => false
section
variable {P : Program} {H : AH} {fid : Nat} {t : TypeId} {sz m n k : Nat} {ow : Own} {xs ys : List AV}
theorem aappendL_nil (h : elemChk P t sz = true) (ha : ys.all AV.one = true) :
    aappendL P H fid t t .nilSlice (.slice ow sz 1 ys) = some (.lsl fid sz 0 [], [(fid, .loose 0 ys)]) := by
  unfold elemChk at h
  unfold aappendL
  split at h
  · rename_i e he
    rw [he]
    simp only
    split at h
    · rename_i i hi
      rw [hi]
      simp only
      split at h
      · rename_i z hz
        rw [hz]
        simp only [Bool.and_eq_true, beq_iff_eq, decide_eq_true_eq] at h
        obtain ⟨⟨⟨h1, h2⟩, h3⟩, h4⟩ := h
        simp only
        have hbytes : 1 * i.bytes ≤ 140737488355328 := by
          omega
        rw [if_pos ⟨h1, by omega, by simp [isByteStr]⟩]
        simp only [copied, h2, if_true, ha, and_self]
        rw [if_pos hbytes]
      · cases h
    · cases h
  · cases h
theorem aappendL_tok (h : elemChk P t sz = true) (hk : H.at k = some (.tok n)) (hb : n + 1 ≤ 137438953472) (ha : ys.all AV.one = true) :
    aappendL P H fid t t (.slice (.tok k) sz n xs) (.slice ow sz 1 ys) = some (.lsl k sz n xs, [(k, .loose n ys)]) := by
  unfold elemChk at h
  unfold aappendL
  split at h
  · rename_i e he
    rw [he]
    simp only
    split at h
    · rename_i i hi
      rw [hi]
      simp only
      split at h
      · rename_i z hz
        rw [hz]
        simp only [Bool.and_eq_true, beq_iff_eq, decide_eq_true_eq] at h
        obtain ⟨⟨⟨h1, h2⟩, h3⟩, h4⟩ := h
        simp only
        have hbytes : (n + 1) * i.bytes ≤ 140737488355328 := by
          calc (n + 1) * i.bytes ≤ 137438953472 * 1024 := Nat.mul_le_mul hb h4
            _ = 140737488355328 := by decide
        rw [if_pos ⟨h1, by omega, by simp [isByteStr]⟩]
        simp only [copied, h2, if_true, ha, and_self]
        rw [if_pos ⟨trivial, hbytes, by omega⟩]
        simp only [hk, if_true]
      · cases h
    · cases h
  · cases h
theorem aappend_nil (h : elemChk P t sz = true) (hm : 0 < m) (hb : m ≤ 137438953472) (ha : ys.all AV.one = true) :
    aappend P H fid t t .nilSlice (.slice ow sz m ys) = some (.slice (.tok fid) sz m ys, [(fid, .tok m)]) := by
  unfold elemChk at h
  unfold aappend
  split at h
  · rename_i e he
    rw [he]
    simp only
    split at h
    · rename_i i hi
      rw [hi]
      simp only
      split at h
      · rename_i z hz
        rw [hz]
        simp only [Bool.and_eq_true, beq_iff_eq, decide_eq_true_eq] at h
        obtain ⟨⟨⟨h1, h2⟩, h3⟩, h4⟩ := h
        simp only
        have hbytes : m * i.bytes ≤ 140737488355328 := by
          calc m * i.bytes ≤ 137438953472 * 1024 := Nat.mul_le_mul hb h4
            _ = 140737488355328 := by decide
        rw [if_pos ⟨h1, by omega, by simp [isByteStr]⟩]
        simp only [copied, h2, if_true, ha]
        rw [if_neg (by omega), if_pos ⟨hbytes, by omega⟩]
      · cases h
    · cases h
  · cases h
theorem aappend_tok (h : elemChk P t sz = true) (hk : H.at k = some (.tok n)) (hm : 0 < m) (hb : n + m ≤ 137438953472) (ha : ys.all AV.one = true) :
    aappend P H fid t t (.slice (.tok k) sz n xs) (.slice ow sz m ys) = some (.slice (.tok k) sz (n + m) (xs ++ ys), [(k, .tok (n + m))]) := by
  unfold elemChk at h
  unfold aappend
  split at h
  · rename_i e he
    rw [he]
    simp only
    split at h
    · rename_i i hi
      rw [hi]
      simp only
      split at h
      · rename_i z hz
        rw [hz]
        simp only [Bool.and_eq_true, beq_iff_eq, decide_eq_true_eq] at h
        obtain ⟨⟨⟨h1, h2⟩, h3⟩, h4⟩ := h
        simp only
        have hbytes : (n + m) * i.bytes ≤ 140737488355328 := by
          calc (n + m) * i.bytes ≤ 137438953472 * 1024 := Nat.mul_le_mul hb h4
            _ = 140737488355328 := by decide
        rw [if_pos ⟨h1, by omega, by simp [isByteStr]⟩]
        simp only [copied, h2, if_true, ha]
        rw [if_neg (by omega), if_pos ⟨hbytes, by omega⟩]
        simp only [hk, if_true]
      · cases h
    · cases h
  · cases h
theorem aappend_full (h : elemChk P t sz = true) (hm : 0 < m) (hb : n + m ≤ 137438953472) (ha : ys.all AV.one = true) :
    aappend P H fid t t (.slice .full sz n xs) (.slice ow sz m ys) = some (.slice (.tok fid) sz (n + m) (xs ++ ys), [(fid, .tok (n + m))]) := by
  unfold elemChk at h
  unfold aappend
  split at h
  · rename_i e he
    rw [he]
    simp only
    split at h
    · rename_i i hi
      rw [hi]
      simp only
      split at h
      · rename_i z hz
        rw [hz]
        simp only [Bool.and_eq_true, beq_iff_eq, decide_eq_true_eq] at h
        obtain ⟨⟨⟨h1, h2⟩, h3⟩, h4⟩ := h
        simp only
        have hbytes : (n + m) * i.bytes ≤ 140737488355328 := by
          calc (n + m) * i.bytes ≤ 137438953472 * 1024 := Nat.mul_le_mul hb h4
            _ = 140737488355328 := by decide
        rw [if_pos ⟨h1, by omega, by simp [isByteStr]⟩]
        simp only [copied, h2, if_true, ha]
        rw [if_neg (by omega), if_pos ⟨hbytes, by omega⟩]
      · cases h
    · cases h
  · cases h
end
end Go.Proofs.Fw
namespace Go.Proofs.Fw
open Go.RowKit
attribute [simp] Go_seq Go_block Go_region Go_draw Go_cond Go_skip_seq Go_skip_blk Go_skip Go_ret_seq Go_ret_blk Go_ret Go_exit_seq
attribute [simp] Go_exit_blk Go_exit GoX_T GoX_F GoB_bool GoD_T GoD_F GoO_nil GoO_cons GoG_some GoGD_T GoGD_F
attribute [simp] GoS_some GoV_some GoV_map GoU_some GoP_nil GoP_cons GoPG_some GoPGD_T GoPGD_F GoPU_some GoPV_some GoS_move
attribute [simp] GoS_assign GoS_build GoS_buildSlice GoS_load GoS_nilCheck GoS_binOp GoS_unOp GoS_convert GoS_makeFunc GoS_slice GoS_fieldAddr GoS_field
attribute [simp] GoS_indexAddr GoS_index GoS_typeAssert GoS_extract GoS_len GoS_cap GoS_max GoS_min GoS_pick GoS_makeInterface GoS_alloc GoS_box
attribute [simp] GoS_store GoS_makeSlice GoS_append GoS_copy GoS_call GoS_invoke GoPU_move GoPU_assign GoPU_build GoPU_buildSlice GoPU_load GoPU_nilCheck
attribute [simp] GoPU_binOp GoPU_unOp GoPU_convert GoPU_makeFunc GoPU_slice GoPU_fieldAddr GoPU_field GoPU_indexAddr GoPU_index GoPU_typeAssert GoPU_extract GoPU_len
attribute [simp] GoPU_cap GoPU_max GoPU_min GoPU_pick GoPU_makeInterface apick_bool aface aalloc abox callV aeval_mkT aeval_const
attribute [simp] aeval_global aeval_func wantedA_none wantedA_some gd_bool gd_nothing putT_some putT_none argL withIds needsId grow
attribute [simp] ofValC ofVal ofVals applyUps evResults oneOrTup alen.eq_def abin.eq_def abinInt abinStr aun aindex.eq_def
attribute [simp] aslice.eq_def optInt aextract anilCheck aconvert.eq_def aindexAddr.eq_def aload.eq_def ldAt isConstO aeq.eq_def cellsAV astore.eq_def
attribute [simp] putAt AV.known AV.one AH.at fstC sndC inC bodyOf Fin_ret Fin_normal WS_some Goes_normal
attribute [simp] Goes_exit Goes_ret aapp_hard
attribute [simp] idCount headC tailC mkT_get List.lookup
attribute [simp] frz frzL_low frz_low strip stripL strip_low stripL_low low lowL lowE lowH
attribute [simp] visIds opIds quietO.eq_def seenO.eq_def depO.eq_def clos_zero idsOf idsOfL clos_nil Op.operands Call.operands lowL_append
attribute [simp] Go_loop GoPC_some GoPU_call GoPU_box
end Go.Proofs.Fw
namespace Go.Proofs.Fw
open Go.RowKit
section
variable {P : Program} {E : Env} {O : Orc} {B : Bs} {Q : AEx → List AV → AH → Prop} {t : List AV} {H : AH}
theorem Tr.pre (X : Cx O P E) (hG : GlobOk E B.g) (k : Nat) {c R : Code} (hR : tailC k c = R) (hs : isSeqs k c = true) (hd : okDraws E (headC k c) = true) (h : Wx O P E (headC k c) t H (Goes (fun t1 H1 => Tr P B R t1 H1 Q) Q)) : Tr P B c t H Q := by
  subst hR
  exact Tr.runs X hG k hs hd h
theorem Tr.seqD {c a b : Code} (hc : c = .seq a b) (h : Tr P B a t H (Goes (fun t1 H1 => Tr P B b t1 H1 Q) Q)) : Tr P B c t H Q := by
  subst hc; exact Tr.seq h
theorem Tr.blockD {c a : Code} {id : Nat} (hc : c = .block id a) (h : Tr P B a t H (Blk id Q)) : Tr P B c t H Q := by
  subst hc; exact Tr.block h
theorem Tr.forD {c a : Code} {id : Nat} (hc : c = .block id (.loop a)) (I : Nat → List AV → AH → Prop) (k : Nat) (hI : I k t H)
    (h : ∀ k t H, I k t H → Tr P B a t H (Goes (fun t1 H1 => ∃ j t2 H2, j < k ∧ Less B t1 H1 t2 H2 ∧ I j t2 H2) (Blk id Q))) : Tr P B c t H Q := by
  subst hc; exact Tr.block (Tr.loop I k hI h)
end
end Go.Proofs.Fw
namespace Go.Proofs.Fw
open Go.RowKit
def oNil : Orc := fun _ _ _ => none
theorem oNil_sound {P : Program} {E : Env} : Sound P E oNil := fun _ _ _ _ _ h => by cases h
theorem CS.run0 {O : Orc} {P : Program} {E : Env} (X : Cx O P E) (hE : ∀ i, low 0 (E.glob i) = true) {f : FuncId} {fn : Func} {args : List AV} {v : AV} (hf : P.funcs[f]? = some fn) (hb : fn.body = some (bodyOf fn)) (hd : okDraws E (bodyOf fn) = true) (k : Nat)
    (hn : args.length ≤ fn.ntmps) (h : Go O P E noLoop (bodyOf fn) [] (mkT fn.ntmps (argL 0 args)) [] (Fin P fn 0 k v [])) (hv : low 0 v = true) (ha : lowL 0 args = true) (H : AH) : CS P E f args H v H :=
  (CS.of_Tr (H0 := []) (H1 := []) hf hb k hn (fun B hB hG => Tr.run X hG hd h) hv rfl).frame hE ha H
theorem CS.tr0 {P : Program} {E : Env} (hE : ∀ i, low 0 (E.glob i) = true) {f : FuncId} {fn : Func} {args : List AV} {v : AV} (hf : P.funcs[f]? = some fn) (hb : fn.body = some (bodyOf fn)) (k : Nat)
    (hn : args.length ≤ fn.ntmps) (h : ∀ B : Bs, B.H = [] → GlobOk E B.g → Tr P B (bodyOf fn) (mkT fn.ntmps (argL 0 args)) [] (Fin P fn 0 k v [])) (hv : low 0 v = true) (ha : lowL 0 args = true) (H : AH) : CS P E f args H v H :=
  (CS.of_Tr (H0 := []) (H1 := []) hf hb k hn h hv rfl).frame hE ha H
theorem Less.mk0 {B : Bs} {n : Nat} {l l' : List (Nat × AV)} {H : AH} (hB : B.H = []) (h : ∀ p ∈ l', (l.lookup p.1).getD .undef = p.2 ∧ low 0 p.2 = true) : Less B (Fw.mkT n l) H (Fw.mkT n l') [] :=
  Less.mkT 0 (by simp [hB]) (fun p hp => .same (h p hp).1 (h p hp).2) rfl rfl
theorem Tr.go {O : Orc} {P : Program} {E : Env} {B : Bs} (X : Cx O P E) (hG : GlobOk E B.g) {c : Code} {t : List AV} {H : AH} {Q : AEx → List AV → AH → Prop} (hd : okDraws E c = true) (h : Go O P E (LpT P B) c [] t H Q) : Tr P B c t H Q := Wt.tr X hG hd h
end Go.Proofs.Fw
namespace Go.Proofs.Fw
open Go.RowKit
section
variable {O : Orc} {P : Program} {E : Env} {Lp : LoopP} {B : Bs} {ks : List Fr} {t : List AV} {H : AH} {Q : AEx → List AV → AH → Prop}
theorem unwind_normal : unwind O P E Lp ks Q .normal t H = Go O P E Lp .skip ks t H Q := nrfl rfl
theorem unwind_exit (id : Nat) : unwind O P E Lp ks Q (.exit id) t H = Go O P E Lp (.exit id) ks t H Q := nrfl rfl
theorem unwind_ret : unwind O P E Lp ks Q .ret t H = Go O P E Lp .ret ks t H Q := nrfl rfl
attribute [simp] unwind_normal unwind_exit unwind_ret
theorem LpT.loop {L : Code} (X : Cx O P E) (hG : GlobOk E B.g) (hd : okDraws E L = true) (I : Nat → List AV → AH → Prop) (k : Nat) {t' : List AV} {H' : AH} (hl : Less B t H t' H') (hI : I k t' H')
    (h : ∀ k t H, I k t H → Go O P E (LpT P B) L [] t H (Goes (fun t1 H1 => ∃ j t2 H2, j < k ∧ Less B t1 H1 t2 H2 ∧ I j t2 H2) Q)) : LpT P B L t H Q :=
  Tr.less hl (Tr.loop I k hI fun k t H hI => Tr.go X hG hd (h k t H hI))
end
end Go.Proofs.Fw
namespace Go.Proofs.Fw
open Go.RowKit
def Nxt (B : Bs) (I : Nat → List AV → AH → Prop) (k : Nat) (t : List AV) (H : AH) : Prop := ∃ j t2 H2, j < k ∧ Less B t H t2 H2 ∧ I j t2 H2
theorem Nxt.mk {B : Bs} {I : Nat → List AV → AH → Prop} {k : Nat} {t : List AV} {H : AH} (j : Nat) (hj : j < k) {t2 : List AV} {H2 : AH} (hl : Less B t H t2 H2) (hI : I j t2 H2) : Nxt B I k t H := ⟨j, t2, H2, hj, hl, hI⟩
section
variable {O : Orc} {P : Program} {E : Env} {B : Bs} {t : List AV} {H : AH} {Q : AEx → List AV → AH → Prop}
theorem LpT.loopN {L : Code} (X : Cx O P E) (hG : GlobOk E B.g) (hd : okDraws E L = true) (I : Nat → List AV → AH → Prop) (k : Nat) {t' : List AV} {H' : AH} (hl : Less B t H t' H') (hI : I k t' H')
    (h : ∀ k t H, I k t H → Go O P E (LpT P B) L [] t H (Goes (Nxt B I k) Q)) : LpT P B L t H Q :=
  LpT.loop X hG hd I k hl hI h
end
end Go.Proofs.Fw
