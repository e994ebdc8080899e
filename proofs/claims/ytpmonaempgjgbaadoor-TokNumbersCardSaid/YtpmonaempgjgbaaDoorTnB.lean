/- errors.Is and errors.As at faults and error numbers, as contracts of the evaluator. -/
import Derived.Test.YtpmonaempgjgbaaDoorTjA
import Derived.Test.YtpmonaempgjgbaaDoorTw
import Derived.Stop.Asserts
import Derived.Test.YtpmonaempgjgbaaDoorFwG4
set_option linter.unusedSimpArgs false
set_option linter.unusedVariables false
namespace Go.Proofs.YtpmonaempgjgbaaDoor
open Go.RowKit Go.Proofs.Fw Go.Stop Go.Extern
set_option maxRecDepth 100000
set_option maxHeartbeats 4000000
-- 

def globN : List (Nat × AV) := (0, .vptr [.iface 95 (.agg [.adr 10 37])] 0) :: globT
def methN (t : TypeId) (n : String) : Option FuncId := if t = 57 ∧ n = "Unwrap" then some 99 else none
/-- The environment of laws that look into errors. -/
def envN : Env := ⟨globOf globN, methN, fun t => t == 59 || t == 138 || t == 29⟩
@[simp] theorem immW : envN.imm 29 = true := by decide
theorem methNOk : MethOk Tryd.prog envN := by
  intro t name f h v w
  simp only [envN, methN] at h
  split at h
  · rename_i hh
    obtain ⟨rfl, rfl⟩ := hh
    injection h with h
    subst h
    kernel_rfl
  · cases h
@[simp] theorem methU : envN.meth 57 "Unwrap" = some 99 := rfl
theorem lowN : ∀ i, low 0 (envN.glob i) = true := low_globOf (by
  intro x hx
  simp only [globN, globT, List.mem_cons, List.not_mem_nil, or_false] at hx
  rcases hx with rfl | rfl | rfl
  · rfl
  · show lowL 0 spaceCells = true
    kernel_rfl
  · rfl)
theorem globN_T {g : Gh} (h : GlobOk envN g) : GlobOk envT g := by
  intro i
  by_cases hi : i = 0
  · subst hi
    have : envT.glob 0 = .undef := by rfl
    rw [this]
    trivial
  · have : envT.glob i = envN.glob i := by
      simp only [envT, envN, globOf, globN, List.find?_cons]
      rw [show ((0 : Nat) == i) = false by simp; omega]
    rw [this]
    exact h i
theorem CS.toN {f : FuncId} {args : List AV} {H H' : AH} {v : AV} (h : CS Tryd.prog envT f args H v H') : CS Tryd.prog envN f args H v H' := fun g w cargs R hG hA => h g w cargs R (globN_T hG) hA
theorem Sound.toN {O : Orc} (h : Sound Tryd.prog envT O) : Sound Tryd.prog envN O := fun f args H v H' ho => by
  obtain ⟨h1, h2, h3⟩ := h f args H v H' ho
  exact ⟨CS.toN h1, h2, h3⟩

/-- Faults in one another, with an error's number inmost. -/
def errAV : List (List UInt8 × Int) → Int → AV
  | [], c => .iface 54 (.int .i64 c)
  | (w, p) :: r, c => .iface 57 (.vptr [.str w, .int .i64 p, errAV r c] 0)
theorem errAV_low : ∀ (l : List (List UInt8 × Int)) (c : Int), low 0 (errAV l c) = true
  | [], c => rfl
  | (w, p) :: r, c => by simp [errAV, errAV_low r c]

section
variable {P : Program}
theorem atype_lacks {t I : TypeId} {z : AV} {want : Array (String × TypeId)} (hu : P.underlying I = some (.interface want)) (h : (P.info? t).map (fun i => (lacking want i.methods).isEmpty) = some false) (hz : zeroAV P I = some z) (v : AV) :
    atypeAssert P (.iface t v) I true = some (.tup [z, .bool false]) := by
  obtain ⟨i, hi, hl⟩ := Option.map_eq_some_iff.1 h
  obtain ⟨m, hm⟩ := missingMethod_some (want := want) (got := i.methods) (fun e => by rw [e] at hl; cases hl)
  simp [atypeAssert, hu, hi, hm, hz]
theorem atype_has {t I : TypeId} {want : Array (String × TypeId)} (hu : P.underlying I = some (.interface want)) (h : (P.info? t).map (fun i => (lacking want i.methods).isEmpty) = some true) (v : AV) :
    atypeAssert P (.iface t v) I true = some (.tup [.iface t v, .bool true]) := by
  obtain ⟨i, hi, hl⟩ := Option.map_eq_some_iff.1 h
  have hm := missingMethod_none (want := want) (got := i.methods) (List.isEmpty_iff.1 hl)
  simp [atypeAssert, hu, hi, hm]
end
@[simp high] theorem fIs (v : AV) : atypeAssert Tryd.prog (.iface 57 v) 97 true = some (.tup [.nilIface, .bool false]) := atype_lacks Tryd.underlying97 (by kernel_rfl) (by kernel_rfl) v
@[simp high] theorem fUn (v : AV) : atypeAssert Tryd.prog (.iface 57 v) 100 true = some (.tup [.iface 57 v, .bool true]) := atype_has Tryd.underlying100 (by kernel_rfl) v
@[simp high] theorem eIs (v : AV) : atypeAssert Tryd.prog (.iface 54 v) 97 true = some (.tup [.nilIface, .bool false]) := atype_lacks Tryd.underlying97 (by kernel_rfl) (by kernel_rfl) v
@[simp high] theorem eUn (v : AV) : atypeAssert Tryd.prog (.iface 54 v) 100 true = some (.tup [.nilIface, .bool false]) := atype_lacks Tryd.underlying100 (by kernel_rfl) (by kernel_rfl) v
@[simp high] theorem eUs (v : AV) : atypeAssert Tryd.prog (.iface 54 v) 102 true = some (.tup [.nilIface, .bool false]) := atype_lacks Tryd.underlying102 (by kernel_rfl) (by kernel_rfl) v
@[simp high] theorem eqEE (a b : Int) : aeq Tryd.prog 37 (.iface 54 (.int .i64 a)) (.iface 54 (.int .i64 b)) = some (a == b) := by
  obtain ⟨i, hi, hc⟩ := Option.map_eq_some_iff.1 (show (Tryd.prog.info? 54).map (·.comparable) = some true by kernel_rfl)
  simp [aeq, hi, hc]
@[simp high] theorem eqFE (v : AV) (b : Int) : aeq Tryd.prog 37 (.iface 57 v) (.iface 54 (.int .i64 b)) = some false := by
  simp [aeq]

/-- (*Fault).Unwrap. -/
def oUw : Orc := fun f args H => if f = 99 then (match args with
  | [.vptr [a, b, e] 0] => if low 0 a = true ∧ low 0 b = true ∧ low 0 e = true then some (e, H) else none
  | _ => none) else none
theorem uwAny_cs (a b e : AV) (ha : low 0 a = true) (hb : low 0 b = true) (he : low 0 e = true) (H : AH) : CS Tryd.prog envN 99 [.vptr [a, b, e] 0] H e H := by
  refine CS.run0 (O := oNil) ⟨oNil_sound, methNOk, mixed⟩ lowN Tryd.func99 (by kernel_rfl) (by kernel_rfl) 0 (by simp [Tryd.f99]) ?_ he (by simp [ha, hb, he]) H
  simp [Tryd.f99, strip_low _ _ he]
theorem oUw_sound : Sound Tryd.prog envN oUw := Sound.pure fun f args H v H' h => by
  unfold oUw at h
  split at h
  · rename_i hf
    subst hf
    split at h
    · split at h
      · rename_i hl
        injection h with h
        simp only [Prod.mk.injEq] at h
        obtain ⟨rfl, rfl⟩ := h
        exact ⟨rfl, uwAny_cs _ _ _ hl.1 hl.2.1 hl.2.2 _⟩
      · cases h
    · cases h
  · cases h
@[simp high] theorem oUw_at (w : List UInt8) (p : Int) (l : List (List UInt8 × Int)) (c : Int) (H : AH) : oUw 99 [.vptr [.str w, .int .i64 p, errAV l c] 0] H = some (errAV l c, H) := by
  simp [oUw, errAV_low]
theorem oUw_cx : Cx oUw Tryd.prog envN := ⟨oUw_sound, methNOk, mixed⟩
@[simp high] theorem errNil (l : List (List UInt8 × Int)) (c : Int) : aeq Tryd.prog 37 (errAV l c) .nilIface = some false := by
  cases l <;> simp [errAV, aeq]

@[simp high] theorem errEql (l : List (List UInt8 × Int)) (c : Int) (k : Bool) : abin Tryd.prog .eql 37 k (errAV l c) .nilIface = some (.bool false) := by
  cases l <;> simp [errAV]
@[simp high] theorem errNeq (l : List (List UInt8 × Int)) (c : Int) (k : Bool) : abin Tryd.prog .neq 37 k (errAV l c) .nilIface = some (.bool true) := by
  cases l <;> simp [errAV]

def TiI (c n : Int) (k : Nat) (t : List AV) (H : AH) : Prop :=
  ∃ r : List (List UInt8 × Int), r.length = k ∧ t = mkT 54 [(0, errAV r c), (1, .iface 54 (.int .i64 n)), (2, .bool true)] ∧ H = []

theorem is_cs (l : List (List UInt8 × Int)) (c n : Int) (H : AH) : CS Tryd.prog envN 38 [errAV l c, .iface 54 (.int .i64 n), .bool true] H (.bool (c == n)) H := by
  refine CS.tr0 lowN Tryd.func38 (by kernel_rfl) 0 (by simp [Tryd.f38]) (fun B hB hG => ?_) rfl (by simp [errAV_low]) H
  refine Tr.go oUw_cx hG (by kernel_rfl) ?_
  simp [Tryd.f38]
  refine LpT.loopN oUw_cx hG (by kernel_rfl) (TiI c n) l.length (t' := mkT 54 [(0, errAV l c), (1, .iface 54 (.int .i64 n)), (2, .bool true)]) (H' := []) (Less.mk0 hB (by simp [errAV_low])) ⟨l, rfl, rfl, rfl⟩ ?_
  rintro k t H ⟨r, hk, rfl, rfl⟩
  cases r with
  | nil =>
    by_cases h : c = n
    · subst h
      simp [errAV, Blk_exit, Blk_ret]
    · have h2 : (c == n) = false := by simp [h]
      simp [errAV, h, h2, Blk_exit, Blk_ret]
  | cons x r =>
    obtain ⟨w, p⟩ := x
    subst hk
    simp [errAV, callI]
    exact Nxt.mk r.length (by simp) (Less.mk0 (l' := [(0, errAV r c), (1, .iface 54 (.int .i64 n)), (2, .bool true)]) hB (by simp [errAV_low])) ⟨r, rfl, rfl, rfl⟩

end Go.Proofs.YtpmonaempgjgbaaDoor
