/- errors.Is and errors.As at faults and error numbers, as contracts of the evaluator. errors.Is and errors.As as contracts: at faults in one another with an error's number inmost. errors.As as contracts: what it finds stands in the target's box. -/
import Derived.Test.YtejjlojfgcgopaaGreatDoorTjB
import Derived.Test.YtejjlojfgcgopaaGreatDoorTw
import Derived.Stop.Asserts
import Derived.Test.YtejjlojfgcgopaaGreatDoorFwG4
import Derived.Test.YtejjlojfgcgopaaGreatDoorTnA
set_option linter.unusedSimpArgs false
set_option linter.unusedVariables false
namespace Go.Proofs.YtejjlojfgcgopaaGreatDoor
open Go.RowKit Go.Proofs.Fw Go.Stop Go.Extern
set_option maxRecDepth 100000
set_option maxHeartbeats 4000000
-- 

def globN : List (Nat × AV) := (0, .vptr [.iface 266 (.agg [.adr 12 33])] 0) :: globT
def methN (t : TypeId) (n : String) : Option FuncId := if t = 152 ∧ n = "Unwrap" then some 256 else none
/-- The environment of laws that look into errors. -/
def envN : Env := ⟨globOf globN, methN, fun t => t == 156 || t == 341 || t == 57⟩
@[simp] theorem immW : envN.imm 57 = true := by decide
theorem methNOk : MethOk Tryz.prog envN := by
  intro t name f h v w
  simp only [envN, methN] at h
  split at h
  · rename_i hh
    obtain ⟨rfl, rfl⟩ := hh
    injection h with h
    subst h
    kernel_rfl
  · cases h
@[simp] theorem methU : envN.meth 152 "Unwrap" = some 256 := rfl
theorem lowN : ∀ i, low 0 (envN.glob i) = true := low_globOf (by
  intro x hx
  simp only [globN, globT, List.mem_cons, List.not_mem_nil, or_false] at hx
  rcases hx with rfl | rfl | rfl
  · rfl
  · show lowL 0 spaceCells = true
    kernel_rfl
  · rfl)
theorem globN_T {g : Gh} (h : GlobOk envN g) : GlobOk envT g := by
  intro i
  by_cases hi : i = 0
  · subst hi
    have : envT.glob 0 = .undef := by rfl
    rw [this]
    trivial
  · have : envT.glob i = envN.glob i := by
      simp only [envT, envN, globOf, globN, List.find?_cons]
      rw [show ((0 : Nat) == i) = false by simp; omega]
    rw [this]
    exact h i
theorem CS.toN {f : FuncId} {args : List AV} {H H' : AH} {v : AV} (h : CS Tryz.prog envT f args H v H') : CS Tryz.prog envN f args H v H' := fun g w cargs R hG hA => h g w cargs R (globN_T hG) hA
theorem Sound.toN {O : Orc} (h : Sound Tryz.prog envT O) : Sound Tryz.prog envN O := fun f args H v H' ho => by
  obtain ⟨h1, h2, h3⟩ := h f args H v H' ho
  exact ⟨CS.toN h1, h2, h3⟩

/-- Faults in one another, with an error's number inmost. -/
def errAV : List (List UInt8 × Int) → Int → AV
  | [], c => .iface 134 (.int .i64 c)
  | (w, p) :: r, c => .iface 152 (.vptr [.str w, .int .i64 p, errAV r c] 0)
theorem errAV_low : ∀ (l : List (List UInt8 × Int)) (c : Int), low 0 (errAV l c) = true
  | [], c => rfl
  | (w, p) :: r, c => by simp [errAV, errAV_low r c]

section
variable {P : Program}
theorem atype_lacks {t I : TypeId} {z : AV} {want : Array (String × TypeId)} (hu : P.underlying I = some (.interface want)) (h : (P.info? t).map (fun i => (lacking want i.methods).isEmpty) = some false) (hz : zeroAV P I = some z) (v : AV) :
    atypeAssert P (.iface t v) I true = some (.tup [z, .bool false]) := by
  obtain ⟨i, hi, hl⟩ := Option.map_eq_some_iff.1 h
  obtain ⟨m, hm⟩ := missingMethod_some (want := want) (got := i.methods) (fun e => by rw [e] at hl; cases hl)
  simp [atypeAssert, hu, hi, hm, hz]
theorem atype_has {t I : TypeId} {want : Array (String × TypeId)} (hu : P.underlying I = some (.interface want)) (h : (P.info? t).map (fun i => (lacking want i.methods).isEmpty) = some true) (v : AV) :
    atypeAssert P (.iface t v) I true = some (.tup [.iface t v, .bool true]) := by
  obtain ⟨i, hi, hl⟩ := Option.map_eq_some_iff.1 h
  have hm := missingMethod_none (want := want) (got := i.methods) (List.isEmpty_iff.1 hl)
  simp [atypeAssert, hu, hi, hm]
end
@[simp high] theorem fIs (v : AV) : atypeAssert Tryz.prog (.iface 152 v) 268 true = some (.tup [.nilIface, .bool false]) := atype_lacks Tryz.underlying268 (by kernel_rfl) (by kernel_rfl) v
@[simp high] theorem fUn (v : AV) : atypeAssert Tryz.prog (.iface 152 v) 271 true = some (.tup [.iface 152 v, .bool true]) := atype_has Tryz.underlying271 (by kernel_rfl) v
@[simp high] theorem eIs (v : AV) : atypeAssert Tryz.prog (.iface 134 v) 268 true = some (.tup [.nilIface, .bool false]) := atype_lacks Tryz.underlying268 (by kernel_rfl) (by kernel_rfl) v
@[simp high] theorem eUn (v : AV) : atypeAssert Tryz.prog (.iface 134 v) 271 true = some (.tup [.nilIface, .bool false]) := atype_lacks Tryz.underlying271 (by kernel_rfl) (by kernel_rfl) v
@[simp high] theorem eUs (v : AV) : atypeAssert Tryz.prog (.iface 134 v) 273 true = some (.tup [.nilIface, .bool false]) := atype_lacks Tryz.underlying273 (by kernel_rfl) (by kernel_rfl) v
@[simp high] theorem eqEE (a b : Int) : aeq Tryz.prog 33 (.iface 134 (.int .i64 a)) (.iface 134 (.int .i64 b)) = some (a == b) := by
  obtain ⟨i, hi, hc⟩ := Option.map_eq_some_iff.1 (show (Tryz.prog.info? 134).map (·.comparable) = some true by kernel_rfl)
  simp [aeq, hi, hc]
@[simp high] theorem eqFE (v : AV) (b : Int) : aeq Tryz.prog 33 (.iface 152 v) (.iface 134 (.int .i64 b)) = some false := by
  simp [aeq]

/-- (*Fault).Unwrap. -/
def oUw : Orc := fun f args H => if f = 256 then (match args with
  | [.vptr [a, b, e] 0] => if low 0 a = true ∧ low 0 b = true ∧ low 0 e = true then some (e, H) else none
  | _ => none) else none
theorem uwAny_cs (a b e : AV) (ha : low 0 a = true) (hb : low 0 b = true) (he : low 0 e = true) (H : AH) : CS Tryz.prog envN 256 [.vptr [a, b, e] 0] H e H := by
  refine CS.run0 (O := oNil) ⟨oNil_sound, methNOk, mixed⟩ lowN Tryz.func256 (by kernel_rfl) (by kernel_rfl) 0 (by simp [Tryz.f256]) ?_ he (by simp [ha, hb, he]) H
  simp [Tryz.f256, strip_low _ _ he]
theorem oUw_sound : Sound Tryz.prog envN oUw := Sound.pure fun f args H v H' h => by
  unfold oUw at h
  split at h
  · rename_i hf
    subst hf
    split at h
    · split at h
      · rename_i hl
        injection h with h
        simp only [Prod.mk.injEq] at h
        obtain ⟨rfl, rfl⟩ := h
        exact ⟨rfl, uwAny_cs _ _ _ hl.1 hl.2.1 hl.2.2 _⟩
      · cases h
    · cases h
  · cases h
@[simp high] theorem oUw_at (w : List UInt8) (p : Int) (l : List (List UInt8 × Int)) (c : Int) (H : AH) : oUw 256 [.vptr [.str w, .int .i64 p, errAV l c] 0] H = some (errAV l c, H) := by
  simp [oUw, errAV_low]
theorem oUw_cx : Cx oUw Tryz.prog envN := ⟨oUw_sound, methNOk, mixed⟩
@[simp high] theorem errNil (l : List (List UInt8 × Int)) (c : Int) : aeq Tryz.prog 33 (errAV l c) .nilIface = some false := by
  cases l <;> simp [errAV, aeq]

@[simp high] theorem errEql (l : List (List UInt8 × Int)) (c : Int) (k : Bool) : abin Tryz.prog .eql 33 k (errAV l c) .nilIface = some (.bool false) := by
  cases l <;> simp [errAV]
@[simp high] theorem errNeq (l : List (List UInt8 × Int)) (c : Int) (k : Bool) : abin Tryz.prog .neq 33 k (errAV l c) .nilIface = some (.bool true) := by
  cases l <;> simp [errAV]

def TiI (c n : Int) (k : Nat) (t : List AV) (H : AH) : Prop :=
  ∃ r : List (List UInt8 × Int), r.length = k ∧ t = mkT 54 [(0, errAV r c), (1, .iface 134 (.int .i64 n)), (2, .bool true)] ∧ H = []

theorem is_cs (l : List (List UInt8 × Int)) (c n : Int) (H : AH) : CS Tryz.prog envN 102 [errAV l c, .iface 134 (.int .i64 n), .bool true] H (.bool (c == n)) H := by
  refine CS.tr0 lowN Tryz.func102 (by kernel_rfl) 0 (by simp [Tryz.f102]) (fun B hB hG => ?_) rfl (by simp [errAV_low]) H
  refine Tr.go oUw_cx hG (by kernel_rfl) ?_
  simp [Tryz.f102]
  refine LpT.loopN oUw_cx hG (by kernel_rfl) (TiI c n) l.length (t' := mkT 54 [(0, errAV l c), (1, .iface 134 (.int .i64 n)), (2, .bool true)]) (H' := []) (Less.mk0 hB (by simp [errAV_low])) ⟨l, rfl, rfl, rfl⟩ ?_
  rintro k t H ⟨r, hk, rfl, rfl⟩
  cases r with
  | nil =>
    by_cases h : c = n
    · subst h
      simp [errAV, Blk_exit, Blk_ret]
    · have h2 : (c == n) = false := by simp [h]
      simp [errAV, h, h2, Blk_exit, Blk_ret]
  | cons x r =>
    obtain ⟨w, p⟩ := x
    subst hk
    simp [errAV, callI]
    exact Nxt.mk r.length (by simp) (Less.mk0 (l' := [(0, errAV r c), (1, .iface 134 (.int .i64 n)), (2, .bool true)]) hB (by simp [errAV_low])) ⟨r, rfl, rfl, rfl⟩

end Go.Proofs.YtejjlojfgcgopaaGreatDoor

namespace Go.Proofs.YtejjlojfgcgopaaGreatDoor
open Go.RowKit Go.Proofs.Fw Go.Stop Go.Extern
set_option maxRecDepth 100000
set_option maxHeartbeats 4000000

theorem comparableE (w : World) : (Go.Extern.ReflectliteType.method (fun t => do Go.Extern.Rtype.noPackHeld "Comparable" t; (fun a : TypeInfo => Value.bool a.comparable) <$> typeInfo t) #[.agg #[.pointer (some ⟨12, 134, none⟩)]]).run Tryz.prog w = .ok (.bool true) w := by kernel_rfl

theorem Is_cs (l : List (List UInt8 × Int)) (c n : Int) (H : AH) : CS Tryz.prog envN 70 [errAV l c, .iface 134 (.int .i64 n)] H (.bool (c == n)) H := by
  refine CS.frame ?_ lowN (by simp [errAV_low]) H
  intro g w cargs R hG hA
  have hA' := hA
  simp only [RepL] at hA
  obtain ⟨v0, ws0, rfl, h0, v1, ws1, rfl, h1, rfl⟩ := hA
  simp only [RepV] at h1
  obtain ⟨y1, rfl, rfl⟩ := h1
  have h38 := is_cs l c n [] g w [v0, .iface 134 (.int .i64 n), .bool true] R hG (by
    simp only [RepL]
    exact ⟨_, _, rfl, h0, _, _, rfl, by simp [RepV], _, _, rfl, by simp [RepV], rfl⟩)
  have tO := As.typeOfEN
  have mC := As.methodComparable
  have cE := comparableE
  have x1 := @run_callFunc_extern Tryz.prog 263 _ (Go.Extern.ReflectliteType.method (fun t => do Go.Extern.Rtype.noPackHeld "Comparable" t; pure (.bool (← typeInfo t).comparable))) Tryz.func263 (by kernel_rfl) (by kernel_rfl) (by kernel_rfl) (by kernel_rfl)
  have x2 := @run_callFunc_extern Tryz.prog 101 _ Go.Extern.ReflectliteType.typeOf Tryz.func101 (by kernel_rfl) (by kernel_rfl) (by kernel_rfl) (by kernel_rfl)
  cases l with
  | nil =>
    simp only [errAV, RepV] at h0
    obtain ⟨y0, rfl, rfl⟩ := h0
    go_enter Tryz.func70, Tryz.ntmps70
    go_wp2_with (go_at_call 102; refine h38.mono ?_; rintro e w' ⟨g', cv, rfl, R', p, hr⟩)
    go_ret
    exact ⟨g', _, rfl, R', p, hr⟩
  | cons x r =>
    obtain ⟨wd, p⟩ := x
    simp only [errAV, RepV] at h0
    obtain ⟨y0, rfl, hy⟩ := h0
    go_enter Tryz.func70, Tryz.ntmps70
    go_wp2_with (go_at_call 102; refine h38.mono ?_; rintro e w' ⟨g', cv, rfl, R', p, hr⟩)
    go_ret
    exact ⟨g', _, rfl, R', p, hr⟩
end Go.Proofs.YtejjlojfgcgopaaGreatDoor

namespace Go.Proofs.YtejjlojfgcgopaaGreatDoor
open Go.RowKit Go.Proofs.Fw
set_option maxRecDepth 100000
set_option maxHeartbeats 4000000

theorem write_after {g : Gh} {H : AH} {w W4 : World} (R : Rel g H w) {id b : Nat} {x a : AV} {el : TypeId} {ov v : Value} (hH : H.at id = some (.box [x])) (hM : g.M id = some (.box b)) (h1 : w.heap[b]? = some (.cells #[ov] el (0, 0)))
    (hb : Below w.heap.size w W4) (hr : RepV g a v) :
    Rel g (H.set id (some (.box [a]))) (W4.setCell ⟨b, 0, none⟩ v) ∧ Post g H w g (H.set id (some (.box [a]))) (W4.setCell ⟨b, 0, none⟩ v) := by
  obtain ⟨R4, P4⟩ := R.below hb
  have hlt : b < w.heap.size := (Array.getElem?_eq_some_iff.1 h1).1
  have h4 : W4.heap[b]? = some (.cells #[ov] el (0, 0)) := by rw [hb.block b hlt]; exact h1
  have hs : (W4.setCell ⟨b, 0, none⟩ v).heap[b]? = some (.cells (List.toArray [v]) el (0, 0)) := by
    simp [World.setCell, Array.getElem?_modify, h4]
  obtain ⟨R5, P5⟩ := R4.write_box (w' := W4.setCell ⟨b, 0, none⟩ v) (cs := [a]) (vs := [v]) hH hM hs (by simp only [RepL]; exact ⟨_, _, rfl, hr, rfl⟩) (fun k hk => Below.heap_setCell W4 ⟨b, 0, none⟩ v k hk) (by simp [World.setCell]) rfl rfl rfl
  exact ⟨R5, Post.trans R P4 P5⟩

theorem errorHandle {g : Gh} {H : AH} {w : World} (hG : GlobOk envN g) (R : Rel g H w) : w.cell? ⟨0, 0, none⟩ = some (.iface 266 (.agg #[.pointer (some ⟨12, 33, none⟩)])) := by
  have h := hG 0
  rw [show envN.glob 0 = .vptr [.iface 266 (.agg [.adr 12 33])] 0 from rfl] at h
  simp only [RepV, RepL] at h
  obtain ⟨b, o, vs, hv, ⟨v, ws, rfl, ⟨y, rfl, vs2, rfl, v3, ws3, rfl, rfl, rfl⟩, rfl⟩, hh⟩ := h
  simp at hv
  obtain ⟨rfl, rfl⟩ := hv
  exact R.imm _ _ _ (hh 0 _ rfl)

theorem below3 (w : World) (a b c : Obj) : Below w.heap.size w (((w.alloc a).alloc b).alloc c) :=
  (((Below.refl _ w).alloc (Nat.le_refl _) a).alloc (by simp) b).alloc (by simp; omega) c
theorem below4 (w : World) (a b c d : Obj) : Below w.heap.size w ((((w.alloc a).alloc b).alloc c).alloc d) :=
  (below3 w a b c).alloc (by simp; omega) d

theorem asF_cs {cs : List AV} {id : Nat} {x : AV} {H : AH} (hH : H.at id = some (.box [x])) :
    CS Tryz.prog envN 71 [.iface 152 (.vptr cs 0), .iface 154 (.ptr id 0)] H (.bool true) (H.set id (some (.box [.vptr cs 0]))) := by
  intro g w cargs R hG hA
  simp only [RepL, RepV] at hA
  obtain ⟨v0, ws0, rfl, ⟨y0, rfl, b0, o0, vs0, rfl, hr0, hh0⟩, v1, ws1, rfl, ⟨y1, rfl, b, hM, rfl⟩, rfl⟩ := hA
  obtain ⟨vs, el, h1, h2, h3⟩ := box_cells R hH hM
  simp only [RepL] at h2
  obtain ⟨ov, ws, rfl, _, rfl⟩ := h2
  have hc : w.cell? ⟨b, 0, none⟩ = some ov := by simpa using h3 0 ov rfl
  have hf : w.frozen? ⟨b, 0, none⟩ = false := by simp [World.frozen?, h1]
  refine (As.hitF ⟨b0, o0 + 0, none⟩ ⟨b, 0, none⟩ ov w (errorHandle hG R) hc hf).mono ?_
  rintro e w' ⟨rfl, rfl⟩
  have hr := fun W4 hb => write_after (W4 := W4) (a := .vptr cs 0) (v := .pointer (some ⟨b0, o0 + 0, none⟩)) R hH hM h1 hb (by simp only [RepV]; exact ⟨b0, o0, vs0, rfl, hr0, hh0⟩)
  exact ⟨g, _, rfl, (hr _ (below4 w _ _ _ _)).1, (hr _ (below4 w _ _ _ _)).2, by simp [RepV]⟩

theorem asN_cs {c : Int} {id : Nat} {x : AV} {H : AH} (hH : H.at id = some (.box [x])) :
    CS Tryz.prog envN 71 [.iface 134 (.int .i64 c), .iface 159 (.ptr id 0)] H (.bool true) (H.set id (some (.box [.int .i64 c]))) := by
  intro g w cargs R hG hA
  simp only [RepL, RepV] at hA
  obtain ⟨v0, ws0, rfl, ⟨y0, rfl, rfl⟩, v1, ws1, rfl, ⟨y1, rfl, b, hM, rfl⟩, rfl⟩ := hA
  obtain ⟨vs, el, h1, h2, h3⟩ := box_cells R hH hM
  simp only [RepL] at h2
  obtain ⟨ov, ws, rfl, _, rfl⟩ := h2
  have hc : w.cell? ⟨b, 0, none⟩ = some ov := by simpa using h3 0 ov rfl
  have hf : w.frozen? ⟨b, 0, none⟩ = false := by simp [World.frozen?, h1]
  refine (As.hitN c ⟨b, 0, none⟩ ov w (errorHandle hG R) hc hf).mono ?_
  rintro e w' ⟨rfl, rfl⟩
  have hr := fun W4 hb => write_after (W4 := W4) (a := .int .i64 c) (v := .int .i64 c) R hH hM h1 hb (by simp only [RepV])
  exact ⟨g, _, rfl, (hr _ (below4 w _ _ _ _)).1, (hr _ (below4 w _ _ _ _)).2, by simp [RepV]⟩

theorem asX_cs {c : Int} {id : Nat} {H : AH} :
    CS Tryz.prog envN 71 [.iface 134 (.int .i64 c), .iface 154 (.ptr id 0)] H (.bool false) H := by
  intro g w cargs R hG hA
  simp only [RepL, RepV] at hA
  obtain ⟨v0, ws0, rfl, ⟨y0, rfl, rfl⟩, v1, ws1, rfl, ⟨y1, rfl, b, hM, rfl⟩, rfl⟩ := hA
  refine (As.missF c ⟨b, 0, none⟩ w (errorHandle hG R)).mono ?_
  rintro e w' ⟨rfl, rfl⟩
  obtain ⟨R', P'⟩ := R.below (below3 w _ _ _)
  exact ⟨g, _, rfl, R', P', by simp [RepV]⟩
end Go.Proofs.YtejjlojfgcgopaaGreatDoor
