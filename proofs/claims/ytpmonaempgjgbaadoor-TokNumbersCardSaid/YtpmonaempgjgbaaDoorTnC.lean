/- errors.Is and errors.As as contracts: at faults in one another with an error's number inmost. -/
import Derived.Test.YtpmonaempgjgbaaDoorTnA
import Derived.Test.YtpmonaempgjgbaaDoorTnB
set_option linter.unusedSimpArgs false
set_option linter.unusedVariables false
namespace Go.Proofs.YtpmonaempgjgbaaDoor
open Go.RowKit Go.Proofs.Fw Go.Stop Go.Extern
set_option maxRecDepth 100000
set_option maxHeartbeats 4000000

theorem comparableE (w : World) : (Go.Extern.ReflectliteType.method (fun t => do Go.Extern.Rtype.noPackHeld "Comparable" t; (fun a : TypeInfo => Value.bool a.comparable) <$> typeInfo t) #[.agg #[.pointer (some ⟨10, 54, none⟩)]]).run Tryd.prog w = .ok (.bool true) w := by kernel_rfl

theorem Is_cs (l : List (List UInt8 × Int)) (c n : Int) (H : AH) : CS Tryd.prog envN 26 [errAV l c, .iface 54 (.int .i64 n)] H (.bool (c == n)) H := by
  refine CS.frame ?_ lowN (by simp [errAV_low]) H
  intro g w cargs R hG hA
  have hA' := hA
  simp only [RepL] at hA
  obtain ⟨v0, ws0, rfl, h0, v1, ws1, rfl, h1, rfl⟩ := hA
  simp only [RepV] at h1
  obtain ⟨y1, rfl, rfl⟩ := h1
  have h38 := is_cs l c n [] g w [v0, .iface 54 (.int .i64 n), .bool true] R hG (by
    simp only [RepL]
    exact ⟨_, _, rfl, h0, _, _, rfl, by simp [RepV], _, _, rfl, by simp [RepV], rfl⟩)
  have tO := As.typeOfEN
  have mC := As.methodComparable
  have cE := comparableE
  have x1 := @run_callFunc_extern Tryd.prog 105 _ (Go.Extern.ReflectliteType.method (fun t => do Go.Extern.Rtype.noPackHeld "Comparable" t; pure (.bool (← typeInfo t).comparable))) Tryd.func105 (by kernel_rfl) (by kernel_rfl) (by kernel_rfl) (by kernel_rfl)
  have x2 := @run_callFunc_extern Tryd.prog 37 _ Go.Extern.ReflectliteType.typeOf Tryd.func37 (by kernel_rfl) (by kernel_rfl) (by kernel_rfl) (by kernel_rfl)
  cases l with
  | nil =>
    simp only [errAV, RepV] at h0
    obtain ⟨y0, rfl, rfl⟩ := h0
    go_enter Tryd.func26, Tryd.ntmps26
    go_wp2_with (go_at_call 38; refine h38.mono ?_; rintro e w' ⟨g', cv, rfl, R', p, hr⟩)
    go_ret
    exact ⟨g', _, rfl, R', p, hr⟩
  | cons x r =>
    obtain ⟨wd, p⟩ := x
    simp only [errAV, RepV] at h0
    obtain ⟨y0, rfl, hy⟩ := h0
    go_enter Tryd.func26, Tryd.ntmps26
    go_wp2_with (go_at_call 38; refine h38.mono ?_; rintro e w' ⟨g', cv, rfl, R', p, hr⟩)
    go_ret
    exact ⟨g', _, rfl, R', p, hr⟩
end Go.Proofs.YtpmonaempgjgbaaDoor
