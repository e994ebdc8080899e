/- errors.As as contracts: what it finds stands in the target's box. -/
import Derived.Test.YtpmonaempgjgbaaDoorTnA
import Derived.Test.YtpmonaempgjgbaaDoorTnB
set_option linter.unusedSimpArgs false
set_option linter.unusedVariables false
namespace Go.Proofs.YtpmonaempgjgbaaDoor
open Go.RowKit Go.Proofs.Fw
set_option maxRecDepth 100000
set_option maxHeartbeats 4000000

theorem write_after {g : Gh} {H : AH} {w W4 : World} (R : Rel g H w) {id b : Nat} {x a : AV} {el : TypeId} {ov v : Value} (hH : H.at id = some (.box [x])) (hM : g.M id = some (.box b)) (h1 : w.heap[b]? = some (.cells #[ov] el (0, 0)))
    (hb : Below w.heap.size w W4) (hr : RepV g a v) :
    Rel g (H.set id (some (.box [a]))) (W4.setCell ⟨b, 0, none⟩ v) ∧ Post g H w g (H.set id (some (.box [a]))) (W4.setCell ⟨b, 0, none⟩ v) := by
  obtain ⟨R4, P4⟩ := R.below hb
  have hlt : b < w.heap.size := (Array.getElem?_eq_some_iff.1 h1).1
  have h4 : W4.heap[b]? = some (.cells #[ov] el (0, 0)) := by rw [hb.block b hlt]; exact h1
  have hs : (W4.setCell ⟨b, 0, none⟩ v).heap[b]? = some (.cells (List.toArray [v]) el (0, 0)) := by
    simp [World.setCell, Array.getElem?_modify, h4]
  obtain ⟨R5, P5⟩ := R4.write_box (w' := W4.setCell ⟨b, 0, none⟩ v) (cs := [a]) (vs := [v]) hH hM hs (by simp only [RepL]; exact ⟨_, _, rfl, hr, rfl⟩) (fun k hk => Below.heap_setCell W4 ⟨b, 0, none⟩ v k hk) (by simp [World.setCell]) rfl rfl rfl
  exact ⟨R5, Post.trans R P4 P5⟩

theorem errorHandle {g : Gh} {H : AH} {w : World} (hG : GlobOk envN g) (R : Rel g H w) : w.cell? ⟨0, 0, none⟩ = some (.iface 95 (.agg #[.pointer (some ⟨10, 37, none⟩)])) := by
  have h := hG 0
  rw [show envN.glob 0 = .vptr [.iface 95 (.agg [.adr 10 37])] 0 from rfl] at h
  simp only [RepV, RepL] at h
  obtain ⟨b, o, vs, hv, ⟨v, ws, rfl, ⟨y, rfl, vs2, rfl, v3, ws3, rfl, rfl, rfl⟩, rfl⟩, hh⟩ := h
  simp at hv
  obtain ⟨rfl, rfl⟩ := hv
  exact R.imm _ _ _ (hh 0 _ rfl)

theorem below3 (w : World) (a b c : Obj) : Below w.heap.size w (((w.alloc a).alloc b).alloc c) :=
  (((Below.refl _ w).alloc (Nat.le_refl _) a).alloc (by simp) b).alloc (by simp; omega) c
theorem below4 (w : World) (a b c d : Obj) : Below w.heap.size w ((((w.alloc a).alloc b).alloc c).alloc d) :=
  (below3 w a b c).alloc (by simp; omega) d

theorem asF_cs {cs : List AV} {id : Nat} {x : AV} {H : AH} (hH : H.at id = some (.box [x])) :
    CS Tryd.prog envN 27 [.iface 57 (.vptr cs 0), .iface 62 (.ptr id 0)] H (.bool true) (H.set id (some (.box [.vptr cs 0]))) := by
  intro g w cargs R hG hA
  simp only [RepL, RepV] at hA
  obtain ⟨v0, ws0, rfl, ⟨y0, rfl, b0, o0, vs0, rfl, hr0, hh0⟩, v1, ws1, rfl, ⟨y1, rfl, b, hM, rfl⟩, rfl⟩ := hA
  obtain ⟨vs, el, h1, h2, h3⟩ := box_cells R hH hM
  simp only [RepL] at h2
  obtain ⟨ov, ws, rfl, _, rfl⟩ := h2
  have hc : w.cell? ⟨b, 0, none⟩ = some ov := by simpa using h3 0 ov rfl
  have hf : w.frozen? ⟨b, 0, none⟩ = false := by simp [World.frozen?, h1]
  refine (As.hitF ⟨b0, o0 + 0, none⟩ ⟨b, 0, none⟩ ov w (errorHandle hG R) hc hf).mono ?_
  rintro e w' ⟨rfl, rfl⟩
  have hr := fun W4 hb => write_after (W4 := W4) (a := .vptr cs 0) (v := .pointer (some ⟨b0, o0 + 0, none⟩)) R hH hM h1 hb (by simp only [RepV]; exact ⟨b0, o0, vs0, rfl, hr0, hh0⟩)
  exact ⟨g, _, rfl, (hr _ (below4 w _ _ _ _)).1, (hr _ (below4 w _ _ _ _)).2, by simp [RepV]⟩

theorem asN_cs {c : Int} {id : Nat} {x : AV} {H : AH} (hH : H.at id = some (.box [x])) :
    CS Tryd.prog envN 27 [.iface 54 (.int .i64 c), .iface 65 (.ptr id 0)] H (.bool true) (H.set id (some (.box [.int .i64 c]))) := by
  intro g w cargs R hG hA
  simp only [RepL, RepV] at hA
  obtain ⟨v0, ws0, rfl, ⟨y0, rfl, rfl⟩, v1, ws1, rfl, ⟨y1, rfl, b, hM, rfl⟩, rfl⟩ := hA
  obtain ⟨vs, el, h1, h2, h3⟩ := box_cells R hH hM
  simp only [RepL] at h2
  obtain ⟨ov, ws, rfl, _, rfl⟩ := h2
  have hc : w.cell? ⟨b, 0, none⟩ = some ov := by simpa using h3 0 ov rfl
  have hf : w.frozen? ⟨b, 0, none⟩ = false := by simp [World.frozen?, h1]
  refine (As.hitN c ⟨b, 0, none⟩ ov w (errorHandle hG R) hc hf).mono ?_
  rintro e w' ⟨rfl, rfl⟩
  have hr := fun W4 hb => write_after (W4 := W4) (a := .int .i64 c) (v := .int .i64 c) R hH hM h1 hb (by simp only [RepV])
  exact ⟨g, _, rfl, (hr _ (below4 w _ _ _ _)).1, (hr _ (below4 w _ _ _ _)).2, by simp [RepV]⟩

theorem asX_cs {c : Int} {id : Nat} {H : AH} :
    CS Tryd.prog envN 27 [.iface 54 (.int .i64 c), .iface 62 (.ptr id 0)] H (.bool false) H := by
  intro g w cargs R hG hA
  simp only [RepL, RepV] at hA
  obtain ⟨v0, ws0, rfl, ⟨y0, rfl, rfl⟩, v1, ws1, rfl, ⟨y1, rfl, b, hM, rfl⟩, rfl⟩ := hA
  refine (As.missF c ⟨b, 0, none⟩ w (errorHandle hG R)).mono ?_
  rintro e w' ⟨rfl, rfl⟩
  obtain ⟨R', P'⟩ := R.below (below3 w _ _ _)
  exact ⟨g, _, rfl, R', P', by simp [RepV]⟩
end Go.Proofs.YtpmonaempgjgbaaDoor
