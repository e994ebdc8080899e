/- The tables that a row lays: what the runs are told of them. -/
import Derived.Test.YtejjlojfgcgopaaGreatDoorTjB
import Derived.Test.YtejjlojfgcgopaaGreatDoorCards
import Derived.Test.YtejjlojfgcgopaaGreatDoorTie
import Derived.Test.YtejjlojfgcgopaaGreatDoorFwG2
import Derived.WalkKit
import Derived.ProofKit
import Derived.OpenShut
import Derived.Deep.DeepHandedRow
import Derived.Deep.DeepWitnessRowRef
import Derived.LaidMore
import Derived.LaidSub
import Derived.ChangeMaps5
set_option linter.unusedSimpArgs false
set_option linter.unusedVariables false
namespace Go.Proofs.YtejjlojfgcgopaaGreatDoor
open Go.ChangeShapes Go.WideShapes Go.ChangeAt Go.RowKit Go.Proofs.Fw
set_option maxRecDepth 100000

theorem gSpace : Tryz.prog.globalNamed "strings.asciiSpace" = some 3 := by kernel_rfl
theorem tSpace : (Tryz.prog.globals[3]?).map (·.type) = some 320 := by kernel_rfl
theorem rowSpace : avRow (H := Unit) Tryz.prog 3 320 Rows.laid_strings_asciiSpace = spaceCells := by kernel_rfl
theorem gRange : Tryz.prog.globalNamed "strconv.ErrRange" = some 6 := by kernel_rfl
theorem tRange : (Tryz.prog.globals[6]?).map (·.type) = some 33 := by kernel_rfl
theorem starErr : "*" ++ "errors.errorString" = "*errors.errorString" := by decide
theorem rowRange (u : TypeId) (h : Tryz.prog.typeName? 3 u = some "*errors.errorString") : u = 357 :=
  typeName_ptr_named (nm := "errors.errorString") (by rw [starErr]; kernel_rfl) (by kernel_rfl) (by decide) u (by rw [starErr]; exact h)

/-- What the row's list gives: the table of the blanks, and ErrRange. -/
theorem glob_ofT {l : List (String × DataW Unit)} {W : World} (h : laidMet Tryz.prog l W) (hm : ("strings.asciiSpace", Rows.laid_strings_asciiSpace) ∈ l) (hr : l.filter (fun x => x.1 == "strconv.ErrRange") = [("strconv.ErrRange", Rows.laid_strconv_ErrRange)]) : GlobOk envT (ghAll W) := by
  have h1 := h.filter fun x => x.1 == "strconv.ErrRange"
  rw [hr] at h1
  obtain ⟨ps, h, _⟩ := h
  refine globOk_of (tab := globT) rfl fun x hx => ?_
  simp only [globT, List.mem_cons, List.not_mem_nil, or_false] at hx
  rcases hx with rfl | rfl
  · have := laid_rep h hm 3 gSpace tSpace
    rw [rowSpace] at this
    exact this
  · exact sentinel_rep h1 gRange tRange Tryz.underlying33 rowRange Tryz.underlying357 Tryz.underlying359 rfl rfl Tryz.underlying9 (by kernel_rfl) (by kernel_rfl)
theorem own : ownKnob Tryz.prog.godebug = none := by kernel_rfl
end Go.Proofs.YtejjlojfgcgopaaGreatDoor
