/- The tables that a row lays: what the runs are told of them. .. What the rows of the laws on trees lay: what the runs are to -/
import Derived.Test.YtejjlojfgcgopaaGreatDoorZ7
import Derived.Test.YtejjlojfgcgopaaGreatDoorZ2
import Derived.Test.YtejjlojfgcgopaaGreatDoorZ13
import Derived.Test.YtejjlojfgcgopaaGreatDoorCards
import Derived.Test.YtejjlojfgcgopaaGreatDoorTie
import Derived.WalkKit
import Derived.ProofKit
import Derived.OpenShut
import Derived.Deep.DeepHandedRow
import Derived.Deep.DeepWitnessRowRef
import Derived.LaidMore
import Derived.LaidSub
import Derived.ChangeMaps5
import Derived.Lay
set_option linter.unusedSimpArgs false
set_option linter.unusedVariables false
namespace Go.Proofs.YtejjlojfgcgopaaGreatDoor
open Go.ChangeShapes Go.WideShapes Go.ChangeAt Go.RowKit Go.Proofs.Fw
set_option maxRecDepth 100000
theorem gSpace : Tryz.prog.globalNamed "strings.asciiSpace" = some 3 := by kernel_rfl
theorem tSpace : (Tryz.prog.globals[3]?).map (·.type) = some 320 := by kernel_rfl
theorem rowSpace : avRow (H := Unit) Tryz.prog 3 320 Rows.laid_strings_asciiSpace = spaceCells := by kernel_rfl
theorem gRange : Tryz.prog.globalNamed "strconv.ErrRange" = some 6 := by kernel_rfl
theorem tRange : (Tryz.prog.globals[6]?).map (·.type) = some 33 := by kernel_rfl
theorem starErr : "*" ++ "errors.errorString" = "*errors.errorString" := by decide
theorem rowRange (u : TypeId) (h : Tryz.prog.typeName? 3 u = some "*errors.errorString") : u = 357 :=
  typeName_ptr_named (nm := "errors.errorString") (by rw [starErr]; kernel_rfl) (by kernel_rfl) (by decide) u (by rw [starErr]; exact h)
theorem glob_ofT {l : List (String × DataW Unit)} {W : World} (h : laidMet Tryz.prog l W) (hm : ("strings.asciiSpace", Rows.laid_strings_asciiSpace) ∈ l) (hr : l.filter (fun x => x.1 == "strconv.ErrRange") = [("strconv.ErrRange", Rows.laid_strconv_ErrRange)]) : GlobOk envT (ghAll W) := by
  have h1 := h.filter fun x => x.1 == "strconv.ErrRange"
  rw [hr] at h1
  obtain ⟨ps, h, _⟩ := h
  refine globOk_of (tab := globT) rfl fun x hx => ?_
  simp only [globT, List.mem_cons, List.not_mem_nil, or_false] at hx
  rcases hx with rfl | rfl
  · have := laid_rep h hm 3 gSpace tSpace
    rw [rowSpace] at this
    exact this
  · exact sentinel_rep h1 gRange tRange Tryz.underlying33 rowRange Tryz.underlying357 Tryz.underlying359 rfl rfl Tryz.underlying9 (by kernel_rfl) (by kernel_rfl)
theorem own : ownKnob Tryz.prog.godebug = none := by kernel_rfl
end Go.Proofs.YtejjlojfgcgopaaGreatDoor

namespace Go.Proofs.YtejjlojfgcgopaaGreatDoor
open Go.ChangeShapes Go.WideShapes Go.ChangeAt Go.ChangeMaps Go.RowKit Go.Proofs.Fw
set_option maxRecDepth 100000
theorem gPow : Tryz.prog.globalNamed "internal/strconv.uint64pow10" = some 1 := by kernel_rfl
theorem tPow : (Tryz.prog.globals[1]?).map (·.type) = some 309 := by kernel_rfl
theorem rowPow : avRow (H := Unit) Tryz.prog 3 309 Rows.laid_internal_strconv_uint64pow10 = pow10Cells := by kernel_rfl
theorem et : Tryz.prog.globalNamed "errors.errorType" = some 0 := by kernel_rfl
theorem rt : (Tryz.prog.cutTypes.find? (·.1 == "internal/reflectlite.rtype")).map (·.2) = some 266 := by kernel_rfl
theorem oneRow : ((List.range Tryz.prog.types.size).filter fun t => Tryz.prog.rowNamed t [101, 114, 114, 111, 114]) = [33] := by kernel_rfl
def l7 : List (String × DataW Unit) := [("math/bits.deBruijn32tab", Rows.laid_math_bits_deBruijn32tab), ("math/bits.deBruijn64tab", Rows.laid_math_bits_deBruijn64tab), ("internal/strconv.uint64pow10", Rows.laid_internal_strconv_uint64pow10), ("strconv.ErrRange", Rows.laid_strconv_ErrRange), ("strconv.ErrSyntax", Rows.laid_strconv_ErrSyntax), ("unicode.White_Space", Rows.laid_unicode_White_Space), ("strings.asciiSpace", Rows.laid_strings_asciiSpace)]
theorem handle_cell {W : World} (h : handlesMet Tryz.prog [("errors.errorType", Rows.laid_errors_errorType)] W) : W.cell? ⟨0, 0, none⟩ = some (.iface 266 (.agg #[.pointer (some ⟨12, 33, none⟩)])) := by
  obtain ⟨name, u, ty, e1, e2, e3, e4, e5⟩ := h _ (List.mem_singleton.2 rfl)
  have en : name = [101, 114, 114, 111, 114] := (Option.some.inj e1).symm
  subst en
  obtain rfl := Option.some.inj (rt.symm.trans e2)
  have hm : ty ∈ (List.range Tryz.prog.types.size).filter fun t => Tryz.prog.rowNamed t [101, 114, 114, 111, 114] := List.mem_filter.2 ⟨List.mem_range.2 e3, e4⟩
  rw [oneRow] at hm
  obtain rfl := List.mem_singleton.1 hm
  have hh : typeHandle Tryz.prog 33 = .pointer (some ⟨12, 33, none⟩) := by kernel_rfl
  rw [hh] at e5
  simpa using World.var?_cell et e5 0
theorem globs_of {W : World} {l : List (String × DataW Unit)} (h1 : laidMet Tryz.prog l W) (ha : ("strings.asciiSpace", Rows.laid_strings_asciiSpace) ∈ l) (hr : l.filter (fun x => x.1 == "strconv.ErrRange") = [("strconv.ErrRange", Rows.laid_strconv_ErrRange)]) (hp : ("internal/strconv.uint64pow10", Rows.laid_internal_strconv_uint64pow10) ∈ l)
    (h2 : W.cell? ⟨0, 0, none⟩ = some (.iface 266 (.agg #[.pointer (some ⟨12, 33, none⟩)]))) : GlobOk envF (ghAll W) := by
  have hT : GlobOk envT (ghAll W) := glob_ofT h1 ha hr
  intro i
  by_cases hi : i = 1
  · subst hi
    rw [show envF.glob 1 = .vptr pow10Cells 0 from rfl]
    obtain ⟨ps, h3, _⟩ := h1
    have := laid_rep h3 hp 3 gPow tPow
    rw [rowPow] at this
    exact this
  · by_cases hj : i = 0
    · subst hj
      rw [show envF.glob 0 = .vptr [.iface 266 (.agg [.adr 12 33])] 0 from rfl]
      simp only [RepV, RepL]
      refine ⟨0, 0, [.iface 266 (.agg #[.pointer (some ⟨12, 33, none⟩)])], rfl, ⟨_, _, rfl, ⟨_, rfl, _, rfl, _, _, rfl, rfl, rfl⟩, rfl⟩, ?_⟩
      intro k v hk
      cases k with
      | zero => simp at hk; subst hk; exact h2
      | succ k => simp at hk
    · have : envT.glob i = envF.glob i := by
        simp only [envT, envF, globOf, globF, globN, List.find?_cons]
        rw [show ((0 : Nat) == i) = false by simp; omega, show ((1 : Nat) == i) = false by simp; omega]
      rw [← this]
      exact hT i
end Go.Proofs.YtejjlojfgcgopaaGreatDoor

namespace Go.Proofs.YtejjlojfgcgopaaGreatDoor
open Go.ChangeShapes Go.WideShapes Go.ChangeAt Go.ChangeMaps Go.RowKit Go.Proofs.Fw
set_option maxRecDepth 100000
def l9 : List (String × DataW Unit) := [("math/bits.deBruijn32tab", Rows.laid_math_bits_deBruijn32tab), ("math/bits.deBruijn64tab", Rows.laid_math_bits_deBruijn64tab), ("internal/strconv.uint64pow10", Rows.laid_internal_strconv_uint64pow10), ("unicode/utf8.acceptRanges", Rows.laid_unicode_utf8_acceptRanges), ("strconv.ErrRange", Rows.laid_strconv_ErrRange), ("strconv.ErrSyntax", Rows.laid_strconv_ErrSyntax), ("unicode.White_Space", Rows.laid_unicode_White_Space), ("strings.asciiSpace", Rows.laid_strings_asciiSpace), ("unicode/utf8.first", Rows.laid_unicode_utf8_first)]
theorem globs7 {W : World} (h : laidMetH Tryz.prog Rows.treeOpenRow.laid W) : GlobOk envF (ghAll W) := by
  have h' : laidMet Tryz.prog l9 W ∧ handlesMet Tryz.prog [("errors.errorType", Rows.laid_errors_errorType)] W := h
  exact globs_of h'.1 (by simp [l9]) (by kernel_rfl) (by simp [l9]) (handle_cell h'.2)
noncomputable def w0T (os : Os) : World := { World.holding Tryz.prog os ⟨#[], #[], []⟩ with heap := (World.holding Tryz.prog os ⟨#[], #[], []⟩).heap.setIfInBounds 0 (.cells #[.iface 266 (.agg #[.pointer (some ⟨12, 33, none⟩)])] (((Tryz.prog.globals[0]?).map (·.type)).getD 0) (0, 0)) }
noncomputable def wT (os : Os) : World := (w0T os).layVars Tryz.prog l9
theorem wT_os (os : Os) : (wT os).os = os := World.layVars_os _ _ _
theorem l9_eq : (Rows.treeOpenRow.laid.filter fun x => x.2.handleName?.isNone) = l9 := rfl
theorem laid9 (os : Os) : laidMet Tryz.prog l9 (wT os) := by
  have e1 : (l9.filter fun x => (l9.map (·.1)).contains x.1) = l9 := List.filter_eq_self.2 fun x hx => List.contains_iff_mem.2 (List.mem_map.2 ⟨x, hx, rfl⟩)
  have e2 : (l9.filter fun x => !(l9.map (·.1)).contains x.1) = [] := List.filter_eq_nil_iff.2 fun x hx => by rw [List.contains_iff_mem.2 (List.mem_map.2 ⟨x, hx, rfl⟩)]; simp
  exact laidMet_layVars (w0 := w0T os) (l9.map (·.1)) [] (by rw [e1]; rfl) (by rw [e1]; kernel_rfl) (by rw [e1]; kernel_rfl) (by rw [e2]; exact LaidIn.none)
theorem laidT (os : Os) : laidMetH Tryz.prog Rows.treeOpenRow.laid (wT os) :=
  laidMetH_of_parts3 (fuel := 8) (by rw [l9_eq]; exact laid9 os) (by kernel_rfl) (by kernel_rfl)
theorem laidTC (os : Os) (args : Array Value) : laidMetH Tryz.prog Rows.treeOpenRow.laid ((wT os).forCall (fun _ _ => 0) ⟨#[], args, []⟩).memory := (laidT os).of_heap (by simp [World.memory, World.forCall, Input.heap])
end Go.Proofs.YtejjlojfgcgopaaGreatDoor
