/- What the rows of the laws on expressions lay: what the runs are told of it. -/
import Derived.Test.YtejjlojfgcgopaaGreatDoorEyC
import Derived.Test.YtejjlojfgcgopaaGreatDoorTrP
set_option linter.unusedSimpArgs false
set_option linter.unusedVariables false
namespace Go.Proofs.YtejjlojfgcgopaaGreatDoor
open Go.ChangeShapes Go.WideShapes Go.ChangeAt Go.ChangeMaps Go.RowKit Go.Proofs.Fw
set_option maxRecDepth 100000

theorem gPow : Tryz.prog.globalNamed "internal/strconv.uint64pow10" = some 1 := by kernel_rfl
theorem tPow : (Tryz.prog.globals[1]?).map (·.type) = some 309 := by kernel_rfl
theorem rowPow : avRow (H := Unit) Tryz.prog 3 309 Rows.laid_internal_strconv_uint64pow10 = pow10Cells := by kernel_rfl
theorem et : Tryz.prog.globalNamed "errors.errorType" = some 0 := by kernel_rfl
theorem rt : (Tryz.prog.cutTypes.find? (·.1 == "internal/reflectlite.rtype")).map (·.2) = some 266 := by kernel_rfl
theorem oneRow : ((List.range Tryz.prog.types.size).filter fun t => Tryz.prog.rowNamed t [101, 114, 114, 111, 114]) = [33] := by kernel_rfl
def l7 : List (String × DataW Unit) := [("math/bits.deBruijn32tab", Rows.laid_math_bits_deBruijn32tab), ("math/bits.deBruijn64tab", Rows.laid_math_bits_deBruijn64tab), ("internal/strconv.uint64pow10", Rows.laid_internal_strconv_uint64pow10), ("strconv.ErrRange", Rows.laid_strconv_ErrRange), ("strconv.ErrSyntax", Rows.laid_strconv_ErrSyntax), ("unicode.White_Space", Rows.laid_unicode_White_Space), ("strings.asciiSpace", Rows.laid_strings_asciiSpace)]
theorem handle_cell {W : World} (h : handlesMet Tryz.prog [("errors.errorType", Rows.laid_errors_errorType)] W) : W.cell? ⟨0, 0, none⟩ = some (.iface 266 (.agg #[.pointer (some ⟨12, 33, none⟩)])) := by
  obtain ⟨name, u, ty, e1, e2, e3, e4, e5⟩ := h _ (List.mem_singleton.2 rfl)
  have en : name = [101, 114, 114, 111, 114] := (Option.some.inj e1).symm
  subst en
  obtain rfl := Option.some.inj (rt.symm.trans e2)
  have hm : ty ∈ (List.range Tryz.prog.types.size).filter fun t => Tryz.prog.rowNamed t [101, 114, 114, 111, 114] := List.mem_filter.2 ⟨List.mem_range.2 e3, e4⟩
  rw [oneRow] at hm
  obtain rfl := List.mem_singleton.1 hm
  have hh : typeHandle Tryz.prog 33 = .pointer (some ⟨12, 33, none⟩) := by kernel_rfl
  rw [hh] at e5
  simpa using World.var?_cell et e5 0
theorem globs_of {W : World} {l : List (String × DataW Unit)} (h1 : laidMet Tryz.prog l W) (ha : ("strings.asciiSpace", Rows.laid_strings_asciiSpace) ∈ l) (hr : l.filter (fun x => x.1 == "strconv.ErrRange") = [("strconv.ErrRange", Rows.laid_strconv_ErrRange)]) (hp : ("internal/strconv.uint64pow10", Rows.laid_internal_strconv_uint64pow10) ∈ l)
    (h2 : W.cell? ⟨0, 0, none⟩ = some (.iface 266 (.agg #[.pointer (some ⟨12, 33, none⟩)]))) : GlobOk envF (ghAll W) := by
  have hT : GlobOk envT (ghAll W) := glob_ofT h1 ha hr
  intro i
  by_cases hi : i = 1
  · subst hi
    rw [show envF.glob 1 = .vptr pow10Cells 0 from rfl]
    obtain ⟨ps, h3, _⟩ := h1
    have := laid_rep h3 hp 3 gPow tPow
    rw [rowPow] at this
    exact this
  · by_cases hj : i = 0
    · subst hj
      rw [show envF.glob 0 = .vptr [.iface 266 (.agg [.adr 12 33])] 0 from rfl]
      simp only [RepV, RepL]
      refine ⟨0, 0, [.iface 266 (.agg #[.pointer (some ⟨12, 33, none⟩)])], rfl, ⟨_, _, rfl, ⟨_, rfl, _, rfl, _, _, rfl, rfl, rfl⟩, rfl⟩, ?_⟩
      intro k v hk
      cases k with
      | zero => simp at hk; subst hk; exact h2
      | succ k => simp at hk
    · have : envT.glob i = envF.glob i := by
        simp only [envT, envF, globOf, globF, globN, List.find?_cons]
        rw [show ((0 : Nat) == i) = false by simp; omega, show ((1 : Nat) == i) = false by simp; omega]
      rw [← this]
      exact hT i
theorem globsF {W : World} (h : laidMetH Tryz.prog Rows.stmtKindsRow.laid W) : GlobOk envF (ghAll W) := by
  have h' : laidMet Tryz.prog l7 W ∧ handlesMet Tryz.prog [("errors.errorType", Rows.laid_errors_errorType)] W := h
  exact globs_of h'.1 (by simp [l7]) (by kernel_rfl) (by simp [l7]) (handle_cell h'.2)
end Go.Proofs.YtejjlojfgcgopaaGreatDoor
