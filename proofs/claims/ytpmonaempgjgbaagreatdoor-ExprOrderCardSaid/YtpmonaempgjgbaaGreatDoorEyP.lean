/- What the rows of the laws on expressions lay: what the runs are told of it. -/
import Derived.Test.YtpmonaempgjgbaaGreatDoorEyB
import Derived.Test.YtpmonaempgjgbaaGreatDoorTrP
set_option linter.unusedSimpArgs false
set_option linter.unusedVariables false
namespace Go.Proofs.YtpmonaempgjgbaaGreatDoor
open Go.ChangeShapes Go.WideShapes Go.ChangeAt Go.ChangeMaps Go.RowKit Go.Proofs.Fw
set_option maxRecDepth 100000

theorem gPow : Tryz.prog.globalNamed "internal/strconv.uint64pow10" = some 3 := by kernel_rfl
theorem tPow : (Tryz.prog.globals[3]?).map (·.type) = some 269 := by kernel_rfl
theorem rowPow : avRow (H := Unit) Tryz.prog 3 269 Rows.laid_internal_strconv_uint64pow10 = pow10Cells := by kernel_rfl
theorem et : Tryz.prog.globalNamed "errors.errorType" = some 0 := by kernel_rfl
theorem rt : (Tryz.prog.cutTypes.find? (·.1 == "internal/reflectlite.rtype")).map (·.2) = some 215 := by kernel_rfl
theorem oneRow : ((List.range Tryz.prog.types.size).filter fun t => Tryz.prog.rowNamed t [101, 114, 114, 111, 114]) = [50] := by kernel_rfl
theorem parts {W : World} (h : laidMetH Tryz.prog Rows.exprWordsRow.laid W) : laidMet Tryz.prog Rows.freshManyRow.laid W ∧ W.cell? ⟨0, 0, none⟩ = some (.iface 215 (.agg #[.pointer (some ⟨10, 50, none⟩)])) := by
  have h' : laidMet Tryz.prog Rows.freshManyRow.laid W ∧ handlesMet Tryz.prog [("errors.errorType", Rows.laid_errors_errorType)] W := h
  refine ⟨h'.1, ?_⟩
  obtain ⟨name, u, ty, e1, e2, e3, e4, e5⟩ := h'.2 _ (List.mem_singleton.2 rfl)
  have en : name = [101, 114, 114, 111, 114] := (Option.some.inj e1).symm
  subst en
  obtain rfl := Option.some.inj (rt.symm.trans e2)
  have hm : ty ∈ (List.range Tryz.prog.types.size).filter fun t => Tryz.prog.rowNamed t [101, 114, 114, 111, 114] := List.mem_filter.2 ⟨List.mem_range.2 e3, e4⟩
  rw [oneRow] at hm
  obtain rfl := List.mem_singleton.1 hm
  have hh : typeHandle Tryz.prog 50 = .pointer (some ⟨10, 50, none⟩) := by kernel_rfl
  rw [hh] at e5
  simpa using World.var?_cell et e5 0

theorem globsF {W : World} (h : laidMetH Tryz.prog Rows.exprWordsRow.laid W) : GlobOk envF (ghAll W) := by
  obtain ⟨h1, h2⟩ := parts h
  have hT : GlobOk envT (ghAll W) := glob_ofT h1 (by simp [Rows.freshManyRow]) (by kernel_rfl)
  intro i
  by_cases hi : i = 3
  · subst hi
    rw [show envF.glob 3 = .vptr pow10Cells 0 from rfl]
    obtain ⟨ps, h3, _⟩ := h1
    have hm : ("internal/strconv.uint64pow10", Rows.laid_internal_strconv_uint64pow10) ∈ Rows.freshManyRow.laid := by simp [Rows.freshManyRow]
    have := laid_rep h3 hm 3 gPow tPow
    rw [rowPow] at this
    exact this
  · by_cases hj : i = 0
    · subst hj
      rw [show envF.glob 0 = .vptr [.iface 215 (.agg [.adr 10 50])] 0 from rfl]
      simp only [RepV, RepL]
      refine ⟨0, 0, [.iface 215 (.agg #[.pointer (some ⟨10, 50, none⟩)])], rfl, ⟨_, _, rfl, ⟨_, rfl, _, rfl, _, _, rfl, rfl, rfl⟩, rfl⟩, ?_⟩
      intro k v hk
      cases k with
      | zero => simp at hk; subst hk; exact h2
      | succ k => simp at hk
    · have : envT.glob i = envF.glob i := by
        simp only [envT, envF, globOf, globF, globN, List.find?_cons]
        rw [show ((0 : Nat) == i) = false by simp; omega, show ((3 : Nat) == i) = false by simp; omega]
      rw [← this]
      exact hT i
end Go.Proofs.YtpmonaempgjgbaaGreatDoor
