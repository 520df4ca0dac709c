/- ClipAll holds. -/
import Derived.Test.YtofmlolhhcffoaaLawClipMore
set_option linter.unusedVariables false
namespace Go.Proofs.Ytofmlolhhcffoaa.clipAll
open Go Go.RowKit Go.Proofs.Ytofmlolhhcffoaa.M Go.Proofs.Ytofmlolhhcffoaa.G

theorem law (x0 : (Ty.list (.pair (.int .i64) (.pair (.int .i64) (.pair (.int .i64) (.pair (.int .i64) (.pair (.int .i64) (.pair (.int .i64) (.pair (.int .i64) (.int .i64))))))))).T) (x1 : (Ty.int .i64).T)
    (h0 : okT (Ty.list (.pair (.int .i64) (.pair (.int .i64) (.pair (.int .i64) (.pair (.int .i64) (.pair (.int .i64) (.pair (.int .i64) (.pair (.int .i64) (.int .i64))))))))) x0) (h1 : okT (.int .i64) x1) : ∃ fl, glazierlaw05_ClipAll fl x0 x1 = some true := by
  refine ⟨5000, ?_⟩
  unfold glazierlaw05_ClipAll
  obtain ⟨v, ev, hl, hv⟩ := cfew (fl := 5000) (by omega) x0
  have l1 := byL_length x1 v
  have hpl : (polyL v).length ≤ 3200 := by
    have := (chain hv (by omega)).2.2.2.2.2.2.2.2.2
    unfold polyL
    split
    · simp
    · exact this
  rw [cshown (by omega), ob_some, ev, ob_some, ob_some, by_spec hv (by omega) (by omega), ob_some, rby_spec hv (by omega) (by omega), ob_some, csame (by omega) (by omega), ob_some, poly_spec hv (by omega) (by omega), ob_some, rpoly_spec hv (by omega) (by omega), ob_some, csame (by omega) (by omega), ob_some, csame (by omega) (by omega), ob_some, bite_t,
    decide_eq_true rfl, bite_t, decide_eq_true rfl, bite_t, decide_eq_true rfl]
end Go.Proofs.Ytofmlolhhcffoaa.clipAll
