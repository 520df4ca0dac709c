/- One number that is one too far makes a vertex that may not be. -/
import Derived.Test.YtmiffokcdmehhaaLawVec
set_option linter.unusedVariables false
namespace Go.Proofs.Ytmiffokcdmehhaa.vecNarrow
open Go Go.RowKit Go.Proofs.Ytmiffokcdmehhaa.E Go.Proofs.Ytmiffokcdmehhaa.G

theorem j2_spec {a b c d e f g h : Int} (hn : ¬ (⟨a, b, c, d, e, f, g, h⟩ : T_api_Vec).fit) : glazierlaw04_VecNarrow_j2 true a b c d e f g h = some true := by
  unfold glazierlaw04_VecNarrow_j2
  rw [if_pos rfl, right_spec]
  simp [hn]

theorem j1_spec (x1 : Int) (o1 : inR .u8 x1) (x2 : Bool) (v : T_api_Vec) (k : Int) (hk : k = 1 ∨ k = -1) : glazierlaw04_VecNarrow_j1 x1 x2 true v k = some true := by
  rw [inR_u8] at o1
  have h8 := tmod_lt (a := x1) (m := 8) (by omega)
  have h8' := Int.tmod_nonneg (8 : Int) o1.1
  have h4 := tmod_lt (a := x1) (m := 4) (by omega)
  have h4' := Int.tmod_nonneg (4 : Int) o1.1
  have w1 : IntKind.wrap .i64 (k * 32769) = k * 32769 := wrapI (by omega) (by omega)
  have w2 : IntKind.wrap .i64 (k * 4097) = k * 4097 := wrapI (by omega) (by omega)
  unfold glazierlaw04_VecNarrow_j1
  rw [w1, w2]
  repeat' split
  all_goals first
    | (refine j2_spec ?_; simp only [T_api_Vec.fit]; omega)
    | (exfalso; simp_all; omega)

theorem law (x0 : T_api_Vec) (x1 : Int) (x2 : Bool) (o0 : x0.ok) (o1 : inR .u8 x1) (o2 : True) : glazierlaw04_VecNarrow x0 x1 x2 = some true := by
  obtain ⟨a, ha, fa⟩ := fit_spec x0
  unfold glazierlaw04_VecNarrow
  rw [shown04, ha]
  simp only [Option.bind_some, right_spec]
  rw [if_neg (by simp [fa])]
  split
  · exact j1_spec x1 o1 x2 a 1 (.inl rfl)
  · exact j1_spec x1 o1 x2 a (-1) (.inr rfl)

end Go.Proofs.Ytmiffokcdmehhaa.vecNarrow
