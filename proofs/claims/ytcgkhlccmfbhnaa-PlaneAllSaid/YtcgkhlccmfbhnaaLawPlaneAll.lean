/- PlaneAll holds. -/
import Derived.Test.YtcgkhlccmfbhnaaLawPlaneNum
set_option linter.unusedVariables false
namespace Go.Proofs.Ytcgkhlccmfbhnaa.planeAll
open Go Go.RowKit Go.Proofs.Ytcgkhlccmfbhnaa.M Go.Proofs.Ytcgkhlccmfbhnaa.G

theorem rem513 (n : Int) : -512 ≤ F.rem n 513 ∧ F.rem n 513 ≤ 512 := by
  have := tmod_lt (a := n) (m := 513) (by decide)
  unfold F.rem
  omega

theorem eq4 {a b c d : Int} : F.both (F.eq a a) (F.both (F.eq b b) (F.both (F.eq c c) (F.eq d d))) = true := by
  rw [eq_t rfl, eq_t rfl, eq_t rfl, eq_t rfl]; rfl

theorem law (x0 : (Ty.pair (.pair (.int .i64) (.pair (.int .i64) (.pair (.int .i64) (.pair (.int .i64) (.pair (.int .i64) (.pair (.int .i64) (.int .i64))))))) (.pair (.pair (.int .i64) (.pair (.int .i64) (.pair (.int .i64) (.pair (.int .i64) (.pair (.int .i64) (.pair (.int .i64) (.int .i64))))))) (.pair (.int .i64) (.pair (.int .i64) (.pair (.int .i64) (.pair (.int .i64) (.pair (.int .i64) (.pair (.int .i64) (.int .i64))))))))).T)
    (x1 : (Ty.pair (.int .i64) (.pair (.int .i64) (.int .i64))).T) (x2 : (Ty.pair (.int .i64) (.int .i64)).T) (h0 : okT _ x0) (h1 : okT _ x1) (h2 : okT _ x2) : ∃ fl, glazierlaw09_PlaneAll fl x0 x1 x2 = some true := by
  refine ⟨130, ?_⟩
  unfold glazierlaw09_PlaneAll
  rw [shownP, ob_some]
  obtain ⟨u, eu, hu, hz⟩ := three_spec x0
  rw [eu, ob_some]
  obtain ⟨k, ek, k1, k2, k3⟩ := law_small x1
  rw [ek, ob_some, bnd_eq, bnd_eq, bnd_eq, bnd_eq]
  have nx := near_rem x2.1
  have ny := near_rem x2.2
  have hx := rem513 (F.rem x2.1 16385)
  have hy := rem513 (F.rem x2.2 16385)
  rw [bite_t, at_num 130 hu ⟨by omega, by omega⟩ ⟨by omega, by omega⟩ ⟨by omega, by omega⟩ nx ny, ob_some, ref_at (Nat.le_refl 130) hu ⟨by omega, by omega⟩ ⟨by omega, by omega⟩ ⟨by omega, by omega⟩ nx ny, ob_some, bnd_eq, eq_t rfl, bite_t,
    dep_spec 130 hu hz hx hy, ob_some, ref_dep (Nat.le_refl 130) hu hz hx hy, ob_some, bnd_eq, eq_t rfl, bite_t, attrs_spec 130 hu hz hx hy, ob_some, ref_attrs (Nat.le_refl 130) hu hz hx hy, ob_some, bnd_eq, eq4]
end Go.Proofs.Ytcgkhlccmfbhnaa.planeAll
