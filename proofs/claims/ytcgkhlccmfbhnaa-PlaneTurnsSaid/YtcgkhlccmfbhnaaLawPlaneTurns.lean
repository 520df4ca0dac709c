/- PlaneTurns holds. -/
import Derived.Test.YtcgkhlccmfbhnaaLawPlaneNum
set_option linter.unusedVariables false
namespace Go.Proofs.Ytcgkhlccmfbhnaa.planeTurns
open Go Go.RowKit Go.Proofs.Ytcgkhlccmfbhnaa.M Go.Proofs.Ytcgkhlccmfbhnaa.G

theorem rem513 (n : Int) : -512 ≤ F.rem n 513 ∧ F.rem n 513 ≤ 512 := by
  have := tmod_lt (a := n) (m := 513) (by decide)
  unfold F.rem
  omega

theorem eq4 {a b c d a' b' c' d' : Int} (h1 : a = a') (h2 : b = b') (h3 : c = c') (h4 : d = d') : F.both (F.eq a a') (F.both (F.eq b b') (F.both (F.eq c c') (F.eq d d'))) = true := by
  rw [eq_t h1, eq_t h2, eq_t h3, eq_t h4]; rfl

theorem law (x0 : (Ty.pair (.pair (.int .i64) (.pair (.int .i64) (.pair (.int .i64) (.pair (.int .i64) (.pair (.int .i64) (.pair (.int .i64) (.int .i64))))))) (.pair (.pair (.int .i64) (.pair (.int .i64) (.pair (.int .i64) (.pair (.int .i64) (.pair (.int .i64) (.pair (.int .i64) (.int .i64))))))) (.pair (.int .i64) (.pair (.int .i64) (.pair (.int .i64) (.pair (.int .i64) (.pair (.int .i64) (.pair (.int .i64) (.int .i64))))))))).T)
    (x1 : (Ty.pair (.int .i64) (.int .i64)).T) (h0 : okT _ x0) (h1 : okT _ x1) : ∃ fl, glazierlaw09_PlaneTurns fl x0 x1 = some true := by
  refine ⟨0, ?_⟩
  unfold glazierlaw09_PlaneTurns
  rw [shownP, ob_some]
  obtain ⟨u, eu, hu, hz⟩ := three_spec x0
  rw [eu, ob_some, bnd_eq, bnd_eq]
  have hx := rem513 x1.1
  have hy := rem513 x1.2
  obtain ⟨x, ex⟩ : ∃ x, x = F.rem x1.1 513 := ⟨_, rfl⟩
  obtain ⟨y, ey⟩ : ∃ x, x = F.rem x1.2 513 := ⟨_, rfl⟩
  rw [← ex] at hx ⊢
  rw [← ey] at hy ⊢
  have hu1 : okTri (u.2.1, (u.2.2, u.1)) := ⟨hu.2.1, hu.2.2, hu.1⟩
  have hz1 : okTriZ (u.2.1, (u.2.2, u.1)) := ⟨hz.2.1, hz.2.2, hz.1⟩
  let bare : Tri := ((u.1.1, (u.1.2.1, (u.1.2.2.1, (0, (0, (0, 0)))))), ((u.2.1.1, (u.2.1.2.1, (u.2.1.2.2.1, (0, (0, (0, 0)))))), (u.2.2.1, (u.2.2.2.1, (u.2.2.2.2.1, (0, (0, (0, 0))))))))
  let flat : Tri := ((u.1.1, (u.1.2.1, (0, u.1.2.2.2))), ((u.2.1.1, (u.2.1.2.1, (0, u.2.1.2.2.2))), (u.2.2.1, (u.2.2.2.1, (0, u.2.2.2.2.2)))))
  have hub : okTri bare := hu
  have huf : okTri flat := hu
  have z0 : (-4096 : Int) ≤ 0 ∧ (0 : Int) ≤ 4096 := by decide
  have z1 : (-1073741824 : Int) ≤ 0 ∧ (0 : Int) ≤ 1073741824 := by decide
  have hzb : okTriZ bare := ⟨⟨hz.1.1, z0, z0, z0, z0⟩, ⟨hz.2.1.1, z0, z0, z0, z0⟩, ⟨hz.2.2.1, z0, z0, z0, z0⟩⟩
  have hzf : okTriZ flat := ⟨⟨z1, hz.1.2⟩, ⟨z1, hz.2.1.2⟩, ⟨z1, hz.2.2.2⟩⟩
  have e1 := dep_spec 0 hu1 hz1 hx hy
  have e2 := dep_spec 0 hu hz hx hy
  have e3 := attrs_spec 0 hu1 hz1 hx hy
  have e4 := attrs_spec 0 hu hz hx hy
  have e5 := dep_spec 0 hub hzb hx hy
  have e6 := attrs_spec 0 huf hzf hx hy
  have e7 := dep_spec 0 huf hzf hx hy
  have e8 := attrs_spec 0 hub hzb hx hy
  have d0 : dep flat x y = 0 := by
    unfold dep
    split
    · have : num flat (flat.1.2.2.1, flat.2.1.2.2.1, flat.2.2.2.2.1) (16 * x + 8) (16 * y + 8) = 0 := num_zero flat _ _
      rw [this]
      have h1 : lowZ flat = 0 := by show min (min (0 : Int) 0) 0 = 0; decide
      have h2 : highZ flat = 0 := by show max (max (0 : Int) 0) 0 = 0; decide
      rw [h1, h2]
      decide
    · rfl
  have db : dep bare x y = dep u x y := rfl
  have f : ∀ n, num flat n (16 * x + 8) (16 * y + 8) = num u n (16 * x + 8) (16 * y + 8) := fun _ => rfl
  rw [bite_t, e1, ob_some, e2, ob_some, bnd_eq, eq_t (dep_turn u x y), bite_t, e3, ob_some, e4, ob_some, bnd_eq, eq4 (num_turn u _ _ _ _ _) (num_turn u _ _ _ _ _) (num_turn u _ _ _ _ _) (num_turn u _ _ _ _ _), bite_t,
    e5, ob_some, ob_some, bnd_eq, eq_t db, bite_t, e6, ob_some, ob_some, bnd_eq, eq4 (f _) (f _) (f _) (f _), bite_t, e7, ob_some, bnd_eq, eq_t d0, bite_t, e8, ob_some, bnd_eq, eq4 (num_zero bare _ _) (num_zero bare _ _) (num_zero bare _ _) (num_zero bare _ _)]
end Go.Proofs.Ytcgkhlccmfbhnaa.planeTurns
