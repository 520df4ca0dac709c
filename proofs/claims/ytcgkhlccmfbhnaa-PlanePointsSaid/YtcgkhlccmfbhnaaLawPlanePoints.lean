/- PlanePoints holds. -/
import Derived.Test.YtcgkhlccmfbhnaaLawPlane
set_option linter.unusedVariables false
namespace Go.Proofs.Ytcgkhlccmfbhnaa.planePoints
open Go Go.RowKit Go.Proofs.Ytcgkhlccmfbhnaa.M Go.Proofs.Ytcgkhlccmfbhnaa.G

theorem law (x0 : (Ty.pair (.pair (.int .i64) (.pair (.int .i64) (.pair (.int .i64) (.pair (.int .i64) (.pair (.int .i64) (.pair (.int .i64) (.int .i64))))))) (.pair (.pair (.int .i64) (.pair (.int .i64) (.pair (.int .i64) (.pair (.int .i64) (.pair (.int .i64) (.pair (.int .i64) (.int .i64))))))) (.pair (.int .i64) (.pair (.int .i64) (.pair (.int .i64) (.pair (.int .i64) (.pair (.int .i64) (.pair (.int .i64) (.int .i64))))))))).T)
    (x1 : (Ty.pair (.int .i64) (.pair (.int .i64) (.int .i64))).T) (x2 : (Ty.pair (.int .i64) (.int .i64)).T) (h0 : okT _ x0) (h1 : okT _ x1) (h2 : okT _ x2) : ∃ fl, glazierlaw09_PlanePoints fl x0 x1 x2 = some true := by
  refine ⟨0, ?_⟩
  unfold glazierlaw09_PlanePoints
  rw [shownP]
  simp only [ob_some, bnd_eq]
  obtain ⟨u, eu, hu, hz⟩ := three_spec x0
  obtain ⟨k, ek, k1, k2, k3⟩ := law_small x1
  rw [eu, ek]
  simp only [ob_some]
  have hx := near_rem x2.1
  have hy := near_rem x2.2
  obtain ⟨x, ex⟩ : ∃ x, x = F.rem x2.1 16385 := ⟨_, rfl⟩
  obtain ⟨y, ey⟩ : ∃ x, x = F.rem x2.2 16385 := ⟨_, rfl⟩
  rw [← ex] at hx ⊢
  rw [← ey] at hy ⊢
  rw [ref_area hu]
  simp only [ob_some]
  rcases Int.lt_or_le 0 (area u) with ha | ha
  · rw [le_f ha, bite_f]
    have m1 : small30 k.1 := by unfold small30; omega
    have m2 : small30 k.2.1 := by unfold small30; omega
    have m3 : small30 k.2.2 := by unfold small30; omega
    have w1 : weigh u k u.1.1 u.1.2.1 = area u * k.1 + 0 := by unfold weigh area crs; grind
    have w2 : weigh u k u.2.1.1 u.2.1.2.1 = area u * k.2.1 + 0 := by unfold weigh area crs; grind
    have w3 : weigh u k u.2.2.1 u.2.2.2.1 = area u * k.2.2 + 0 := by unfold weigh area crs; grind
    rw [at_is 0 hu ha m1 m2 m3 hu.1.1 hu.1.2, fdiv_pos ha w1 (by omega) ha]
    simp only [ob_some]
    rw [ne_f rfl, bite_f, at_is 0 hu ha m1 m2 m3 hu.2.1.1 hu.2.1.2, fdiv_pos ha w2 (by omega) ha]
    simp only [ob_some]
    rw [ne_f rfl, bite_f, at_is 0 hu ha m1 m2 m3 hu.2.2.1 hu.2.2.2, fdiv_pos ha w3 (by omega) ha]
    simp only [ob_some]
    rw [ne_f rfl, bite_f, bite_t, at_same 0 hu ha m1 hx hy]
    simp only [ob_some]
    rw [eq_t rfl]
  · rw [le_t ha, bite_t, bite_t, at_flat 0 hu ha]
    simp only [ob_some]
    rw [eq_t rfl, bite_t]
    unfold plane_Depth
    rw [edge_area hu]
    simp only [ob_some, bnd_eq]
    rw [le_t ha, bite_t]
    rfl
end Go.Proofs.Ytcgkhlccmfbhnaa.planePoints
