/- PlaneHeld holds. -/
import Derived.Test.YtcgkhlccmfbhnaaLawPlaneIn
set_option linter.unusedVariables false
namespace Go.Proofs.Ytcgkhlccmfbhnaa.planeHeld
open Go Go.RowKit Go.Proofs.Ytcgkhlccmfbhnaa.M Go.Proofs.Ytcgkhlccmfbhnaa.G

theorem rem513 (n : Int) : -512 ≤ F.rem n 513 ∧ F.rem n 513 ≤ 512 := by
  have := tmod_lt (a := n) (m := 513) (by decide)
  unfold F.rem
  omega

theorem law (x0 : (Ty.pair (.pair (.int .i64) (.pair (.int .i64) (.pair (.int .i64) (.pair (.int .i64) (.pair (.int .i64) (.pair (.int .i64) (.int .i64))))))) (.pair (.pair (.int .i64) (.pair (.int .i64) (.pair (.int .i64) (.pair (.int .i64) (.pair (.int .i64) (.pair (.int .i64) (.int .i64))))))) (.pair (.int .i64) (.pair (.int .i64) (.pair (.int .i64) (.pair (.int .i64) (.pair (.int .i64) (.pair (.int .i64) (.int .i64))))))))).T)
    (x1 : (Ty.pair (.int .i64) (.int .i64)).T) (h0 : okT _ x0) (h1 : okT _ x1) : ∃ fl, glazierlaw09_PlaneHeld fl x0 x1 = some true := by
  refine ⟨0, ?_⟩
  unfold glazierlaw09_PlaneHeld
  rw [shownP]
  simp only [ob_some, bnd_eq]
  obtain ⟨v, ev, v1, v2⟩ := three_spec x0
  rw [ev]
  simp only [ob_some]
  obtain ⟨u, b, eu, hu⟩ := turned_spec v1 v2
  rw [eu]
  simp only [ob_some]
  cases b with
  | false => rfl
  | true =>
    obtain ⟨hu, hz, ha⟩ := hu rfl
    have hx := rem513 x1.1
    have hy := rem513 x1.2
    obtain ⟨x, ex⟩ : ∃ x, x = F.rem x1.1 513 := ⟨_, rfl⟩
    obtain ⟨y, ey⟩ : ∃ x, x = F.rem x1.2 513 := ⟨_, rfl⟩
    rw [← ex] at hx ⊢
    rw [← ey] at hy ⊢
    rw [not_t, bite_f, depth_spec 0 hu hz ha hx hy]
    simp only [ob_some]
    have nx : near (16 * x + 8) := ⟨by omega, by omega⟩
    have ny : near (16 * y + 8) := ⟨by omega, by omega⟩
    rw [mulI (a := 16) (b := x) (by omega), mulI (a := 16) (b := y) (by omega), addI (a := 16 * x) (by omega), addI (a := 16 * y) (by omega)]
    obtain ⟨b, eb, hb⟩ := in_spec hu nx ny
    rw [eb]
    simp only [ob_some]
    have z1 := hz.1.1
    have z2 := hz.2.1.1
    have z3 := hz.2.2.1
    rw [at_is 0 (n := (u.1.2.2.1, u.2.1.2.2.1, u.2.2.2.2.1)) hu ha ⟨by dsimp only; omega, by dsimp only; omega⟩ ⟨by dsimp only; omega, by dsimp only; omega⟩ ⟨by dsimp only; omega, by dsimp only; omega⟩ nx ny]
    simp only [ob_some, bite_t, f_min, f_max]
    obtain ⟨z, ez⟩ : ∃ z, z = Int.fdiv (weigh u (u.1.2.2.1, u.2.1.2.2.1, u.2.2.2.2.1) (16 * x + 8) (16 * y + 8)) (area u) := ⟨_, rfl⟩
    rw [← ez]
    rw [ge_t (by unfold lowZ highZ; omega), bite_t, le_t (by unfold lowZ highZ; omega), bite_t]
    -- one that lies flat
    have flat : plane_Depth 0 (u.1, ((u.2.1.1, (u.2.1.2.1, (u.1.2.2.1, u.2.1.2.2.2))), (u.2.2.1, (u.2.2.2.1, (u.1.2.2.1, u.2.2.2.2.2))))) x y = some u.1.2.2.1 := by
      have hu' : okTri (u.1, ((u.2.1.1, (u.2.1.2.1, (u.1.2.2.1, u.2.1.2.2.2))), (u.2.2.1, (u.2.2.2.1, (u.1.2.2.1, u.2.2.2.2.2))))) := hu
      have hz' : okTriZ (u.1, ((u.2.1.1, (u.2.1.2.1, (u.1.2.2.1, u.2.1.2.2.2))), (u.2.2.1, (u.2.2.2.1, (u.1.2.2.1, u.2.2.2.2.2))))) := ⟨hz.1, ⟨hz.1.1, hz.2.1.2⟩, ⟨hz.1.1, hz.2.2.2⟩⟩
      have ha' : 0 < area (u.1, ((u.2.1.1, (u.2.1.2.1, (u.1.2.2.1, u.2.1.2.2.2))), (u.2.2.1, (u.2.2.2.1, (u.1.2.2.1, u.2.2.2.2.2))))) := ha
      rw [depth_spec 0 hu' hz' ha' hx hy]
      have e := crs_sum (u.1, ((u.2.1.1, (u.2.1.2.1, (u.1.2.2.1, u.2.1.2.2.2))), (u.2.2.1, (u.2.2.2.1, (u.1.2.2.1, u.2.2.2.2.2))))) (16 * x + 8) (16 * y + 8)
      have w : weigh (u.1, ((u.2.1.1, (u.2.1.2.1, (u.1.2.2.1, u.2.1.2.2.2))), (u.2.2.1, (u.2.2.2.1, (u.1.2.2.1, u.2.2.2.2.2))))) (u.1.2.2.1, u.1.2.2.1, u.1.2.2.1) (16 * x + 8) (16 * y + 8) = area (u.1, ((u.2.1.1, (u.2.1.2.1, (u.1.2.2.1, u.2.1.2.2.2))), (u.2.2.1, (u.2.2.2.1, (u.1.2.2.1, u.2.2.2.2.2))))) * u.1.2.2.1 + 0 := by
        rw [← e]; unfold weigh; grind
      rw [fdiv_pos ha' w (by omega) ha']
      unfold lowZ highZ
      dsimp only
      congr 1
      omega
    cases b with
    | false => rw [not_f, bite_t, flat]; simp only [ob_some]; rw [eq_t rfl]
    | true =>
      obtain ⟨c0, c1, c2⟩ := hb rfl
      have l := weigh_lo (n := (u.1.2.2.1, u.2.1.2.2.1, u.2.2.2.2.1)) (m := lowZ u) ha c0 c1 c2 (by unfold lowZ; dsimp only; omega) (by unfold lowZ; dsimp only; omega) (by unfold lowZ; dsimp only; omega)
      have h := weigh_hi (n := (u.1.2.2.1, u.2.1.2.2.1, u.2.2.2.2.1)) (m := highZ u) ha c0 c1 c2 (by unfold highZ; dsimp only; omega) (by unfold highZ; dsimp only; omega) (by unfold highZ; dsimp only; omega)
      rw [← ez] at l h
      rw [not_t, bite_f, eq_t (by omega), bite_t, flat]
      simp only [ob_some]
      rw [eq_t rfl]
end Go.Proofs.Ytcgkhlccmfbhnaa.planeHeld
