/- PlaneWithin holds. -/
import Derived.Test.YtcgkhlccmfbhnaaLawPlaneIn
set_option linter.unusedVariables false
namespace Go.Proofs.Ytcgkhlccmfbhnaa.planeWithin
open Go Go.RowKit Go.Proofs.Ytcgkhlccmfbhnaa.M Go.Proofs.Ytcgkhlccmfbhnaa.G

theorem law (x0 : (Ty.pair (.pair (.int .i64) (.pair (.int .i64) (.pair (.int .i64) (.pair (.int .i64) (.pair (.int .i64) (.pair (.int .i64) (.int .i64))))))) (.pair (.pair (.int .i64) (.pair (.int .i64) (.pair (.int .i64) (.pair (.int .i64) (.pair (.int .i64) (.pair (.int .i64) (.int .i64))))))) (.pair (.int .i64) (.pair (.int .i64) (.pair (.int .i64) (.pair (.int .i64) (.pair (.int .i64) (.pair (.int .i64) (.int .i64))))))))).T)
    (x1 : (Ty.pair (.int .i64) (.pair (.int .i64) (.int .i64))).T) (x2 : (Ty.pair (.int .i64) (.int .i64)).T) (h0 : okT _ x0) (h1 : okT _ x1) (h2 : okT _ x2) : ∃ fl, glazierlaw09_PlaneWithin fl x0 x1 x2 = some true := by
  refine ⟨0, ?_⟩
  unfold glazierlaw09_PlaneWithin
  rw [shownP]
  simp only [ob_some, bnd_eq]
  obtain ⟨v, ev, v1, v2⟩ := three_spec x0
  rw [ev]
  simp only [ob_some]
  obtain ⟨u, b, eu, hu⟩ := turned_spec v1 v2
  obtain ⟨k, ek, k1, k2, k3⟩ := law_small x1
  rw [eu, ek]
  simp only [ob_some]
  cases b with
  | false => rfl
  | true =>
    obtain ⟨hu, _, ha⟩ := hu rfl
    have hx := near_rem x2.1
    have hy := near_rem x2.2
    obtain ⟨x, ex⟩ : ∃ x, x = F.rem x2.1 16385 := ⟨_, rfl⟩
    obtain ⟨y, ey⟩ : ∃ x, x = F.rem x2.2 16385 := ⟨_, rfl⟩
    rw [← ex] at hx ⊢
    rw [← ey] at hy ⊢
    rw [not_t, bite_f]
    have m1 : small30 k.1 := by unfold small30; omega
    have m2 : small30 k.2.1 := by unfold small30; omega
    have m3 : small30 k.2.2 := by unfold small30; omega
    have n1 : small30 (k.1 + 1) := by unfold small30; omega
    have n2 : small30 (k.2.1 + 1) := by unfold small30; omega
    have n3 : small30 (k.2.2 + 1) := by unfold small30; omega
    rw [at_is 0 hu ha m1 m2 m3 hx hy]
    simp only [ob_some]
    rw [addI (a := k.1) (by omega), addI (a := k.2.1) (by omega), addI (a := k.2.2) (by omega), at_is 0 (n := (k.1 + 1, k.2.1 + 1, k.2.2 + 1)) hu ha n1 n2 n3 hx hy]
    simp only [ob_some]
    obtain ⟨b, eb, hb⟩ := in_spec hu hx hy
    rw [eb]
    simp only [ob_some, bite_t]
    have e : weigh u (k.1 + 1, k.2.1 + 1, k.2.2 + 1) x y = weigh u k x y + area u := by rw [← crs_sum u x y]; unfold weigh; grind
    have d := fdiv_in (p := weigh u k x y) ha
    rw [e, fdiv_at (p := weigh u k x y + area u) (q := Int.fdiv (weigh u k x y) (area u) + 1) ha (by rw [Int.mul_add]; omega) (by rw [Int.mul_add]; omega)]
    have hw : -6917529034083532800 ≤ Int.fdiv (weigh u k x y) (area u) ∧ Int.fdiv (weigh u k x y) (area u) ≤ 6917529034083532800 := by
      have i0 := crs_in hu.2.1 hu.2.2 hx hy
      have i1 := crs_in hu.2.2 hu.1 hx hy
      have i2 := crs_in hu.1 hu.2.1 hx hy
      have p0 := mul_in2 m1 (b := crs u.2.1 u.2.2 x y) (n := 2147483648) (by omega)
      have p1 := mul_in2 m2 (b := crs u.2.2 u.1 x y) (n := 2147483648) (by omega)
      have p2 := mul_in2 m3 (b := crs u.1 u.2.1 x y) (n := 2147483648) (by omega)
      refine fdiv_lim ha ?_ ?_ (by decide) <;> (unfold weigh; omega)
    rw [addI (by omega), eq_t rfl, bite_t]
    cases b with
    | false => rfl
    | true =>
      obtain ⟨c0, c1, c2⟩ := hb rfl
      rw [not_t, bite_f, f_min, f_min, f_max, f_max, ge_t (weigh_lo ha c0 c1 c2 (by omega) (by omega) (by omega)), bite_t, le_t (weigh_hi ha c0 c1 c2 (by omega) (by omega) (by omega))]
end Go.Proofs.Ytcgkhlccmfbhnaa.planeWithin
