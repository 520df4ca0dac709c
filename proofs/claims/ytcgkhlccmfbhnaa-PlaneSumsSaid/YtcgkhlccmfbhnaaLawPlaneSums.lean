/- PlaneSums holds. -/
import Derived.Test.YtcgkhlccmfbhnaaLawPlane
set_option linter.unusedVariables false
namespace Go.Proofs.Ytcgkhlccmfbhnaa.planeSums
open Go Go.RowKit Go.Proofs.Ytcgkhlccmfbhnaa.M Go.Proofs.Ytcgkhlccmfbhnaa.G

theorem fdiv_sum {p q c : Int} (hc : 0 < c) : Int.fdiv (p + q) c - Int.fdiv p c - Int.fdiv q c = 0 ∨ Int.fdiv (p + q) c - Int.fdiv p c - Int.fdiv q c = 1 := by
  obtain ⟨a1, a2⟩ := fdiv_in (p := p) hc
  obtain ⟨b1, b2⟩ := fdiv_in (p := q) hc
  obtain ⟨c1, c2⟩ := fdiv_in (p := p + q) hc
  have h1 : c * (Int.fdiv (p + q) c) < c * (Int.fdiv p c + Int.fdiv q c + 2) := by rw [Int.mul_add, Int.mul_add]; omega
  have h2 : c * (Int.fdiv p c + Int.fdiv q c) < c * (Int.fdiv (p + q) c + 1) := by rw [Int.mul_add, Int.mul_add]; omega
  have h1 := Int.lt_of_mul_lt_mul_left h1 (by omega)
  have h2 := Int.lt_of_mul_lt_mul_left h2 (by omega)
  omega

theorem weigh_in {u : Tri} {n : Int × Int × Int} {x y : Int} (hu : okTri u) (h1 : small30 n.1) (h2 : small30 n.2.1) (h3 : small30 n.2.2) (hx : near x) (hy : near y) : -6917529034083532800 ≤ weigh u n x y ∧ weigh u n x y ≤ 6917529034083532800 := by
  have i0 := crs_in hu.2.1 hu.2.2 hx hy
  have i1 := crs_in hu.2.2 hu.1 hx hy
  have i2 := crs_in hu.1 hu.2.1 hx hy
  have p0 := mul_in2 h1 (b := crs u.2.1 u.2.2 x y) (n := 2147483648) (by omega)
  have p1 := mul_in2 h2 (b := crs u.2.2 u.1 x y) (n := 2147483648) (by omega)
  have p2 := mul_in2 h3 (b := crs u.1 u.2.1 x y) (n := 2147483648) (by omega)
  unfold weigh
  omega

theorem law (x0 : (Ty.pair (.pair (.int .i64) (.pair (.int .i64) (.pair (.int .i64) (.pair (.int .i64) (.pair (.int .i64) (.pair (.int .i64) (.int .i64))))))) (.pair (.pair (.int .i64) (.pair (.int .i64) (.pair (.int .i64) (.pair (.int .i64) (.pair (.int .i64) (.pair (.int .i64) (.int .i64))))))) (.pair (.int .i64) (.pair (.int .i64) (.pair (.int .i64) (.pair (.int .i64) (.pair (.int .i64) (.pair (.int .i64) (.int .i64))))))))).T)
    (x1 : (Ty.pair (.pair (.int .i64) (.pair (.int .i64) (.int .i64))) (.pair (.int .i64) (.pair (.int .i64) (.int .i64)))).T) (x2 : (Ty.pair (.int .i64) (.int .i64)).T) (h0 : okT _ x0) (h1 : okT _ x1) (h2 : okT _ x2) : ∃ fl, glazierlaw09_PlaneSums fl x0 x1 x2 = some true := by
  refine ⟨0, ?_⟩
  unfold glazierlaw09_PlaneSums
  rw [shownP]
  simp only [ob_some, bnd_eq]
  obtain ⟨v, ev, v1, v2⟩ := three_spec x0
  rw [ev]
  simp only [ob_some]
  obtain ⟨u, b, eu, hu⟩ := turned_spec v1 v2
  rw [eu]
  simp only [ob_some]
  cases b with
  | false => rfl
  | true =>
    obtain ⟨hu, _, ha⟩ := hu rfl
    have hx := near_rem x2.1
    have hy := near_rem x2.2
    obtain ⟨x, ex⟩ : ∃ x, x = F.rem x2.1 16385 := ⟨_, rfl⟩
    obtain ⟨y, ey⟩ : ∃ x, x = F.rem x2.2 16385 := ⟨_, rfl⟩
    rw [← ex] at hx ⊢
    rw [← ey] at hy ⊢
    rw [not_t, bite_f]
    have t1 := tmod_lt (a := x1.1.1) (m := 536870912) (by decide)
    have t2 := tmod_lt (a := x1.1.2.1) (m := 536870912) (by decide)
    have t3 := tmod_lt (a := x1.1.2.2) (m := 536870912) (by decide)
    have t4 := tmod_lt (a := x1.2.1) (m := 536870912) (by decide)
    have t5 := tmod_lt (a := x1.2.2.1) (m := 536870912) (by decide)
    have t6 := tmod_lt (a := x1.2.2.2) (m := 536870912) (by decide)
    simp only [F.rem]
    obtain ⟨a1, e1⟩ : ∃ x, x = Int.tmod x1.1.1 536870912 := ⟨_, rfl⟩
    obtain ⟨a2, e2⟩ : ∃ x, x = Int.tmod x1.1.2.1 536870912 := ⟨_, rfl⟩
    obtain ⟨a3, e3⟩ : ∃ x, x = Int.tmod x1.1.2.2 536870912 := ⟨_, rfl⟩
    obtain ⟨b1, f1⟩ : ∃ x, x = Int.tmod x1.2.1 536870912 := ⟨_, rfl⟩
    obtain ⟨b2, f2⟩ : ∃ x, x = Int.tmod x1.2.2.1 536870912 := ⟨_, rfl⟩
    obtain ⟨b3, f3⟩ : ∃ x, x = Int.tmod x1.2.2.2 536870912 := ⟨_, rfl⟩
    rw [← e1, ← e2, ← e3, ← f1, ← f2, ← f3]
    rw [← e1] at t1
    rw [← e2] at t2
    rw [← e3] at t3
    rw [← f1] at t4
    rw [← f2] at t5
    rw [← f3] at t6
    rw [addI (a := a1) (by omega), addI (a := a2) (by omega), addI (a := a3) (by omega)]
    have k1 : small30 a1 ∧ small30 a2 ∧ small30 a3 ∧ small30 b1 ∧ small30 b2 ∧ small30 b3 ∧ small30 (a1 + b1) ∧ small30 (a2 + b2) ∧ small30 (a3 + b3) := by unfold small30; omega
    obtain ⟨k1, k2, k3, k4, k5, k6, k7, k8, k9⟩ := k1
    rw [at_is 0 (n := (a1 + b1, a2 + b2, a3 + b3)) hu ha k7 k8 k9 hx hy, at_is 0 (n := (a1, a2, a3)) hu ha k1 k2 k3 hx hy, at_is 0 (n := (b1, b2, b3)) hu ha k4 k5 k6 hx hy]
    simp only [ob_some]
    have hs : weigh u (a1 + b1, a2 + b2, a3 + b3) x y = weigh u (a1, a2, a3) x y + weigh u (b1, b2, b3) x y := by unfold weigh; grind
    rw [hs]
    have W1 := weigh_in (n := (a1, a2, a3)) hu k1 k2 k3 hx hy
    have W2 := weigh_in (n := (b1, b2, b3)) hu k4 k5 k6 hx hy
    have W3 := weigh_in (n := (a1 + b1, a2 + b2, a3 + b3)) hu k7 k8 k9 hx hy
    rw [hs] at W3
    have s := fdiv_sum (p := weigh u (a1, a2, a3) x y) (q := weigh u (b1, b2, b3) x y) ha
    obtain ⟨S, eS⟩ : ∃ S, S = weigh u (a1, a2, a3) x y := ⟨_, rfl⟩
    obtain ⟨T, eT⟩ : ∃ S, S = weigh u (b1, b2, b3) x y := ⟨_, rfl⟩
    rw [← eS] at W1 W3 s ⊢
    rw [← eT] at W2 W3 s ⊢
    -- what is rounded keeps within what it is of: a quarter of it at least stays free
    have l1 := fdiv_lim (p := S) ha W1.1 W1.2 (by decide)
    have l2 := fdiv_lim (p := T) ha W2.1 W2.2 (by decide)
    have l3 := fdiv_lim (p := S + T) ha W3.1 W3.2 (by decide)
    obtain ⟨p, ep⟩ : ∃ p, p = Int.fdiv S (area u) := ⟨_, rfl⟩
    obtain ⟨q, eq⟩ : ∃ p, p = Int.fdiv T (area u) := ⟨_, rfl⟩
    obtain ⟨r, er⟩ : ∃ p, p = Int.fdiv (S + T) (area u) := ⟨_, rfl⟩
    rw [← ep] at l1 s ⊢
    rw [← eq] at l2 s ⊢
    rw [← er] at l3 s ⊢
    have hA := area_in hu
    rw [ref_area hu]
    simp only [ob_some]
    rw [subI (a := r) (b := p) (by omega), subI (a := r - p) (by omega)]
    have last : F.ge (area u) 1073741824 = false → obind (plane_At 0 u (0, (0, area u)) x y) (fun q43 => obind (glazierref07_Cross u.1 u.2.1 x y) fun q44 => some (F.eq q43 q44)) = some true := fun hg => by
      have hg : area u < 1073741824 := by unfold F.ge at hg; have := of_decide_eq_false hg; omega
      have z0 : small30 0 := ⟨by decide, by decide⟩
      have za : small30 (area u) := ⟨by omega, by omega⟩
      rw [at_is 0 (n := (0, 0, area u)) hu ha z0 z0 za hx hy, ref_cross hu.1 hu.2.1 hx hy]
      simp only [ob_some]
      have e : weigh u (0, 0, area u) x y = area u * crs u.1 u.2.1 x y + 0 := by unfold weigh; grind
      rw [fdiv_pos ha e (by omega) ha, eq_t rfl]
    cases hg : F.ge (area u) 1073741824 with
    | true =>
      simp only [bite_t]
      rcases s with s | s
      · rw [eq_t s]; rfl
      · rw [eq_f (by omega), eq_t s]; rfl
    | false =>
      simp only [bite_t, bite_f]
      have last := last hg
      rcases s with s | s
      · rw [eq_t (a := r - p - q) s, bite_t]; exact last
      · rw [eq_f (a := r - p - q) (by omega), bite_f, eq_t (a := r - p - q) s, bite_t]; exact last
end Go.Proofs.Ytcgkhlccmfbhnaa.planeSums
