/- What is between two vertices lies between them. -/
import Derived.Test.YtmiffokcdmehhaaLawBetween
set_option linter.unusedVariables false
namespace Go.Proofs.Ytmiffokcdmehhaa.vecBetween
open Go Go.RowKit Go.Proofs.Ytmiffokcdmehhaa.E Go.Proofs.Ytmiffokcdmehhaa.G

theorem mid {d e x y : Int} (hd : 0 ≤ d) (he : e < 0) : (if y < x then y else x) ≤ mix d e x y ∧ mix d e x y ≤ (if y > x then y else x) := by
  have h := mix_bound (x := x) (y := y) hd he
  rcases Int.le_total x y with k | k
  · have := h.1 k; split <;> split <;> omega
  · have := h.2 k; split <;> split <;> omega

/-- A number between is what the exact place is, less than one above. -/
theorem mix_exact {d e x y : Int} (hd : 0 ≤ d) (he : e < 0) : (d - e) * mix d e x y ≤ (d - e) * x + (y - x) * d ∧ (d - e) * x + (y - x) * d < (d - e) * mix d e x y + (d - e) := by
  have h0 : 0 < d - e := by omega
  unfold mix
  rw [Int.fdiv_eq_ediv_of_nonneg _ (by omega)]
  have h1 := Int.mul_ediv_add_emod ((y - x) * d) (d - e)
  have h2 := Int.emod_nonneg ((y - x) * d) (show d - e ≠ 0 by omega)
  have h3 := Int.emod_lt_of_pos ((y - x) * d) h0
  rw [Int.mul_add]
  omega

theorem small_of {D k : Int} (h0 : 0 < D) (h1 : D * k ≤ D) (h2 : -(5 * D) ≤ D * k) : -5 ≤ k ∧ k ≤ 5 := by
  constructor
  · rcases Int.lt_or_le k (-5) with h | h
    · have := Int.mul_le_mul_of_nonneg_left (show k ≤ -6 by omega) (show 0 ≤ D by omega)
      omega
    · exact h
  · rcases Int.lt_or_le 5 k with h | h
    · have := Int.mul_le_mul_of_nonneg_left (show 6 ≤ k by omega) (show 0 ≤ D by omega)
      omega
    · exact h

theorem lin (al be d e x y x' y' : Int) (hd : d = al * x + be * x') (he : e = al * y + be * y') : al * ((d - e) * x + (y - x) * d) + be * ((d - e) * x' + (y' - x') * d) = 0 := by
  have h1 : al * ((d - e) * x) + be * ((d - e) * x') = (d - e) * d := by
    rw [Int.mul_left_comm al, Int.mul_left_comm be, ← Int.mul_add, ← hd]
  have h2 : al * ((y - x) * d) + be * ((y' - x') * d) = (e - d) * d := by
    rw [← Int.mul_assoc, ← Int.mul_assoc, ← Int.add_mul, Int.mul_sub, Int.mul_sub]
    congr 1
    omega
  have h3 : (e - d) * d = -((d - e) * d) := by rw [← Int.neg_mul]; congr 1; omega
  rw [Int.mul_add, Int.mul_add]
  omega

theorem dist_small {p : Int} {a b : T_api_Vec} (hp : 0 ≤ p ∧ p < 5) (hd : 0 ≤ distS p a) (he : distS p b < 0) : -5 ≤ distS p (betwS p a b) ∧ distS p (betwS p a b) ≤ 5 := by
  obtain ⟨d, hdd⟩ : ∃ d, d = distS p a := ⟨_, rfl⟩
  obtain ⟨e, hee⟩ : ∃ e, e = distS p b := ⟨_, rfl⟩
  rw [← hdd] at hd
  rw [← hee] at he
  have h0 := mix_exact (x := a.c0) (y := b.c0) hd he
  have h1 := mix_exact (x := a.c1) (y := b.c1) hd he
  have h2 := mix_exact (x := a.c2) (y := b.c2) hd he
  have h3 := mix_exact (x := a.c3) (y := b.c3) hd he
  obtain ⟨v0, g0⟩ : ∃ v, v = mix d e a.c0 b.c0 := ⟨_, rfl⟩
  obtain ⟨v1, g1⟩ : ∃ v, v = mix d e a.c1 b.c1 := ⟨_, rfl⟩
  obtain ⟨v2, g2⟩ : ∃ v, v = mix d e a.c2 b.c2 := ⟨_, rfl⟩
  obtain ⟨v3, g3⟩ : ∃ v, v = mix d e a.c3 b.c3 := ⟨_, rfl⟩
  rw [← g0] at h0
  rw [← g1] at h1
  rw [← g2] at h2
  rw [← g3] at h3
  have hv : betwS p a b = ⟨v0, v1, v2, v3, mix d e a.c4 b.c4, mix d e a.c5 b.c5, mix d e a.c6 b.c6, mix d e a.c7 b.c7⟩ := by unfold betwS; rw [← hdd, ← hee, ← g0, ← g1, ← g2, ← g3]
  rw [hv]
  have : p = 0 ∨ p = 1 ∨ p = 2 ∨ p = 3 ∨ p = 4 := by omega
  rcases this with rfl | rfl | rfl | rfl | rfl
  · have k := lin 1 1 d e a.c2 b.c2 a.c3 b.c3 (by simp [distS] at hdd; omega) (by simp [distS] at hee; omega)
    have m : (d - e) * (v2 + v3) = (d - e) * v2 + (d - e) * v3 := Int.mul_add _ _ _
    exact small_of (D := d - e) (by omega) (by simp [distS]; omega) (by simp [distS]; omega)
  · have k := lin 4 1 d e a.c3 b.c3 a.c0 b.c0 (by simp [distS] at hdd; omega) (by simp [distS] at hee; omega)
    have m : (d - e) * (4 * v3 + v0) = 4 * ((d - e) * v3) + (d - e) * v0 := by rw [Int.mul_add, Int.mul_left_comm]
    exact small_of (D := d - e) (by omega) (by simp [distS]; omega) (by simp [distS]; omega)
  · have k := lin 4 (-1) d e a.c3 b.c3 a.c0 b.c0 (by simp [distS] at hdd; omega) (by simp [distS] at hee; omega)
    have m : (d - e) * (4 * v3 - v0) = 4 * ((d - e) * v3) - (d - e) * v0 := by rw [Int.mul_sub, Int.mul_left_comm]
    exact small_of (D := d - e) (by omega) (by simp [distS]; omega) (by simp [distS]; omega)
  · have k := lin 4 1 d e a.c3 b.c3 a.c1 b.c1 (by simp [distS] at hdd; omega) (by simp [distS] at hee; omega)
    have m : (d - e) * (4 * v3 + v1) = 4 * ((d - e) * v3) + (d - e) * v1 := by rw [Int.mul_add, Int.mul_left_comm]
    exact small_of (D := d - e) (by omega) (by simp [distS]; omega) (by simp [distS]; omega)
  · have k := lin 4 (-1) d e a.c3 b.c3 a.c1 b.c1 (by simp [distS] at hdd; omega) (by simp [distS] at hee; omega)
    have m : (d - e) * (4 * v3 - v1) = 4 * ((d - e) * v3) - (d - e) * v1 := by rw [Int.mul_sub, Int.mul_left_comm]
    exact small_of (D := d - e) (by omega) (by simp [distS]; omega) (by simp [distS]; omega)

theorem fit_mix {p : Int} {a b : T_api_Vec} (fa : a.fit) (fb : b.fit) (hd : 0 ≤ distS p a) (he : distS p b < 0) : (betwS p a b).fit := by
  obtain ⟨a0, a1, a2, a3, a4, a5, a6, a7⟩ := fa
  obtain ⟨b0, b1, b2, b3, b4, b5, b6, b7⟩ := fb
  have m := fun x y => mid (x := x) (y := y) hd he
  have w : ∀ x y l u : Int, (l ≤ x ∧ x ≤ u) → (l ≤ y ∧ y ≤ u) → l ≤ mix (distS p a) (distS p b) x y ∧ mix (distS p a) (distS p b) x y ≤ u := fun x y l u hx hy => by
    have := m x y
    split at this <;> split at this <;> omega
  exact ⟨w _ _ _ _ a0 b0, w _ _ _ _ a1 b1, w _ _ _ _ a2 b2, w _ _ _ _ a3 b3, w _ _ _ _ a4 b4, w _ _ _ _ a5 b5, w _ _ _ _ a6 b6, w _ _ _ _ a7 b7⟩

theorem j1_spec (x1 : Int) (p : Int) (hp : p = Int.tmod (IntKind.wrap .i64 x1) 5) (hp0 : 0 ≤ p ∧ p < 5) (a b : T_api_Vec) (fa : a.fit) (fb : b.fit) (q : T_api_Vec × Bool)
    (hq : q = (T_api_Vec.none, false) ∨ (q = (betwS p a b, true) ∧ 0 ≤ distS p a ∧ distS p b < 0)) : glazierlaw04_VecBetween_j1 true x1 q a b = some true := by
  unfold glazierlaw04_VecBetween_j1
  rcases hq with rfl | ⟨rfl, hd, he⟩
  · rfl
  · have fv := fit_mix fa fb hd he
    have ds := dist_small hp0 hd he
    have m0 := mid (x := a.c0) (y := b.c0) hd he
    have m3 := mid (x := a.c3) (y := b.c3) hd he
    have m6 := mid (x := a.c6) (y := b.c6) hd he
    unfold glazierlaw04_VecBetween_j2 glazierlaw04_VecBetween_j3 glazierlaw04_VecBetween_j4
    simp only [← hp, dist_spec _ _ fv.sm, right_spec, Option.bind_some]
    have c0 : (betwS p a b).c0 = mix (distS p a) (distS p b) a.c0 b.c0 := rfl
    have c3 : (betwS p a b).c3 = mix (distS p a) (distS p b) a.c3 b.c3 := rfl
    have c6 : (betwS p a b).c6 = mix (distS p a) (distS p b) a.c6 b.c6 := rfl
    rw [if_neg (by simp), c0, c3, c6, if_pos (by simpa using m0.1), if_pos (by simpa using m3.1), if_pos (by simpa using m6.1)]
    simp only [decide_eq_true m0.2, decide_eq_true m3.2, decide_eq_true m6.2, decide_eq_true fv, decide_eq_true (show distS p (betwS p a b) ≥ -5 from ds.1), decide_eq_true ds.2, if_true]

theorem law (x0 : T_2_api_Vec) (x1 : Int) (o0 : x0.ok) (o1 : inR .u8 x1) : glazierlaw04_VecBetween x0 x1 = some true := by
  rw [inR_u8] at o1
  obtain ⟨a, ha, fa⟩ := fit_spec ⟨x0.c0, x0.c1, x0.c2, x0.c3, x0.c4, x0.c5, x0.c6, x0.c7⟩
  obtain ⟨b, hb, fb⟩ := fit_spec ⟨x0.c8, x0.c9, x0.c10, x0.c11, x0.c12, x0.c13, x0.c14, x0.c15⟩
  have hw : IntKind.wrap .i64 x1 = x1 := wrapI (by omega) (by omega)
  obtain ⟨p, hp⟩ : ∃ p, p = Int.tmod (IntKind.wrap .i64 x1) 5 := ⟨_, rfl⟩
  have hp0 : 0 ≤ p ∧ p < 5 := by
    have h1 := tmod_lt (a := x1) (m := 5) (by omega)
    have h2 := Int.tmod_nonneg (5 : Int) o1.1
    rw [hw] at hp
    omega
  unfold glazierlaw04_VecBetween
  rw [shown04, ha, hb]
  simp only [Option.bind_some, ← hp, dist_spec _ _ fa.sm, dist_spec _ _ fb.sm, right_spec, decide_eq_true fa, decide_eq_true fb]
  by_cases hd : distS p a ≥ 0
  · by_cases he : distS p b < 0
    · rw [between_some a b p fa.s20 fb.s20 hp0.1 hp0.2 hd he]
      simp only [Option.bind_some]
      rw [if_pos (by simpa using hd), if_neg (by simp [he]), if_neg (by simp), if_neg (by simp)]
      exact j1_spec x1 p hp hp0 a b fa fb _ (.inr ⟨rfl, hd, he⟩)
    · rw [between_none a b p fa.sm fb.sm (by omega)]
      simp only [Option.bind_some]
      rw [if_pos (by simpa using hd), if_neg (by simp [he]), if_neg (by simp), if_neg (by simp)]
      exact j1_spec x1 p hp hp0 a b fa fb _ (.inl rfl)
  · rw [between_none a b p fa.sm fb.sm (by omega)]
    simp only [Option.bind_some]
    rw [if_neg (by simpa using hd), if_neg (by simp), if_neg (by simp), if_neg (by simp)]
    exact j1_spec x1 p hp hp0 a b fa fb _ (.inl rfl)

end Go.Proofs.Ytmiffokcdmehhaa.vecBetween
