/- A vertex that lies on a plane is what is between it and any one outside. -/
import Derived.Test.YtmiffokcdmehhaaLawBetween
set_option linter.unusedVariables false
namespace Go.Proofs.Ytmiffokcdmehhaa.vecEnds
open Go Go.RowKit Go.Proofs.Ytmiffokcdmehhaa.E Go.Proofs.Ytmiffokcdmehhaa.G

theorem mix0 (e x y : Int) : mix 0 e x y = x := by
  unfold mix
  rw [Int.mul_zero, Int.zero_fdiv, Int.add_zero]

theorem betw0 {p : Int} {a b : T_api_Vec} (h : distS p a = 0) : betwS p a b = a := by
  unfold betwS
  rw [h]
  simp only [mix0]

theorem j1_spec (x1 v4 j13 j14 : Int) (q2 b : T_api_Vec) (p : Int) (hp : p = Int.tmod (IntKind.wrap .i64 x1) 5) (hp0 : 0 ≤ p ∧ p < 5) (fb : b.fit) (a : T_api_Vec)
    (ea : a = ⟨j13, j14, v4, IntKind.wrap .i64 (1 + Int.tmod q2.c3 100), q2.c4, q2.c5, q2.c6, q2.c7⟩) (ha : a.s20) (hd : distS p a = 0) : glazierlaw04_VecEnds_j1 true x1 v4 q2 b j13 j14 = some true := by
  unfold glazierlaw04_VecEnds_j1
  simp only [← ea, ← hp]
  have hb := fb.s20
  have hbare : (⟨b.c0, b.c1, b.c2, b.c3, 0, 0, 0, 0⟩ : T_api_Vec).s20 := by
    obtain ⟨h0, h1, h2, h3, _⟩ := hb
    exact ⟨h0, h1, h2, h3, by simp only; omega, by simp only; omega, by simp only; omega, by simp only; omega⟩
  have ebare : distS p ⟨b.c0, b.c1, b.c2, b.c3, 0, 0, 0, 0⟩ = distS p b := rfl
  rw [dist_spec _ _ ha.sm, dist_spec _ _ hb.sm, hd, between_none b a p hb.sm ha.sm (by omega), between_none a b 5 ha.sm hb.sm (by omega)]
  simp only [Option.bind_some]
  rw [if_neg (by simp)]
  by_cases he : distS p b < 0
  · rw [between_some a b p ha hb hp0.1 hp0.2 (by omega) he, between_some a _ p ha hbare hp0.1 hp0.2 (by omega) (by rw [ebare]; exact he), betw0 hd, betw0 hd]
    simp [he]
  · rw [between_none a b p ha.sm hb.sm (by omega), between_none a _ p ha.sm hbare.sm (by rw [ebare]; omega)]
    simp [he]

theorem law (x0 : T_2_api_Vec) (x1 : Int) (o0 : x0.ok) (o1 : inR .u8 x1) : glazierlaw04_VecEnds x0 x1 = some true := by
  rw [inR_u8] at o1
  obtain ⟨a, ha, fa⟩ := fit_spec ⟨x0.c0, x0.c1, x0.c2, x0.c3, x0.c4, x0.c5, x0.c6, x0.c7⟩
  obtain ⟨b, hb, fb⟩ := fit_spec ⟨x0.c8, x0.c9, x0.c10, x0.c11, x0.c12, x0.c13, x0.c14, x0.c15⟩
  obtain ⟨a0, a1, a2, a3, a4, a5, a6, a7⟩ := fa
  have hw : IntKind.wrap .i64 x1 = x1 := wrapI (by omega) (by omega)
  obtain ⟨p, hp⟩ : ∃ p, p = Int.tmod (IntKind.wrap .i64 x1) 5 := ⟨_, rfl⟩
  have hp0 : 0 ≤ p ∧ p < 5 := by
    have h1 := tmod_lt (a := x1) (m := 5) (by omega)
    have h2 := Int.tmod_nonneg (5 : Int) o1.1
    rw [hw] at hp
    omega
  have m3 := tmod_lt (a := a.c3) (m := 100) (by omega)
  have m3' := Int.tmod_nonneg (100 : Int) (show 0 ≤ a.c3 by omega)
  have m0 := tmod_lt (a := a.c0) (m := 100) (by omega)
  have m1 := tmod_lt (a := a.c1) (m := 100) (by omega)
  have w3 : IntKind.wrap .i64 (1 + Int.tmod a.c3 100) = 1 + Int.tmod a.c3 100 := wrapI (by omega) (by omega)
  have w4 : IntKind.wrap .i64 (0 - (1 + Int.tmod a.c3 100)) = 0 - (1 + Int.tmod a.c3 100) := wrapI (by omega) (by omega)
  have w5 : IntKind.wrap .i64 ((-4) * (1 + Int.tmod a.c3 100)) = (-4) * (1 + Int.tmod a.c3 100) := wrapI (by omega) (by omega)
  have w6 : IntKind.wrap .i64 (4 * (1 + Int.tmod a.c3 100)) = 4 * (1 + Int.tmod a.c3 100) := wrapI (by omega) (by omega)
  have go : ∀ j13 j14 : Int, -500 ≤ j13 ∧ j13 ≤ 500 → -500 ≤ j14 ∧ j14 ≤ 500 → distS p ⟨j13, j14, 0 - (1 + Int.tmod a.c3 100), 1 + Int.tmod a.c3 100, a.c4, a.c5, a.c6, a.c7⟩ = 0 → glazierlaw04_VecEnds_j1 true x1 (0 - (1 + Int.tmod a.c3 100)) a b j13 j14 = some true := fun j13 j14 h1 h2 h3 =>
    j1_spec x1 _ j13 j14 a b p hp hp0 fb _ rfl (by rw [w3]; exact ⟨by simp only; omega, by simp only; omega, by simp only; omega, by simp only; omega, by simp only; omega, by simp only; omega, by simp only; omega, by simp only; omega⟩) (by rw [w3]; exact h3)
  unfold glazierlaw04_VecEnds
  rw [shown04, ha, hb]
  simp only [Option.bind_some, bnd, w3, w4, w5, w6, ← hp]
  have : p = 0 ∨ p = 1 ∨ p = 2 ∨ p = 3 ∨ p = 4 := by omega
  rcases this with rfl | rfl | rfl | rfl | rfl
  · exact go _ _ (by omega) (by omega) (by simp [distS]; omega)
  · exact go _ _ (by omega) (by omega) (by simp [distS]; omega)
  · exact go _ _ (by omega) (by omega) (by simp [distS])
  · exact go _ _ (by omega) (by omega) (by simp [distS]; omega)
  · exact go _ _ (by omega) (by omega) (by simp [distS])

end Go.Proofs.Ytmiffokcdmehhaa.vecEnds
