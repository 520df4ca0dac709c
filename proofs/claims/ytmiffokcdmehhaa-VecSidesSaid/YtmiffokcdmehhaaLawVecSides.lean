/- Planes that stand opposite each other are far apart. -/
import Derived.Test.YtmiffokcdmehhaaLawVec
set_option linter.unusedVariables false
namespace Go.Proofs.Ytmiffokcdmehhaa.vecSides
open Go Go.RowKit Go.Proofs.Ytmiffokcdmehhaa.E Go.Proofs.Ytmiffokcdmehhaa.G

theorem law (x0 : T_api_Vec) (o0 : x0.ok) : glazierlaw04_VecSides x0 = some true := by
  obtain ⟨a, ha, fa⟩ := fit_spec x0
  have sa := fa.sm
  obtain ⟨a0, a1, a2, a3, _⟩ := fa
  unfold glazierlaw04_VecSides
  rw [shown04, ha]
  simp only [Option.bind_some, bnd]
  have w4 : IntKind.wrap .i64 (4 * a.c3) = 4 * a.c3 := wrapI (by omega) (by omega)
  have w5 : IntKind.wrap .i64 (4 * a.c3 + 1) = 4 * a.c3 + 1 := wrapI (by omega) (by omega)
  have w1 : IntKind.wrap .i64 (a.c3 + 1) = a.c3 + 1 := wrapI (by omega) (by omega)
  simp only [w4, w5, w1]
  obtain ⟨b0, e0⟩ : ∃ b, b = Int.tmod a.c0 (4 * a.c3 + 1) := ⟨_, rfl⟩
  obtain ⟨b1, e1⟩ : ∃ b, b = Int.tmod a.c1 (4 * a.c3 + 1) := ⟨_, rfl⟩
  obtain ⟨b2, e2⟩ : ∃ b, b = Int.tmod a.c2 (a.c3 + 1) := ⟨_, rfl⟩
  have h0 := tmod_lt (a := a.c0) (m := 4 * a.c3 + 1) (by omega)
  have h1 := tmod_lt (a := a.c1) (m := 4 * a.c3 + 1) (by omega)
  have h2 := tmod_lt (a := a.c2) (m := a.c3 + 1) (by omega)
  rw [← e0] at h0
  rw [← e1] at h1
  rw [← e2] at h2
  simp only [← e0, ← e1, ← e2]
  have ss : (⟨b0, b1, b2, a.c3, a.c4, a.c5, a.c6, a.c7⟩ : T_api_Vec).sm := ⟨by simp only; omega, by simp only; omega, by simp only; omega, by simp only; omega⟩
  have dn : ∀ p : Int, p = 0 ∨ p = 1 ∨ p = 2 ∨ p = 3 ∨ p = 4 → 0 ≤ distS p ⟨b0, b1, b2, a.c3, a.c4, a.c5, a.c6, a.c7⟩ := fun p hp => by
    rcases hp with rfl | rfl | rfl | rfl | rfl <;> simp [distS] <;> omega
  have bt : ∀ p : Int, p = 0 ∨ p = 1 ∨ p = 2 ∨ p = 3 ∨ p = 4 → vec_Between ⟨b0, b1, b2, a.c3, a.c4, a.c5, a.c6, a.c7⟩ ⟨b0, b1, b2, a.c3, a.c4, a.c5, a.c6, a.c7⟩ p = some (T_api_Vec.none, false) := fun p hp => between_none _ _ p ss ss (.inr (.inr (.inr (dn p hp))))
  have d1 : IntKind.wrap .i64 (distS 1 a + distS 2 a) = IntKind.wrap .i64 (8 * a.c3) := by simp [distS]; congr 1; omega
  have d2 : IntKind.wrap .i64 (distS 3 a + distS 4 a) = IntKind.wrap .i64 (8 * a.c3) := by simp [distS]; congr 1; omega
  have d3 : distS 5 a = 0 := by simp [distS]
  have d4 : distS (-1) a = 0 := by simp [distS]
  have n0 := dn 0 (by omega)
  have n1 := dn 1 (by omega)
  have n2 := dn 2 (by omega)
  have n3 := dn 3 (by omega)
  have n4 := dn 4 (by omega)
  simp only [dist_spec _ _ sa, dist_spec _ _ ss, bt 0 (by omega), bt 1 (by omega), bt 2 (by omega), bt 3 (by omega), bt 4 (by omega), Option.bind_some, d1, d2, d3, d4]
  rw [if_neg (by simp), if_neg (by simp), if_neg (by simp), if_neg (by simp), if_pos (by omega), if_pos (by omega), if_pos (by omega)]
  rw [if_neg (by simp; omega), if_neg (by simp), if_neg (by simp; omega), if_neg (by simp), if_neg (by simp; omega), if_neg (by simp), if_neg (by simp; omega), if_neg (by simp), if_neg (by simp; omega), if_neg (by simp)]

end Go.Proofs.Ytmiffokcdmehhaa.vecSides
