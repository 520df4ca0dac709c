/- How far a vertex is inside goes together with its numbers. -/
import Derived.Test.YtmiffokcdmehhaaLawVec
set_option linter.unusedVariables false
namespace Go.Proofs.Ytmiffokcdmehhaa.vecSums
open Go Go.RowKit Go.Proofs.Ytmiffokcdmehhaa.E Go.Proofs.Ytmiffokcdmehhaa.G

theorem law (x0 : T_2_api_Vec) (x1 : Int) (o0 : x0.ok) (o1 : inR .u8 x1) : glazierlaw04_VecSums x0 x1 = some true := by
  rw [inR_u8] at o1
  obtain ⟨a, ha, fa⟩ := fit_spec ⟨x0.c0, x0.c1, x0.c2, x0.c3, x0.c4, x0.c5, x0.c6, x0.c7⟩
  obtain ⟨b, hb, fb⟩ := fit_spec ⟨x0.c8, x0.c9, x0.c10, x0.c11, x0.c12, x0.c13, x0.c14, x0.c15⟩
  have sa := fa.sm
  have sb := fb.sm
  obtain ⟨a0, a1, a2, a3, _⟩ := fa
  obtain ⟨b0, b1, b2, b3, _⟩ := fb
  have hw : IntKind.wrap .i64 x1 = x1 := wrapI (by omega) (by omega)
  obtain ⟨n, hn⟩ : ∃ n, n = Int.tmod x1 16 := ⟨_, rfl⟩
  have hn0 : 0 ≤ n ∧ n ≤ 15 := by
    have h1 := tmod_lt (a := x1) (m := 16) (by omega)
    have h2 := Int.tmod_nonneg (16 : Int) o1.1
    omega
  unfold glazierlaw04_VecSums
  rw [shown04, ha, hb]
  simp only [Option.bind_some, hw, ← hn, bnd]
  have bd : ∀ c : Int, -32768 ≤ c ∧ c ≤ 32768 → -524288 ≤ n * c ∧ n * c ≤ 524288 := fun c hc => by
    have h1 : n * c ≤ 15 * 32768 := by
      rcases Int.le_total 0 c with h | h
      · exact Int.mul_le_mul hn0.2 hc.2 h (by omega)
      · have := Int.mul_nonpos_of_nonneg_of_nonpos hn0.1 h
        omega
    have h2 : n * (-c) ≤ 15 * 32768 := by
      rcases Int.le_total 0 (-c) with h | h
      · exact Int.mul_le_mul hn0.2 (by omega) h (by omega)
      · have := Int.mul_nonpos_of_nonneg_of_nonpos hn0.1 h
        omega
    rw [Int.mul_neg] at h2
    omega
  have m0 := bd a.c0 a0
  have m1 := bd a.c1 a1
  have m2 := bd a.c2 a2
  have m3 := bd a.c3 (by omega)
  have w0 : IntKind.wrap .i64 (n * a.c0) = n * a.c0 := wrapI (by omega) (by omega)
  have w1 : IntKind.wrap .i64 (n * a.c1) = n * a.c1 := wrapI (by omega) (by omega)
  have w2 : IntKind.wrap .i64 (n * a.c2) = n * a.c2 := wrapI (by omega) (by omega)
  have w3 : IntKind.wrap .i64 (n * a.c3) = n * a.c3 := wrapI (by omega) (by omega)
  have u0 : IntKind.wrap .i64 (a.c0 + b.c0) = a.c0 + b.c0 := wrapI (by omega) (by omega)
  have u1 : IntKind.wrap .i64 (a.c1 + b.c1) = a.c1 + b.c1 := wrapI (by omega) (by omega)
  have u2 : IntKind.wrap .i64 (a.c2 + b.c2) = a.c2 + b.c2 := wrapI (by omega) (by omega)
  have u3 : IntKind.wrap .i64 (a.c3 + b.c3) = a.c3 + b.c3 := wrapI (by omega) (by omega)
  simp only [w0, w1, w2, w3, u0, u1, u2, u3]
  have ss : (⟨a.c0 + b.c0, a.c1 + b.c1, a.c2 + b.c2, a.c3 + b.c3, 0, 0, 0, 0⟩ : T_api_Vec).sm := ⟨by simp only; omega, by simp only; omega, by simp only; omega, by simp only; omega⟩
  have sn : (⟨n * a.c0, n * a.c1, n * a.c2, n * a.c3, 0, 0, 0, 0⟩ : T_api_Vec).sm := ⟨by simp only; omega, by simp only; omega, by simp only; omega, by simp only; omega⟩
  have t1 : vec_Dist 0 ⟨0, 0, 3, 4, 0, 0, 0, 0⟩ = some 7 := by kernel_rfl
  have t2 : vec_Dist 2 ⟨3, 0, 0, 4, 0, 0, 0, 0⟩ = some 13 := by kernel_rfl
  have t3 : vec_Dist 4 ⟨0, 3, 0, 4, 0, 0, 0, 0⟩ = some 13 := by kernel_rfl
  rw [t1, t2, t3]
  simp only [dist_spec _ _ ss, dist_spec _ _ sn, dist_spec _ _ sa, dist_spec _ _ sb, Option.bind_some]
  have key : ∀ p : Int, p = 0 ∨ p = 1 ∨ p = 2 ∨ p = 3 ∨ p = 4 → distS p ⟨a.c0 + b.c0, a.c1 + b.c1, a.c2 + b.c2, a.c3 + b.c3, 0, 0, 0, 0⟩ = IntKind.wrap .i64 (distS p a + distS p b) ∧ distS p ⟨n * a.c0, n * a.c1, n * a.c2, n * a.c3, 0, 0, 0, 0⟩ = IntKind.wrap .i64 (n * distS p a) := fun p hp => by
    have e4 : n * (4 * a.c3) = 4 * (n * a.c3) := by rw [← Int.mul_assoc, Int.mul_comm n 4, Int.mul_assoc]
    rcases hp with rfl | rfl | rfl | rfl | rfl <;> simp only [distS] <;> simp [Int.mul_add, Int.mul_sub, e4] <;> refine ⟨?_, ?_⟩ <;> rw [wrapI (by omega) (by omega)] <;> omega
  obtain ⟨k0, l0⟩ := key 0 (by omega)
  obtain ⟨k1, l1⟩ := key 1 (by omega)
  obtain ⟨k2, l2⟩ := key 2 (by omega)
  obtain ⟨k3, l3⟩ := key 3 (by omega)
  obtain ⟨k4, l4⟩ := key 4 (by omega)
  simp [k0, k1, k2, k3, k4, l0, l1, l2, l3, l4]

end Go.Proofs.Ytmiffokcdmehhaa.vecSums
