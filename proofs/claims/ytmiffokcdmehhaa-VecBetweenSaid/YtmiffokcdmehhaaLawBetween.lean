/- What is between two vertices. -/
import Derived.Test.YtmiffokcdmehhaaLawVec
import Derived.Test.YtmiffokcdmehhaaLawFixed
set_option linter.unusedVariables false
namespace Go.Proofs.Ytmiffokcdmehhaa.G
open Go Go.RowKit Go.Proofs.Ytmiffokcdmehhaa.E

theorem fdiv_between {x d D : Int} (hd : 0 ≤ d) (hD : d ≤ D) (h0 : 0 < D) : (0 ≤ x → 0 ≤ Int.fdiv (x * d) D ∧ Int.fdiv (x * d) D ≤ x) ∧ (x ≤ 0 → x ≤ Int.fdiv (x * d) D ∧ Int.fdiv (x * d) D ≤ 0) := by
  rw [Int.fdiv_eq_ediv_of_nonneg _ (by omega)]
  refine ⟨fun hx => ⟨Int.ediv_nonneg (Int.mul_nonneg hx hd) (by omega), Int.ediv_le_of_le_mul h0 (Int.mul_le_mul_of_nonneg_left hD hx)⟩, fun hx => ⟨Int.le_ediv_of_mul_le h0 ?_, ?_⟩⟩
  · have := Int.mul_le_mul_of_nonneg_left hD (show 0 ≤ -x by omega)
    rw [Int.neg_mul, Int.neg_mul] at this
    omega
  · have h1 : x * d ≤ 0 * D := by
      have := Int.mul_nonneg (show 0 ≤ -x by omega) hd
      rw [Int.neg_mul] at this
      omega
    exact Int.ediv_le_of_le_mul h0 h1

/-- One number of what is between. -/
def mix (d e x y : Int) : Int := x + Int.fdiv ((y - x) * d) (d - e)

def betwS (p : Int) (a b : T_api_Vec) : T_api_Vec :=
  ⟨mix (distS p a) (distS p b) a.c0 b.c0, mix (distS p a) (distS p b) a.c1 b.c1, mix (distS p a) (distS p b) a.c2 b.c2, mix (distS p a) (distS p b) a.c3 b.c3,
   mix (distS p a) (distS p b) a.c4 b.c4, mix (distS p a) (distS p b) a.c5 b.c5, mix (distS p a) (distS p b) a.c6 b.c6, mix (distS p a) (distS p b) a.c7 b.c7⟩

/-- All eight are of up to 2^20. -/
def T_api_Vec.s20 (v : T_api_Vec) : Prop := (-1048576 ≤ v.c0 ∧ v.c0 ≤ 1048576) ∧ (-1048576 ≤ v.c1 ∧ v.c1 ≤ 1048576) ∧ (-1048576 ≤ v.c2 ∧ v.c2 ≤ 1048576) ∧ (-1048576 ≤ v.c3 ∧ v.c3 ≤ 1048576) ∧
  (-1048576 ≤ v.c4 ∧ v.c4 ≤ 1048576) ∧ (-1048576 ≤ v.c5 ∧ v.c5 ≤ 1048576) ∧ (-1048576 ≤ v.c6 ∧ v.c6 ≤ 1048576) ∧ (-1048576 ≤ v.c7 ∧ v.c7 ≤ 1048576)

theorem T_api_Vec.s20.sm {v : T_api_Vec} (h : v.s20) : v.sm := by
  obtain ⟨h0, h1, h2, h3, _⟩ := h
  exact ⟨by omega, by omega, by omega, by omega⟩

theorem T_api_Vec.fit.s20 {v : T_api_Vec} (h : v.fit) : v.s20 := by
  obtain ⟨h0, h1, h2, h3, h4, h5, h6, h7⟩ := h
  exact ⟨by omega, by omega, by omega, by omega, by omega, by omega, by omega, by omega⟩

theorem dist_bound (p : Int) {v : T_api_Vec} (h : v.s20) : -5242880 ≤ distS p v ∧ distS p v ≤ 5242880 := by
  obtain ⟨h0, h1, h2, h3, _⟩ := h
  unfold distS
  repeat' split
  all_goals omega

theorem mix_bound {d e x y : Int} (hd : 0 ≤ d) (he : e < 0) : (x ≤ y → x ≤ mix d e x y ∧ mix d e x y ≤ y) ∧ (y ≤ x → y ≤ mix d e x y ∧ mix d e x y ≤ x) := by
  obtain ⟨h1, h2⟩ := fdiv_between (x := y - x) hd (show d ≤ d - e by omega) (by omega)
  unfold mix
  exact ⟨fun h => by have := h1 (by omega); omega, fun h => by have := h2 (by omega); omega⟩

theorem step_spec {d e x y : Int} (hd : 0 ≤ d ∧ d ≤ 5242880) (he : e < 0 ∧ -5242880 ≤ e) (hx : -1048576 ≤ x ∧ x ≤ 1048576) (hy : -1048576 ≤ y ∧ y ≤ 1048576) :
    ∃ k, fixed_MulDiv (IntKind.wrap .i64 (y - x)) d (IntKind.wrap .i64 (d - e)) = some (k, 0) ∧ IntKind.wrap .i64 (x + k) = mix d e x y := by
  rw [wrapI (n := y - x) (by omega) (by omega), wrapI (n := d - e) (by omega) (by omega)]
  have hp : -10995116277760 ≤ (y - x) * d ∧ (y - x) * d ≤ 10995116277760 := by
    have h1 : (y - x) * d ≤ 2097152 * 5242880 := by
      rcases Int.le_total 0 (y - x) with h | h
      · exact Int.mul_le_mul (by omega) hd.2 hd.1 (by omega)
      · have := Int.mul_nonpos_of_nonpos_of_nonneg h hd.1
        omega
    have h2 : (-(y - x)) * d ≤ 2097152 * 5242880 := by
      rcases Int.le_total 0 (-(y - x)) with h | h
      · exact Int.mul_le_mul (by omega) hd.2 hd.1 (by omega)
      · have := Int.mul_nonpos_of_nonpos_of_nonneg h hd.1
        omega
    rw [Int.neg_mul] at h2
    omega
  refine ⟨_, mulDiv_spec (by omega) (by omega) (by omega) (by omega) (by omega), ?_⟩
  have hb := mix_bound (x := x) (y := y) hd.1 he.1
  show IntKind.wrap .i64 (mix d e x y) = mix d e x y
  rcases Int.le_total x y with h | h
  · have := hb.1 h; exact wrapI (by omega) (by omega)
  · have := hb.2 h; exact wrapI (by omega) (by omega)

theorem between_some (a b : T_api_Vec) (p : Int) (ha : a.s20) (hb : b.s20) (h0 : 0 ≤ p) (h5 : p < 5) (hd : 0 ≤ distS p a) (he : distS p b < 0) : vec_Between a b p = some (betwS p a b, true) := by
  have da := dist_bound p ha
  have db := dist_bound p hb
  unfold vec_Between vec_row vec_made
  rw [dist_spec _ _ ha.sm, dist_spec _ _ hb.sm]
  obtain ⟨a0, a1, a2, a3, a4, a5, a6, a7⟩ := ha
  obtain ⟨b0, b1, b2, b3, b4, b5, b6, b7⟩ := hb
  obtain ⟨k0, e0, f0⟩ := step_spec ⟨hd, da.2⟩ ⟨he, db.1⟩ a0 b0
  obtain ⟨k1, e1, f1⟩ := step_spec ⟨hd, da.2⟩ ⟨he, db.1⟩ a1 b1
  obtain ⟨k2, e2, f2⟩ := step_spec ⟨hd, da.2⟩ ⟨he, db.1⟩ a2 b2
  obtain ⟨k3, e3, f3⟩ := step_spec ⟨hd, da.2⟩ ⟨he, db.1⟩ a3 b3
  obtain ⟨k4, e4, f4⟩ := step_spec ⟨hd, da.2⟩ ⟨he, db.1⟩ a4 b4
  obtain ⟨k5, e5, f5⟩ := step_spec ⟨hd, da.2⟩ ⟨he, db.1⟩ a5 b5
  obtain ⟨k6, e6, f6⟩ := step_spec ⟨hd, da.2⟩ ⟨he, db.1⟩ a6 b6
  obtain ⟨k7, e7, f7⟩ := step_spec ⟨hd, da.2⟩ ⟨he, db.1⟩ a7 b7
  simp only [Option.bind_some]
  rw [if_neg (by simp; omega), if_neg (by simp; omega), if_neg (by simp; omega), if_neg (by simp; omega)]
  simp only [e0, e1, e2, e3, e4, e5, e6, e7, Option.bind_some, f0, f1, f2, f3, f4, f5, f6, f7]
  rfl

end Go.Proofs.Ytmiffokcdmehhaa.G
