/- ViewOrder holds. -/
import Derived.Test.YtjflobchmpmeoaaLawView
set_option linter.unusedVariables false
namespace Go.Proofs.Ytjflobchmpmeoaa.viewOrder
open Go Go.RowKit Go.Proofs.Ytjflobchmpmeoaa.M Go.Proofs.Ytjflobchmpmeoaa.G

theorem law (x0 : (Ty.pair (.pair (.int .i64) (.pair (.int .i64) (.pair (.int .i64) (.pair (.int .i64) (.pair (.int .i64) (.pair (.int .i64) (.pair (.int .i64) (.int .i64)))))))) (.pair (.int .i64) (.pair (.int .i64) (.pair (.int .i64) (.pair (.int .i64) (.pair (.int .i64) (.pair (.int .i64) (.pair (.int .i64) (.int .i64))))))))).T)
    (x1 : (Ty.pair (.int .u8) (.int .u8)).T) (h0 : okT _ x0) (h1 : okT (Ty.pair (.int .u8) (.int .u8)) x1) : ∃ fl, glazierlaw06_ViewOrder fl x0 x1 = some true := by
  refine ⟨0, ?_⟩
  unfold glazierlaw06_ViewOrder
  rw [shown_spec]
  simp only [ob_some, bnd_eq]
  obtain ⟨w, ew, w1, w2⟩ := side_spec (x := x1.1) (m := 64) h1.1 (by decide) (by decide)
  obtain ⟨h, eh, k1, k2⟩ := side_spec (x := x1.2) (m := 64) h1.2 (by decide) (by decide)
  rw [ew, eh]
  obtain ⟨a, ea, ax, ay, az, aw, _⟩ := fit_spec x0.1
  obtain ⟨b, eb, bx, bY, bz, bw, _⟩ := fit_spec x0.2
  rw [ea, eb]
  simp only [ob_some]
  rw [point_spec 0 (v := a) ⟨w1, w2⟩ ⟨k1, k2⟩ (by omega) (by omega) (by omega) (by omega)]
  simp only [ob_some]
  rw [point_spec 0 (v := (b.1, b.2.1, b.2.2.1, a.2.2.2.1, b.2.2.2.2)) ⟨w1, w2⟩ ⟨k1, k2⟩ (by dsimp only; omega) (by dsimp only; omega) (by dsimp only; omega) (by dsimp only; omega)]
  simp only [ob_some]
  rw [mulI (by omega), mulI (by omega), mulI (by omega), mulI (by omega)]
  rw [point_spec 0 (v := (2 * a.1, 2 * a.2.1, 2 * a.2.2.1, 2 * a.2.2.2.1, a.2.2.2.2)) ⟨w1, w2⟩ ⟨k1, k2⟩ (by dsimp only; omega) (by dsimp only; omega) (by dsimp only; omega) (by dsimp only; omega)]
  simp only [ob_some, not_t, bite_f, Int.mul_assoc]
  rw [fdiv_both (by omega), fdiv_both (by omega), fdiv_both (by omega)]
  rw [eq_t rfl, eq_t rfl, eq_t rfl, eq_t rfl, eq_t rfl, eq_t rfl, eq_t rfl]
  simp only [both_t, not_t, bite_f, bite_t]
  have m1 : a.1 ≤ b.1 → Int.fdiv (a.1 * (8 * w)) a.2.2.2.1 + 8 * w ≤ Int.fdiv (b.1 * (8 * w)) a.2.2.2.1 + 8 * w := fun k => by
    have := fdiv_mono (c := a.2.2.2.1) (by omega) (Int.mul_le_mul_of_nonneg_right k (show 0 ≤ 8 * w by omega)); omega
  have m2 : a.2.1 ≤ b.2.1 → Int.fdiv (a.2.1 * (8 * h)) a.2.2.2.1 + 8 * h ≤ Int.fdiv (b.2.1 * (8 * h)) a.2.2.2.1 + 8 * h := fun k => by
    have := fdiv_mono (c := a.2.2.2.1) (by omega) (Int.mul_le_mul_of_nonneg_right k (show 0 ≤ 8 * h by omega)); omega
  have m3 : a.2.2.1 ≤ b.2.2.1 → Int.fdiv (a.2.2.1 * 32768) a.2.2.2.1 + 32768 ≤ Int.fdiv (b.2.2.1 * 32768) a.2.2.2.1 + 32768 := fun k => by
    have := fdiv_mono (c := a.2.2.2.1) (by omega) (Int.mul_le_mul_of_nonneg_right k (show 0 ≤ (32768 : Int) by omega)); omega
  rcases Int.lt_or_le b.1 a.1 with c1 | c1 <;> rcases Int.lt_or_le b.2.1 a.2.1 with c2 | c2 <;> rcases Int.lt_or_le b.2.2.1 a.2.2.1 with c3 | c3
  · rw [gt_t c1, gt_t c2, gt_t c3]; rfl
  · rw [gt_t c1, gt_t c2, gt_f c3, le_t (m3 c3)]; rfl
  · rw [gt_t c1, gt_f c2, le_t (m2 c2), gt_t c3]; rfl
  · rw [gt_t c1, gt_f c2, le_t (m2 c2), gt_f c3, le_t (m3 c3)]; rfl
  · rw [gt_f c1, le_t (m1 c1), gt_t c2, gt_t c3]; rfl
  · rw [gt_f c1, le_t (m1 c1), gt_t c2, gt_f c3, le_t (m3 c3)]; rfl
  · rw [gt_f c1, le_t (m1 c1), gt_f c2, le_t (m2 c2), gt_t c3]; rfl
  · rw [gt_f c1, le_t (m1 c1), gt_f c2, le_t (m2 c2), gt_f c3, le_t (m3 c3)]; rfl
end Go.Proofs.Ytjflobchmpmeoaa.viewOrder
