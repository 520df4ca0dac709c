/- ViewPixels holds. -/
import Derived.Test.YtjflobchmpmeoaaLawView
set_option linter.unusedVariables false
namespace Go.Proofs.Ytjflobchmpmeoaa.viewPixels
open Go Go.RowKit Go.Proofs.Ytjflobchmpmeoaa.M Go.Proofs.Ytjflobchmpmeoaa.G

theorem pixel_spec (fl : Nat) {x : Int} (hx : -4611686018427387904 ≤ x ∧ x ≤ 4611686018427387904) : view_Pixel fl x = some (x / 16) := by
  unfold view_Pixel fixed_Floor
  rw [mulDiv_spec fl (by omega) (by decide) (by omega) (by decide) (by decide)]
  simp only [ob_some, Int.mul_one]
  rw [Int.fdiv_eq_ediv_of_nonneg _ (by decide)]

theorem centre_spec {x : Int} (hx : -4611686018427387904 ≤ 16 * x ∧ 16 * x ≤ 4611686018427387904) : view_Centre x = some (16 * x + 8) := by
  unfold view_Centre
  simp only [bnd_eq]
  rw [mulI (by omega), addI (by omega)]

theorem law (x0 : (Ty.int .i64).T) (h0 : okT (.int .i64) x0) : ∃ fl, glazierlaw06_ViewPixels fl x0 = some true := by
  refine ⟨0, ?_⟩
  unfold glazierlaw06_ViewPixels glazierlaw06_small
  rw [shown_spec]
  simp only [ob_some, bnd_eq, F.rem]
  have t1 := tmod_lt (a := x0) (m := 1099511627777) (by decide)
  obtain ⟨k, hk⟩ : ∃ k, k = Int.tmod x0 1099511627777 := ⟨_, rfl⟩
  rw [← hk] at t1 ⊢
  rw [pixel_spec 0 (by omega)]
  simp only [ob_some]
  rw [centre_spec (by omega)]
  simp only [ob_some, bite_t]
  rw [subI (by omega), ge_t (by omega), bite_t, lt_t (by omega), bite_t, centre_spec (by omega)]
  simp only [ob_some]
  rw [pixel_spec 0 (by omega)]
  simp only [ob_some]
  rw [eq_t (by omega), bite_t, addI (by omega), pixel_spec 0 (by omega)]
  simp only [ob_some]
  rw [addI (by omega), eq_t (by omega)]
end Go.Proofs.Ytjflobchmpmeoaa.viewPixels
