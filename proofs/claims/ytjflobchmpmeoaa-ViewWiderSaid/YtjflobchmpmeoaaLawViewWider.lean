/- ViewWider holds. -/
import Derived.Test.YtjflobchmpmeoaaLawView
set_option linter.unusedVariables false
namespace Go.Proofs.Ytjflobchmpmeoaa.viewWider
open Go Go.RowKit Go.Proofs.Ytjflobchmpmeoaa.M Go.Proofs.Ytjflobchmpmeoaa.G

theorem law (x0 : (Ty.pair (.int .i64) (.pair (.int .i64) (.pair (.int .i64) (.pair (.int .i64) (.pair (.int .i64) (.pair (.int .i64) (.pair (.int .i64) (.int .i64)))))))).T)
    (x1 : (Ty.pair (.int .u8) (.int .u8)).T) (h0 : okT _ x0) (h1 : okT (Ty.pair (.int .u8) (.int .u8)) x1) : ∃ fl, glazierlaw06_ViewWider fl x0 x1 = some true := by
  refine ⟨0, ?_⟩
  unfold glazierlaw06_ViewWider
  rw [shown_spec]
  simp only [ob_some, bnd_eq]
  obtain ⟨w, ew, w1, w2⟩ := side_spec (x := x1.1) (m := 32) h1.1 (by decide) (by decide)
  obtain ⟨h, eh, k1, k2⟩ := side_spec (x := x1.2) (m := 32) h1.2 (by decide) (by decide)
  rw [ew, eh]
  obtain ⟨a, ea, ax, ay, az, aw, _⟩ := fit_spec x0
  rw [ea]
  simp only [ob_some]
  rw [point_spec 0 (v := a) (by omega) (by omega) (by omega) (by omega) (by omega) (by omega)]
  simp only [ob_some]
  rw [mulI (a := 2) (b := w) (by omega), point_spec 0 (v := a) (by omega) (by omega) (by omega) (by omega) (by omega) (by omega)]
  simp only [ob_some, bite_t]
  have p1 := mul_in (a := a.1) (b := 8 * w) (m := 32768) (n := 512) (by omega) (by omega)
  rw [show a.1 * (8 * (2 * w)) = 2 * (a.1 * (8 * w)) by rw [Int.mul_left_comm 8, Int.mul_left_comm a.1 2]]
  obtain ⟨P, hP⟩ : ∃ P, P = a.1 * (8 * w) := ⟨_, rfl⟩
  rw [← hP]
  rw [← hP] at p1
  have l1 := fdiv_lim (p := P) (c := a.2.2.2.1) (m := 16777216) (by omega) (by omega) (by omega) (by decide)
  have l2 := fdiv_lim (p := 2 * P) (c := a.2.2.2.1) (m := 33554432) (by omega) (by omega) (by omega) (by decide)
  have s1 := fdiv_twice (p := P) (c := a.2.2.2.1) (by omega)
  rw [mulI (by omega), subI (by omega)]
  rcases s1 with s1 | s1
  · rw [eq_t (by omega), bite_t, eq_t rfl, bite_t, eq_t rfl, bite_t, eq_t rfl, eq_t rfl, eq_t rfl, eq_t rfl]; rfl
  · rw [eq_f (by omega), bite_f, eq_t (by omega), bite_t, eq_t rfl, bite_t, eq_t rfl, bite_t, eq_t rfl, eq_t rfl, eq_t rfl, eq_t rfl]; rfl
end Go.Proofs.Ytjflobchmpmeoaa.viewWider
