/- ViewMiddle holds. -/
import Derived.Test.YtjflobchmpmeoaaLawView
set_option linter.unusedVariables false
namespace Go.Proofs.Ytjflobchmpmeoaa.viewMiddle
open Go Go.RowKit Go.Proofs.Ytjflobchmpmeoaa.M Go.Proofs.Ytjflobchmpmeoaa.G

theorem law (x0 : (Ty.pair (.int .u8) (.int .u8)).T) (x1 : (Ty.pair (.int .i64) (.pair (.int .i64) (.pair (.int .i64) (.pair (.int .i64) (.pair (.int .i64) (.pair (.int .i64) (.pair (.int .i64) (.int .i64)))))))).T)
    (h0 : okT (Ty.pair (.int .u8) (.int .u8)) x0) (h1 : okT (Ty.pair (.int .i64) (.pair (.int .i64) (.pair (.int .i64) (.pair (.int .i64) (.pair (.int .i64) (.pair (.int .i64) (.pair (.int .i64) (.int .i64)))))))) x1) : ∃ fl, glazierlaw06_ViewMiddle fl x0 x1 = some true := by
  refine ⟨0, ?_⟩
  unfold glazierlaw06_ViewMiddle
  rw [shown_spec]
  simp only [ob_some, bnd_eq]
  obtain ⟨w, ew, w1, w2⟩ := side_spec (x := x0.1) (m := 64) h0.1 (by decide) (by decide)
  obtain ⟨h, eh, k1, k2⟩ := side_spec (x := x0.2) (m := 64) h0.2 (by decide) (by decide)
  rw [ew, eh]
  obtain ⟨a, ea, ax, ay, az, aw, _⟩ := fit_spec x1
  rw [ea]
  simp only [ob_some]
  rw [point_spec 0 (v := a) ⟨w1, w2⟩ ⟨k1, k2⟩ (by omega) (by omega) (by omega) (by omega)]
  simp only [ob_some]
  rw [negI (by omega), negI (by omega), point_spec 0 (v := (-a.1, -a.2.1, a.2.2)) ⟨w1, w2⟩ ⟨k1, k2⟩ (by dsimp only; omega) (by dsimp only; omega) (by dsimp only; omega) (by dsimp only; omega)]
  simp only [ob_some]
  rw [point_spec 0 (v := (0, 0, 0, a.2.2.2)) ⟨w1, w2⟩ ⟨k1, k2⟩ (by dsimp only; omega) (by dsimp only; omega) (by dsimp only; omega) (by dsimp only; omega)]
  simp only [ob_some, not_t, bite_f, Int.zero_mul, Int.zero_fdiv, Int.zero_add]
  rw [eq_t rfl, eq_t rfl, eq_t rfl, eq_t rfl]
  simp only [both_t, not_t, bite_f]
  rw [mulI (a := 8) (b := w) (by omega), ne_f rfl, mulI (a := 8) (b := h) (by omega), ne_f rfl, ne_f rfl]
  simp only [bite_f, bite_t]
  have p1 := mul_in (a := a.1) (b := 8 * w) (m := 32768) (n := 512) (by omega) (by omega)
  have p2 := mul_in (a := a.2.1) (b := 8 * h) (m := 32768) (n := 512) (by omega) (by omega)
  rw [Int.neg_mul, Int.neg_mul]
  obtain ⟨P, hP⟩ : ∃ P, P = a.1 * (8 * w) := ⟨_, rfl⟩
  obtain ⟨Q, hQ⟩ : ∃ P, P = a.2.1 * (8 * h) := ⟨_, rfl⟩
  rw [← hP, ← hQ]
  rw [← hP] at p1
  rw [← hQ] at p2
  have l1 := fdiv_lim (p := P) (c := a.2.2.2.1) (m := 16777216) (by omega) (by omega) (by omega) (by decide)
  have l2 := fdiv_lim (p := -P) (c := a.2.2.2.1) (m := 16777216) (by omega) (by omega) (by omega) (by decide)
  have l3 := fdiv_lim (p := Q) (c := a.2.2.2.1) (m := 16777216) (by omega) (by omega) (by omega) (by decide)
  have l4 := fdiv_lim (p := -Q) (c := a.2.2.2.1) (m := 16777216) (by omega) (by omega) (by omega) (by decide)
  have s1 := fdiv_neg_sum (p := P) (c := a.2.2.2.1) (by omega)
  have s2 := fdiv_neg_sum (p := Q) (c := a.2.2.2.1) (by omega)
  rw [addI (by omega), mulI (by omega), subI (by omega), addI (by omega), mulI (by omega), subI (by omega)]
  rcases s1 with s1 | s1 <;> rcases s2 with s2 | s2
  · rw [eq_t (by omega), bite_t, eq_t (by omega), bite_t, eq_t rfl]
  · rw [eq_t (by omega), bite_t, eq_f (by omega), bite_f, eq_t (by omega), bite_t, eq_t rfl]
  · rw [eq_f (by omega), bite_f, eq_t (by omega), bite_t, eq_t (by omega), bite_t, eq_t rfl]
  · rw [eq_f (by omega), bite_f, eq_t (by omega), bite_t, eq_f (by omega), bite_f, eq_t (by omega), bite_t, eq_t rfl]
end Go.Proofs.Ytjflobchmpmeoaa.viewMiddle
