/- SetupBoxes holds. -/
import Derived.Test.YtfejdcdomgeogaaLawSetupIn
set_option linter.unusedVariables false
namespace Go.Proofs.Ytfejdcdomgeogaa.setupBoxes
open Go Go.RowKit Go.Proofs.Ytfejdcdomgeogaa.M Go.Proofs.Ytfejdcdomgeogaa.G

theorem os_r {α β γ : Type} (x : β) (f : α → Option γ) (g : β → Option γ) : osum (.inr x : α ⊕ β) f g = g x := rfl

theorem near_rem (n : Int) : big (F.rem n 16385) := by
  have := tmod_lt (a := n) (m := 16385) (by decide)
  unfold F.rem big
  omega

theorem small_g (p : Px) : ∃ q, glazierref07_Small p = some q ∧ okG q := by
  unfold glazierref07_Small
  simp only [bnd_eq]
  exact ⟨_, rfl, near_rem _, near_rem _⟩

theorem three_g (u : Tri) : ∃ v, glazierref07_Three u = some v ∧ okG3 v := by
  obtain ⟨a, ea, ha⟩ := small_g u.1
  obtain ⟨b, eb, hb⟩ := small_g u.2.1
  obtain ⟨c, ec, hc⟩ := small_g u.2.2
  refine ⟨(a, (b, c)), ?_, ha, hb, hc⟩
  unfold glazierref07_Three
  rw [ea, ob_some, eb, ob_some, ec, ob_some]

/-! ### What is within lies between -/
theorem sum_crs (u : Tri) (x y : Int) : crs u.2.1 u.2.2 x y + crs u.2.2 u.1 x y + crs u.1 u.2.1 x y = area u := by
  unfold area crs
  grind

theorem bary_x (u : Tri) (x y : Int) : u.1.1 * crs u.2.1 u.2.2 x y + u.2.1.1 * crs u.2.2 u.1 x y + u.2.2.1 * crs u.1 u.2.1 x y = area u * x := by
  unfold area crs
  grind

theorem bary_y (u : Tri) (x y : Int) : u.1.2.1 * crs u.2.1 u.2.2 x y + u.2.1.2.1 * crs u.2.2 u.1 x y + u.2.2.2.1 * crs u.1 u.2.1 x y = area u * y := by
  unfold area crs
  grind

theorem between {a b c p q r A x m n : Int} (hA : 0 < A) (hs : p + q + r = A) (he : a * p + b * q + c * r = A * x) (hp : 0 ≤ p) (hq : 0 ≤ q) (hr : 0 ≤ r) (a0 : m ≤ a ∧ a ≤ n) (b0 : m ≤ b ∧ b ≤ n) (c0 : m ≤ c ∧ c ≤ n) : m ≤ x ∧ x ≤ n := by
  have l1 := Int.mul_le_mul_of_nonneg_right a0.1 hp
  have l2 := Int.mul_le_mul_of_nonneg_right b0.1 hq
  have l3 := Int.mul_le_mul_of_nonneg_right c0.1 hr
  have g1 := Int.mul_le_mul_of_nonneg_right a0.2 hp
  have g2 := Int.mul_le_mul_of_nonneg_right b0.2 hq
  have g3 := Int.mul_le_mul_of_nonneg_right c0.2 hr
  have em : A * m = m * p + m * q + m * r := by rw [← hs]; grind
  have en : A * n = n * p + n * q + n * r := by rw [← hs]; grind
  have k1 : A * m ≤ A * x := by omega
  have k2 : A * x ≤ A * n := by omega
  exact ⟨Int.le_of_mul_le_mul_left k1 hA, Int.le_of_mul_le_mul_left k2 hA⟩

theorem in_box {u : Tri} {w h x y sx sy : Int} (hx : 0 ≤ x ∧ x < w) (hy : 0 ≤ y ∧ y < h) (kx : 16 * x ≤ sx ∧ sx < 16 * x + 16) (ky : 16 * y ≤ sy ∧ sy < 16 * y + 16) (hw : within u sx sy) :
    (sideLo u.1.1 u.2.1.1 u.2.2.1 ≤ x ∧ x < sideHi w u.1.1 u.2.1.1 u.2.2.1) ∧ (sideLo u.1.2.1 u.2.1.2.1 u.2.2.2.1 ≤ y ∧ y < sideHi h u.1.2.1 u.2.1.2.1 u.2.2.2.1) := by
  obtain ⟨hA, h0, h1, h2⟩ := hw
  have bx := between hA (sum_crs u sx sy) (bary_x u sx sy) h1 h2 h0 (m := min (min u.1.1 u.2.1.1) u.2.2.1) (n := max (max u.1.1 u.2.1.1) u.2.2.1) (by omega) (by omega) (by omega)
  have by' := between hA (sum_crs u sx sy) (bary_y u sx sy) h1 h2 h0 (m := min (min u.1.2.1 u.2.1.2.1) u.2.2.2.1) (n := max (max u.1.2.1 u.2.1.2.1) u.2.2.2.1) (by omega) (by omega) (by omega)
  unfold sideLo sideHi
  refine ⟨⟨?_, ?_⟩, ?_, ?_⟩ <;> omega

theorem row (fl : Nat) {t : Bool} {u : Tri} {w h y : Int} (hu : okG3 u) (hw : 1 ≤ w ∧ w ≤ 64) (hh : 1 ≤ h ∧ h ≤ 64) (hy : 0 ≤ y ∧ y < h) : ∀ (m n : Nat) (x : Int), 0 ≤ x → x + m = w → m + 1 ≤ n →
    glazierlaw10_SetupBoxes_l2 fl n t w h (sideLo u.1.1 u.2.1.1 u.2.2.1) (sideLo u.1.2.1 u.2.1.2.1 u.2.2.2.1) (sideHi w u.1.1 u.2.1.1 u.2.2.1) (sideHi h u.1.2.1 u.2.1.2.1 u.2.2.2.1) y x u.1.1 u.1.2.1 u.1.2.2.1 u.1.2.2.2.1 u.1.2.2.2.2.1 u.1.2.2.2.2.2.1 u.1.2.2.2.2.2.2 u.2.1.1 u.2.1.2.1 u.2.1.2.2.1 u.2.1.2.2.2.1 u.2.1.2.2.2.2.1 u.2.1.2.2.2.2.2.1 u.2.1.2.2.2.2.2.2 u.2.2.1 u.2.2.2.1 u.2.2.2.2.1 u.2.2.2.2.2.1 u.2.2.2.2.2.2.1 u.2.2.2.2.2.2.2.1 u.2.2.2.2.2.2.2.2 =
      some (.inr (t, (w, (h, (sideLo u.1.1 u.2.1.1 u.2.2.1, (sideLo u.1.2.1 u.2.1.2.1 u.2.2.2.1, (sideHi w u.1.1 u.2.1.1 u.2.2.1, (sideHi h u.1.2.1 u.2.1.2.1 u.2.2.2.1, (y, (u.1.1, (u.1.2.1, (u.1.2.2.1, (u.1.2.2.2.1, (u.1.2.2.2.2.1, (u.1.2.2.2.2.2.1, (u.1.2.2.2.2.2.2, (u.2.1.1, (u.2.1.2.1, (u.2.1.2.2.1, (u.2.1.2.2.2.1, (u.2.1.2.2.2.2.1, (u.2.1.2.2.2.2.2.1, (u.2.1.2.2.2.2.2.2, (u.2.2.1, (u.2.2.2.1, (u.2.2.2.2.1, (u.2.2.2.2.2.1, (u.2.2.2.2.2.2.1, (u.2.2.2.2.2.2.2.1, (u.2.2.2.2.2.2.2.2, ()))))))))))))))))))))))))))))))
  | m, 0, x, _, _, h => by omega
  | 0, n + 1, x, hx, hk, hn => by
    rw [glazierlaw10_SetupBoxes_l2, bnd_eq, lt_f (by omega), bite_f]
  | m + 1, n + 1, x, hx, hk, hn => by
    obtain ⟨k, ek, hk0, hk1⟩ := mask_g fl (x := x) (y := y) hu (by omega) (by omega)
    have ih := row fl (t := t) hu hw hh hy m n (x + 1) (by omega) (by omega) (by omega)
    rw [glazierlaw10_SetupBoxes_l2, bnd_eq, lt_t (by omega), bite_t]
    rw [show glazierref08_Mask fl ((u.1.1, (u.1.2.1, (u.1.2.2.1, (u.1.2.2.2.1, (u.1.2.2.2.2.1, (u.1.2.2.2.2.2.1, u.1.2.2.2.2.2.2)))))), ((u.2.1.1, (u.2.1.2.1, (u.2.1.2.2.1, (u.2.1.2.2.2.1, (u.2.1.2.2.2.2.1, (u.2.1.2.2.2.2.2.1, u.2.1.2.2.2.2.2.2)))))), (u.2.2.1, (u.2.2.2.1, (u.2.2.2.2.1, (u.2.2.2.2.2.1, (u.2.2.2.2.2.2.1, (u.2.2.2.2.2.2.2.1, u.2.2.2.2.2.2.2.2)))))))) x y = some k from ek, ob_some, bnd_eq]
    by_cases h0 : k = 0
    · rw [ne_f h0, bite_f, bnd_eq, addI (by omega)]
      exact ih
    · obtain ⟨sx, sy, kx, ky, hwi⟩ := hk1 h0
      obtain ⟨⟨q1, q2⟩, q3, q4⟩ := in_box (w := w) (h := h) (x := x) (y := y) (by omega) hy kx ky hwi
      rw [ne_t h0, bite_t, bnd_eq, lt_f q1, bite_f, bnd_eq, ge_f q2, bite_f, bnd_eq, lt_f q3, bite_f, bnd_eq, ge_f q4, bite_f, bnd_eq, addI (by omega)]
      exact ih

theorem rows (fl : Nat) (hfl : 70 ≤ fl) {t : Bool} {u : Tri} {w h : Int} (hu : okG3 u) (hw : 1 ≤ w ∧ w ≤ 64) (hh : 1 ≤ h ∧ h ≤ 64) : ∀ (m n : Nat) (y : Int), 0 ≤ y → y + m = h → m + 1 ≤ n →
    glazierlaw10_SetupBoxes_l3 fl n t w h (sideLo u.1.1 u.2.1.1 u.2.2.1) (sideLo u.1.2.1 u.2.1.2.1 u.2.2.2.1) (sideHi w u.1.1 u.2.1.1 u.2.2.1) (sideHi h u.1.2.1 u.2.1.2.1 u.2.2.2.1) y u.1.1 u.1.2.1 u.1.2.2.1 u.1.2.2.2.1 u.1.2.2.2.2.1 u.1.2.2.2.2.2.1 u.1.2.2.2.2.2.2 u.2.1.1 u.2.1.2.1 u.2.1.2.2.1 u.2.1.2.2.2.1 u.2.1.2.2.2.2.1 u.2.1.2.2.2.2.2.1 u.2.1.2.2.2.2.2.2 u.2.2.1 u.2.2.2.1 u.2.2.2.2.1 u.2.2.2.2.2.1 u.2.2.2.2.2.2.1 u.2.2.2.2.2.2.2.1 u.2.2.2.2.2.2.2.2 = some (.inr (t, ()))
  | m, 0, y, _, _, h => by omega
  | 0, n + 1, y, hy, hk, hn => by
    rw [glazierlaw10_SetupBoxes_l3, bnd_eq, lt_f (by omega), bite_f]
  | m + 1, n + 1, y, hy, hk, hn => by
    have ih := rows fl hfl (t := t) hu hw hh m n (y + 1) (by omega) (by omega) (by omega)
    have r := row fl (t := t) hu hw hh (y := y) (by omega) w.toNat fl 0 (by omega) (by omega) (by omega)
    rw [glazierlaw10_SetupBoxes_l3, bnd_eq, lt_t (by omega), bite_t, r, ob_some, os_r]
    dsimp only
    rw [bnd_eq, addI (by omega)]
    exact ih

theorem law (x0 : (Ty.pair (.pair (.int .i64) (.pair (.int .i64) (.pair (.int .i64) (.pair (.int .i64) (.pair (.int .i64) (.pair (.int .i64) (.int .i64))))))) (.pair (.pair (.int .i64) (.pair (.int .i64) (.pair (.int .i64) (.pair (.int .i64) (.pair (.int .i64) (.pair (.int .i64) (.int .i64))))))) (.pair (.int .i64) (.pair (.int .i64) (.pair (.int .i64) (.pair (.int .i64) (.pair (.int .i64) (.pair (.int .i64) (.int .i64))))))))).T) (x1 : (Ty.pair (.int .u8) (.int .u8)).T)
    (h0 : okT (Ty.pair (.pair (.int .i64) (.pair (.int .i64) (.pair (.int .i64) (.pair (.int .i64) (.pair (.int .i64) (.pair (.int .i64) (.int .i64))))))) (.pair (.pair (.int .i64) (.pair (.int .i64) (.pair (.int .i64) (.pair (.int .i64) (.pair (.int .i64) (.pair (.int .i64) (.int .i64))))))) (.pair (.int .i64) (.pair (.int .i64) (.pair (.int .i64) (.pair (.int .i64) (.pair (.int .i64) (.pair (.int .i64) (.int .i64))))))))) x0) (h1 : okT (Ty.pair (.int .u8) (.int .u8)) x1) : ∃ fl, glazierlaw10_SetupBoxes fl x0 x1 = some true := by
  refine ⟨400, ?_⟩
  obtain ⟨w, ew, w1, w2⟩ := side_spec (m := 16) h1.1 (by decide) (by decide)
  obtain ⟨h, eh, k1, k2⟩ := side_spec (m := 16) h1.2 (by decide) (by decide)
  obtain ⟨u, eu, hu⟩ := three_g x0
  have r := rows 400 (by omega) (t := true) (w := w) (h := h) hu (by omega) (by omega) h.toNat 400 0 (by omega) (by omega) (by omega)
  have s1 : 0 ≤ sideLo u.1.1 u.2.1.1 u.2.2.1 := by unfold sideLo; omega
  have s2 : 0 ≤ sideLo u.1.2.1 u.2.1.2.1 u.2.2.2.1 := by unfold sideLo; omega
  have s3 : sideHi w u.1.1 u.2.1.1 u.2.2.1 ≤ w := by unfold sideHi; omega
  have s4 : sideHi h u.1.2.1 u.2.1.2.1 u.2.2.2.1 ≤ h := by unfold sideHi; omega
  unfold glazierlaw10_SetupBoxes
  rw [setup_shown, ob_some, bnd_eq, bnd_eq, bnd_eq, ew, bnd_eq, bnd_eq, bnd_eq, eh, eu, ob_some, box_is 400 hu, ob_some, bnd_eq, lt_f s1, bite_f, bnd_eq, lt_f s2, bite_f, bnd_eq, gt_f s3, bite_f, bnd_eq, gt_f s4, bite_f, r, ob_some]
  rfl
end Go.Proofs.Ytfejdcdomgeogaa.setupBoxes
