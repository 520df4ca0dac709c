/- SetupPixels holds. -/
import Derived.Test.YtfejdcdomgeogaaLawPixels
import Derived.Test.YtfejdcdomgeogaaLawSetup
set_option linter.unusedVariables false
namespace Go.Proofs.Ytfejdcdomgeogaa.setupPixels
open Go Go.RowKit Go.Proofs.Ytfejdcdomgeogaa.M Go.Proofs.Ytfejdcdomgeogaa.G

theorem loop (fl : Nat) {a b c d : Int} {w h K : Nat} (ha : -20 ≤ a ∧ a ≤ 20) (hb : -20 ≤ b ∧ b ≤ 20) (hc : -20 ≤ c ∧ c ≤ 20) (hd : -20 ≤ d ∧ d ≤ 20) (hw : (c - a).toNat = w) (hh : (d - b).toNat = h) (hK : K ≤ h * w) : ∀ (m n k : Nat), k + m = h * w → m + 1 ≤ n →
    glazierlaw10_SetupPixels_l1 fl n (pixN a b w (h * w)) (pixN a b w K) ((h * w : Nat) : Int) (k : Int) a b c d = some (.inr ())
  | m, 0, k, _, h => by omega
  | 0, n + 1, k, hk, hn => by
    rw [glazierlaw10_SetupPixels_l1, bnd_eq, lt_f (by omega), bite_f]
  | m + 1, n + 1, k, hk, hn => by
    have hhw : h * w ≤ 40 * 40 := Nat.mul_le_mul (by omega) (by omega)
    have hw0 : 0 < w := by
      refine Nat.pos_of_ne_zero fun e => ?_
      rw [e, Nat.mul_zero] at hk
      omega
    have e1 : F.sub .i64 c a = (w : Int) := by rw [subI (by omega)]; omega
    have e2 : F.rem (k : Int) (w : Int) = ((k % w : Nat) : Int) := by
      unfold F.rem
      rw [Int.tmod_eq_emod_of_nonneg (by omega)]
      rfl
    obtain ⟨q, eq⟩ : ∃ q, k / w = q := ⟨_, rfl⟩
    have hq : q ≤ k := by rw [← eq]; exact Nat.div_le_self k w
    have e3 : F.quo .i64 (k : Int) (w : Int) = (q : Int) := by
      unfold F.quo
      rw [Int.tdiv_eq_ediv_of_nonneg (by omega), show (k : Int) / (w : Int) = ((k / w : Nat) : Int) from rfl, eq]
      exact wrapI (by omega) (by omega)
    have hm := Nat.mod_lt k hw0
    have get : ∀ K', k < K' → F.get (pixN a b w K') (k : Int) = some (pixAt a b w k) := fun K' hK' => by
      rw [lgetK (by rw [pixN_length]; exact hK')]
      simp [pixN]
    have ih := loop fl ha hb hc hd hw hh hK m n (k + 1) (by omega) (by omega)
    rw [show ((k + 1 : Nat) : Int) = (k : Int) + 1 by omega] at ih
    have same : F.not (F.both (F.eq (pixAt a b w k).1 (a + ((k % w : Nat) : Int))) (F.eq (pixAt a b w k).2 (b + (q : Int)))) = false := by
      unfold pixAt
      dsimp only
      rw [eq, eq_t rfl, eq_t rfl]; rfl
    rw [glazierlaw10_SetupPixels_l1, bnd_eq, lt_t (by omega), bite_t, bnd_eq, e1, nz_t (by omega), bgd_t, bnd_eq, e2, bnd_eq, addI (by omega), bnd_eq, nz_t (by omega), bgd_t, bnd_eq, e3, bnd_eq, addI (by omega), get _ (by omega), ob_some, bnd_eq, same, bite_f, bnd_eq, lenK, pixN_length, bnd_eq]
    by_cases hkK : k < K
    · rw [lt_t (by omega), bite_t, get _ hkK, ob_some, bnd_eq, same, bite_f, bnd_eq, addI (by omega)]
      exact ih
    · rw [lt_f (by omega), bite_f, bnd_eq, addI (by omega)]
      exact ih

theorem rem21 (n : Int) : -20 ≤ F.rem n 21 ∧ F.rem n 21 ≤ 20 := by
  have := tmod_lt (a := n) (m := 21) (by decide)
  unfold F.rem
  omega

theorem law (x0 : (Ty.pair (.int .i8) (.pair (.int .i8) (.pair (.int .i8) (.int .i8)))).T) (x1 : (Ty.int .u8).T) (h0 : okT (Ty.pair (.int .i8) (.pair (.int .i8) (.pair (.int .i8) (.int .i8)))) x0) (h1 : okT (Ty.int .u8) x1) : ∃ fl, glazierlaw10_SetupPixels fl x0 x1 = some true := by
  refine ⟨2000, ?_⟩
  obtain ⟨a, ea⟩ : ∃ a, F.rem (F.conv .i64 x0.1) 21 = a := ⟨_, rfl⟩
  obtain ⟨b, eb⟩ : ∃ b, F.rem (F.conv .i64 x0.2.1) 21 = b := ⟨_, rfl⟩
  obtain ⟨c, ec⟩ : ∃ c, F.rem (F.conv .i64 x0.2.2.1) 21 = c := ⟨_, rfl⟩
  obtain ⟨d, ed⟩ : ∃ d, F.rem (F.conv .i64 x0.2.2.2) 21 = d := ⟨_, rfl⟩
  have ha := rem21 (F.conv .i64 x0.1)
  have hb := rem21 (F.conv .i64 x0.2.1)
  have hc := rem21 (F.conv .i64 x0.2.2.1)
  have hd := rem21 (F.conv .i64 x0.2.2.2)
  rw [ea] at ha; rw [eb] at hb; rw [ec] at hc; rw [ed] at hd
  obtain ⟨K0, eK⟩ : ∃ K0 : Nat, F.add .i64 1 (F.rem (F.conv .i64 x1) 16) = (K0 : Int) ∧ 1 ≤ K0 ∧ K0 ≤ 16 := by
    have hx := inR_u8.1 h1
    have e : F.rem (F.conv .i64 x1) 16 = x1 % 16 := by
      rw [convI (by omega)]
      unfold F.rem
      rw [Int.tmod_eq_emod_of_nonneg (by omega)]
    refine ⟨(1 + x1 % 16).toNat, ?_⟩
    rw [e, addI (by omega)]
    omega
  obtain ⟨eK, hK1, hK2⟩ := eK
  obtain ⟨w, hw⟩ : ∃ w, (c - a).toNat = w := ⟨_, rfl⟩
  obtain ⟨h, hh⟩ : ∃ h, (d - b).toNat = h := ⟨_, rfl⟩
  have hhw : h * w ≤ 40 * 40 := Nat.mul_le_mul (by omega) (by omega)
  have g1 := gone_spec 2000 (by omega) (a := a) (b := b) (c := c) (d := d) (M := 100000) (by omega) (by omega) hw (by omega) hh (by omega) (by omega) (by omega)
  have g2 := gone_spec 2000 (by omega) (a := a) (b := b) (c := c) (d := d) (M := K0) (by omega) (by omega) hw (by omega) hh (by omega) (by omega) (by omega)
  rw [Nat.min_eq_right (by omega)] at g1
  have hn : F.mul .i64 (F.max (F.sub .i64 c a) 0) (F.max (F.sub .i64 d b) 0) = ((h * w : Nat) : Int) := by
    rw [subI (by omega), subI (by omega), f_max, f_max, show max (c - a) 0 = (w : Int) by omega, show max (d - b) 0 = (h : Int) by omega, mulI (by rw [← Int.natCast_mul, Nat.mul_comm]; omega), ← Int.natCast_mul, Nat.mul_comm]
  have lp := loop 2000 ha hb hc hd hw hh (K := min K0 (h * w)) (by omega) (h * w) 2000 0 (by omega) (by omega)
  unfold glazierlaw10_SetupPixels
  rw [setup_shown, ob_some, bnd_eq, bnd_eq, ea, bnd_eq, bnd_eq, eb, bnd_eq, bnd_eq, ec, bnd_eq, bnd_eq, ed]
  rw [show (100000 : Int) = ((100000 : Nat) : Int) from rfl, g1, ob_some, bnd_eq, bnd_eq, bnd_eq, eK, g2, ob_some, bnd_eq, bnd_eq, bnd_eq, bnd_eq, bnd_eq, hn, bnd_eq, not_t, bite_f, bnd_eq]
  dsimp only
  rw [show ((0 : Nat) : Int) = 0 from rfl] at lp
  simp only [bnd_eq, not_t, bite_f, lenK, pixN_length, eK, f_min]
  rw [ne_f rfl, bite_f, ne_f (by omega), bite_f, lp, ob_some]
  rfl
end Go.Proofs.Ytfejdcdomgeogaa.setupPixels
