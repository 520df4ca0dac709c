/- TextureMiddles holds. -/
import Derived.Test.YtomndhdpdhiplaaLawTex
set_option linter.unusedVariables false
namespace Go.Proofs.Ytomndhdpdhiplaa.textureMiddles
open Go Go.RowKit Go.Proofs.Ytomndhdpdhiplaa.M Go.Proofs.Ytomndhdpdhiplaa.G

theorem tat_right {t : Tx} (x y : Int) : tat t (x + t.1) y = tat t x y := by
  unfold tat
  rw [Int.add_emod_right]

theorem tat_down {t : Tx} (x y : Int) : tat t x (y + t.2.1) = tat t x y := by
  unfold tat
  rw [Int.add_emod_right]

theorem tat_up {t : Tx} (x y : Int) : tat t x (y - t.2.1) = tat t x y := by
  unfold tat
  rw [Int.sub_emod_right]

theorem near_mid (t : Tx) (x y : Int) : tnear t (16 * x + 8) (16 * y + 8) = tat t x y := by
  unfold tnear
  rw [show (16 * x + 8) / 16 = x by omega, show (16 * y + 8) / 16 = y by omega]

theorem smooth_mid (t : Tx) (x y : Int) : tsm t (16 * x + 8) (16 * y + 8) = tat t x y := by
  unfold tsm trow
  rw [show (16 * x + 8 - 8) / 16 = x by omega, show (16 * y + 8 - 8) / 16 = y by omega, show (16 * x + 8 - 8) % 16 = 0 by omega, show (16 * y + 8 - 8) % 16 = 0 by omega, Int.mul_zero, mixC_none, mixC_none]

theorem tat_each {t : Tx} (ht : tok t) {i : Nat} (h : i < t.2.2.length) : tat t ((i : Int) % t.1) ((i : Int) / t.1) = t.2.2[i] := by
  have hok := ht
  obtain ⟨h1, h2, h3⟩ := ht
  have q0 : 0 ≤ (i : Int) / t.1 := Int.ediv_nonneg (by omega) (by omega)
  have q1 : (i : Int) / t.1 < t.2.1 := Int.ediv_lt_of_lt_mul (by omega) (by rw [Int.mul_comm]; omega)
  unfold tat
  rw [if_pos hok, Int.emod_emod, Int.emod_eq_of_lt q0 q1, Int.mul_comm, Int.mul_ediv_add_emod, Int.toNat_natCast, List.getD_eq_getElem?_getD, List.getElem?_eq_getElem h]
  rfl

theorem loop (fl : Nat) (hfl : 3 ≤ fl) {b : Bool} {x y : Int} {t : Tx} (ht : tok t) : ∀ (k n i : Nat), i + k = t.2.2.length → k + 1 ≤ n →
    glazierlaw11_TextureMiddles_l1 fl n b x y (i : Int) t.1 t.2.1 t.2.2 = some (.inr (b, (x, (y, (t.1, (t.2.1, (t.2.2, ())))))))
  | 0, n, i, hi, hn => by
    obtain ⟨n, rfl⟩ : ∃ m, n = m + 1 := ⟨n - 1, by omega⟩
    rw [glazierlaw11_TextureMiddles_l1, bnd_eq, lenK, bnd_eq, lt_f (by omega), bite_f]
  | k + 1, n, i, hi, hn => by
    obtain ⟨n, rfl⟩ : ∃ m, n = m + 1 := ⟨n - 1, by omega⟩
    have h1 := ht.1; have h2 := ht.2.1; have h3 := ht.2.2
    have ar := area_in h1 h2
    have e := tat_each ht (i := i) (by omega)
    rw [glazierlaw11_TextureMiddles_l1, bnd_eq, lenK, bnd_eq, lt_t (by omega), bite_t, nz_t (by omega), bgd_t, bnd_eq, bgd_t, bnd_eq, quoI (by omega) (by omega)]
    rw [show F.rem (i : Int) t.1 = (i : Int) % t.1 from Int.tmod_eq_emod_of_nonneg (by omega)]
    rw [show ((t.1, (t.2.1, t.2.2)) : Tx) = t from rfl, texel_spec hfl, ob_some, lgetK (show i < t.2.2.length by omega), ob_some, bnd_eq, eqC e, not_t, bite_f, bnd_eq, addI (by omega)]
    exact loop fl hfl ht k n (i + 1) (by omega) (by omega)

theorem law (x0 : (Ty.pair (.int .i64) (.pair (.int .i64) (.list (.pair (.int .u8) (.pair (.int .u8) (.pair (.int .u8) (.int .u8))))))).T) (x1 : (Ty.int .i64).T) (x2 : (Ty.int .i64).T)
    (h0 : okT (Ty.pair (.int .i64) (.pair (.int .i64) (.list (.pair (.int .u8) (.pair (.int .u8) (.pair (.int .u8) (.int .u8))))))) x0) (h1 : okT (.int .i64) x1) (h2 : okT (.int .i64) x2) : ∃ fl, glazierlaw11_TextureMiddles fl x0 x1 x2 = some true := by
  refine ⟨400, ?_⟩
  have hp := pxs_few (tex_in h0)
  obtain ⟨f, ef, hf, pf⟩ := fit_spec (fl := 400) (by omega) _ hp
  have hx := tmod_lt (a := x1) (m := 1073741824) (by decide)
  have hy := tmod_lt (a := x2) (m := 1073741824) (by decide)
  have f1 := hf.1; have f2 := hf.2.1
  have ar := area_in f1 f2
  unfold glazierlaw11_TextureMiddles
  rw [tshown (by omega), ob_some, few_spec, ob_some, ef, ob_some, bnd_eq, bnd_eq]
  unfold F.rem
  obtain ⟨x, hxe⟩ : ∃ x, x = Int.tmod x1 1073741824 := ⟨_, rfl⟩
  obtain ⟨y, hye⟩ : ∃ y, y = Int.tmod x2 1073741824 := ⟨_, rfl⟩
  rw [← hxe] at hx ⊢
  rw [← hye] at hy ⊢
  have lp := loop 400 (by omega) (b := true) (x := x) (y := y) hf f.2.2.length 400 0 (by omega) (by have := hf.2.2; omega)
  rw [show ((0 : Nat) : Int) = 0 from rfl] at lp
  have hm : ∀ z : Int, -1073741824 < z ∧ z < 1073741824 → mid (16 * z + 8) := fun z hz => by unfold mid; omega
  have hz : ∀ z : Int, -1073741824 < z ∧ z < 1073741824 → mid z := fun z hz => by unfold mid; omega
  have s1 : tsm f (x + 16 * f.1) y = tsm f x y := by
    unfold tsm trow
    rw [show (x + 16 * f.1 - 8) / 16 = (x - 8) / 16 + f.1 by omega, show (x + 16 * f.1 - 8) % 16 = (x - 8) % 16 by omega, tat_right, tat_right, show (x - 8) / 16 + f.1 + 1 = (x - 8) / 16 + 1 + f.1 by omega, tat_right, tat_right]
  have s2 : tnear f x (y + 16 * f.2.1) = tnear f x y := by
    unfold tnear
    rw [show (y + 16 * f.2.1) / 16 = y / 16 + f.2.1 by omega, tat_down]
  have a1 : F.mul .i64 16 x = 16 * x := mulI (by omega)
  have a2 : F.mul .i64 16 y = 16 * y := mulI (by omega)
  have a3 : F.add .i64 (16 * x) 8 = 16 * x + 8 := addI (by omega)
  have a4 : F.add .i64 (16 * y) 8 = 16 * y + 8 := addI (by omega)
  rw [texel_spec (by omega), ob_some, bnd_eq, a1, bnd_eq, a3, bnd_eq, a2, bnd_eq, a4, near_spec (by omega) (hm x hx) (hm y hy), ob_some, bnd_eq, eqC (near_mid f x y), not_t, bite_f,
    bnd_eq, bnd_eq, bnd_eq, bnd_eq, a3, a4, smooth_spec (by omega) pf (hm x hx) (hm y hy), ob_some, bnd_eq, eqC (smooth_mid f x y), not_t, bite_f,
    bnd_eq, addI (a := x) (by omega), texel_spec (by omega), ob_some, bnd_eq, eqC (tat_right x y), not_t, bite_f, bnd_eq, subI (by omega), texel_spec (by omega), ob_some, bnd_eq, eqC (tat_up x y), not_t, bite_f, lp, ob_some]
  show bite true _ _ = _
  simp only
  rw [bite_t, bnd_eq, mulI (by omega), bnd_eq, addI (by omega), show ((f.1, (f.2.1, f.2.2)) : Tx) = f from rfl, smooth_spec (by omega) pf (by unfold mid; omega) (hz y hy), ob_some, smooth_spec (by omega) pf (hz x hx) (hz y hy), ob_some, bnd_eq, eqC s1, bite_t,
    bnd_eq, mulI (by omega), bnd_eq, addI (by omega), near_spec (by omega) (hz x hx) (by unfold mid; omega), ob_some, near_spec (by omega) (hz x hx) (hz y hy), ob_some, bnd_eq, eqC s2]
end Go.Proofs.Ytomndhdpdhiplaa.textureMiddles
