/- TextureShifts holds. -/
import Derived.Test.YtomndhdpdhiplaaLawTex
set_option linter.unusedVariables false
namespace Go.Proofs.Ytomndhdpdhiplaa.textureShifts
open Go Go.RowKit Go.Proofs.Ytomndhdpdhiplaa.M Go.Proofs.Ytomndhdpdhiplaa.G

def mv (f : Tx) (k : Int) (i : Nat) : Pix := tat f ((i : Int) % f.1 + k) ((i : Int) / f.1)
def tv (f : Tx) (i : Nat) : Pix := tat f ((i : Int) % f.1) (f.2.1 - 1 - (i : Int) / f.1)

theorem row_in {f : Tx} (hf : tok f) {i : Nat} (hi : (i : Int) < f.1 * f.2.1) : (0 ≤ (i : Int) / f.1 ∧ (i : Int) / f.1 < f.2.1) ∧ (0 ≤ (i : Int) % f.1 ∧ (i : Int) % f.1 < f.1) := by
  have h1 := hf.1; have h2 := hf.2.1
  exact ⟨⟨Int.ediv_nonneg (by omega) (by omega), Int.ediv_lt_of_lt_mul (by omega) (by rw [Int.mul_comm]; omega)⟩, mod_in (by omega)⟩

theorem loop (fl : Nat) {b : Bool} {x y k : Int} {f : Tx} (hf : tok f) (hk : 0 ≤ k ∧ k < f.1) : ∀ (j n i : Nat), (i : Int) + j = f.1 * f.2.1 → j + 1 ≤ n →
    glazierlaw11_TextureShifts_l1 fl n b x y k (i : Int) f.1 f.2.1 f.2.2 f.1 f.2.1 ((List.range i).map (mv f k)) f.1 f.2.1 ((List.range i).map (tv f)) =
      some (b, (x, (y, (k, (f.1, (f.2.1, (f.2.2, (f.1, (f.2.1, ((List.range (f.1 * f.2.1).toNat).map (mv f k), (f.1, (f.2.1, ((List.range (f.1 * f.2.1).toNat).map (tv f), ())))))))))))))
  | 0, n, i, hi, hn => by
    have ar := area_in hf.1 hf.2.1
    obtain ⟨n, rfl⟩ : ∃ m, n = m + 1 := ⟨n - 1, by omega⟩
    rw [glazierlaw11_TextureShifts_l1, bnd_eq, mulI (by omega), bnd_eq, lt_f (by omega), bite_f, show i = (f.1 * f.2.1).toNat by omega]
  | j + 1, n, i, hi, hn => by
    have h1 := hf.1; have h2 := hf.2.1; have h3 := hf.2.2
    have ar := area_in h1 h2
    obtain ⟨n, rfl⟩ : ∃ m, n = m + 1 := ⟨n - 1, by omega⟩
    obtain ⟨r1, r2⟩ := row_in hf (i := i) (by omega)
    have e0 : F.rem (i : Int) f.1 = (i : Int) % f.1 := Int.tmod_eq_emod_of_nonneg (by omega)
    have e1 : F.quo .i64 (i : Int) f.1 = (i : Int) / f.1 := quoI (by omega) (by omega)
    have e2 : F.rem ((i : Int) % f.1 + k) f.1 = ((i : Int) % f.1 + k) % f.1 := Int.tmod_eq_emod_of_nonneg (by omega)
    have m1 := mod_in (x := (i : Int) % f.1 + k) (w := f.1) (by omega)
    have p1 := place r1 m1
    have p2 := place (w := f.1) (h := f.2.1) (b := f.2.1 - 1 - (i : Int) / f.1) (a := (i : Int) % f.1) (by omega) r2
    have n1 : 0 ≤ (i : Int) / f.1 * f.1 := Int.mul_nonneg r1.1 (by omega)
    have n2 : 0 ≤ (f.2.1 - 1 - (i : Int) / f.1) * f.1 := Int.mul_nonneg (by omega) (by omega)
    have g1 := tat_get hf ((i : Int) % f.1 + k) ((i : Int) / f.1)
    rw [Int.emod_eq_of_lt r1.1 r1.2] at g1
    have g2 := tat_get hf ((i : Int) % f.1) (f.2.1 - 1 - (i : Int) / f.1)
    rw [Int.emod_eq_of_lt (a := f.2.1 - 1 - (i : Int) / f.1) (by omega) (by omega), Int.emod_emod] at g2
    rw [glazierlaw11_TextureShifts_l1, bnd_eq, mulI (by omega), bnd_eq, lt_t (by omega), bite_t, nz_t (by omega), bgd_t, bnd_eq, bnd_eq, bgd_t, bnd_eq, bnd_eq, bgd_t, bnd_eq, bnd_eq, e0, e1, addI (a := (i : Int) % f.1) (by omega), e2, mulI (by omega), addI (by omega), g1, ob_some,
      appOk_t (by simp; omega) (by decide), bgd_t, bnd_eq, bnd_eq, bgd_t, bnd_eq, bnd_eq, bnd_eq, bgd_t, bnd_eq, bnd_eq, subI (a := f.2.1) (by omega), subI (by omega), mulI (by omega), addI (by omega), g2, ob_some, appOk_t (by simp; omega) (by decide), bgd_t, bnd_eq, bnd_eq, addI (by omega), appK, appK]
    have := loop fl (b := b) (x := x) (y := y) hf hk j n (i + 1) (by omega) (by omega)
    rw [List.range_succ, List.map_append, List.map_append] at this
    exact this

theorem tat_of {f : Tx} (hf : tok f) (g : Nat → Pix) (x y : Int) : tat (f.1, (f.2.1, (List.range (f.1 * f.2.1).toNat).map g)) x y = g (y % f.2.1 * f.1 + x % f.1).toNat := by
  obtain ⟨h1, h2, h3⟩ := hf
  have ar := area_in h1 h2
  have p := place (mod_in (x := y) (w := f.2.1) (by omega)) (mod_in (x := x) (w := f.1) (by omega))
  have hk : tok (f.1, (f.2.1, (List.range (f.1 * f.2.1).toNat).map g)) := ⟨h1, h2, by simp; omega⟩
  unfold tat
  rw [if_pos hk, List.getD_eq_getElem?_getD, List.getElem?_map, List.getElem?_range (by simp only; omega)]
  rfl

theorem split_at {w b a : Int} (hw : 0 < w) (hb : 0 ≤ b) (ha : 0 ≤ a ∧ a < w) : (((b * w + a).toNat : Int) / w = b) ∧ (((b * w + a).toNat : Int) % w = a) := by
  have h0 : 0 ≤ b * w := Int.mul_nonneg hb (by omega)
  rw [Int.toNat_of_nonneg (by omega)]
  refine ⟨?_, ?_⟩
  · rw [Int.add_comm, Int.add_mul_ediv_right _ _ (by omega), Int.ediv_eq_zero_of_lt ha.1 ha.2]; omega
  · rw [Int.add_comm, Int.add_mul_emod_self_right, Int.emod_eq_of_lt ha.1 ha.2]

theorem tat_same {t : Tx} {x x' y y' : Int} (hx : x % t.1 = x' % t.1) (hy : y % t.2.1 = y' % t.2.1) : tat t x y = tat t x' y' := by
  unfold tat
  rw [hx, hy]

theorem moved_at {f : Tx} (hf : tok f) (k x y : Int) : tat (f.1, (f.2.1, (List.range (f.1 * f.2.1).toNat).map (mv f k))) x y = tat f (x + k) y := by
  have h1 := hf.1; have h2 := hf.2.1
  obtain ⟨s1, s2⟩ := split_at (w := f.1) (b := y % f.2.1) (a := x % f.1) (by omega) (mod_in (by omega)).1 (mod_in (by omega))
  rw [tat_of hf]
  unfold mv
  rw [s1, s2]
  exact tat_same (Int.emod_add_emod ..) (Int.emod_emod ..)

theorem turned_at {f : Tx} (hf : tok f) (x y : Int) : tat (f.1, (f.2.1, (List.range (f.1 * f.2.1).toNat).map (tv f))) x y = tat f x (-1 - y) := by
  have h1 := hf.1; have h2 := hf.2.1
  obtain ⟨s1, s2⟩ := split_at (w := f.1) (b := y % f.2.1) (a := x % f.1) (by omega) (mod_in (by omega)).1 (mod_in (by omega))
  rw [tat_of hf]
  unfold tv
  rw [s1, s2]
  refine tat_same (Int.emod_emod ..) ?_
  rw [show f.2.1 - 1 - y % f.2.1 = -1 - y % f.2.1 + f.2.1 by omega, Int.add_emod_right, Int.sub_emod_emod]

theorem main (x0 : Tx) (x1 : Int × Int) (x2 : Int) (h0 : pxs x0) (hb : 0 ≤ x2 ∧ x2 ≤ 255) : ∃ fl, glazierlaw11_TextureShifts fl x0 x1 x2 = some true := by
  refine ⟨400, ?_⟩
  have hp := pxs_few h0
  obtain ⟨f, ef, hf, pf⟩ := fit_spec (fl := 400) (by omega) _ hp
  have hx := tmod_lt (a := x1.1) (m := 1073741824) (by decide)
  have hy := tmod_lt (a := x1.2) (m := 1073741824) (by decide)
  have f1 := hf.1; have f2 := hf.2.1; have f3 := hf.2.2
  have ar := area_in f1 f2
  unfold glazierlaw11_TextureShifts
  rw [tshown (by omega), ob_some, few_spec, ob_some, ef, ob_some, bnd_eq, bnd_eq, bnd_eq, convI (by omega), nz_t (by omega), bgd_t, bnd_eq]
  unfold F.rem
  rw [Int.tmod_eq_emod_of_nonneg (a := x2) (by omega)]
  have hk := mod_in (x := x2) (w := f.1) (by omega)
  obtain ⟨x, hxe⟩ : ∃ x, x = Int.tmod x1.1 1073741824 := ⟨_, rfl⟩
  obtain ⟨y, hye⟩ : ∃ y, y = Int.tmod x1.2 1073741824 := ⟨_, rfl⟩
  obtain ⟨k, hke⟩ : ∃ k, k = x2 % f.1 := ⟨_, rfl⟩
  rw [← hxe] at hx ⊢
  rw [← hye] at hy ⊢
  rw [← hke] at hk ⊢
  have e := loop 400 (b := true) (x := x) (y := y) hf hk f.2.2.length 400 0 (by omega) (by omega)
  rw [show ((0 : Nat) : Int) = 0 from rfl] at e
  rw [show glazierlaw11_TextureShifts_l1 400 400 true x y k 0 f.1 f.2.1 f.2.2 f.1 f.2.1 [] f.1 f.2.1 [] = _ from e, ob_some]
  dsimp only
  obtain ⟨m, hm⟩ : ∃ m : Tx, m = (f.1, (f.2.1, (List.range (f.1 * f.2.1).toNat).map (mv f k))) := ⟨_, rfl⟩
  obtain ⟨t, ht⟩ : ∃ t : Tx, t = (f.1, (f.2.1, (List.range (f.1 * f.2.1).toNat).map (tv f))) := ⟨_, rfl⟩
  have am : ∀ x y, tat m x y = tat f (x + k) y := fun x y => by rw [hm]; exact moved_at hf k x y
  have at' : ∀ x y, tat t x y = tat f x (-1 - y) := fun x y => by rw [ht]; exact turned_at hf x y
  have pm : pxs m := fun c hc => by
    rw [hm] at hc
    obtain ⟨i, _, rfl⟩ := List.mem_map.1 hc
    exact tat_pix pf _ _
  have sm : tsm m x y = tsm f (x + 16 * k) y := by
    unfold tsm trow
    rw [am, am, am, am, show (x + 16 * k - 8) / 16 = (x - 8) / 16 + k by omega, show (x + 16 * k - 8) % 16 = (x - 8) % 16 by omega, show (x - 8) / 16 + 1 + k = (x - 8) / 16 + k + 1 by omega]
  have nm : tnear m x y = tnear f (x + 16 * k) y := by
    unfold tnear
    rw [am, show (x + 16 * k) / 16 = x / 16 + k by omega]
  have q1 : mid x := by unfold mid; omega
  have q2 : mid y := by unfold mid; omega
  have q3 : mid (x + 16 * k) := by unfold mid; omega
  rw [← hm, ← ht, bite_t, texel_spec (by omega), ob_some, bnd_eq, addI (by omega), texel_spec (by omega), ob_some, bnd_eq, eqC (am x y), bite_t, texel_spec (by omega), ob_some, bnd_eq, subI (by omega), texel_spec (by omega), ob_some, bnd_eq, eqC (at' x y), bite_t,
    smooth_spec (by omega) pm q1 q2, ob_some, bnd_eq, mulI (by omega), bnd_eq, addI (by omega), show ((f.1, (f.2.1, f.2.2)) : Tx) = f from rfl, smooth_spec (by omega) pf q3 q2, ob_some, bnd_eq, eqC sm, bite_t,
    near_spec (by omega) q1 q2, ob_some, bnd_eq, bnd_eq, addI (by omega), near_spec (by omega) q3 q2, ob_some, bnd_eq, eqC nm]
theorem law (x0 : (Ty.pair (.int .i64) (.pair (.int .i64) (.list (.pair (.int .u8) (.pair (.int .u8) (.pair (.int .u8) (.int .u8))))))).T) (x1 : (Ty.pair (.int .i64) (.int .i64)).T) (x2 : (Ty.int .u8).T)
    (h0 : okT (Ty.pair (.int .i64) (.pair (.int .i64) (.list (.pair (.int .u8) (.pair (.int .u8) (.pair (.int .u8) (.int .u8))))))) x0) (h1 : okT (.pair (.int .i64) (.int .i64)) x1) (h2 : okT (.int .u8) x2) : ∃ fl, glazierlaw11_TextureShifts fl x0 x1 x2 = some true := main x0 x1 x2 (tex_in h0) (inR_u8.1 h2)
end Go.Proofs.Ytomndhdpdhiplaa.textureShifts
