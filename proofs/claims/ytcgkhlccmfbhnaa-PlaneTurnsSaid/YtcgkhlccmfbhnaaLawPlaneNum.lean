/- A number over a triangle, told once for all: also of triangles that are none. -/
import Derived.Test.YtcgkhlccmfbhnaaLawPlaneIn
import Derived.Test.YtcgkhlccmfbhnaaLawRef01
set_option linter.unusedVariables false
namespace Go.Proofs.Ytcgkhlccmfbhnaa.G
open Go Go.RowKit Go.Proofs.Ytcgkhlccmfbhnaa.M

def num (u : Tri) (n : Int × Int × Int) (x y : Int) : Int := if 0 < area u then Int.fdiv (weigh u n x y) (area u) else 0

theorem at_num (fl : Nat) {u : Tri} {n : Int × Int × Int} {x y : Int} (hu : okTri u) (h1 : small30 n.1) (h2 : small30 n.2.1) (h3 : small30 n.2.2) (hx : near x) (hy : near y) : plane_At fl u n x y = some (num u n x y) := by
  unfold num
  by_cases ha : 0 < area u
  · rw [if_pos ha, at_is fl hu ha h1 h2 h3 hx hy]
  · rw [if_neg ha, at_flat fl hu (by omega)]

theorem num_turn (u : Tri) (a b c x y : Int) : num (u.2.1, u.2.2, u.1) (b, c, a) x y = num u (a, b, c) x y := by
  unfold num
  rw [area_turn]
  have : weigh (u.2.1, u.2.2, u.1) (b, c, a) x y = weigh u (a, b, c) x y := by unfold weigh; grind
  rw [this]

theorem num_zero (u : Tri) (x y : Int) : num u (0, 0, 0) x y = 0 := by
  unfold num
  have : weigh u (0, 0, 0) x y = 0 := by unfold weigh; grind
  rw [this, Int.zero_fdiv]
  split <;> rfl

def dep (u : Tri) (x y : Int) : Int := if 0 < area u then min (max (num u (u.1.2.2.1, u.2.1.2.2.1, u.2.2.2.2.1) (16 * x + 8) (16 * y + 8)) (lowZ u)) (highZ u) else 0

theorem dep_spec (fl : Nat) {u : Tri} {x y : Int} (hu : okTri u) (hz : okTriZ u) (hx : -512 ≤ x ∧ x ≤ 512) (hy : -512 ≤ y ∧ y ≤ 512) : plane_Depth fl u x y = some (dep u x y) := by
  unfold dep
  by_cases ha : 0 < area u
  · rw [if_pos ha, depth_spec fl hu hz ha hx hy]
    unfold num
    rw [if_pos ha]
  · rw [if_neg ha]
    unfold plane_Depth
    rw [edge_area hu, ob_some, bnd_eq, le_t (by omega), bite_t]

theorem dep_turn (u : Tri) (x y : Int) : dep (u.2.1, u.2.2, u.1) x y = dep u x y := by
  unfold dep
  rw [area_turn]
  have h1 : lowZ (u.2.1, u.2.2, u.1) = lowZ u := by unfold lowZ; dsimp only; omega
  have h2 : highZ (u.2.1, u.2.2, u.1) = highZ u := by unfold highZ; dsimp only; omega
  rw [h1, h2, num_turn u]

theorem centre_run {x : Int} (hx : -512 ≤ x ∧ x ≤ 512) : view_Centre x = some (16 * x + 8) := by
  unfold view_Centre
  rw [bnd_eq, mulI (by omega), bnd_eq, addI (by omega)]

def okA (p : Pt) : Prop := (-4096 ≤ p.2.2.2.1 ∧ p.2.2.2.1 ≤ 4096) ∧ (-4096 ≤ p.2.2.2.2.1 ∧ p.2.2.2.2.1 ≤ 4096) ∧ (-4096 ≤ p.2.2.2.2.2.1 ∧ p.2.2.2.2.2.1 ≤ 4096) ∧ (-4096 ≤ p.2.2.2.2.2.2 ∧ p.2.2.2.2.2.2 ≤ 4096)

theorem each_num (fl : Nat) {u : Tri} {x y i : Int} {n : Int × Int × Int} (hu : okTri u) (e1 : plane_Attrs_1 u.1 i = some n.1) (e2 : plane_Attrs_1 u.2.1 i = some n.2.1) (e3 : plane_Attrs_1 u.2.2 i = some n.2.2)
    (h1 : -4096 ≤ n.1 ∧ n.1 ≤ 4096) (h2 : -4096 ≤ n.2.1 ∧ n.2.1 ≤ 4096) (h3 : -4096 ≤ n.2.2 ∧ n.2.2 ≤ 4096) (hx : -512 ≤ x ∧ x ≤ 512) (hy : -512 ≤ y ∧ y ≤ 512) :
    plane_each__2 fl u x y i = some (num u n (16 * x + 8) (16 * y + 8)) := by
  unfold plane_each__2
  rw [e1, ob_some, e2, ob_some, e3, ob_some, centre_run hx, ob_some, centre_run hy, ob_some, at_num fl (n := (n.1, (n.2.1, n.2.2))) hu ⟨by dsimp only; omega, by dsimp only; omega⟩ ⟨by dsimp only; omega, by dsimp only; omega⟩ ⟨by dsimp only; omega, by dsimp only; omega⟩ ⟨by omega, by omega⟩ ⟨by omega, by omega⟩]
  rfl

theorem attr0 (p : Pt) : plane_Attrs_1 p 0 = some p.2.2.2.1 := rfl
theorem attr1 (p : Pt) : plane_Attrs_1 p 1 = some p.2.2.2.2.1 := rfl
theorem attr2 (p : Pt) : plane_Attrs_1 p 2 = some p.2.2.2.2.2.1 := rfl
theorem attr3 (p : Pt) : plane_Attrs_1 p 3 = some p.2.2.2.2.2.2 := rfl

theorem attrs_spec (fl : Nat) {u : Tri} {x y : Int} (hu : okTri u) (hz : okTriZ u) (hx : -512 ≤ x ∧ x ≤ 512) (hy : -512 ≤ y ∧ y ≤ 512) : plane_Attrs fl u x y =
    some (num u (u.1.2.2.2.1, u.2.1.2.2.2.1, u.2.2.2.2.2.1) (16 * x + 8) (16 * y + 8), (num u (u.1.2.2.2.2.1, u.2.1.2.2.2.2.1, u.2.2.2.2.2.2.1) (16 * x + 8) (16 * y + 8),
      (num u (u.1.2.2.2.2.2.1, u.2.1.2.2.2.2.2.1, u.2.2.2.2.2.2.2.1) (16 * x + 8) (16 * y + 8), num u (u.1.2.2.2.2.2.2, u.2.1.2.2.2.2.2.2, u.2.2.2.2.2.2.2.2) (16 * x + 8) (16 * y + 8)))) := by
  obtain ⟨⟨_, a1, a2, a3, a4⟩, ⟨_, b1, b2, b3, b4⟩, ⟨_, c1, c2, c3, c4⟩⟩ := hz
  unfold plane_Attrs
  rw [each_num fl (n := (u.1.2.2.2.1, u.2.1.2.2.2.1, u.2.2.2.2.2.1)) hu (attr0 _) (attr0 _) (attr0 _) a1 b1 c1 hx hy, ob_some,
    each_num fl (n := (u.1.2.2.2.2.1, u.2.1.2.2.2.2.1, u.2.2.2.2.2.2.1)) hu (attr1 _) (attr1 _) (attr1 _) a2 b2 c2 hx hy, ob_some,
    each_num fl (n := (u.1.2.2.2.2.2.1, u.2.1.2.2.2.2.2.1, u.2.2.2.2.2.2.2.1)) hu (attr2 _) (attr2 _) (attr2 _) a3 b3 c3 hx hy, ob_some,
    each_num fl (n := (u.1.2.2.2.2.2.2, u.2.1.2.2.2.2.2.2, u.2.2.2.2.2.2.2.2)) hu (attr3 _) (attr3 _) (attr3 _) a4 b4 c4 hx hy, ob_some]

/-- The document's answer. -/
theorem ref_at {fl : Nat} (hfl : 130 ≤ fl) {u : Tri} {n : Int × Int × Int} {x y : Int} (hu : okTri u) (h1 : small30 n.1) (h2 : small30 n.2.1) (h3 : small30 n.2.2) (hx : near x) (hy : near y) : glazierref09_At fl u n x y = some (num u n x y) := by
  unfold num glazierref09_At
  rw [ref_area hu, ob_some, bnd_eq]
  by_cases ha : 0 < area u
  · rw [if_pos ha, le_f ha, bite_f, ref_cross hu.2.2 hu.1 hx hy, ob_some, ref_cross hu.1 hu.2.1 hx hy, ob_some]
    have hW : weigh u n x y = n.1 * area u + (n.2.1 - n.1) * crs u.2.2 u.1 x y + (n.2.2 - n.1) * crs u.1 u.2.1 x y := by
      rw [← crs_sum u x y]; unfold weigh; grind
    have hA := area_in hu
    have i0 := crs_in hu.2.1 hu.2.2 hx hy
    have i1 := crs_in hu.2.2 hu.1 hx hy
    have i2 := crs_in hu.1 hu.2.1 hx hy
    have hWb : -6917529037677199360 ≤ weigh u n x y ∧ weigh u n x y ≤ 6917529037677199360 := by
      unfold weigh
      have p0 := mul_in2 (a := n.1) (b := crs u.2.1 u.2.2 x y) (m := 1073741825) (n := 2147483648) h1 (by omega)
      have p1 := mul_in2 (a := n.2.1) (b := crs u.2.2 u.1 x y) (m := 1073741825) (n := 2147483648) h2 (by omega)
      have p2 := mul_in2 (a := n.2.2) (b := crs u.1 u.2.1 x y) (m := 1073741825) (n := 2147483648) h3 (by omega)
      omega
    clear i0
    obtain ⟨W, eW⟩ : ∃ A, A = weigh u n x y := ⟨_, rfl⟩
    obtain ⟨A, eA⟩ : ∃ A, A = area u := ⟨_, rfl⟩
    obtain ⟨b, e1⟩ : ∃ A, A = crs u.2.2 u.1 x y := ⟨_, rfl⟩
    obtain ⟨c, e2⟩ : ∃ A, A = crs u.1 u.2.1 x y := ⟨_, rfl⟩
    rw [← eW] at hW hWb ⊢
    rw [← eA] at hA ha hW ⊢
    rw [← e1] at i1 hW ⊢
    rw [← e2] at i2 hW ⊢
    clear e1 e2 eA eW
    obtain ⟨k0, k1, k2⟩ := n
    have h1 : -1073741825 ≤ k0 ∧ k0 ≤ 1073741825 := h1
    have h2 : -1073741825 ≤ k1 ∧ k1 ≤ 1073741825 := h2
    have h3 : -1073741825 ≤ k2 ∧ k2 ≤ 1073741825 := h3
    dsimp only at hW ⊢
    rw [bnd_eq, subI (a := k1) (b := k0) (by omega)]
    obtain ⟨d, ed⟩ : ∃ d, d = k1 - k0 := ⟨_, rfl⟩
    obtain ⟨d', ed'⟩ : ∃ d, d = k2 - k0 := ⟨_, rfl⟩
    have hd : -2147483650 ≤ d ∧ d ≤ 2147483650 := by omega
    have hd' : -2147483650 ≤ d' ∧ d' ≤ 2147483650 := by omega
    rw [← ed, ← ed'] at hW
    rw [← ed]
    rw [ref_down hfl (by omega) (by omega) (by omega), ob_some]
    have fb := fdiv_in (p := b) ha
    have lb := fdiv_lim (p := b) (m := 2147483648) ha (by omega) (by omega) (by decide)
    have fc := fdiv_in (p := c) ha
    have lc := fdiv_lim (p := c) (m := 2147483648) ha (by omega) (by omega) (by decide)
    obtain ⟨q, eq⟩ : ∃ q, q = Int.fdiv b A := ⟨_, rfl⟩
    obtain ⟨q', eq'⟩ : ∃ q, q = Int.fdiv c A := ⟨_, rfl⟩
    rw [← eq] at fb lb ⊢
    rw [← eq'] at fc lc
    rw [Int.mul_comm] at fb fc
    rw [bnd_eq, mulI (by omega), bnd_eq, subI (by omega)]
    obtain ⟨r, er⟩ : ∃ r, r = b - q * A := ⟨_, rfl⟩
    obtain ⟨r', er'⟩ : ∃ r, r = c - q' * A := ⟨_, rfl⟩
    have hr : 0 ≤ r ∧ r < A := by omega
    have hr' : 0 ≤ r' ∧ r' < A := by omega
    rw [← er]
    have pd := mul_in2 (a := d) (b := q) hd lb
    have pd' := mul_in2 (a := d') (b := q') hd' lc
    have pr := mul_in2 (a := d) (b := r) hd (n := 2147483648) (by omega)
    have pr' := mul_in2 (a := d') (b := r') hd' (n := 2147483648) (by omega)
    have fm := fdiv_in (p := d * r) ha
    have lm := fdiv_lim (p := d * r) ha (m := 4611686022722355200) (by omega) (by omega) (by decide)
    have fm' := fdiv_in (p := d' * r') ha
    have lm' := fdiv_lim (p := d' * r') ha (m := 4611686022722355200) (by omega) (by omega) (by decide)
    -- how great the floors are
    have sm : -2147483650 ≤ Int.fdiv (d * r) A ∧ Int.fdiv (d * r) A ≤ 2147483650 := by
      have u1 : d * r ≤ A * 2147483650 := by
        have := Int.mul_le_mul_of_nonneg_right hd.2 hr.1
        have := Int.mul_le_mul_of_nonneg_left (show r ≤ A by omega) (show (0 : Int) ≤ 2147483650 by decide)
        omega
      have u2 : A * (-2147483650) ≤ d * r := by
        have := Int.mul_le_mul_of_nonneg_right hd.1 hr.1
        have := Int.mul_le_mul_of_nonneg_left (show r ≤ A by omega) (show (0 : Int) ≤ 2147483650 by decide)
        omega
      refine ⟨?_, ?_⟩
      · have := fdiv_mono ha u2
        rwa [Int.mul_comm A, Int.mul_fdiv_cancel _ (by omega)] at this
      · have := fdiv_mono ha u1
        rwa [Int.mul_comm A, Int.mul_fdiv_cancel _ (by omega)] at this
    have sm' : -2147483650 ≤ Int.fdiv (d' * r') A ∧ Int.fdiv (d' * r') A ≤ 2147483650 := by
      have u1 : d' * r' ≤ A * 2147483650 := by
        have := Int.mul_le_mul_of_nonneg_right hd'.2 hr'.1
        have := Int.mul_le_mul_of_nonneg_left (show r' ≤ A by omega) (show (0 : Int) ≤ 2147483650 by decide)
        omega
      have u2 : A * (-2147483650) ≤ d' * r' := by
        have := Int.mul_le_mul_of_nonneg_right hd'.1 hr'.1
        have := Int.mul_le_mul_of_nonneg_left (show r' ≤ A by omega) (show (0 : Int) ≤ 2147483650 by decide)
        omega
      refine ⟨?_, ?_⟩
      · have := fdiv_mono ha u2
        rwa [Int.mul_comm A, Int.mul_fdiv_cancel _ (by omega)] at this
      · have := fdiv_mono ha u1
        rwa [Int.mul_comm A, Int.mul_fdiv_cancel _ (by omega)] at this
    rw [bnd_eq, mulI (a := d) (b := q) (by omega), bnd_eq, addI (by omega), ref_mulDiv hfl (a := d) (b := r) (by omega) (by omega) (by omega) (by omega) (by omega), ob_some]
    dsimp only
    obtain ⟨m, em⟩ : ∃ m, m = Int.fdiv (d * r) A := ⟨_, rfl⟩
    obtain ⟨m', em'⟩ : ∃ m, m = Int.fdiv (d' * r') A := ⟨_, rfl⟩
    rw [← em] at fm sm ⊢
    rw [← em'] at fm' sm'
    rw [Int.mul_comm A] at fm fm'
    -- the whole
    have hWV : W = A * (k0 + d * q + m + d' * q' + m') + (d * r - m * A + (d' * r' - m' * A)) := by
      rw [hW, er, er']; grind
    have fW := fdiv_in (p := W) ha
    have lW := fdiv_lim (p := W) ha hWb.1 hWb.2 (by decide)
    have hN2 : Int.fdiv W A = if A ≤ d * r - m * A + (d' * r' - m' * A) then k0 + d * q + m + d' * q' + m' + 1 else k0 + d * q + m + d' * q' + m' := by
      clear hW lW
      obtain ⟨V, eV⟩ : ∃ V, V = k0 + d * q + m + d' * q' + m' := ⟨_, rfl⟩
      rw [← eV] at hWV ⊢
      have hV1 : A * (V + 1) = A * V + A := by rw [Int.mul_add, Int.mul_one]
      by_cases hs : A ≤ d * r - m * A + (d' * r' - m' * A)
      · rw [if_pos hs]
        exact fdiv_at ha (by rw [hV1]; omega) (by rw [hV1]; omega)
      · rw [if_neg hs]
        exact fdiv_at ha (by omega) (by omega)
    have hN : Int.fdiv W A = k0 + d * q + m + d' * q' + m' ∨ Int.fdiv W A = k0 + d * q + m + d' * q' + m' + 1 := by
      rw [hN2]
      split
      · exact .inr rfl
      · exact .inl rfl
    rw [hN2]
    clear hWV hN2 fW hW
    obtain ⟨N, eN⟩ : ∃ N, N = Int.fdiv W A := ⟨_, rfl⟩
    rw [← eN] at hN lW
    clear eN
    obtain ⟨P, eP⟩ : ∃ P, P = d * q := ⟨_, rfl⟩
    obtain ⟨P', eP'⟩ : ∃ P, P = d' * q' := ⟨_, rfl⟩
    obtain ⟨R, eR⟩ : ∃ P, P = d * r := ⟨_, rfl⟩
    obtain ⟨R', eR'⟩ : ∃ P, P = d' * r' := ⟨_, rfl⟩
    have hm1 : -4611686022722355200 - 2147483648 ≤ m * A ∧ m * A ≤ 4611686022722355200 := by omega
    have hm2 : -4611686022722355200 - 2147483648 ≤ m' * A ∧ m' * A ≤ 4611686022722355200 := by omega
    have hP' : F.mul .i64 d' q' = P' := by rw [mulI (by omega), eP']
    have hR' : F.mul .i64 d' r' = R' := by rw [mulI (by omega), eR']
    have hR : F.mul .i64 d r = R := by rw [mulI (by omega), eR]
    rw [← eP] at pd hN ⊢
    rw [← eP'] at pd' hN ⊢
    rw [← eR] at pr fm ⊢
    rw [← eR'] at pr' fm' ⊢
    rw [bnd_eq, addI (a := k0 + P) (by omega), bnd_eq, hR, bnd_eq, addI (a := 0) (by omega), bnd_eq, mulI (a := m) (by omega), bnd_eq, subI (a := 0 + R) (b := m * A) (by omega), bnd_eq, bnd_eq, subI (a := k2) (b := k0) (by omega), ← ed', ref_down hfl (by omega) (by omega) (by omega), ob_some, ← eq',
      bnd_eq, mulI (a := q') (by omega), bnd_eq, subI (a := c) (by omega), ← er', bnd_eq, hP', bnd_eq, addI (a := k0 + P + m) (b := P') (by omega), ref_mulDiv hfl (a := d') (b := r') (by omega) (by omega) (by omega) (by omega) (by omega), ob_some]
    dsimp only
    rw [← eR'] at em'
    rw [← eR', ← em', bnd_eq, addI (b := m') (by omega), bnd_eq, hR', bnd_eq, addI (b := R') (by omega), bnd_eq, mulI (a := m') (by omega), bnd_eq, subI (b := m' * A) (by omega), bnd_eq, Int.zero_add, show R - m * A + R' - m' * A = R - m * A + (R' - m' * A) by omega]
    by_cases hs : A ≤ R - m * A + (R' - m' * A)
    · rw [ge_t hs, bite_t, if_pos hs, bnd_eq, addI (by omega)]
    · rw [ge_f (by omega), bite_f, if_neg hs]
  · rw [if_neg ha, le_t (by omega), bite_t]

theorem ref_centre {x : Int} (hx : -512 ≤ x ∧ x ≤ 512) : glazierref06_Centre x = some (16 * x + 8) := by
  unfold glazierref06_Centre
  rw [bnd_eq, mulI (by omega), bnd_eq, addI (by omega)]

theorem ref_dep {fl : Nat} (hfl : 130 ≤ fl) {u : Tri} {x y : Int} (hu : okTri u) (hz : okTriZ u) (hx : -512 ≤ x ∧ x ≤ 512) (hy : -512 ≤ y ∧ y ≤ 512) : glazierref09_Depth fl u x y = some (dep u x y) := by
  have z1 := hz.1.1
  have z2 := hz.2.1.1
  have z3 := hz.2.2.1
  unfold dep glazierref09_Depth
  rw [ref_area hu, ob_some, bnd_eq]
  by_cases ha : 0 < area u
  · rw [if_pos ha, le_f ha, bite_f, ref_centre hx, ob_some, ref_centre hy, ob_some, ref_at hfl (n := (u.1.2.2.1, (u.2.1.2.2.1, u.2.2.2.2.1))) hu ⟨by dsimp only; omega, by dsimp only; omega⟩ ⟨by dsimp only; omega, by dsimp only; omega⟩ ⟨by dsimp only; omega, by dsimp only; omega⟩ ⟨by omega, by omega⟩ ⟨by omega, by omega⟩, ob_some, bnd_eq, bnd_eq, bnd_eq, f_min, f_min, f_max, f_max]
    obtain ⟨z, ez⟩ : ∃ z, z = num u (u.1.2.2.1, (u.2.1.2.2.1, u.2.2.2.2.1)) (16 * x + 8) (16 * y + 8) := ⟨_, rfl⟩
    rw [← ez]
    have hl : min (min u.1.2.2.1 u.2.1.2.2.1) u.2.2.2.2.1 = lowZ u := rfl
    have hh : max (max u.1.2.2.1 u.2.1.2.2.1) u.2.2.2.2.1 = highZ u := rfl
    have hlh : lowZ u ≤ highZ u := by unfold lowZ highZ; omega
    rw [hl, hh]
    by_cases c1 : z < lowZ u
    · rw [lt_t c1, bite_t]
      congr 1
      omega
    · rw [lt_f (by omega), bite_f, bnd_eq]
      by_cases c2 : highZ u < z
      · rw [gt_t c2, bite_t]
        congr 1
        omega
      · rw [gt_f (by omega), bite_f]
        congr 1
        omega
  · rw [if_neg ha, le_t (by omega), bite_t]

theorem ref_attrs {fl : Nat} (hfl : 130 ≤ fl) {u : Tri} {x y : Int} (hu : okTri u) (hz : okTriZ u) (hx : -512 ≤ x ∧ x ≤ 512) (hy : -512 ≤ y ∧ y ≤ 512) : glazierref09_Attrs fl u x y =
    some (num u (u.1.2.2.2.1, u.2.1.2.2.2.1, u.2.2.2.2.2.1) (16 * x + 8) (16 * y + 8), (num u (u.1.2.2.2.2.1, u.2.1.2.2.2.2.1, u.2.2.2.2.2.2.1) (16 * x + 8) (16 * y + 8),
      (num u (u.1.2.2.2.2.2.1, u.2.1.2.2.2.2.2.1, u.2.2.2.2.2.2.2.1) (16 * x + 8) (16 * y + 8), num u (u.1.2.2.2.2.2.2, u.2.1.2.2.2.2.2.2, u.2.2.2.2.2.2.2.2) (16 * x + 8) (16 * y + 8)))) := by
  obtain ⟨⟨_, a1, a2, a3, a4⟩, ⟨_, b1, b2, b3, b4⟩, ⟨_, c1, c2, c3, c4⟩⟩ := hz
  have go : ∀ {n : Int × Int × Int}, (-4096 ≤ n.1 ∧ n.1 ≤ 4096) → (-4096 ≤ n.2.1 ∧ n.2.1 ≤ 4096) → (-4096 ≤ n.2.2 ∧ n.2.2 ≤ 4096) → glazierref09_At fl u n (16 * x + 8) (16 * y + 8) = some (num u n (16 * x + 8) (16 * y + 8)) := fun {n} g1 g2 g3 =>
    ref_at hfl hu ⟨by omega, by omega⟩ ⟨by omega, by omega⟩ ⟨by omega, by omega⟩ ⟨by omega, by omega⟩ ⟨by omega, by omega⟩
  unfold glazierref09_Attrs
  rw [ref_centre hx, ob_some, ref_centre hy, ob_some, go (n := (u.1.2.2.2.1, (u.2.1.2.2.2.1, u.2.2.2.2.2.1))) a1 b1 c1, ob_some, ob_some, ob_some, go (n := (u.1.2.2.2.2.1, (u.2.1.2.2.2.2.1, u.2.2.2.2.2.2.1))) a2 b2 c2, ob_some, ob_some, ob_some, go (n := (u.1.2.2.2.2.2.1, (u.2.1.2.2.2.2.2.1, u.2.2.2.2.2.2.2.1))) a3 b3 c3, ob_some, ob_some, ob_some, go (n := (u.1.2.2.2.2.2.2, (u.2.1.2.2.2.2.2.2, u.2.2.2.2.2.2.2.2))) a4 b4 c4, ob_some]
end Go.Proofs.Ytcgkhlccmfbhnaa.G
