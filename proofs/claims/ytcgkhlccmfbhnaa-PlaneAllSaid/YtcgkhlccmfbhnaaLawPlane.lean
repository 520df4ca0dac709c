/- Numbers over a triangle. -/
import Derived.Test.YtcgkhlccmfbhnaaLawFixed
set_option linter.unusedVariables false
namespace Go.Proofs.Ytcgkhlccmfbhnaa.G
open Go Go.RowKit Go.Proofs.Ytcgkhlccmfbhnaa.M

theorem mul_in2 {a b m n : Int} (ha : -m ≤ a ∧ a ≤ m) (hb : -n ≤ b ∧ b ≤ n) : -(m * n) ≤ a * b ∧ a * b ≤ m * n := by
  have hm : 0 ≤ m := by omega
  have hn : 0 ≤ n := by omega
  rcases Int.le_total 0 b with h | h
  · have h1 : a * b ≤ m * b := Int.mul_le_mul_of_nonneg_right ha.2 h
    have h2 : m * b ≤ m * n := Int.mul_le_mul_of_nonneg_left hb.2 hm
    have h3 : -m * b ≤ a * b := Int.mul_le_mul_of_nonneg_right ha.1 h
    rw [Int.neg_mul] at h3
    omega
  · have h1 : a * (-b) ≤ m * (-b) := Int.mul_le_mul_of_nonneg_right ha.2 (by omega)
    have h2 : m * (-b) ≤ m * n := Int.mul_le_mul_of_nonneg_left (by omega) hm
    have h3 : -m * (-b) ≤ a * (-b) := Int.mul_le_mul_of_nonneg_right ha.1 (by omega)
    rw [Int.mul_neg] at h1 h2 h3
    rw [Int.mul_neg] at h1 h3
    rw [Int.neg_mul] at h3
    omega

abbrev Pt := Int × Int × Int × Int × Int × Int × Int
abbrev Tri := Pt × Pt × Pt

def crs (a b : Pt) (x y : Int) : Int := (b.1 - a.1) * (y - a.2.1) - (b.2.1 - a.2.1) * (x - a.1)
def area (u : Tri) : Int := crs u.1 u.2.1 u.2.2.1 u.2.2.2.1

def near (n : Int) : Prop := -16384 ≤ n ∧ n ≤ 16384
def okP (p : Pt) : Prop := near p.1 ∧ near p.2.1
def okTri (u : Tri) : Prop := okP u.1 ∧ okP u.2.1 ∧ okP u.2.2

theorem crs_in {a b : Pt} {x y : Int} (ha : okP a) (hb : okP b) (hx : near x) (hy : near y) : -2147483648 ≤ crs a b x y ∧ crs a b x y ≤ 2147483648 := by
  obtain ⟨⟨a1, a2⟩, a3, a4⟩ := ha
  obtain ⟨⟨b1, b2⟩, b3, b4⟩ := hb
  obtain ⟨x1, x2⟩ := hx
  obtain ⟨y1, y2⟩ := hy
  have h1 := mul_in2 (a := b.1 - a.1) (b := y - a.2.1) (m := 32768) (n := 32768) (by omega) (by omega)
  have h2 := mul_in2 (a := b.2.1 - a.2.1) (b := x - a.1) (m := 32768) (n := 32768) (by omega) (by omega)
  unfold crs
  omega

theorem crs_run {a b : Pt} {x y : Int} (ha : okP a) (hb : okP b) (hx : near x) (hy : near y) :
    F.sub .i64 (F.mul .i64 (F.sub .i64 b.1 a.1) (F.sub .i64 y a.2.1)) (F.mul .i64 (F.sub .i64 b.2.1 a.2.1) (F.sub .i64 x a.1)) = crs a b x y := by
  have h := crs_in ha hb hx hy
  obtain ⟨⟨a1, a2⟩, a3, a4⟩ := ha
  obtain ⟨⟨b1, b2⟩, b3, b4⟩ := hb
  obtain ⟨x1, x2⟩ := hx
  obtain ⟨y1, y2⟩ := hy
  have h1 := mul_in2 (a := b.1 - a.1) (b := y - a.2.1) (m := 32768) (n := 32768) (by omega) (by omega)
  have h2 := mul_in2 (a := b.2.1 - a.2.1) (b := x - a.1) (m := 32768) (n := 32768) (by omega) (by omega)
  unfold crs at h ⊢
  rw [subI (a := b.1) (by omega), subI (a := y) (by omega), mulI (by omega), subI (a := b.2.1) (by omega), subI (a := x) (by omega), mulI (by omega), subI (by omega)]

theorem crs_sum (u : Tri) (x y : Int) : crs u.2.1 u.2.2 x y + crs u.2.2 u.1 x y + crs u.1 u.2.1 x y = area u := by
  unfold area crs; grind

theorem area_turn (u : Tri) : area (u.2.1, u.2.2, u.1) = area u := by
  unfold area crs; grind

theorem edge_cross {a b : Pt} {x y : Int} (ha : okP a) (hb : okP b) (hx : near x) (hy : near y) : edge_Cross a b x y = some (crs a b x y) := by
  unfold edge_Cross
  simp only [bnd_eq]
  rw [crs_run ha hb hx hy]

theorem ref_cross {a b : Pt} {x y : Int} (ha : okP a) (hb : okP b) (hx : near x) (hy : near y) : glazierref07_Cross a b x y = some (crs a b x y) := by
  unfold glazierref07_Cross
  simp only [bnd_eq]
  rw [crs_run ha hb hx hy]

theorem edge_area {u : Tri} (hu : okTri u) : edge_Area u = some (area u) := by
  unfold edge_Area
  rw [edge_cross hu.1 hu.2.1 hu.2.2.1 hu.2.2.2]
  rfl

theorem ref_area {u : Tri} (hu : okTri u) : glazierref07_Area u = some (area u) := by
  unfold glazierref07_Area
  rw [ref_cross hu.1 hu.2.1 hu.2.2.1 hu.2.2.2]
  rfl

theorem area_in {u : Tri} (hu : okTri u) : -2147483648 ≤ area u ∧ area u ≤ 2147483648 := crs_in hu.1 hu.2.1 hu.2.2.1 hu.2.2.2

/-- What the numbers weigh. -/
def weigh (u : Tri) (n : Int × Int × Int) (x y : Int) : Int := n.1 * crs u.2.1 u.2.2 x y + n.2.1 * crs u.2.2 u.1 x y + n.2.2 * crs u.1 u.2.1 x y

def small30 (n : Int) : Prop := -1073741825 ≤ n ∧ n ≤ 1073741825

theorem at_flat (fl : Nat) {u : Tri} {n : Int × Int × Int} {x y : Int} (hu : okTri u) (ha : area u ≤ 0) : plane_At fl u n x y = some 0 := by
  unfold plane_At
  rw [edge_area hu]
  simp only [ob_some, bnd_eq]
  rw [le_t ha]
  rfl

theorem at_is (fl : Nat) {u : Tri} {n : Int × Int × Int} {x y : Int} (hu : okTri u) (ha : 0 < area u) (h1 : small30 n.1) (h2 : small30 n.2.1) (h3 : small30 n.2.2) (hx : near x) (hy : near y) :
    plane_At fl u n x y = some (Int.fdiv (weigh u n x y) (area u)) := by
  unfold plane_At
  rw [edge_area hu]
  simp only [ob_some, bnd_eq]
  rw [le_f ha]
  simp only [bite_f]
  rw [edge_cross hu.2.1 hu.2.2 hx hy, edge_cross hu.2.2 hu.1 hx hy, edge_cross hu.1 hu.2.1 hx hy]
  simp only [ob_some]
  unfold weigh
  have hA := area_in hu
  have i0 := crs_in hu.2.1 hu.2.2 hx hy
  have i1 := crs_in hu.2.2 hu.1 hx hy
  have i2 := crs_in hu.1 hu.2.1 hx hy
  obtain ⟨A, eA⟩ : ∃ A, A = area u := ⟨_, rfl⟩
  obtain ⟨w0, e0⟩ : ∃ A, A = crs u.2.1 u.2.2 x y := ⟨_, rfl⟩
  obtain ⟨w1, e1⟩ : ∃ A, A = crs u.2.2 u.1 x y := ⟨_, rfl⟩
  obtain ⟨w2, e2⟩ : ∃ A, A = crs u.1 u.2.1 x y := ⟨_, rfl⟩
  rw [← eA] at hA ha ⊢
  rw [← e0] at i0 ⊢
  rw [← e1] at i1 ⊢
  rw [← e2] at i2 ⊢
  clear e0 e1 e2 eA
  obtain ⟨k0, k1, k2⟩ := n
  have h1 : -1073741825 ≤ k0 ∧ k0 ≤ 1073741825 := h1
  have h2 : -1073741825 ≤ k1 ∧ k1 ≤ 1073741825 := h2
  have h3 : -1073741825 ≤ k2 ∧ k2 ≤ 1073741825 := h3
  dsimp only
  have p0 := mul_in2 (a := k0) (b := w0) h1 (n := 2147483648) (by omega)
  have p1 := mul_in2 (a := k1) (b := w1) h2 (n := 2147483648) (by omega)
  have p2 := mul_in2 (a := k2) (b := w2) h3 (n := 2147483648) (by omega)
  rw [mulDiv_spec fl (a := k0) (b := w0) (by omega) (by omega) (by omega) (by omega) (by omega), mulDiv_spec fl (a := k1) (b := w1) (by omega) (by omega) (by omega) (by omega) (by omega), mulDiv_spec fl (a := k2) (b := w2) (by omega) (by omega) (by omega) (by omega) (by omega)]
  simp only [ob_some]
  rw [mulI (a := k0) (by omega), mulI (a := k1) (by omega), mulI (a := k2) (by omega)]
  obtain ⟨P, eP⟩ : ∃ A, A = k0 * w0 := ⟨_, rfl⟩
  obtain ⟨Q, eQ⟩ : ∃ A, A = k1 * w1 := ⟨_, rfl⟩
  obtain ⟨R, eR⟩ : ∃ A, A = k2 * w2 := ⟨_, rfl⟩
  rw [← eP] at p0 ⊢
  rw [← eQ] at p1 ⊢
  rw [← eR] at p2 ⊢
  have l0 := fdiv_lim (p := P) ha p0.1 p0.2 (by decide)
  have l1 := fdiv_lim (p := Q) ha p1.1 p1.2 (by decide)
  have l2 := fdiv_lim (p := R) ha p2.1 p2.2 (by decide)
  have d0 := fdiv_in (p := P) ha
  have d1 := fdiv_in (p := Q) ha
  have d2 := fdiv_in (p := R) ha
  rw [Int.mul_comm] at d0 d1 d2
  obtain ⟨q0, f0⟩ : ∃ q, q = Int.fdiv P A := ⟨_, rfl⟩
  obtain ⟨q1, f1⟩ : ∃ q, q = Int.fdiv Q A := ⟨_, rfl⟩
  obtain ⟨q2, f2⟩ : ∃ q, q = Int.fdiv R A := ⟨_, rfl⟩
  rw [← f0] at d0 l0 ⊢
  rw [← f1] at d1 l1 ⊢
  rw [← f2] at d2 l2 ⊢
  rw [mulI (a := q0) (by omega), mulI (a := q1) (by omega), mulI (a := q2) (by omega)]
  have dd : Int.fdiv (P + Q + R) A = q0 + q1 + q2 + (P - q0 * A + (Q - q1 * A) + (R - q2 * A)) / A := by
    obtain ⟨m, hm⟩ : ∃ m, m = P - q0 * A + (Q - q1 * A) + (R - q2 * A) := ⟨_, rfl⟩
    have e : P + Q + R = A * (q0 + q1 + q2) + m := by rw [hm]; grind
    rw [e, ← hm, Int.fdiv_eq_ediv_of_nonneg _ (by omega), Int.mul_add_ediv_left _ _ (by omega)]
  rw [dd]
  obtain ⟨r0, g0⟩ : ∃ r, r = P - q0 * A := ⟨_, rfl⟩
  obtain ⟨r1, g1⟩ : ∃ r, r = Q - q1 * A := ⟨_, rfl⟩
  obtain ⟨r2, g2⟩ : ∃ r, r = R - q2 * A := ⟨_, rfl⟩
  have m0 : 0 ≤ r0 + r1 + r2 := by omega
  have m1 : r0 + r1 + r2 ≤ 3 * A := by omega
  have v : (r0 + r1 + r2) / A ≤ 3 := by
    have := Int.ediv_le_ediv ha m1
    rw [Int.mul_ediv_cancel _ (by omega)] at this
    exact this
  have v0 : 0 ≤ (r0 + r1 + r2) / A := Int.ediv_nonneg m0 (by omega)
  rw [subI (a := P) (by omega), subI (a := Q) (by omega), subI (a := R) (by omega), ← g0, ← g1, ← g2, addI (a := 0) (b := q0) (by omega), addI (a := 0) (b := r0) (by omega), addI (a := 0 + q0) (by omega), addI (a := 0 + r0) (by omega), addI (a := 0 + q0 + q1) (by omega), addI (a := 0 + r0 + r1) (by omega), nz_t (by omega), bgd_t]
  have hq : F.quo .i64 (0 + r0 + r1 + r2) A = (r0 + r1 + r2) / A := by
    unfold F.quo
    rw [show 0 + r0 + r1 + r2 = r0 + r1 + r2 by omega, Int.tdiv_eq_ediv_of_nonneg m0, wrapI (by omega) (by omega)]
  rw [hq, addI (by omega)]
  simp only [Int.zero_add]

theorem shownP (fl : Nat) : glazierlaw09_shown fl = some true := by
  unfold glazierlaw09_shown
  have ok0 : okTri ((0, (0, (0, (0, (0, (0, 0)))))), ((16, (0, (0, (0, (0, (0, 0)))))), (0, (16, (0, (0, (0, (0, 0)))))))) := by refine ⟨⟨⟨?_, ?_⟩, ?_, ?_⟩, ⟨⟨?_, ?_⟩, ?_, ?_⟩, ⟨?_, ?_⟩, ?_, ?_⟩ <;> decide
  rw [at_is fl ok0 (by decide) ⟨by decide, by decide⟩ ⟨by decide, by decide⟩ ⟨by decide, by decide⟩ ⟨by decide, by decide⟩ ⟨by decide, by decide⟩]
  rfl

theorem near_rem (n : Int) : near (F.rem n 16385) := by
  have := tmod_lt (a := n) (m := 16385) (by decide)
  unfold F.rem near
  omega

theorem small_spec (p : Pt) : ∃ q, glazierref07_Small p = some q ∧ okP q ∧ (-1073741824 ≤ q.2.2.1 ∧ q.2.2.1 ≤ 1073741824) ∧ (-4096 ≤ q.2.2.2.1 ∧ q.2.2.2.1 ≤ 4096) ∧ (-4096 ≤ q.2.2.2.2.1 ∧ q.2.2.2.2.1 ≤ 4096) ∧ (-4096 ≤ q.2.2.2.2.2.1 ∧ q.2.2.2.2.2.1 ≤ 4096) ∧ (-4096 ≤ q.2.2.2.2.2.2 ∧ q.2.2.2.2.2.2 ≤ 4096) := by
  have t1 := tmod_lt (a := p.2.2.1) (m := 1073741825) (by decide)
  have t2 := tmod_lt (a := p.2.2.2.1) (m := 4097) (by decide)
  have t3 := tmod_lt (a := p.2.2.2.2.1) (m := 4097) (by decide)
  have t4 := tmod_lt (a := p.2.2.2.2.2.1) (m := 4097) (by decide)
  have t5 := tmod_lt (a := p.2.2.2.2.2.2) (m := 4097) (by decide)
  unfold glazierref07_Small
  simp only [bnd_eq]
  refine ⟨_, rfl, ⟨near_rem _, near_rem _⟩, ?_, ?_, ?_, ?_, ?_⟩ <;> (simp only [F.rem]; omega)

def okZ (p : Pt) : Prop := (-1073741824 ≤ p.2.2.1 ∧ p.2.2.1 ≤ 1073741824) ∧ (-4096 ≤ p.2.2.2.1 ∧ p.2.2.2.1 ≤ 4096) ∧ (-4096 ≤ p.2.2.2.2.1 ∧ p.2.2.2.2.1 ≤ 4096) ∧ (-4096 ≤ p.2.2.2.2.2.1 ∧ p.2.2.2.2.2.1 ≤ 4096) ∧ (-4096 ≤ p.2.2.2.2.2.2 ∧ p.2.2.2.2.2.2 ≤ 4096)
def okTriZ (u : Tri) : Prop := okZ u.1 ∧ okZ u.2.1 ∧ okZ u.2.2

theorem three_spec (u : Tri) : ∃ v, glazierref07_Three u = some v ∧ okTri v ∧ okTriZ v := by
  obtain ⟨a, ea, a1, a2⟩ := small_spec u.1
  obtain ⟨b, eb, b1, b2⟩ := small_spec u.2.1
  obtain ⟨c, ec, c1, c2⟩ := small_spec u.2.2
  unfold glazierref07_Three
  rw [ea, eb, ec]
  exact ⟨(a, b, c), rfl, ⟨a1, b1, c1⟩, ⟨a2, b2, c2⟩⟩

/-- A triangle turned has an area above 0, or there is none. -/
theorem turned_spec {u : Tri} (h : okTri u) (hz : okTriZ u) : ∃ v b, glazierref07_Turned u = some (v, b) ∧ (b = true → okTri v ∧ okTriZ v ∧ 0 < area v) := by
  unfold glazierref07_Turned
  rw [ref_area h]
  simp only [ob_some, bnd_eq]
  rcases Int.lt_trichotomy (area u) 0 with k | k | k
  · rw [eq_f (by omega), bite_f, lt_t k, bite_t]
    refine ⟨(u.1, u.2.2, u.2.1), true, rfl, fun _ => ⟨⟨h.1, h.2.2, h.2.1⟩, ⟨hz.1, hz.2.2, hz.2.1⟩, ?_⟩⟩
    have : area (u.1, u.2.2, u.2.1) = -area u := by unfold area crs; grind
    omega
  · rw [eq_t k, bite_t]
    exact ⟨_, false, rfl, fun h => by cases h⟩
  · rw [eq_f (by omega), bite_f, lt_f (by omega), bite_f]
    exact ⟨u, true, rfl, fun _ => ⟨h, hz, k⟩⟩

theorem law_small (n : Int × Int × Int) : ∃ k, glazierlaw09_small n = some k ∧ (-1073741824 ≤ k.1 ∧ k.1 ≤ 1073741824) ∧ (-1073741824 ≤ k.2.1 ∧ k.2.1 ≤ 1073741824) ∧ (-1073741824 ≤ k.2.2 ∧ k.2.2 ≤ 1073741824) := by
  have t1 := tmod_lt (a := n.1) (m := 1073741825) (by decide)
  have t2 := tmod_lt (a := n.2.1) (m := 1073741825) (by decide)
  have t3 := tmod_lt (a := n.2.2) (m := 1073741825) (by decide)
  unfold glazierlaw09_small
  simp only [bnd_eq]
  refine ⟨_, rfl, ?_, ?_, ?_⟩ <;> (simp only [F.rem]; omega)

/-- One number three times. -/
theorem at_same (fl : Nat) {u : Tri} {k x y : Int} (hu : okTri u) (ha : 0 < area u) (h : small30 k) (hx : near x) (hy : near y) : plane_At fl u (k, k, k) x y = some k := by
  rw [at_is fl hu ha h h h hx hy]
  have e : weigh u (k, k, k) x y = area u * k + 0 := by
    rw [← crs_sum u x y]; unfold weigh; grind
  rw [fdiv_pos ha e (by omega) ha]
end Go.Proofs.Ytcgkhlccmfbhnaa.G
