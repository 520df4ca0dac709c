/- Where a vertex is on a screen. -/
import Derived.Test.YtfejdcdomgeogaaLawFixed
set_option linter.unusedVariables false
namespace Go.Proofs.Ytfejdcdomgeogaa.G
open Go Go.RowKit Go.Proofs.Ytfejdcdomgeogaa.M

theorem mul_in {a b m n : Int} (ha : -m ≤ a ∧ a ≤ m) (hb : 0 ≤ b ∧ b ≤ n) : -(m * n) ≤ a * b ∧ a * b ≤ m * n := by
  have hm : 0 ≤ m := by omega
  have h1 : a * b ≤ m * b := Int.mul_le_mul_of_nonneg_right ha.2 hb.1
  have h2 : m * b ≤ m * n := Int.mul_le_mul_of_nonneg_left hb.2 hm
  have h3 : -m * b ≤ a * b := Int.mul_le_mul_of_nonneg_right ha.1 hb.1
  rw [Int.neg_mul] at h3
  omega

theorem at_spec (fl : Nat) {x s : Int} {v : Int × Int × Int × Int × Int × Int × Int × Int} (hx : -1099511627776 ≤ x ∧ x ≤ 1099511627776) (hs : 0 ≤ s ∧ s ≤ 32768) (hw : 0 < v.2.2.2.1 ∧ v.2.2.2.1 ≤ 9223372036854775807) :
    view_Point_1 fl x s v = some (Int.fdiv (x * s) v.2.2.2.1 + s) := by
  have h := mul_in hx hs
  have h1 := fdiv_lim (p := x * s) hw.1 h.1 h.2 (by decide)
  unfold view_Point_1
  rw [mulDiv_spec fl (by omega) (by omega) (by omega) (by omega) (by omega)]
  simp only [ob_some, bnd_eq]
  rw [addI (by omega)]

theorem point_spec (fl : Nat) {w h : Int} {v : Int × Int × Int × Int × Int × Int × Int × Int} (hw : 1 ≤ w ∧ w ≤ 64) (hh : 1 ≤ h ∧ h ≤ 64) (hx : -1099511627776 ≤ v.1 ∧ v.1 ≤ 1099511627776) (hy : -1099511627776 ≤ v.2.1 ∧ v.2.1 ≤ 1099511627776)
    (hz : -1099511627776 ≤ v.2.2.1 ∧ v.2.2.1 ≤ 1099511627776) (hW : 1 ≤ v.2.2.2.1 ∧ v.2.2.2.1 ≤ 9223372036854775807) :
    view_Point fl w h v = some ((Int.fdiv (v.1 * (8 * w)) v.2.2.2.1 + 8 * w, Int.fdiv (v.2.1 * (8 * h)) v.2.2.2.1 + 8 * h, Int.fdiv (v.2.2.1 * 32768) v.2.2.2.1 + 32768, v.2.2.2.2), true) := by
  unfold view_Point
  simp only [bnd_eq]
  rw [f_min, f_min, lt_f (by omega), f_max, gt_f (by omega), mulI (by omega), mulI (by omega)]
  simp only [bite_f]
  rw [at_spec fl hx (by omega) (by omega), at_spec fl hy (by omega) (by omega), at_spec fl hz (by omega) (by omega)]
  rfl

theorem point_none (fl : Nat) {w h : Int} {v : Int × Int × Int × Int × Int × Int × Int × Int} (h0 : w < 1 ∨ h < 1 ∨ v.2.2.2.1 < 1 ∨ 64 < w ∨ 64 < h) :
    view_Point fl w h v = some ((0, (0, (0, (0, (0, (0, 0)))))), false) := by
  unfold view_Point
  simp only [bnd_eq]
  rw [f_min, f_min, f_max]
  by_cases h1 : min (min w h) v.2.2.2.1 < 1
  · rw [lt_t h1]; rfl
  · rw [lt_f (by omega), gt_t (by omega)]; rfl

/-- A side out of a byte. -/
theorem side_spec {x m : Int} (hx : inR .u8 x) (hm : 0 < m) (hm1 : m ≤ 64) : ∃ s, F.add .i64 1 (F.rem (F.conv .i64 x) m) = s ∧ 1 ≤ s ∧ s ≤ m := by
  have hx := inR_u8.1 hx
  refine ⟨_, rfl, ?_⟩
  rw [convI (by omega)]
  unfold F.rem
  have h1 := Int.tmod_lt_of_pos x hm
  have h2 := Int.tmod_nonneg m hx.1
  rw [addI (by omega)]
  omega

/-- A floor of a number and that of its negative. -/
theorem fdiv_neg_sum {p c : Int} (hc : 0 < c) : Int.fdiv p c + Int.fdiv (-p) c = 0 ∨ Int.fdiv p c + Int.fdiv (-p) c = -1 := by
  obtain ⟨a1, a2⟩ := fdiv_in (p := p) hc
  obtain ⟨b1, b2⟩ := fdiv_in (p := -p) hc
  have h1 : c * (Int.fdiv p c + Int.fdiv (-p) c) < c * 1 := by rw [Int.mul_add]; omega
  have h2 : c * (-2) < c * (Int.fdiv p c + Int.fdiv (-p) c) := by rw [Int.mul_add]; omega
  have h1 := Int.lt_of_mul_lt_mul_left h1 (by omega)
  have h2 := Int.lt_of_mul_lt_mul_left h2 (by omega)
  omega

/-- A floor of twice as much. -/
theorem fdiv_twice {p c : Int} (hc : 0 < c) : Int.fdiv (2 * p) c - 2 * Int.fdiv p c = 0 ∨ Int.fdiv (2 * p) c - 2 * Int.fdiv p c = 1 := by
  obtain ⟨a1, a2⟩ := fdiv_in (p := p) hc
  obtain ⟨b1, b2⟩ := fdiv_in (p := 2 * p) hc
  have h1 : c * (Int.fdiv (2 * p) c) < c * (2 * Int.fdiv p c + 2) := by rw [Int.mul_add, Int.mul_left_comm c 2]; omega
  have h2 : c * (2 * Int.fdiv p c) < c * (Int.fdiv (2 * p) c + 1) := by rw [Int.mul_add, Int.mul_left_comm c 2]; omega
  have h1 := Int.lt_of_mul_lt_mul_left h1 (by omega)
  have h2 := Int.lt_of_mul_lt_mul_left h2 (by omega)
  omega

/-- Twice as much in twice as many. -/
theorem fdiv_both {p c : Int} (hc : 0 < c) : Int.fdiv (2 * p) (2 * c) = Int.fdiv p c := by
  obtain ⟨a1, a2⟩ := fdiv_in (p := p) hc
  refine fdiv_at (by omega) ?_ ?_ <;> rw [Int.mul_assoc] <;> omega
end Go.Proofs.Ytfejdcdomgeogaa.G
