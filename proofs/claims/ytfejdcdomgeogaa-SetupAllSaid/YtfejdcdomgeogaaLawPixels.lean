/- The pixels of a box, gone through: row by row, at most so many. -/
import Derived.Test.YtfejdcdomgeogaaGen
import Derived.Test.YtfejdcdomgeogaaLawBase
import Derived.Test.YtfejdcdomgeogaaLawList
set_option linter.unusedVariables false
namespace Go.Proofs.Ytfejdcdomgeogaa.G
open Go Go.RowKit Go.Proofs.Ytfejdcdomgeogaa.M

/-- The i-th pixel of a box from (a, b) on, of so many in a row. -/
def pixAt (a b : Int) (w i : Nat) : Int × Int := (a + ((i % w : Nat) : Int), b + ((i / w : Nat) : Int))
def pixN (a b : Int) (w k : Nat) : List (Int × Int) := (List.range k).map (pixAt a b w)

theorem pixN_length (a b : Int) (w k : Nat) : (pixN a b w k).length = k := by simp [pixN]
theorem pixN_succ (a b : Int) (w k : Nat) : pixN a b w k ++ [pixAt a b w k] = pixN a b w (k + 1) := by
  unfold pixN
  rw [List.range_succ, List.map_append]
  rfl
theorem pixAt_row (a b : Int) {w r j : Nat} (h : j < w) : pixAt a b w (r * w + j) = (a + (j : Int), b + (r : Int)) := by
  unfold pixAt
  rw [Nat.mul_comm r w, Nat.mul_add_mod, Nat.mod_eq_of_lt h, Nat.mul_add_div (by omega), Nat.div_eq_of_lt h, Nat.add_zero]

theorem os_inr {α β γ : Type} (x : β) (f : α → Option γ) (g : β → Option γ) : osum (.inr x : α ⊕ β) f g = g x := rfl
theorem os_inl {α β γ : Type} (x : α) (f : α → Option γ) (g : β → Option γ) : osum (.inl x : α ⊕ β) f g = f x := rfl

theorem pix_row (fl : Nat) {a b c y1 : Int} {bx : Int × Int × Int × Int} {w r M : Nat} (ha : -1000 ≤ a ∧ a ≤ 1000) (hb : -1000 ≤ b ∧ b ≤ 1000) (hw : (c - a).toNat = w) (hw2 : w ≤ 200) (hr : r ≤ 200) (hM : M ≤ 100000) : ∀ (m n j : Nat), j + m = w → m + 1 ≤ n → r * w + j < M → r * w + j ≤ 50000 →
    glazierlaw10_gone_i36_l1 fl n y1 a c (b + (r : Int)) (a + (j : Int)) bx (M : Int) (pixN a b w (r * w + j)) =
      if M ≤ r * w + w then some (.inl (bx, ((M : Int), (pixN a b w M, ())))) else some (.inr (y1, (a, (c, (b + (r : Int), (bx, ((M : Int), (pixN a b w (r * w + w), ()))))))))
  | m, 0, j, _, h, _, _ => by omega
  | 0, n + 1, j, hj, hn, hk, _ => by
    have hj : j = w := by omega
    subst hj
    rw [glazierlaw10_gone_i36_l1, bnd_eq, lt_f (by omega), bite_f, if_neg (by omega)]
  | m + 1, n + 1, j, hj, hn, hk, hs => by
    have hjw : j < w := by omega
    rw [glazierlaw10_gone_i36_l1, bnd_eq, lt_t (by omega), bite_t, appOk_t (by rw [pixN_length]; simp; omega) (by decide), bgd_t, bnd_eq, appK, ← pixAt_row a b hjw, pixN_succ, bnd_eq, lenK, pixN_length, bnd_eq]
    by_cases h : M ≤ r * w + j + 1
    · rw [ge_t (by omega), bite_t, if_pos (by omega), show r * w + j + 1 = M by omega]
    · have ih := pix_row fl (bx := bx) (y1 := y1) ha hb hw hw2 hr hM m n (j + 1) (by omega) (by omega) (by omega) (by
        have : r * w ≤ 200 * 200 := Nat.mul_le_mul hr hw2
        omega)
      rw [ge_f (by omega), bite_f, bnd_eq, addI (by omega)]
      rw [show ((j + 1 : Nat) : Int) = (j : Int) + 1 by omega, ← Int.add_assoc] at ih
      exact ih

theorem pix_rows (fl : Nat) (hfl : 300 ≤ fl) {a b c d : Int} {bx : Int × Int × Int × Int} {w h M : Nat} (ha : -1000 ≤ a ∧ a ≤ 1000) (hb : -1000 ≤ b ∧ b ≤ 1000) (hw : (c - a).toNat = w) (hw2 : w ≤ 200) (hh : (d - b).toNat = h) (hh2 : h ≤ 200) (hM : M ≤ 100000) : ∀ (m n r : Nat), r + m = h → m + 1 ≤ n → r * w < M →
    glazierlaw10_gone_i36_l2 fl n d a c (b + (r : Int)) bx (M : Int) (pixN a b w (r * w)) =
      if M ≤ h * w then some (.inl (bx, ((M : Int), (pixN a b w M, ())))) else some (.inr (bx, ((M : Int), (pixN a b w (h * w), ()))))
  | m, 0, r, _, h, _ => by omega
  | 0, n + 1, r, hr, hn, hk => by
    have hr : r = h := by omega
    subst hr
    rw [glazierlaw10_gone_i36_l2, bnd_eq, lt_f (by omega), bite_f, if_neg (by omega)]
  | m + 1, n + 1, r, hr, hn, hk => by
    have h1 : r * w ≤ 200 * 200 := Nat.mul_le_mul (by omega) hw2
    have row := pix_row fl (bx := bx) (y1 := d) (r := r) ha hb hw hw2 (by omega) hM w fl 0 (by omega) (by omega) (by omega) (by omega)
    rw [Nat.add_zero, show a + ((0 : Nat) : Int) = a by omega] at row
    rw [glazierlaw10_gone_i36_l2, bnd_eq, lt_t (by omega), bite_t, row]
    have h2 : (r + 1) * w = r * w + w := Nat.succ_mul r w
    have h3 : (r + 1) * w ≤ h * w := Nat.mul_le_mul_right w (by omega)
    by_cases hc : M ≤ r * w + w
    · rw [if_pos hc, ob_some, os_inl, if_pos (by omega)]
    · have ih := pix_rows fl hfl (bx := bx) ha hb hw hw2 hh hh2 hM m n (r + 1) (by omega) (by omega) (by omega)
      rw [if_neg hc, ob_some, os_inr]
      dsimp only
      rw [bnd_eq, addI (by omega)]
      rw [show ((r + 1 : Nat) : Int) = (r : Int) + 1 by omega, ← Int.add_assoc, h2] at ih
      exact ih

theorem gone_spec (fl : Nat) (hfl : 300 ≤ fl) {a b c d : Int} {w h M : Nat} (ha : -1000 ≤ a ∧ a ≤ 1000) (hb : -1000 ≤ b ∧ b ≤ 1000) (hw : (c - a).toNat = w) (hw2 : w ≤ 200) (hh : (d - b).toNat = h) (hh2 : h ≤ 200) (hM : M ≤ 100000) (hM0 : 0 < M) :
    glazierlaw10_gone fl (a, (b, (c, d))) (M : Int) = some (pixN a b w (min M (h * w)), true) := by
  have r := pix_rows fl hfl (bx := (b, (d, (a, c)))) ha hb hw hw2 hh hh2 hM h fl 0 (by omega) (by omega) (by omega)
  rw [Nat.zero_mul, show b + ((0 : Nat) : Int) = b by omega] at r
  have r : glazierlaw10_gone_i36_l2 fl fl d a c b (b, (d, (a, c))) (M : Int) [] = _ := r
  unfold glazierlaw10_gone setup_Pixels
  rw [ob_some]
  dsimp only
  rw [r]
  by_cases hc : M ≤ h * w
  · rw [if_pos hc, ob_some, os_inl, Nat.min_eq_left hc]
  · rw [if_neg hc, ob_some, os_inr, Nat.min_eq_right (by omega)]
end Go.Proofs.Ytfejdcdomgeogaa.G
