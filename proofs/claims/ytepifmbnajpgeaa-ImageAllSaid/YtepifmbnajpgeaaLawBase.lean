/- Numbers that fit their kinds, and the words of plain functions. -/
import Derived.Test.YtepifmbnajpgeaaMchZ
set_option linter.unusedVariables false
namespace Go.Proofs.Ytepifmbnajpgeaa.G
open Go Go.RowKit Go.Proofs.Ytepifmbnajpgeaa.M

theorem wrapI {n : Int} (h1 : -9223372036854775808 ≤ n) (h2 : n ≤ 9223372036854775807) : IntKind.wrap .i64 n = n := by
  simp only [IntKind.wrap, IntKind.bits, IntKind.signed]
  simp
  split <;> omega

theorem wrapU {n : Int} (h1 : 0 ≤ n) (h2 : n ≤ 18446744073709551615) : IntKind.wrap .u64 n = n := by
  simp only [IntKind.wrap, IntKind.bits, IntKind.signed]
  simp
  omega

theorem inR_i64 {x : Int} : inR .i64 x ↔ -9223372036854775808 ≤ x ∧ x ≤ 9223372036854775807 := by
  unfold inR
  simp [Lit.wf, IntKind.min, IntKind.max, IntKind.signed, IntKind.bits]

theorem inR_u8 {x : Int} : inR .u8 x ↔ 0 ≤ x ∧ x ≤ 255 := by
  unfold inR
  simp [Lit.wf, IntKind.min, IntKind.max, IntKind.signed, IntKind.bits]

theorem inR_i8 {x : Int} : inR .i8 x ↔ -128 ≤ x ∧ x ≤ 127 := by
  unfold inR
  simp [Lit.wf, IntKind.min, IntKind.max, IntKind.signed, IntKind.bits]

theorem tmod_lt {a m : Int} (hm : 0 < m) : -m < Int.tmod a m ∧ Int.tmod a m < m := by
  have h1 := Int.tmod_lt_of_pos a hm
  have h2 := Int.lt_tmod_of_pos a hm
  exact ⟨h2, h1⟩

/-! ### The words, of numbers that fit -/
theorem bnd_eq {α β : Type} (e : α) (f : α → Option β) : bnd e f = f e := rfl
theorem ob_some {α β : Type} (e : α) (f : α → Option β) : obind (some e) f = f e := rfl
theorem bite_t {β : Type} (x y : Option β) : bite true x y = x := rfl
theorem bite_f {β : Type} (x y : Option β) : bite false x y = y := rfl
theorem bgd_t {β : Type} (x : Option β) : bgd true x = x := rfl

theorem addI {a b : Int} (h : -9223372036854775808 ≤ a + b ∧ a + b ≤ 9223372036854775807) : F.add .i64 a b = a + b := wrapI h.1 h.2
theorem subI {a b : Int} (h : -9223372036854775808 ≤ a - b ∧ a - b ≤ 9223372036854775807) : F.sub .i64 a b = a - b := wrapI h.1 h.2
theorem mulI {a b : Int} (h : -9223372036854775808 ≤ a * b ∧ a * b ≤ 9223372036854775807) : F.mul .i64 a b = a * b := wrapI h.1 h.2
theorem negI {a : Int} (h : -9223372036854775807 ≤ a ∧ a ≤ 9223372036854775807) : F.neg .i64 a = -a := by
  rw [F.neg, wrapI (by omega) (by omega)]; omega
theorem convI {a : Int} (h : -9223372036854775808 ≤ a ∧ a ≤ 9223372036854775807) : F.conv .i64 a = a := wrapI h.1 h.2
theorem addU {a b : Int} (h : 0 ≤ a + b ∧ a + b ≤ 18446744073709551615) : F.add .u64 a b = a + b := wrapU h.1 h.2
theorem subU {a b : Int} (h : 0 ≤ a - b ∧ a - b ≤ 18446744073709551615) : F.sub .u64 a b = a - b := wrapU h.1 h.2
theorem mulU {a b : Int} (h : 0 ≤ a * b ∧ a * b ≤ 18446744073709551615) : F.mul .u64 a b = a * b := wrapU h.1 h.2
theorem convU {a : Int} (h : 0 ≤ a ∧ a ≤ 18446744073709551615) : F.conv .u64 a = a := wrapU h.1 h.2
theorem shrU32 {a : Int} : F.shr .u64 a 32 = a / 4294967296 := by
  rw [show (4294967296 : Int) = 2 ^ 32 from rfl, ← Int.fdiv_eq_ediv_of_nonneg _ (by decide)]; rfl

theorem f_eq {a b : Int} : F.eq a b = decide (a = b) := rfl
theorem f_ne {a b : Int} : F.ne a b = decide (a ≠ b) := by rw [F.ne, bne, Bool.eq_iff_iff]; simp
theorem f_min {a b : Int} : F.min a b = min a b := by unfold F.min; split <;> omega
theorem f_max {a b : Int} : F.max a b = max a b := by unfold F.max; split <;> omega

theorem eq_t {a b : Int} (h : a = b) : F.eq a b = true := decide_eq_true h
theorem eq_f {a b : Int} (h : a ≠ b) : F.eq a b = false := decide_eq_false h
theorem ne_f {a b : Int} (h : a = b) : F.ne a b = false := by rw [f_ne]; exact decide_eq_false (fun k => k h)
theorem ne_t {a b : Int} (h : a ≠ b) : F.ne a b = true := by rw [f_ne]; exact decide_eq_true h
theorem lt_t {a b : Int} (h : a < b) : F.lt a b = true := decide_eq_true h
theorem lt_f {a b : Int} (h : b ≤ a) : F.lt a b = false := decide_eq_false (by omega)
theorem le_t {a b : Int} (h : a ≤ b) : F.le a b = true := decide_eq_true h
theorem le_f {a b : Int} (h : b < a) : F.le a b = false := decide_eq_false (by omega)
theorem gt_t {a b : Int} (h : b < a) : F.gt a b = true := decide_eq_true h
theorem gt_f {a b : Int} (h : a ≤ b) : F.gt a b = false := decide_eq_false (by omega)
theorem ge_t {a b : Int} (h : b ≤ a) : F.ge a b = true := decide_eq_true h
theorem ge_f {a b : Int} (h : a < b) : F.ge a b = false := decide_eq_false (by omega)
theorem nz_t {a : Int} (h : a ≠ 0) : F.nonzero a = true := decide_eq_true h
theorem nn_t {a : Int} (h : 0 ≤ a) : F.nonneg a = true := decide_eq_true h

theorem not_t : F.not true = false := rfl
theorem not_f : F.not false = true := rfl
theorem both_t (b : Bool) : F.both true b = b := rfl

/-- A floor, told by where it lies. -/
theorem fdiv_at {p c q : Int} (hc : 0 < c) (h1 : c * q ≤ p) (h2 : p < c * q + c) : Int.fdiv p c = q := by
  rw [Int.fdiv_eq_ediv_of_nonneg _ (by omega)]
  have h3 : p / c * c ≤ p := Int.ediv_mul_le p (by omega)
  have h4 : p < (p / c + 1) * c := Int.lt_ediv_add_one_mul_self p hc
  rw [Int.mul_comm] at h3 h4
  have a : c * (p / c) < c * (q + 1) := by rw [Int.mul_add]; omega
  have b : c * q < c * (p / c + 1) := by omega
  have a := Int.lt_of_mul_lt_mul_left a (by omega)
  have b := Int.lt_of_mul_lt_mul_left b (by omega)
  omega

theorem fdiv_in {p c : Int} (hc : 0 < c) : c * Int.fdiv p c ≤ p ∧ p < c * Int.fdiv p c + c := by
  rw [Int.fdiv_eq_ediv_of_nonneg _ (by omega)]
  have h3 : p / c * c ≤ p := Int.ediv_mul_le p (by omega)
  have h4 : p < (p / c + 1) * c := Int.lt_ediv_add_one_mul_self p hc
  rw [Int.mul_comm] at h3
  rw [Int.add_mul, Int.mul_comm] at h4
  omega

/-- A floor is no farther from 0 than what it is of (from -1, if that is greater). -/
theorem fdiv_lim {p c m : Int} (hc : 0 < c) (h1 : -m ≤ p) (h2 : p ≤ m) (hm : 0 ≤ m) : -m ≤ Int.fdiv p c ∧ Int.fdiv p c ≤ m := by
  obtain ⟨a, b⟩ := fdiv_in (p := p) hc
  refine ⟨?_, ?_⟩
  · refine Int.not_lt.1 fun h => ?_
    have : c * (Int.fdiv p c + 1) ≤ c * (-m) := Int.mul_le_mul_of_nonneg_left (by omega) (by omega)
    have k : c * (-m) ≤ -m := by have := Int.mul_le_mul_of_nonneg_right (show 1 ≤ c by omega) hm; rw [Int.mul_neg]; omega
    rw [Int.mul_add] at this
    omega
  · refine Int.not_lt.1 fun h => ?_
    have : c * (m + 1) ≤ c * Int.fdiv p c := Int.mul_le_mul_of_nonneg_left (by omega) (by omega)
    have k : m ≤ c * m := by have := Int.mul_le_mul_of_nonneg_right (show 1 ≤ c by omega) hm; omega
    rw [Int.mul_add] at this
    omega

theorem fdiv_mono {p q c : Int} (hc : 0 < c) (h : p ≤ q) : Int.fdiv p c ≤ Int.fdiv q c := by
  rw [Int.fdiv_eq_ediv_of_nonneg _ (by omega), Int.fdiv_eq_ediv_of_nonneg _ (by omega)]
  exact Int.ediv_le_ediv hc h

end Go.Proofs.Ytepifmbnajpgeaa.G
