/- A product divided: what fixed.MulDiv is, of numbers that are not too great. -/
import Derived.Test.YtmiffokcdmehhaaLawBase
import Derived.Test.YtmiffokcdmehhaaGenV1
set_option linter.unusedVariables false
namespace Go.Proofs.Ytmiffokcdmehhaa.G
open Go Go.RowKit Go.Proofs.Ytmiffokcdmehhaa.E

theorem mask_low {x : Int} (h0 : 0 ≤ x) (h1 : x ≤ 4294967295) : ((BitVec.toNat (BitVec.ofInt 64 x &&& BitVec.ofInt 64 4294967295) : Nat) : Int) = x := by
  obtain ⟨n, rfl⟩ := Int.eq_ofNat_of_zero_le h0
  have e : BitVec.ofInt 64 4294967295 = BitVec.ofNat 64 (2 ^ 32 - 1) := by decide
  rw [e, BitVec.ofInt_natCast, BitVec.toNat_and, BitVec.toNat_ofNat, BitVec.toNat_ofNat, Nat.mod_eq_of_lt (show n < 2 ^ 64 by omega), Nat.mod_eq_of_lt (show 2 ^ 32 - 1 < 2 ^ 64 by decide), Nat.and_two_pow_sub_one_eq_mod, Nat.mod_eq_of_lt (by omega)]

theorem mul64_spec {a b : Int} (ha : 0 ≤ a ∧ a ≤ 4294967295) (hb : 0 ≤ b ∧ b ≤ 4294967295) : math_bits_Mul64 a b = some (0, a * b) := by
  have hp0 : 0 ≤ a * b := Int.mul_nonneg ha.1 hb.1
  have hp1 : a * b ≤ 4294967295 * 4294967295 := Int.mul_le_mul ha.2 hb.2 hb.1 (by omega)
  have sa : Int.fdiv a (2 ^ 32) = 0 := by rw [Int.fdiv_eq_ediv_of_nonneg _ (by decide)]; omega
  have sb : Int.fdiv b (2 ^ 32) = 0 := by rw [Int.fdiv_eq_ediv_of_nonneg _ (by decide)]; omega
  obtain ⟨q, hq⟩ : ∃ q, q = Int.fdiv (a * b) (2 ^ 32) := ⟨_, rfl⟩
  have hq2 : 0 ≤ q ∧ q ≤ 4294967295 := by rw [hq, Int.fdiv_eq_ediv_of_nonneg _ (by decide)]; omega
  have sq : Int.fdiv q (2 ^ 32) = 0 := by rw [Int.fdiv_eq_ediv_of_nonneg _ (by decide)]; omega
  have w0 : IntKind.wrap .u64 0 = 0 := wrapU (by omega) (by omega)
  have wp : IntKind.wrap .u64 (a * b) = a * b := wrapU (by omega) (by omega)
  have wq : IntKind.wrap .u64 q = q := wrapU (by omega) (by omega)
  unfold math_bits_Mul64 bnd
  simp only [mask_low ha.1 ha.2, mask_low hb.1 hb.2, wrapU (n := a) (by omega) (by omega), wrapU (n := b) (by omega) (by omega), sa, sb, Int.zero_mul, Int.mul_zero, wp, ← hq, w0, Int.zero_add, Int.add_zero, wq, mask_low hq2.1 hq2.2, sq]

/-- How great a number is. -/
theorem size_spec {a : Int} (h : -9223372036854775807 ≤ a ∧ a ≤ 9223372036854775807) : fixed_size a = some (a.natAbs : Int) := by
  unfold fixed_size bnd
  simp only [wrapI (n := 0 - a) (by omega) (by omega)]
  have : (if 0 - a > a then 0 - a else a) = (a.natAbs : Int) := by split <;> omega
  rw [this, wrapU (by omega) (by omega)]

theorem fdiv_pos {p c q r : Int} (hc : 0 < c) (h : p = c * q + r) (h0 : 0 ≤ r) (h1 : r < c) : Int.fdiv p c = q := by
  rw [Int.fdiv_eq_ediv_of_nonneg _ (by omega), h, Int.mul_add_ediv_left _ _ (by omega), Int.ediv_eq_zero_of_lt h0 h1]
  omega

theorem sgn_of {a b c : Int} {x y z s : Bool} (ha : decide (a < 0) = x) (hb : decide (b < 0) = y) (hc : decide (c < 0) = z) (h : (!((!(x == y)) == z)) = s) : (!((!(decide (a < 0) == decide (b < 0))) == decide (c < 0))) = s := by
  rw [ha, hb, hc]; exact h

theorem mulDiv_spec {a b c : Int} (ha : -4294967295 ≤ a ∧ a ≤ 4294967295) (hb : -4294967295 ≤ b ∧ b ≤ 4294967295) (hp : -4611686018427387904 ≤ a * b ∧ a * b ≤ 4611686018427387904) (hc : c ≠ 0) (hc1 : -9223372036854775807 ≤ c ∧ c ≤ 9223372036854775807) :
    fixed_MulDiv a b c = some (Int.fdiv (a * b) c, 0) := by
  have hAB : ((a.natAbs : Int)) * (b.natAbs : Int) = ((a * b).natAbs : Int) := by rw [Int.natAbs_mul]; rfl
  unfold fixed_MulDiv
  rw [if_neg (by simpa using hc), size_spec (by omega), size_spec (by omega), size_spec hc1]
  simp only [Option.bind_some]
  rw [mul64_spec (by omega) (by omega), hAB]
  simp only [Option.bind_some]
  obtain ⟨C, hC⟩ : ∃ C : Int, C = c.natAbs := ⟨_, rfl⟩
  obtain ⟨p, hP⟩ : ∃ p : Int, p = (a * b).natAbs := ⟨_, rfl⟩
  rw [← hC, ← hP]
  have hC0 : 0 < C := by omega
  rw [if_neg (by simp; omega)]
  obtain ⟨q, hq⟩ : ∃ q, q = Int.tdiv p C := ⟨_, rfl⟩
  obtain ⟨r, hr⟩ : ∃ r, r = Int.tmod p C := ⟨_, rfl⟩
  have hp0 : 0 ≤ p := by omega
  have hr0 : 0 ≤ r := by rw [hr]; exact Int.tmod_nonneg _ hp0
  have hr1 : r < C := by rw [hr]; exact Int.tmod_lt_of_pos _ hC0
  have hpq : p = C * q + r := by rw [hq, hr]; exact (Int.mul_tdiv_add_tmod p C).symm
  have hq0 : 0 ≤ q := by rw [hq]; exact Int.tdiv_nonneg hp0 (by omega)
  have hqp : q ≤ p := by rw [hq]; exact Int.tdiv_le_self _ hp0
  have hd : math_bits_Div64 0 p C = some (q, r) := by
    unfold math_bits_Div64
    rw [if_neg (by simp; omega), if_neg (by simp; omega), if_pos (by rfl), if_pos (by omega), if_pos (by omega), ← hq, ← hr, wrapU (by omega) (by omega)]
  rw [hd]
  simp only [Option.bind_some]
  have signed0 : ∀ n : Int, 0 ≤ n → n ≤ 9223372036854775807 → fixed_signed n false = some (n, 0) := fun n h0 h1 => by
    unfold fixed_signed fixed_checked
    rw [if_neg (by simp), wrapI (by omega) (by omega), if_neg (by simpa using h1)]
    rfl
  have signed1 : ∀ n : Int, 0 ≤ n → n ≤ 9223372036854775807 → fixed_signed n true = some (-n, 0) := fun n h0 h1 => by
    unfold fixed_signed fixed_checked
    have hw : IntKind.wrap .i64 (IntKind.wrap .u64 (0 - n)) = -n := by
      simp only [IntKind.wrap, IntKind.bits, IntKind.signed]
      simp
      split <;> omega
    rw [if_pos rfl, hw, if_neg (by simp; omega)]
    rfl
  have posC : (a * b = p ∧ c = C) ∨ (a * b = -p ∧ c = -C) → Int.fdiv (a * b) c = q := fun h => by
    rcases h with ⟨h1, h2⟩ | ⟨h1, h2⟩
    · rw [h1, h2]; exact fdiv_pos hC0 hpq hr0 hr1
    · rw [h1, h2, Int.neg_fdiv_neg]; exact fdiv_pos hC0 hpq hr0 hr1
  have neg0 : r = 0 → (a * b = -p ∧ c = C) ∨ (a * b = p ∧ c = -C) → Int.fdiv (a * b) c = -q := fun hr0 h => by
    have e : -p = C * (-q) + 0 := by rw [Int.mul_neg]; omega
    rcases h with ⟨h1, h2⟩ | ⟨h1, h2⟩
    · rw [h1, h2]; exact fdiv_pos hC0 e (by omega) (by omega)
    · rw [h1, h2, ← Int.neg_fdiv_neg, Int.neg_neg]; exact fdiv_pos hC0 e (by omega) (by omega)
  have neg1 : 0 < r → (a * b = -p ∧ c = C) ∨ (a * b = p ∧ c = -C) → Int.fdiv (a * b) c = -(q + 1) := fun hr0 h => by
    have e : -p = C * (-(q + 1)) + (C - r) := by rw [Int.mul_neg, Int.mul_add]; omega
    rcases h with ⟨h1, h2⟩ | ⟨h1, h2⟩
    · rw [h1, h2]; exact fdiv_pos hC0 e (by omega) (by omega)
    · rw [h1, h2, ← Int.neg_fdiv_neg, Int.neg_neg]; exact fdiv_pos hC0 e (by omega) (by omega)
  have fin : ∀ sg : Bool, (!((!(decide (a < 0) == decide (b < 0))) == decide (c < 0))) = sg → (sg = false → (a * b = p ∧ c = C) ∨ (a * b = -p ∧ c = -C)) → (sg = true → (a * b = -p ∧ c = C) ∨ (a * b = p ∧ c = -C)) →
      (if (!((!(decide (a < 0) == decide (b < 0))) == decide (c < 0))) = true then
        (if decide (r > 0) = true then (if ((IntKind.wrap .u64 (q + 1)) == 0) = true then some (0, 2) else fixed_MulDiv_j1 a b c (IntKind.wrap .u64 (q + 1))) else fixed_MulDiv_j1 a b c q)
        else fixed_MulDiv_j1 a b c q) = some (Int.fdiv (a * b) c, 0) := fun sg hs h0 h1 => by
    unfold fixed_MulDiv_j1
    rw [hs]
    cases sg with
    | false =>
      rw [if_neg (by decide), signed0 q hq0 (by omega), posC (h0 rfl)]
      rfl
    | true =>
      rw [if_pos rfl]
      by_cases hr2 : r > 0
      · have hqp2 : q ≤ 4611686018427387904 := by omega
        rw [if_pos (by simpa using hr2), wrapU (by omega) (by omega), if_neg (by simp; omega), signed1 (q + 1) (by omega) (by omega), neg1 hr2 (h1 rfl)]
        rfl
      · rw [if_neg (by simpa using hr2), signed1 q hq0 (by omega), neg0 (by omega) (h1 rfl)]
        rfl
  clear posC neg0 neg1 signed0 signed1 hd hpq hr hq
  have hm : (0 ≤ a * b ∧ a * b = p) ∨ (a * b ≤ 0 ∧ a * b = -p) := by omega
  have sab : (a < 0 ∧ b < 0 → 0 ≤ a * b) ∧ (a < 0 ∧ 0 ≤ b → a * b ≤ 0) ∧ (0 ≤ a ∧ b < 0 → a * b ≤ 0) ∧ (0 ≤ a ∧ 0 ≤ b → 0 ≤ a * b) := by
    refine ⟨fun h => Int.mul_nonneg_of_nonpos_of_nonpos (by omega) (by omega), fun h => Int.mul_nonpos_of_nonpos_of_nonneg (by omega) h.2, fun h => Int.mul_nonpos_of_nonneg_of_nonpos h.1 (by omega), fun h => Int.mul_nonneg h.1 h.2⟩
  obtain ⟨s1, s2, s3, s4⟩ := sab
  rcases Int.lt_or_le a 0 with k1 | k1 <;> rcases Int.lt_or_le b 0 with k2 | k2 <;> rcases Int.lt_or_le c 0 with k3 | k3
  · exact fin true (sgn_of (decide_eq_true k1) (decide_eq_true k2) (decide_eq_true k3) rfl) (by simp) (fun _ => by have := s1 ⟨k1, k2⟩; omega)
  · exact fin false (sgn_of (decide_eq_true k1) (decide_eq_true k2) (decide_eq_false (Int.not_lt.2 k3)) rfl) (fun _ => by have := s1 ⟨k1, k2⟩; omega) (by simp)
  · exact fin false (sgn_of (decide_eq_true k1) (decide_eq_false (Int.not_lt.2 k2)) (decide_eq_true k3) rfl) (fun _ => by have := s2 ⟨k1, k2⟩; omega) (by simp)
  · exact fin true (sgn_of (decide_eq_true k1) (decide_eq_false (Int.not_lt.2 k2)) (decide_eq_false (Int.not_lt.2 k3)) rfl) (by simp) (fun _ => by have := s2 ⟨k1, k2⟩; omega)
  · exact fin false (sgn_of (decide_eq_false (Int.not_lt.2 k1)) (decide_eq_true k2) (decide_eq_true k3) rfl) (fun _ => by have := s3 ⟨k1, k2⟩; omega) (by simp)
  · exact fin true (sgn_of (decide_eq_false (Int.not_lt.2 k1)) (decide_eq_true k2) (decide_eq_false (Int.not_lt.2 k3)) rfl) (by simp) (fun _ => by have := s3 ⟨k1, k2⟩; omega)
  · exact fin true (sgn_of (decide_eq_false (Int.not_lt.2 k1)) (decide_eq_false (Int.not_lt.2 k2)) (decide_eq_true k3) rfl) (by simp) (fun _ => by have := s4 ⟨k1, k2⟩; omega)
  · exact fin false (sgn_of (decide_eq_false (Int.not_lt.2 k1)) (decide_eq_false (Int.not_lt.2 k2)) (decide_eq_false (Int.not_lt.2 k3)) rfl) (fun _ => by have := s4 ⟨k1, k2⟩; omega) (by simp)
end Go.Proofs.Ytmiffokcdmehhaa.G
