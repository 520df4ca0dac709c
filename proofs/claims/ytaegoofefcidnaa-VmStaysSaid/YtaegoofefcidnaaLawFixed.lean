/- A product divided: what fixed.MulDiv is, of numbers that are not too great. -/
import Derived.Test.YtaegoofefcidnaaLawBase
import Derived.Test.YtaegoofefcidnaaGen
set_option linter.unusedVariables false
namespace Go.Proofs.Ytaegoofefcidnaa.G
open Go Go.RowKit Go.Proofs.Ytaegoofefcidnaa.M

theorem mask32 {x : Int} (h0 : 0 ≤ x) (h1 : x ≤ 18446744073709551615) : F.and .u64 x 4294967295 = x % 4294967296 := by
  obtain ⟨n, rfl⟩ := Int.eq_ofNat_of_zero_le h0
  have e : BitVec.ofInt 64 4294967295 = BitVec.ofNat 64 (2 ^ 32 - 1) := by decide
  have k : ((BitVec.toNat (BitVec.ofInt 64 (n : Int) &&& BitVec.ofInt 64 4294967295) : Nat) : Int) = (n : Int) % 4294967296 := by
    rw [e, BitVec.ofInt_natCast, BitVec.toNat_and, BitVec.toNat_ofNat, BitVec.toNat_ofNat, Nat.mod_eq_of_lt (show n < 2 ^ 64 by omega), Nat.mod_eq_of_lt (show 2 ^ 32 - 1 < 2 ^ 64 by decide), Nat.and_two_pow_sub_one_eq_mod]
    rfl
  show IntKind.wrap .u64 _ = _
  rw [show ((BitVec.toNat (BitVec.ofInt (IntKind.bits .u64) (n : Int) &&& BitVec.ofInt (IntKind.bits .u64) 4294967295) : Nat) : Int) = (n : Int) % 4294967296 from k, wrapU (by omega) (by omega)]

theorem mul64_spec {a b : Int} (ha : 0 ≤ a ∧ a ≤ 18446744073709551615) (hb : 0 ≤ b ∧ b ≤ 18446744073709551615) (hp : a * b ≤ 9223372036854775807) : bits_Mul64 a b = some (0, a * b) := by
  obtain ⟨A, hA⟩ : ∃ A, A = a / 4294967296 := ⟨_, rfl⟩
  obtain ⟨B, hB⟩ : ∃ B, B = b / 4294967296 := ⟨_, rfl⟩
  obtain ⟨x, hx⟩ : ∃ x, x = a % 4294967296 := ⟨_, rfl⟩
  obtain ⟨y, hy⟩ : ∃ y, y = b % 4294967296 := ⟨_, rfl⟩
  have ea : a = 4294967296 * A + x := by omega
  have eb : b = 4294967296 * B + y := by omega
  have e : a * b = 18446744073709551616 * (A * B) + 4294967296 * (A * y) + 4294967296 * (x * B) + x * y := by
    rw [ea, eb]
    simp only [Int.mul_add, Int.add_mul, Int.mul_assoc, Int.mul_left_comm x, Int.mul_left_comm A]
    omega
  have p1 : 0 ≤ A * B := Int.mul_nonneg (by omega) (by omega)
  have p2 : 0 ≤ A * y := Int.mul_nonneg (by omega) (by omega)
  have p3 : 0 ≤ x * B := Int.mul_nonneg (by omega) (by omega)
  have p4 : 0 ≤ x * y := Int.mul_nonneg (by omega) (by omega)
  obtain ⟨p, hP⟩ : ∃ p, p = a * b := ⟨_, rfl⟩
  obtain ⟨P, h1⟩ : ∃ P, P = A * B := ⟨_, rfl⟩
  obtain ⟨Q, h2⟩ : ∃ P, P = A * y := ⟨_, rfl⟩
  obtain ⟨R, h3⟩ : ∃ P, P = x * B := ⟨_, rfl⟩
  obtain ⟨S, h4⟩ : ∃ P, P = x * y := ⟨_, rfl⟩
  rw [← hP] at hp
  rw [← h1] at p1
  rw [← h2] at p2
  rw [← h3] at p3
  rw [← h4] at p4
  rw [← hP, ← h1, ← h2, ← h3, ← h4] at e
  unfold bits_Mul64
  simp only [bnd_eq, shrU32]
  rw [mask32 ha.1 ha.2, mask32 hb.1 hb.2, ← hx, ← hy, ← hA, ← hB]
  have m1 : F.mul .u64 x y = S := by rw [mulU (by omega), h4]
  have m2 : F.mul .u64 A y = Q := by rw [mulU (by omega), h2]
  have m3 : F.mul .u64 x B = R := by rw [mulU (by omega), h3]
  have m4 : F.mul .u64 A B = P := by rw [mulU (by omega), h1]
  have m5 : F.mul .u64 a b = p := by rw [mulU (by omega), hP]
  rw [m1, m2, m3, m4, m5, addU (a := Q) (by omega), mask32 (x := Q + S / 4294967296) (by omega) (by omega), addU (b := R) (by omega), addU (a := P) (by omega), addU (by omega), hP]
  have : P + (Q + S / 4294967296) / 4294967296 + ((Q + S / 4294967296) % 4294967296 + R) / 4294967296 = 0 := by omega
  rw [this]

/-- How great a number is. -/
theorem size_spec {a : Int} (h : -9223372036854775807 ≤ a ∧ a ≤ 9223372036854775807) : fixed_size a = some (a.natAbs : Int) := by
  unfold fixed_size
  simp only [bnd_eq]
  rw [negI h, f_max, show max a (-a) = (a.natAbs : Int) by omega, convU (by omega)]

theorem fdiv_pos {p c q r : Int} (hc : 0 < c) (h : p = c * q + r) (h0 : 0 ≤ r) (h1 : r < c) : Int.fdiv p c = q := fdiv_at hc (by omega) (by omega)

theorem signed0 {n : Int} (h0 : 0 ≤ n) (h1 : n ≤ 9223372036854775807) : fixed_signed n false = some (n, 0) := by
  unfold fixed_signed fixed_checked
  simp only [bnd_eq, bite_f]
  rw [convI (by omega), le_t h1]
  rfl

theorem signed1 {n : Int} (h0 : 0 ≤ n) (h1 : n ≤ 9223372036854775807) : fixed_signed n true = some (-n, 0) := by
  unfold fixed_signed fixed_checked
  have hw : F.conv .i64 (F.neg .u64 n) = -n := by
    simp only [F.conv, F.neg, IntKind.wrap, IntKind.bits, IntKind.signed]
    simp
    split <;> omega
  simp only [bnd_eq, bite_t]
  rw [hw, le_t (by omega)]
  rfl

theorem div64_spec (fl : Nat) {p c : Int} (hp : 0 ≤ p) (hp1 : p ≤ 9223372036854775807) (hc : 0 < c) : bits_Div64 fl 0 p c = some (Int.tdiv p c, Int.tmod p c) := by
  have hq0 : 0 ≤ Int.tdiv p c := Int.tdiv_nonneg hp (by omega)
  have hqp : Int.tdiv p c ≤ p := Int.tdiv_le_self _ hp
  unfold bits_Div64
  simp only [bnd_eq]
  rw [eq_f (by omega), le_f hc, eq_t rfl, nz_t (by omega)]
  simp only [bite_f, bite_t, bgd_t]
  show some (IntKind.wrap .u64 (Int.tdiv p c), _) = _
  rw [wrapU hq0 (by omega)]
  rfl

theorem mulDiv_spec (fl : Nat) {a b c : Int} (ha : -9223372036854775807 ≤ a ∧ a ≤ 9223372036854775807) (hb : -9223372036854775807 ≤ b ∧ b ≤ 9223372036854775807) (hp : -9223372036854775806 ≤ a * b ∧ a * b ≤ 9223372036854775806) (hc : c ≠ 0) (hc1 : -9223372036854775807 ≤ c ∧ c ≤ 9223372036854775807) :
    fixed_MulDiv fl a b c = some (Int.fdiv (a * b) c, 0) := by
  have hAB : ((a.natAbs : Int)) * (b.natAbs : Int) = ((a * b).natAbs : Int) := by rw [Int.natAbs_mul]; rfl
  unfold fixed_MulDiv
  simp only [bnd_eq]
  rw [eq_f hc, size_spec ha, size_spec hb, size_spec hc1]
  simp only [ob_some, bite_f]
  rw [mul64_spec (by omega) (by omega) (by rw [hAB]; omega), hAB]
  simp only [ob_some]
  obtain ⟨C, hC⟩ : ∃ C : Int, C = c.natAbs := ⟨_, rfl⟩
  obtain ⟨p, hP⟩ : ∃ p : Int, p = (a * b).natAbs := ⟨_, rfl⟩
  rw [← hC, ← hP]
  have hC0 : 0 < C := by omega
  rw [ge_f (by omega), div64_spec fl (by omega) (by omega) hC0]
  simp only [ob_some, bite_f]
  obtain ⟨q, hq⟩ : ∃ q, q = Int.tdiv p C := ⟨_, rfl⟩
  obtain ⟨r, hr⟩ : ∃ r, r = Int.tmod p C := ⟨_, rfl⟩
  have hp0 : 0 ≤ p := by omega
  have hr0 : 0 ≤ r := by rw [hr]; exact Int.tmod_nonneg _ hp0
  have hr1 : r < C := by rw [hr]; exact Int.tmod_lt_of_pos _ hC0
  have hpq : p = C * q + r := by rw [hq, hr]; exact (Int.mul_tdiv_add_tmod p C).symm
  have hq0 : 0 ≤ q := by rw [hq]; exact Int.tdiv_nonneg hp0 (by omega)
  have hqp : q ≤ p := by rw [hq]; exact Int.tdiv_le_self _ hp0
  rw [← hq, ← hr]
  have posC : (a * b = p ∧ c = C) ∨ (a * b = -p ∧ c = -C) → Int.fdiv (a * b) c = q := fun h => by
    rcases h with ⟨h1, h2⟩ | ⟨h1, h2⟩
    · rw [h1, h2]; exact fdiv_pos hC0 hpq hr0 hr1
    · rw [h1, h2, Int.neg_fdiv_neg]; exact fdiv_pos hC0 hpq hr0 hr1
  have neg0 : r = 0 → (a * b = -p ∧ c = C) ∨ (a * b = p ∧ c = -C) → Int.fdiv (a * b) c = -q := fun hr0 h => by
    have e : -p = C * (-q) + 0 := by rw [Int.mul_neg]; omega
    rcases h with ⟨h1, h2⟩ | ⟨h1, h2⟩
    · rw [h1, h2]; exact fdiv_pos hC0 e (by omega) (by omega)
    · rw [h1, h2, ← Int.neg_fdiv_neg, Int.neg_neg]; exact fdiv_pos hC0 e (by omega) (by omega)
  have neg1 : 0 < r → (a * b = -p ∧ c = C) ∨ (a * b = p ∧ c = -C) → Int.fdiv (a * b) c = -(q + 1) := fun hr0 h => by
    have e : -p = C * (-(q + 1)) + (C - r) := by rw [Int.mul_neg, Int.mul_add]; omega
    rcases h with ⟨h1, h2⟩ | ⟨h1, h2⟩
    · rw [h1, h2]; exact fdiv_pos hC0 e (by omega) (by omega)
    · rw [h1, h2, ← Int.neg_fdiv_neg, Int.neg_neg]; exact fdiv_pos hC0 e (by omega) (by omega)
  have fin : ∀ sg : Bool, F.bne (F.bne (F.lt a 0) (F.lt b 0)) (F.lt c 0) = sg → (sg = false → (a * b = p ∧ c = C) ∨ (a * b = -p ∧ c = -C)) → (sg = true → (a * b = -p ∧ c = C) ∨ (a * b = p ∧ c = -C)) →
      bite (F.bne (F.bne (F.lt a 0) (F.lt b 0)) (F.lt c 0))
        (bite (F.gt r 0) (bite (F.eq (F.add .u64 q 1) 0) (some (0, 2)) (obind (fixed_signed (F.add .u64 q 1) (F.bne (F.bne (F.lt a 0) (F.lt b 0)) (F.lt c 0))) fun q => some q))
          (obind (fixed_signed q (F.bne (F.bne (F.lt a 0) (F.lt b 0)) (F.lt c 0))) fun q => some q))
        (obind (fixed_signed q (F.bne (F.bne (F.lt a 0) (F.lt b 0)) (F.lt c 0))) fun q => some q) = some (Int.fdiv (a * b) c, (0 : Int)) := fun sg hs h0 h1 => by
    rw [hs]
    cases sg with
    | false =>
      rw [bite_f, signed0 hq0 (by omega), posC (h0 rfl)]
      rfl
    | true =>
      rw [bite_t]
      by_cases hr2 : r > 0
      · rw [gt_t hr2, addU (by omega), eq_f (by omega), signed1 (by omega) (by omega), neg1 hr2 (h1 rfl)]
        rfl
      · rw [gt_f (by omega), signed1 hq0 (by omega), neg0 (by omega) (h1 rfl)]
        rfl
  clear posC neg0 neg1 hpq hr hq
  have hm1 : 0 ≤ a * b → a * b = p := by omega
  have hm2 : a * b ≤ 0 → a * b = -p := by omega
  have hc1' : 0 ≤ c → c = C := by omega
  have hc2' : c < 0 → c = -C := by omega
  have sab : (a < 0 ∧ b < 0 → 0 ≤ a * b) ∧ (a < 0 ∧ 0 ≤ b → a * b ≤ 0) ∧ (0 ≤ a ∧ b < 0 → a * b ≤ 0) ∧ (0 ≤ a ∧ 0 ≤ b → 0 ≤ a * b) := by
    refine ⟨fun h => Int.mul_nonneg_of_nonpos_of_nonpos (by omega) (by omega), fun h => Int.mul_nonpos_of_nonpos_of_nonneg (by omega) h.2, fun h => Int.mul_nonpos_of_nonneg_of_nonpos h.1 (by omega), fun h => Int.mul_nonneg h.1 h.2⟩
  obtain ⟨s1, s2, s3, s4⟩ := sab
  rcases Int.lt_or_le a 0 with k1 | k1 <;> rcases Int.lt_or_le b 0 with k2 | k2 <;> rcases Int.lt_or_le c 0 with k3 | k3
  · exact fin true (by rw [lt_t k1, lt_t k2, lt_t k3]; rfl) (by simp) (fun _ => .inr ⟨hm1 (s1 ⟨k1, k2⟩), hc2' k3⟩)
  · exact fin false (by rw [lt_t k1, lt_t k2, lt_f k3]; rfl) (fun _ => .inl ⟨hm1 (s1 ⟨k1, k2⟩), hc1' k3⟩) (by simp)
  · exact fin false (by rw [lt_t k1, lt_f k2, lt_t k3]; rfl) (fun _ => .inr ⟨hm2 (s2 ⟨k1, k2⟩), hc2' k3⟩) (by simp)
  · exact fin true (by rw [lt_t k1, lt_f k2, lt_f k3]; rfl) (by simp) (fun _ => .inl ⟨hm2 (s2 ⟨k1, k2⟩), hc1' k3⟩)
  · exact fin false (by rw [lt_f k1, lt_t k2, lt_t k3]; rfl) (fun _ => .inr ⟨hm2 (s3 ⟨k1, k2⟩), hc2' k3⟩) (by simp)
  · exact fin true (by rw [lt_f k1, lt_t k2, lt_f k3]; rfl) (by simp) (fun _ => .inl ⟨hm2 (s3 ⟨k1, k2⟩), hc1' k3⟩)
  · exact fin true (by rw [lt_f k1, lt_f k2, lt_t k3]; rfl) (by simp) (fun _ => .inr ⟨hm1 (s4 ⟨k1, k2⟩), hc2' k3⟩)
  · exact fin false (by rw [lt_f k1, lt_f k2, lt_f k3]; rfl) (fun _ => .inl ⟨hm1 (s4 ⟨k1, k2⟩), hc1' k3⟩) (by simp)
end Go.Proofs.Ytaegoofefcidnaa.G
