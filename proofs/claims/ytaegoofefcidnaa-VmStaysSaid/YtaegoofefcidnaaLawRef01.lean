/- A product divided, bit by bit: what the document's MulDiv and Down are, of numbers that are not too great. -/
import Derived.Test.YtaegoofefcidnaaLawFixed
set_option linter.unusedVariables false
namespace Go.Proofs.Ytaegoofefcidnaa.G
open Go Go.RowKit Go.Proofs.Ytaegoofefcidnaa.M

theorem bit_half (x : Int) (k : Nat) : x / 2 ^ k = 2 * (x / 2 ^ (k + 1)) + x / 2 ^ k % 2 := by
  rw [Int.pow_succ, ← Int.ediv_ediv_of_nonneg (by exact Int.le_of_lt (Int.pow_pos (by decide)))]
  omega

theorem shrU {x : Int} {k : Nat} (hk : k ≤ 64) : F.shr .u64 x k = x / 2 ^ k := by
  unfold F.shr
  rw [Int.fdiv_eq_ediv_of_nonneg _ (Int.le_of_lt (Int.pow_pos (by decide)))]
  congr 2
  show min ((k : Int).toNat) 64 = k
  omega

theorem quo63 {x : Int} (h0 : 0 ≤ x) (h1 : x < 9223372036854775808) : F.quo .u64 x 9223372036854775808 = 0 := by
  unfold F.quo
  rw [Int.tdiv_eq_ediv_of_nonneg h0, Int.ediv_eq_zero_of_lt h0 h1]
  rfl

theorem rem2 {x : Int} (h0 : 0 ≤ x) : F.rem x 2 = x % 2 := Int.tmod_eq_emod_of_nonneg h0

theorem shift_le {x : Int} {k : Nat} (h0 : 0 ≤ x) : 0 ≤ x / 2 ^ k ∧ x / 2 ^ k ≤ x :=
  ⟨Int.ediv_nonneg h0 (Int.le_of_lt (Int.pow_pos (by decide))), Int.ediv_le_self _ h0⟩

theorem times_loop (fl : Nat) {a b x y : Int} (hx : 0 ≤ x) (hy : 0 ≤ y) (hp : x * y ≤ 9223372036854775806) (hy1 : y ≤ 9223372036854775807) : ∀ (k n : Nat), k ≤ 64 → k + 1 ≤ n → glazierref01_times_l1 fl n a b x y 0 (x / 2 ^ k * y) ((k : Int) - 1) = some (a, (b, (0, (x * y, ()))))
  | 0, 0, _, h => by omega
  | 0, n + 1, _, _ => by
    unfold glazierref01_times_l1
    simp only [bnd_eq]
    rw [ge_f (by omega)]
    simp only [bite_f]
    rw [Int.pow_zero, Int.ediv_one]
  | k + 1, 0, _, h => by omega
  | k + 1, n + 1, hk, hn => by
    have ih := times_loop fl (a := a) (b := b) hx hy hp hy1 k n (by omega) (by omega)
    have e := bit_half x k
    obtain ⟨s0, s1⟩ := shift_le (k := k + 1) hx
    obtain ⟨t0, t1⟩ := shift_le (k := k) hx
    unfold glazierref01_times_l1
    simp only [bnd_eq]
    rw [show ((k + 1 : Nat) : Int) - 1 = (k : Int) by omega, ge_t (by omega), bite_t, nn_t (by omega), bgd_t, shrU (by omega)]
    obtain ⟨q, hq⟩ : ∃ q, q = x / 2 ^ (k + 1) := ⟨_, rfl⟩
    obtain ⟨z, hz⟩ : ∃ q, q = x / 2 ^ k := ⟨_, rfl⟩
    rw [← hq, ← hz] at e
    rw [← hq] at s0 s1 ⊢
    rw [← hz] at t0 t1 ih ⊢
    have hzy : z * y ≤ x * y := Int.mul_le_mul_of_nonneg_right t1 hy
    have hz0 : 0 ≤ z * y := Int.mul_nonneg t0 hy
    have hq0 : 0 ≤ q * y := Int.mul_nonneg s0 hy
    rw [rem2 t0]
    have hb2 : z % 2 = 0 ∨ z % 2 = 1 := by omega
    rcases hb2 with hb | hb
    · rw [hb] at e ⊢
      have ez : z * y = q * y * 2 := by rw [e, Int.add_zero, Int.mul_assoc, Int.mul_comm]
      rw [quo63 hq0 (by omega), mulU (a := q * y) (by omega), eq_f (by decide), bite_f, subI (by omega)]
      rw [show F.add .u64 (F.mul .u64 0 2) 0 = 0 from rfl, ← ez]
      exact ih
    · rw [hb] at e ⊢
      have ez : z * y = q * y * 2 + y := by rw [e, Int.add_mul, Int.one_mul, Int.mul_comm 2, Int.mul_assoc, Int.mul_comm 2, ← Int.mul_assoc]
      rw [quo63 hq0 (by omega), mulU (a := q * y) (by omega), eq_t rfl, bite_t, addU (by omega), lt_f (by omega), bite_f, subI (by omega)]
      rw [show F.add .u64 (F.mul .u64 0 2) 0 = 0 from rfl, ← ez]
      exact ih

/-- What the bits above the product's are. -/
theorem parts_none (fl : Nat) {c lo : Int} {ng : Bool} (hc : 0 < c) {r : Int × Int × Int × Unit} : ∀ (k n : Nat), k ≤ 64 → glazierref01_parts_l1 fl n c 0 0 0 63 0 lo ng = some r → glazierref01_parts_l1 fl (n + k) c 0 0 0 (63 + (k : Int)) 0 lo ng = some r
  | 0, n, _, h => h
  | k + 1, n, hk, h => by
    have ih := parts_none fl hc k n (by omega) h
    rw [show n + (k + 1) = (n + k) + 1 by omega]
    unfold glazierref01_parts_l1
    simp only [bnd_eq]
    rw [ge_t (a := 63 + ((k + 1 : Nat) : Int)) (by omega), bite_t, gt_t (by omega), bite_t, subI (a := 63 + ((k + 1 : Nat) : Int)) (by omega), show 63 + ((k + 1 : Nat) : Int) - 64 = (k : Int) by omega, nn_t (by omega), bgd_t, shrU (by omega), Int.zero_ediv, show F.rem 0 2 = 0 from rfl, ge_f (a := 0) (b := 9223372036854775808) (by decide), bite_f,
      show F.add .u64 (F.mul .u64 0 2) 0 = 0 from rfl, ge_f (by omega), bite_f, show F.quo .u64 0 9223372036854775808 = 0 from rfl, show F.add .u64 (F.mul .u64 0 2) 0 = 0 from rfl, show F.mul .u64 0 2 = 0 from rfl, subI (by omega), show 63 + ((k + 1 : Nat) : Int) - 1 = 63 + (k : Int) by omega]
    exact ih

theorem parts_loop (fl : Nat) {c p hi : Int} {ng : Bool} (hc : 0 < c) (hc1 : c ≤ 9223372036854775807) (hp : 0 ≤ p) (hp1 : p ≤ 9223372036854775806) : ∀ (k n : Nat), k ≤ 64 → k + 1 ≤ n → glazierref01_parts_l1 fl n c 0 (p / 2 ^ k / c) (p / 2 ^ k % c) ((k : Int) - 1) hi p ng = some (0, (p / c, (p % c, ())))
  | 0, 0, _, h => by omega
  | 0, n + 1, _, _ => by
    unfold glazierref01_parts_l1
    simp only [bnd_eq]
    rw [ge_f (by omega)]
    simp only [bite_f]
    rw [Int.pow_zero, Int.ediv_one]
  | k + 1, 0, _, h => by omega
  | k + 1, n + 1, hk, hn => by
    have ih := parts_loop fl (hi := hi) (ng := ng) hc hc1 hp hp1 k n (by omega) (by omega)
    have e := bit_half p k
    obtain ⟨s0, s1⟩ := shift_le (k := k + 1) hp
    obtain ⟨t0, t1⟩ := shift_le (k := k) hp
    unfold glazierref01_parts_l1
    simp only [bnd_eq]
    rw [show ((k + 1 : Nat) : Int) - 1 = (k : Int) by omega, ge_t (by omega), bite_t, gt_f (by omega), bite_f, nn_t (by omega), bgd_t, shrU (by omega)]
    obtain ⟨P, hP⟩ : ∃ q, q = p / 2 ^ (k + 1) := ⟨_, rfl⟩
    obtain ⟨Z, hZ⟩ : ∃ q, q = p / 2 ^ k := ⟨_, rfl⟩
    rw [← hP, ← hZ] at e
    rw [← hP] at s0 s1 ⊢
    rw [← hZ] at t0 t1 ih ⊢
    rw [rem2 t0]
    obtain ⟨B, hB⟩ : ∃ B, B = Z % 2 := ⟨_, rfl⟩
    have hB0 : 0 ≤ B ∧ B ≤ 1 := by omega
    rw [← hB] at e ⊢
    clear hB
    have d0 : 0 ≤ P / c := Int.ediv_nonneg s0 (by omega)
    have d1 : P / c ≤ P := Int.ediv_le_self _ s0
    have r0 := Int.emod_nonneg P (show c ≠ 0 by omega)
    have r1 := Int.emod_lt_of_pos P hc
    have hdm := Int.mul_ediv_add_emod P c
    obtain ⟨Q, hQ⟩ : ∃ Q, Q = P / c := ⟨_, rfl⟩
    obtain ⟨R, hR⟩ : ∃ R, R = P % c := ⟨_, rfl⟩
    rw [← hQ] at d0 d1 hdm ⊢
    rw [← hR] at r0 r1 hdm ⊢
    rw [ge_f (by omega), bite_f, quo63 d0 (by omega), show F.add .u64 (F.mul .u64 0 2) 0 = 0 from rfl, mulU (a := R) (by omega), addU (a := R * 2) (by omega), mulU (a := Q) (by omega)]
    have eZ : Z = c * (Q * 2) + (R * 2 + B) := by rw [e, ← hdm]; grind
    by_cases hge : c ≤ R * 2 + B
    · rw [ge_t hge, bite_t, subU (by omega), addU (by omega), subI (by omega)]
      have h1 : Z / c = Q * 2 + 1 := by
        rw [← Int.fdiv_eq_ediv_of_nonneg _ (by omega)]
        exact fdiv_at hc (by rw [Int.mul_add]; omega) (by rw [Int.mul_add]; omega)
      have h2 : Z % c = R * 2 + B - c := by
        have := Int.mul_ediv_add_emod Z c
        rw [h1, Int.mul_add] at this
        omega
      rw [h1, h2] at ih
      exact ih
    · rw [ge_f (by omega), bite_f, subI (by omega)]
      have h1 : Z / c = Q * 2 := by
        rw [← Int.fdiv_eq_ediv_of_nonneg _ (by omega)]
        exact fdiv_at hc (by omega) (by omega)
      have h2 : Z % c = R * 2 + B := by
        have := Int.mul_ediv_add_emod Z c
        rw [h1] at this
        omega
      rw [h1, h2] at ih
      exact ih

theorem ref_size {a : Int} (h : -9223372036854775807 ≤ a ∧ a ≤ 9223372036854775807) : glazierref01_size a = some (a.natAbs : Int) := by
  unfold glazierref01_size
  simp only [bnd_eq]
  by_cases h0 : a < 0
  · rw [lt_t h0, bite_t]
    have : F.sub .u64 0 (F.conv .u64 a) = (a.natAbs : Int) := by
      simp only [F.sub, F.conv, IntKind.wrap, IntKind.bits, IntKind.signed]
      simp
      omega
    rw [this]
  · rw [lt_f (by omega), bite_f, convU (by omega)]
    congr 1
    omega

theorem ref_times {fl : Nat} (hfl : 130 ≤ fl) {a b : Int} (ha : -9223372036854775807 ≤ a ∧ a ≤ 9223372036854775807) (hb : -9223372036854775807 ≤ b ∧ b ≤ 9223372036854775807) (hp : -9223372036854775806 ≤ a * b ∧ a * b ≤ 9223372036854775806) :
    glazierref01_times fl a b = some (0, (((a * b).natAbs : Int), decide (a * b < 0))) := by
  have hAB : ((a.natAbs : Int)) * (b.natAbs : Int) = ((a * b).natAbs : Int) := by rw [Int.natAbs_mul]; rfl
  unfold glazierref01_times
  rw [ref_size ha, ref_size hb]
  simp only [ob_some, bnd_eq]
  have h := times_loop fl (a := a) (b := b) (x := (a.natAbs : Int)) (y := (b.natAbs : Int)) (by omega) (by omega) (by rw [hAB]; omega) (by omega) 64 fl (by omega) (by omega)
  rw [show (a.natAbs : Int) / 2 ^ 64 = 0 from Int.ediv_eq_zero_of_lt (by omega) (by omega), Int.zero_mul, show ((64 : Nat) : Int) - 1 = 63 from rfl] at h
  rw [h, hAB]
  simp only [ob_some]
  have sab : (a < 0 ∧ b < 0 → 0 ≤ a * b) ∧ (a < 0 ∧ 0 ≤ b → a * b ≤ 0) ∧ (0 ≤ a ∧ b < 0 → a * b ≤ 0) ∧ (0 ≤ a ∧ 0 ≤ b → 0 ≤ a * b) := by
    refine ⟨fun h => Int.mul_nonneg_of_nonpos_of_nonpos (by omega) (by omega), fun h => Int.mul_nonpos_of_nonpos_of_nonneg (by omega) h.2, fun h => Int.mul_nonpos_of_nonneg_of_nonpos h.1 (by omega), fun h => Int.mul_nonneg h.1 h.2⟩
  obtain ⟨s1, s2, s3, s4⟩ := sab
  have neg : a * b ≤ 0 → F.gt ((a * b).natAbs : Int) 0 = decide (a * b < 0) := fun h => by
    by_cases hz : a * b < 0
    · rw [gt_t (by omega), decide_eq_true hz]
    · rw [gt_f (by omega), decide_eq_false hz]
  rcases Int.lt_or_le a 0 with k1 | k1 <;> rcases Int.lt_or_le b 0 with k2 | k2
  · rw [lt_t k1, lt_t k2]
    have := s1 ⟨k1, k2⟩
    rw [decide_eq_false (show ¬ a * b < 0 by omega)]
    rfl
  · rw [lt_t k1, lt_f k2, show F.bne true false = true from rfl, bite_t, gt_f (by decide), bite_f, neg (s2 ⟨k1, k2⟩)]
  · rw [lt_f k1, lt_t k2, show F.bne false true = true from rfl, bite_t, gt_f (by decide), bite_f, neg (s3 ⟨k1, k2⟩)]
  · rw [lt_f k1, lt_f k2]
    have := s4 ⟨k1, k2⟩
    rw [decide_eq_false (show ¬ a * b < 0 by omega)]
    rfl

theorem ref_parts {fl : Nat} (hfl : 130 ≤ fl) {c p : Int} {ng : Bool} (hc : 0 < c) (hc1 : c ≤ 9223372036854775807) (hp : 0 ≤ p) (hp1 : p ≤ 9223372036854775806) : glazierref01_parts fl (0, (p, ng)) c = some (0, (p / c, p % c)) := by
  unfold glazierref01_parts
  have h := parts_loop fl (hi := 0) (ng := ng) hc hc1 hp hp1 64 (fl - 64) (by omega) (by omega)
  rw [show p / 2 ^ 64 = 0 from Int.ediv_eq_zero_of_lt hp (by omega), Int.zero_ediv, Int.zero_emod, show ((64 : Nat) : Int) - 1 = 63 from rfl] at h
  have h2 := parts_none fl hc 64 (fl - 64) (by omega) h
  rw [show fl - 64 + 64 = fl by omega, show (63 : Int) + ((64 : Nat) : Int) = 127 from rfl] at h2
  dsimp only
  rw [h2]
  rfl

theorem told0 {n : Int} (h0 : 0 ≤ n) (h1 : n ≤ 9223372036854775807) : glazierref01_told 0 n false = some (n, 0) := by
  unfold glazierref01_told
  simp only [bnd_eq, bite_f]
  rw [gt_f (by decide), bite_f, gt_f h1, bite_f, convI (by omega)]

theorem told1 {n : Int} (h0 : 0 ≤ n) (h1 : n ≤ 9223372036854775807) : glazierref01_told 0 n true = some (-n, 0) := by
  unfold glazierref01_told
  have hw : F.conv .i64 (F.sub .u64 0 n) = -n := by
    simp only [F.conv, F.sub, IntKind.wrap, IntKind.bits, IntKind.signed]
    simp
    split <;> omega
  rw [bite_t, bnd_eq, gt_f (by decide), bite_f, bnd_eq, gt_f (by omega), bite_f, bite_t, bnd_eq, bnd_eq, hw]

theorem ref_signs (m c : Int) (hc : c ≠ 0) : (F.bne (decide (m < 0)) (F.lt c 0) = true ∧ ((m = -(m.natAbs : Int) ∧ c = (c.natAbs : Int)) ∨ (m = (m.natAbs : Int) ∧ c = -(c.natAbs : Int)))) ∨
    (F.bne (decide (m < 0)) (F.lt c 0) = false ∧ ((m = (m.natAbs : Int) ∧ c = (c.natAbs : Int)) ∨ (m = -(m.natAbs : Int) ∧ c = -(c.natAbs : Int)))) := by
  rcases Int.lt_or_le m 0 with h1 | h1 <;> rcases Int.lt_or_le c 0 with h2 | h2
  · exact .inr ⟨by rw [decide_eq_true h1, lt_t h2]; rfl, .inr ⟨by omega, by omega⟩⟩
  · exact .inl ⟨by rw [decide_eq_true h1, lt_f h2]; rfl, .inl ⟨by omega, by omega⟩⟩
  · exact .inl ⟨by rw [decide_eq_false (Int.not_lt.2 h1), lt_t h2]; rfl, .inr ⟨by omega, by omega⟩⟩
  · exact .inr ⟨by rw [decide_eq_false (Int.not_lt.2 h1), lt_f h2]; rfl, .inl ⟨by omega, by omega⟩⟩

/-- Floors by what is left. -/
theorem floor_signs {m c p C q r : Int} (hC0 : 0 < C) (hpq : C * q + r = p) (hr0 : 0 ≤ r) (hr1 : r < C) :
    (((m = p ∧ c = C) ∨ (m = -p ∧ c = -C)) → Int.fdiv m c = q) ∧ (r = 0 → ((m = -p ∧ c = C) ∨ (m = p ∧ c = -C)) → Int.fdiv m c = -q) ∧ (0 < r → ((m = -p ∧ c = C) ∨ (m = p ∧ c = -C)) → Int.fdiv m c = -(q + 1)) := by
  refine ⟨fun h => ?_, fun hr0 h => ?_, fun hr0 h => ?_⟩
  · rcases h with ⟨h1, h2⟩ | ⟨h1, h2⟩
    · rw [h1, h2]; exact fdiv_pos hC0 hpq.symm hr0 hr1
    · rw [h1, h2, Int.neg_fdiv_neg]; exact fdiv_pos hC0 hpq.symm hr0 hr1
  · have e : -p = C * (-q) + 0 := by rw [Int.mul_neg]; omega
    rcases h with ⟨h1, h2⟩ | ⟨h1, h2⟩
    · rw [h1, h2]; exact fdiv_pos hC0 e (by omega) (by omega)
    · rw [h1, h2, ← Int.neg_fdiv_neg, Int.neg_neg]; exact fdiv_pos hC0 e (by omega) (by omega)
  · have e : -p = C * (-(q + 1)) + (C - r) := by rw [Int.mul_neg, Int.mul_add]; omega
    rcases h with ⟨h1, h2⟩ | ⟨h1, h2⟩
    · rw [h1, h2]; exact fdiv_pos hC0 e (by omega) (by omega)
    · rw [h1, h2, ← Int.neg_fdiv_neg, Int.neg_neg]; exact fdiv_pos hC0 e (by omega) (by omega)

theorem ref_mulDiv {fl : Nat} (hfl : 130 ≤ fl) {a b c : Int} (ha : -9223372036854775807 ≤ a ∧ a ≤ 9223372036854775807) (hb : -9223372036854775807 ≤ b ∧ b ≤ 9223372036854775807) (hp : -9223372036854775806 ≤ a * b ∧ a * b ≤ 9223372036854775806) (hc : c ≠ 0) (hc1 : -9223372036854775807 ≤ c ∧ c ≤ 9223372036854775807) :
    glazierref01_MulDiv fl a b c = some (Int.fdiv (a * b) c, 0) := by
  unfold glazierref01_MulDiv
  rw [bnd_eq, eq_f hc, bite_f, ref_times hfl ha hb hp, ob_some, bnd_eq, bnd_eq]
  obtain ⟨m, hm⟩ : ∃ m, m = a * b := ⟨_, rfl⟩
  rw [← hm] at hp ⊢
  clear hm ha hb
  have hsg := ref_signs m c hc
  have hC0 : 0 < (c.natAbs : Int) := by omega
  have hC1 : (c.natAbs : Int) ≤ 9223372036854775807 := by omega
  have hp0 : 0 ≤ (m.natAbs : Int) := by omega
  have hp1 : (m.natAbs : Int) ≤ 9223372036854775806 := by omega
  have hsz := ref_size hc1
  obtain ⟨C, hC⟩ : ∃ C : Int, C = c.natAbs := ⟨_, rfl⟩
  obtain ⟨p, hP⟩ : ∃ p : Int, p = m.natAbs := ⟨_, rfl⟩
  rw [← hC] at hC0 hC1 hsz hsg
  rw [← hP] at hp0 hp1 hsg ⊢
  clear hC hP hp hc1 hc
  have hq0 : 0 ≤ p / C := Int.ediv_nonneg hp0 (by omega)
  have hqp : p / C ≤ p := Int.ediv_le_self _ hp0
  have hr0 := Int.emod_nonneg p (show C ≠ 0 by omega)
  have hr1 := Int.emod_lt_of_pos p hC0
  obtain ⟨f1, f2, f3⟩ := floor_signs (m := m) (c := c) hC0 (Int.mul_ediv_add_emod p C) hr0 hr1
  rcases hsg with ⟨hs, hmc⟩ | ⟨hs, hmc⟩
  · rw [hs, bite_t, bnd_eq, gt_f (Int.le_refl 0), bite_f, bnd_eq, hsz, ob_some, ref_parts hfl hC0 hC1 hp0 hp1, ob_some]
    dsimp only
    by_cases hpp : 0 < p
    · rw [gt_t hpp, bite_t, bnd_eq]
      by_cases hr2 : 0 < p % C
      · rw [gt_t hr2, bite_t, bnd_eq, addU (by omega), bnd_eq, eq_f (by omega), bite_f, told1 (by omega) (by omega), f3 hr2 hmc]
        rfl
      · rw [gt_f (by omega), bite_f, told1 (by omega) (by omega), f2 (by omega) hmc]
        rfl
    · have hp00 : p = 0 := by omega
      rw [gt_f (by omega), bite_f, told0 (by omega) (by omega), f2 (by rw [hp00, Int.zero_emod]) hmc, hp00, Int.zero_ediv]
      rfl
  · rw [hs, bite_f, hsz, ob_some, ref_parts hfl hC0 hC1 hp0 hp1, ob_some]
    dsimp only
    rw [told0 (by omega) (by omega), f1 hmc]
    rfl

theorem ref_down {fl : Nat} (hfl : 130 ≤ fl) {a c : Int} (ha : -9223372036854775806 ≤ a ∧ a ≤ 9223372036854775806) (hc : c ≠ 0) (hc1 : -9223372036854775807 ≤ c ∧ c ≤ 9223372036854775807) : glazierref01_Down fl a c = some (Int.fdiv a c) := by
  unfold glazierref01_Down glazierref01_Floor
  rw [ref_mulDiv hfl (by omega) (by decide) (by omega) hc hc1, Int.mul_one]
  rfl
end Go.Proofs.Ytaegoofefcidnaa.G
