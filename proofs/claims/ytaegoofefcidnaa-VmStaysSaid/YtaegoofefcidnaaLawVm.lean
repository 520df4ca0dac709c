/- The machine of registers: one step of it, in the program and in the document. -/
import Derived.Test.YtaegoofefcidnaaLawCode
set_option linter.unusedVariables false
namespace Go.Proofs.Ytaegoofefcidnaa.G
open Go Go.RowKit Go.Proofs.Ytaegoofefcidnaa.M

def W (n : Int) : Int := IntKind.wrap .i32 n
def r32 (n : Int) : Prop := -2147483648 ≤ n ∧ n ≤ 2147483647
def i64 (n : Int) : Prop := -9223372036854775808 ≤ n ∧ n ≤ 9223372036854775807

theorem W_eq (n : Int) : W n = (n + 2147483648) % 4294967296 - 2147483648 := by
  unfold W
  simp only [IntKind.wrap, IntKind.bits, IntKind.signed]
  simp
  split <;> omega

theorem W_32 (n : Int) : r32 (W n) := by unfold r32; rw [W_eq]; omega
theorem W_id {n : Int} (h : r32 n) : W n = n := by unfold r32 at h; rw [W_eq]; omega
theorem W_64 (n : Int) : i64 (W n) := by have := W_32 n; unfold r32 at this; unfold i64; omega
theorem W_wrap (n : Int) : W (IntKind.wrap .i64 n) = W n := by
  rw [W_eq, W_eq]
  simp only [IntKind.wrap, IntKind.bits, IntKind.signed]
  simp
  split <;> omega
theorem W_mod (n : Int) : W (n % 4294967296) = W n := by rw [W_eq, W_eq]; omega

theorem vwrap (n : Int) : vm_wrap n = some (W n) := by
  unfold vm_wrap
  have := W_32 n
  unfold r32 at this
  rw [bnd_eq, bnd_eq, show F.conv .i32 n = W n from rfl, convI (by omega)]

theorem rwrap {n : Int} (h : i64 n) : glazierref13_Wrap n = some (W n) := by
  unfold i64 at h
  unfold glazierref13_Wrap
  have h1 := tmod_lt (a := n) (m := 4294967296) (by decide)
  have h2 := tmod_as (x := n) (w := 4294967296) (by decide)
  have h3 := mod_in (x := n) (w := 4294967296) (by decide)
  simp only [bnd_eq]
  rw [show F.rem n 4294967296 = Int.tmod n 4294967296 from rfl]
  by_cases h4 : Int.tmod n 4294967296 < 0
  · rw [lt_t h4, bite_t, addI (by omega)]
    split at h2
    · omega
    by_cases h5 : 2147483648 ≤ Int.tmod n 4294967296 + 4294967296
    · rw [ge_t h5, bite_t, subI (by omega), W_eq]; congr 1; omega
    · rw [ge_f (by omega), bite_f, W_eq]; congr 1; omega
  · rw [lt_f (by omega), bite_f]
    split at h2
    · by_cases h5 : 2147483648 ≤ Int.tmod n 4294967296
      · rw [ge_t h5, bite_t, subI (by omega), W_eq]; congr 1; omega
      · rw [ge_f (by omega), bite_f, W_eq]; congr 1; omega
    · omega

/-! ### Bits -/
def bitop (both : Bool) (a b : Nat) : Nat := if both then a &&& b else a ||| b
def bop (both : Bool) (p q : Bool) : Bool := if both then p && q else p || q

theorem bitop_bit (both : Bool) (a b i : Nat) : (bitop both a b).testBit i = bop both (a.testBit i) (b.testBit i) := by
  cases both
  · exact Nat.testBit_or ..
  · exact Nat.testBit_and ..

theorem mod_step (z i : Nat) : z % 2 ^ (i + 1) = z % 2 ^ i + (if z.testBit i then 2 ^ i else 0) := by
  rw [Nat.mod_pow_succ, Nat.testBit_eq_decide_div_mod_eq]
  have := Nat.mod_two_eq_zero_or_one (z / 2 ^ i)
  rcases this with h | h
  · rw [h]; simp
  · rw [h]; simp

theorem bit_of (z i : Nat) (hi : i < 32) : F.eq (F.rem (F.shr .u64 (z : Int) (i : Int)) 2) 1 = z.testBit i := by
  unfold F.shr F.rem
  rw [show Min.min (i : Int).toNat IntKind.u64.bits = i from by simp [IntKind.bits]; omega, Int.fdiv_eq_ediv_of_nonneg _ (Int.le_of_lt (Int.pow_pos (by decide)))]
  have e : (z : Int) / 2 ^ i = ((z / 2 ^ i : Nat) : Int) := by rw [Int.natCast_ediv, Int.natCast_pow]; rfl
  rw [e, Int.tmod_eq_emod_of_nonneg (Int.natCast_nonneg _), Nat.testBit_eq_decide_div_mod_eq, f_eq, decide_eq_decide]
  omega

theorem shl1 {i : Nat} (hi : i < 32) : F.shl .i64 1 (i : Int) = ((2 ^ i : Nat) : Int) := by
  have h : 2 ^ i < 2 ^ 32 := Nat.pow_lt_pow_right (by decide) hi
  unfold F.shl
  rw [show Min.min (i : Int).toNat IntKind.i64.bits = i from by simp [IntKind.bits]; omega, Int.one_mul, wrapI]
  · rw [Int.natCast_pow]; rfl
  · exact Int.le_trans (by decide) (Int.le_of_lt (Int.pow_pos (by decide)))
  · have : ((2 ^ i : Nat) : Int) < ((2 ^ 32 : Nat) : Int) := by omega
    rw [Int.natCast_pow] at this
    have e : ((2 : Nat) : Int) = 2 := rfl
    rw [e] at this
    omega

theorem bits_loop (fl : Nat) (both : Bool) (x y : Nat) : ∀ (k n i : Nat), i + k = 32 → k + 1 ≤ n →
    glazierref13_bits_l1 fl n both ((bitop both x y % 2 ^ i : Nat) : Int) (x : Int) (y : Int) (i : Int) = some (((bitop both x y % 2 ^ 32 : Nat) : Int), ())
  | 0, n, i, hk, hn => by
    obtain ⟨n, rfl⟩ : ∃ m, n = m + 1 := ⟨n - 1, by omega⟩
    obtain rfl : i = 32 := by omega
    rw [glazierref13_bits_l1, bnd_eq, lt_f (by decide), bite_f]
  | k + 1, n, i, hk, hn => by
    obtain ⟨n, rfl⟩ : ∃ m, n = m + 1 := ⟨n - 1, by omega⟩
    have ih := bits_loop fl both x y k n (i + 1) (by omega) (by omega)
    have h : 2 ^ i < 2 ^ 32 := Nat.pow_lt_pow_right (by decide) (by omega)
    have hm : bitop both x y % 2 ^ i < 2 ^ i := Nat.mod_lt _ (Nat.pow_pos (by decide))
    rw [mod_step, bitop_bit] at ih
    rw [glazierref13_bits_l1]
    simp only [bnd_eq]
    rw [lt_t (by omega), bite_t, nn_t (by omega), bgd_t, bgd_t, bit_of x i (by omega), bit_of y i (by omega), shl1 (by omega), addI (by omega), addI (by omega)]
    have ci : ((i + 1 : Nat) : Int) = (i : Int) + 1 := rfl
    rw [ci] at ih
    have no : bop both (x.testBit i) (y.testBit i) = false → glazierref13_bits_l1 fl n both ((bitop both x y % 2 ^ i : Nat) : Int) (x : Int) (y : Int) ((i : Int) + 1) = some (((bitop both x y % 2 ^ 32 : Nat) : Int), ()) := fun h => by
      rw [h] at ih; exact ih
    have yes : bop both (x.testBit i) (y.testBit i) = true → glazierref13_bits_l1 fl n both (((bitop both x y % 2 ^ i : Nat) : Int) + ((2 ^ i : Nat) : Int)) (x : Int) (y : Int) ((i : Int) + 1) = some (((bitop both x y % 2 ^ 32 : Nat) : Int), ()) := fun h => by
      rw [h] at ih; rw [← ih]; simp
    cases both <;> cases hx : x.testBit i <;> cases hy : y.testBit i <;> rw [hx, hy] at no yes <;>
      simp only [bite_t, bite_f, bgd_t, not_t, not_f] <;> first | exact no rfl | exact yes rfl

theorem bits_spec {fl : Nat} (hfl : 40 ≤ fl) {a b : Int} (ha : r32 a) (hb : r32 b) (both : Bool) :
    glazierref13_bits fl a b both = some (W ((bitop both (a % 4294967296).toNat (b % 4294967296).toNat : Nat) : Int)) := by
  unfold r32 at ha hb
  unfold glazierref13_bits
  have conv : ∀ x : Int, -2147483648 ≤ x → x ≤ 2147483647 → F.rem (F.conv .u64 x) 4294967296 = (((x % 4294967296).toNat : Nat) : Int) := fun x h0 h1 => by
    unfold F.conv F.rem
    simp only [IntKind.wrap, IntKind.bits, IntKind.signed]
    simp
    rw [Int.tmod_eq_emod_of_nonneg (by omega)]
    omega
  have l := bits_loop fl both (a % 4294967296).toNat (b % 4294967296).toNat 32 fl 0 (by omega) (by omega)
  simp only [Nat.pow_zero, Nat.mod_one] at l
  simp only [bnd_eq]
  rw [conv a ha.1 ha.2, conv b hb.1 hb.2]
  rw [show (0 : Int) = ((0 : Nat) : Int) from rfl]
  rw [l, ob_some, rwrap (by unfold i64; have : bitop both (a % 4294967296).toNat (b % 4294967296).toNat % 2 ^ 32 < 2 ^ 32 := Nat.mod_lt _ (by decide); simp only; omega), ob_some, Int.natCast_emod]
  rw [show (((2 ^ 32 : Nat)) : Int) = 4294967296 from rfl, W_mod]

theorem and64 {a b : Int} : W (F.and .i64 a b) = W ((bitop true (a % 4294967296).toNat (b % 4294967296).toNat : Nat) : Int) := by
  unfold F.and
  rw [W_wrap, ← W_mod, ← W_mod ((bitop true _ _ : Nat) : Int)]
  congr 1
  have e : (4294967296 : Int) = ((2 ^ 32 : Nat) : Int) := rfl
  rw [e, ← Int.natCast_emod, ← Int.natCast_emod]
  congr 1
  rw [BitVec.toNat_and]
  unfold bitop
  rw [if_pos rfl, Nat.and_mod_two_pow, Nat.and_mod_two_pow (a := (a % _).toNat)]
  have k : ∀ x : Int, (BitVec.ofInt IntKind.i64.bits x).toNat % 2 ^ 32 = (x % ((2 ^ 32 : Nat) : Int)).toNat % 2 ^ 32 := fun x => by
    rw [BitVec.toNat_ofInt]
    simp only [IntKind.bits]
    omega
  rw [k, k]

theorem or64 {a b : Int} : W (F.or .i64 a b) = W ((bitop false (a % 4294967296).toNat (b % 4294967296).toNat : Nat) : Int) := by
  unfold F.or
  rw [W_wrap, ← W_mod, ← W_mod ((bitop false _ _ : Nat) : Int)]
  congr 1
  have e : (4294967296 : Int) = ((2 ^ 32 : Nat) : Int) := rfl
  rw [e, ← Int.natCast_emod, ← Int.natCast_emod]
  congr 1
  rw [BitVec.toNat_or]
  unfold bitop
  rw [if_neg (by decide), Nat.or_mod_two_pow, Nat.or_mod_two_pow (a := (a % _).toNat)]
  have k : ∀ x : Int, (BitVec.ofInt IntKind.i64.bits x).toNat % 2 ^ 32 = (x % ((2 ^ 32 : Nat) : Int)).toNat % 2 ^ 32 := fun x => by
    rw [BitVec.toNat_ofInt]
    simp only [IntKind.bits]
    omega
  rw [k, k]

theorem and32 {a b : Int} : F.and .i32 a b = W ((bitop true (a % 4294967296).toNat (b % 4294967296).toNat : Nat) : Int) := by
  unfold F.and bitop W
  rw [if_pos rfl, BitVec.toNat_and, BitVec.toNat_ofInt, BitVec.toNat_ofInt]; rfl

theorem or32 {a b : Int} : F.or .i32 a b = W ((bitop false (a % 4294967296).toNat (b % 4294967296).toNat : Nat) : Int) := by
  unfold F.or bitop W
  rw [if_neg (by decide), BitVec.toNat_or, BitVec.toNat_ofInt, BitVec.toNat_ofInt]; rfl

/-! ### What D becomes -/
def vval (x : Ins) (a b : Int) : Int :=
  if x.1 = 0 then x.2.2.2.2 else if x.1 = 1 then a else if x.1 = 2 then W (a + b) else if x.1 = 3 then W (a - b) else
  if x.1 = 4 then W (Int.fdiv (a * b) 256) else if x.1 = 5 then min a b else if x.1 = 6 then max a b else
  if x.1 = 7 then W ((bitop true (a % 4294967296).toNat (b % 4294967296).toNat : Nat) : Int) else
  if x.1 = 8 then W ((bitop false (a % 4294967296).toNat (b % 4294967296).toNat : Nat) : Int) else
  if x.1 = 9 then W (a * 2 ^ x.2.2.2.2.toNat) else if x.1 = 10 then Int.fdiv a (2 ^ x.2.2.2.2.toNat) else if a < b then 1 else 0

/-- Of what ops that reckon are asked. -/
def plain (x : Ins) : Prop := (0 ≤ x.1 ∧ x.1 ≤ 11) ∧ (x.1 = 0 → r32 x.2.2.2.2) ∧ (x.1 = 9 ∨ x.1 = 10 → 0 ≤ x.2.2.2.2 ∧ x.2.2.2.2 ≤ 31)

theorem prod32 {a b : Int} (ha : r32 a) (hb : r32 b) : -4611686018427387904 ≤ a * b ∧ a * b ≤ 4611686018427387904 := by
  unfold r32 at ha hb
  have h1 : (a.natAbs : Int) ≤ 2147483648 := by omega
  have h2 : (b.natAbs : Int) ≤ 2147483648 := by omega
  have h3 : (a.natAbs : Int) * (b.natAbs : Int) ≤ 2147483648 * 2147483648 := Int.mul_le_mul h1 h2 (by omega) (by decide)
  have h4 : ((a * b).natAbs : Int) = (a.natAbs : Int) * (b.natAbs : Int) := by rw [Int.natAbs_mul, Int.natCast_mul]
  omega

theorem pow32 {n : Nat} (h : n ≤ 31) : 1 ≤ (2 : Int) ^ n ∧ (2 : Int) ^ n ≤ 2147483648 := by
  have h1 : 2 ^ n ≤ 2 ^ 31 := Nat.pow_le_pow_right (by decide) h
  have h2 : 1 ≤ 2 ^ n := Nat.one_le_two_pow
  have e : (2 : Int) ^ n = ((2 ^ n : Nat) : Int) := by rw [Int.natCast_pow]; rfl
  rw [e]
  omega

theorem shl_in {a : Int} {n : Nat} (ha : r32 a) (h : n ≤ 31) : -4611686018427387904 ≤ a * 2 ^ n ∧ a * 2 ^ n ≤ 4611686018427387904 := by
  have hp := pow32 h
  unfold r32 at ha
  have h1 : (a.natAbs : Int) ≤ 2147483648 := by omega
  have h2 : (((2 : Int) ^ n).natAbs : Int) ≤ 2147483648 := by omega
  have h3 : (a.natAbs : Int) * (((2 : Int) ^ n).natAbs : Int) ≤ 2147483648 * 2147483648 := Int.mul_le_mul h1 h2 (by omega) (by decide)
  have h4 : ((a * 2 ^ n).natAbs : Int) = (a.natAbs : Int) * (((2 : Int) ^ n).natAbs : Int) := by rw [Int.natAbs_mul, Int.natCast_mul]
  omega

theorem min_n {N : Int} (h : 0 ≤ N ∧ N ≤ 31) : Min.min N.toNat IntKind.i64.bits = N.toNat := by simp [IntKind.bits]; omega

theorem vshl {a N : Int} (ha : r32 a) (h : 0 ≤ N ∧ N ≤ 31) : F.shl .i64 a N = a * 2 ^ N.toNat := by
  have := shl_in (a := a) (n := N.toNat) ha (by omega)
  unfold F.shl
  rw [min_n h, wrapI (by omega) (by omega)]

theorem vshl1 {N : Int} (h : 0 ≤ N ∧ N ≤ 31) : F.shl .i64 1 N = 2 ^ N.toNat := by
  rw [vshl (by unfold r32; omega) h, Int.one_mul]

theorem vshr {a N : Int} (h : 0 ≤ N ∧ N ≤ 31) : F.shr .i64 a N = Int.fdiv a (2 ^ N.toNat) := by
  unfold F.shr
  rw [min_n h]

theorem fdiv_32 {a N : Int} (ha : r32 a) (h : 0 ≤ N ∧ N ≤ 31) : r32 (Int.fdiv a (2 ^ N.toNat)) := by
  have hp := pow32 (n := N.toNat) (by omega)
  unfold r32 at ha
  have := fdiv_lim (p := a) (c := 2 ^ N.toNat) (m := 2147483648) (by omega) (by omega) (by omega) (by omega)
  refine ⟨this.1, ?_⟩
  have h1 := (fdiv_in (p := a) (c := 2 ^ N.toNat) (by omega)).1
  refine Int.not_lt.1 fun k => ?_
  have : 2 ^ N.toNat * 1 ≤ 2 ^ N.toNat * Int.fdiv a (2 ^ N.toNat) := Int.mul_le_mul_of_nonneg_left (by omega) (by omega)
  have k2 : 1 * Int.fdiv a (2 ^ N.toNat) ≤ 2 ^ N.toNat * Int.fdiv a (2 ^ N.toNat) := Int.mul_le_mul_of_nonneg_right (by omega) (by omega)
  omega

theorem vval_32 {x : Ins} {a b : Int} (hx : plain x) (ha : r32 a) (hb : r32 b) : r32 (vval x a b) := by
  have ha' := ha; have hb' := hb
  unfold r32 at ha' hb'
  unfold vval
  by_cases e0 : x.1 = 0
  · rw [if_pos e0]; exact hx.2.1 e0
  rw [if_neg e0]
  by_cases e1 : x.1 = 1
  · rw [if_pos e1]; exact ha
  rw [if_neg e1]
  by_cases e2 : x.1 = 2
  · rw [if_pos e2]; exact W_32 _
  rw [if_neg e2]
  by_cases e3 : x.1 = 3
  · rw [if_pos e3]; exact W_32 _
  rw [if_neg e3]
  by_cases e4 : x.1 = 4
  · rw [if_pos e4]; exact W_32 _
  rw [if_neg e4]
  by_cases e5 : x.1 = 5
  · rw [if_pos e5]; unfold r32; omega
  rw [if_neg e5]
  by_cases e6 : x.1 = 6
  · rw [if_pos e6]; unfold r32; omega
  rw [if_neg e6]
  by_cases e7 : x.1 = 7
  · rw [if_pos e7]; exact W_32 _
  rw [if_neg e7]
  by_cases e8 : x.1 = 8
  · rw [if_pos e8]; exact W_32 _
  rw [if_neg e8]
  by_cases e9 : x.1 = 9
  · rw [if_pos e9]; exact W_32 _
  rw [if_neg e9]
  by_cases e10 : x.1 = 10
  · rw [if_pos e10]; exact fdiv_32 ha (hx.2.2 (.inr e10))
  rw [if_neg e10]
  by_cases e : a < b
  · rw [if_pos e]; unfold r32; omega
  · rw [if_neg e]; unfold r32; omega

theorem vm_val {x : Ins} {a b : Int} (hx : plain x) (ha : r32 a) (hb : r32 b) : ∃ v, vm_value x a b = some v ∧ W v = vval x a b := by
  obtain ⟨o, D, A, B, N⟩ := x
  obtain ⟨⟨h0, h1⟩, h2, h3⟩ := hx
  have pr := prod32 ha hb
  have ha' := ha; have hb' := hb
  unfold r32 at ha' hb'
  unfold vm_value vval
  simp only at h0 h1 h2 h3 ⊢
  simp only [bnd_eq]
  by_cases e0 : o = 0
  · rw [eq_t e0, bite_t, if_pos e0]; exact ⟨_, rfl, W_id (h2 e0)⟩
  rw [eq_f e0, bite_f, if_neg e0]
  by_cases e1 : o = 1
  · rw [eq_t e1, bite_t, if_pos e1]; exact ⟨_, rfl, W_id ha⟩
  rw [eq_f e1, bite_f, if_neg e1]
  by_cases e2 : o = 2
  · rw [eq_t e2, bite_t, if_pos e2, addI (by omega)]; exact ⟨_, rfl, rfl⟩
  rw [eq_f e2, bite_f, if_neg e2]
  by_cases e3 : o = 3
  · rw [eq_t e3, bite_t, if_pos e3, subI (by omega)]; exact ⟨_, rfl, rfl⟩
  rw [eq_f e3, bite_f, if_neg e3]
  by_cases e4 : o = 4
  · rw [eq_t e4, bite_t, if_pos e4, mulI (by omega), vshr (by decide)]; exact ⟨_, rfl, by rw [show (2 : Int) ^ (8 : Int).toNat = 256 from by decide]⟩
  rw [eq_f e4, bite_f, if_neg e4]
  by_cases e5 : o = 5
  · rw [eq_t e5, bite_t, if_pos e5, f_min]; exact ⟨_, rfl, W_id (by unfold r32; omega)⟩
  rw [eq_f e5, bite_f, if_neg e5]
  by_cases e6 : o = 6
  · rw [eq_t e6, bite_t, if_pos e6, f_max]; exact ⟨_, rfl, W_id (by unfold r32; omega)⟩
  rw [eq_f e6, bite_f, if_neg e6]
  by_cases e7 : o = 7
  · rw [eq_t e7, bite_t, if_pos e7]; exact ⟨_, rfl, and64⟩
  rw [eq_f e7, bite_f, if_neg e7]
  by_cases e8 : o = 8
  · rw [eq_t e8, bite_t, if_pos e8]; exact ⟨_, rfl, or64⟩
  rw [eq_f e8, bite_f, if_neg e8]
  by_cases e9 : o = 9
  · rw [eq_t e9, bite_t, if_pos e9, nn_t (h3 (.inl e9)).1, bgd_t, vshl ha (h3 (.inl e9))]; exact ⟨_, rfl, rfl⟩
  rw [eq_f e9, bite_f, if_neg e9]
  by_cases e10 : o = 10
  · rw [eq_t e10, bite_t, if_pos e10, nn_t (h3 (.inr e10)).1, bgd_t, vshr (h3 (.inr e10))]; exact ⟨_, rfl, W_id (fdiv_32 ha (h3 (.inr e10)))⟩
  rw [eq_f e10, bite_f, if_neg e10]
  by_cases e : a < b
  · rw [lt_t e, if_pos e]; exact ⟨1, rfl, rfl⟩
  · rw [lt_f (by omega), if_neg e]; exact ⟨0, rfl, rfl⟩

theorem ref_val {fl : Nat} (hfl : 130 ≤ fl) {x : Ins} {a b : Int} (hx : plain x) (ha : r32 a) (hb : r32 b) : glazierref13_value fl x a b = some (vval x a b) := by
  obtain ⟨o, D, A, B, N⟩ := x
  obtain ⟨⟨h0, h1⟩, h2, h3⟩ := hx
  have pr := prod32 ha hb
  have ha' := ha; have hb' := hb
  unfold r32 at ha' hb'
  unfold glazierref13_value vval
  simp only at h0 h1 h2 h3 ⊢
  simp only [bnd_eq]
  by_cases e0 : o = 0
  · rw [eq_t e0, bite_t, if_pos e0]
  rw [eq_f e0, bite_f, if_neg e0]
  by_cases e1 : o = 1
  · rw [eq_t e1, bite_t, if_pos e1]
  rw [eq_f e1, bite_f, if_neg e1]
  by_cases e2 : o = 2
  · rw [eq_t e2, bite_t, if_pos e2, addI (by omega), rwrap (by unfold i64; omega), ob_some]
  rw [eq_f e2, bite_f, if_neg e2]
  by_cases e3 : o = 3
  · rw [eq_t e3, bite_t, if_pos e3, subI (by omega), rwrap (by unfold i64; omega), ob_some]
  rw [eq_f e3, bite_f, if_neg e3]
  by_cases e4 : o = 4
  · have := fdiv_lim (p := a * b) (c := 256) (m := 4611686018427387904) (by decide) (by omega) (by omega) (by decide)
    rw [eq_t e4, bite_t, if_pos e4, mulI (by omega), ref_down hfl (by omega) (by decide) (by decide), ob_some, rwrap (by unfold i64; omega), ob_some]
  rw [eq_f e4, bite_f, if_neg e4]
  by_cases e5 : o = 5
  · rw [eq_t e5, bite_t, if_pos e5, f_min]
  rw [eq_f e5, bite_f, if_neg e5]
  by_cases e6 : o = 6
  · rw [eq_t e6, bite_t, if_pos e6, f_max]
  rw [eq_f e6, bite_f, if_neg e6]
  by_cases e7 : o = 7
  · rw [eq_t e7, bite_t, if_pos e7, bits_spec (by omega) ha hb, ob_some]
  rw [eq_f e7, bite_f, if_neg e7]
  by_cases e8 : o = 8
  · rw [eq_t e8, bite_t, if_pos e8, bits_spec (by omega) ha hb, ob_some]
  rw [eq_f e8, bite_f, if_neg e8]
  by_cases e9 : o = 9
  · have := shl_in (n := N.toNat) ha (by have := h3 (.inl e9); omega)
    rw [eq_t e9, bite_t, if_pos e9, nn_t (h3 (.inl e9)).1, bgd_t, vshl1 (h3 (.inl e9)), mulI (by omega), rwrap (by unfold i64; omega), ob_some]
  rw [eq_f e9, bite_f, if_neg e9]
  by_cases e10 : o = 10
  · have := pow32 (n := N.toNat) (by have := h3 (.inr e10); omega)
    rw [eq_t e10, bite_t, if_pos e10, nn_t (h3 (.inr e10)).1, bgd_t, vshl1 (h3 (.inr e10)), ref_down hfl (by omega) (by omega) (by omega), ob_some]
  rw [eq_f e10, bite_f, if_neg e10, eq_t (by omega), bite_t]
  by_cases e : a < b
  · rw [lt_t e, if_pos e]; rfl
  · rw [lt_f (by omega), if_neg e]; rfl
end Go.Proofs.Ytaegoofefcidnaa.G
