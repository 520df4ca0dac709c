/- Plain functions, printed by program out of the given ones: what each Go function comes to. -/
import Derived.Test.YtmiffokcdmehhaaEngW
set_option linter.unusedVariables false
namespace Go.Proofs.Ytmiffokcdmehhaa.G
open Go Go.RowKit Go.Proofs.Ytmiffokcdmehhaa.E

structure T_api_Vec where
  c0 : Int
  c1 : Int
  c2 : Int
  c3 : Int
  c4 : Int
  c5 : Int
  c6 : Int
  c7 : Int
  deriving DecidableEq

def T_api_Vec.enc (x : T_api_Vec) : List D := [di .i64 (x.c0), di .i64 (x.c1), di .i64 (x.c2), di .i64 (x.c3), di .i64 (x.c4), di .i64 (x.c5), di .i64 (x.c6), di .i64 (x.c7)]

def T_api_Vec.ok (x : T_api_Vec) : Prop := inR .i64 x.c0 ∧ inR .i64 x.c1 ∧ inR .i64 x.c2 ∧ inR .i64 x.c3 ∧ inR .i64 x.c4 ∧ inR .i64 x.c5 ∧ inR .i64 x.c6 ∧ inR .i64 x.c7 ∧ True

theorem T_api_Vec.of {ds : List D} (h : all2 LfOk [.i .i64, .i .i64, .i .i64, .i .i64, .i .i64, .i .i64, .i .i64, .i .i64] ds) : ∃ x : T_api_Vec, ds = x.enc ∧ x.ok := by
  obtain ⟨d0, r, rfl, h0, h⟩ := all2_cons h
  obtain ⟨d1, r, rfl, h1, h⟩ := all2_cons h
  obtain ⟨d2, r, rfl, h2, h⟩ := all2_cons h
  obtain ⟨d3, r, rfl, h3, h⟩ := all2_cons h
  obtain ⟨d4, r, rfl, h4, h⟩ := all2_cons h
  obtain ⟨d5, r, rfl, h5, h⟩ := all2_cons h
  obtain ⟨d6, r, rfl, h6, h⟩ := all2_cons h
  obtain ⟨d7, r, rfl, h7, h⟩ := all2_cons h
  obtain rfl := all2_nil h
  obtain ⟨x0, rfl, k0⟩ := h0.int
  obtain ⟨x1, rfl, k1⟩ := h1.int
  obtain ⟨x2, rfl, k2⟩ := h2.int
  obtain ⟨x3, rfl, k3⟩ := h3.int
  obtain ⟨x4, rfl, k4⟩ := h4.int
  obtain ⟨x5, rfl, k5⟩ := h5.int
  obtain ⟨x6, rfl, k6⟩ := h6.int
  obtain ⟨x7, rfl, k7⟩ := h7.int
  exact ⟨⟨x0, x1, x2, x3, x4, x5, x6, x7⟩, rfl, k0, k1, k2, k3, k4, k5, k6, k7, trivial⟩

theorem T_api_Vec.eqB (x y : T_api_Vec) : (((x.c0 == y.c0) && ((x.c1 == y.c1) && ((x.c2 == y.c2) && ((x.c3 == y.c3) && (((x.c4 == y.c4) && ((x.c5 == y.c5) && ((x.c6 == y.c6) && ((x.c7 == y.c7) && true)))) && true)))))) = decide (x = y) := by
  cases x; cases y; rw [Bool.eq_iff_iff]; simp [and_assoc]

structure T_2_api_Vec where
  c0 : Int
  c1 : Int
  c2 : Int
  c3 : Int
  c4 : Int
  c5 : Int
  c6 : Int
  c7 : Int
  c8 : Int
  c9 : Int
  c10 : Int
  c11 : Int
  c12 : Int
  c13 : Int
  c14 : Int
  c15 : Int
  deriving DecidableEq

def T_2_api_Vec.enc (x : T_2_api_Vec) : List D := [di .i64 (x.c0), di .i64 (x.c1), di .i64 (x.c2), di .i64 (x.c3), di .i64 (x.c4), di .i64 (x.c5), di .i64 (x.c6), di .i64 (x.c7), di .i64 (x.c8), di .i64 (x.c9), di .i64 (x.c10), di .i64 (x.c11), di .i64 (x.c12), di .i64 (x.c13), di .i64 (x.c14), di .i64 (x.c15)]

def T_2_api_Vec.ok (x : T_2_api_Vec) : Prop := inR .i64 x.c0 ∧ inR .i64 x.c1 ∧ inR .i64 x.c2 ∧ inR .i64 x.c3 ∧ inR .i64 x.c4 ∧ inR .i64 x.c5 ∧ inR .i64 x.c6 ∧ inR .i64 x.c7 ∧ inR .i64 x.c8 ∧ inR .i64 x.c9 ∧ inR .i64 x.c10 ∧ inR .i64 x.c11 ∧ inR .i64 x.c12 ∧ inR .i64 x.c13 ∧ inR .i64 x.c14 ∧ inR .i64 x.c15 ∧ True

theorem T_2_api_Vec.of {ds : List D} (h : all2 LfOk [.i .i64, .i .i64, .i .i64, .i .i64, .i .i64, .i .i64, .i .i64, .i .i64, .i .i64, .i .i64, .i .i64, .i .i64, .i .i64, .i .i64, .i .i64, .i .i64] ds) : ∃ x : T_2_api_Vec, ds = x.enc ∧ x.ok := by
  obtain ⟨d0, r, rfl, h0, h⟩ := all2_cons h
  obtain ⟨d1, r, rfl, h1, h⟩ := all2_cons h
  obtain ⟨d2, r, rfl, h2, h⟩ := all2_cons h
  obtain ⟨d3, r, rfl, h3, h⟩ := all2_cons h
  obtain ⟨d4, r, rfl, h4, h⟩ := all2_cons h
  obtain ⟨d5, r, rfl, h5, h⟩ := all2_cons h
  obtain ⟨d6, r, rfl, h6, h⟩ := all2_cons h
  obtain ⟨d7, r, rfl, h7, h⟩ := all2_cons h
  obtain ⟨d8, r, rfl, h8, h⟩ := all2_cons h
  obtain ⟨d9, r, rfl, h9, h⟩ := all2_cons h
  obtain ⟨d10, r, rfl, h10, h⟩ := all2_cons h
  obtain ⟨d11, r, rfl, h11, h⟩ := all2_cons h
  obtain ⟨d12, r, rfl, h12, h⟩ := all2_cons h
  obtain ⟨d13, r, rfl, h13, h⟩ := all2_cons h
  obtain ⟨d14, r, rfl, h14, h⟩ := all2_cons h
  obtain ⟨d15, r, rfl, h15, h⟩ := all2_cons h
  obtain rfl := all2_nil h
  obtain ⟨x0, rfl, k0⟩ := h0.int
  obtain ⟨x1, rfl, k1⟩ := h1.int
  obtain ⟨x2, rfl, k2⟩ := h2.int
  obtain ⟨x3, rfl, k3⟩ := h3.int
  obtain ⟨x4, rfl, k4⟩ := h4.int
  obtain ⟨x5, rfl, k5⟩ := h5.int
  obtain ⟨x6, rfl, k6⟩ := h6.int
  obtain ⟨x7, rfl, k7⟩ := h7.int
  obtain ⟨x8, rfl, k8⟩ := h8.int
  obtain ⟨x9, rfl, k9⟩ := h9.int
  obtain ⟨x10, rfl, k10⟩ := h10.int
  obtain ⟨x11, rfl, k11⟩ := h11.int
  obtain ⟨x12, rfl, k12⟩ := h12.int
  obtain ⟨x13, rfl, k13⟩ := h13.int
  obtain ⟨x14, rfl, k14⟩ := h14.int
  obtain ⟨x15, rfl, k15⟩ := h15.int
  exact ⟨⟨x0, x1, x2, x3, x4, x5, x6, x7, x8, x9, x10, x11, x12, x13, x14, x15⟩, rfl, k0, k1, k2, k3, k4, k5, k6, k7, k8, k9, k10, k11, k12, k13, k14, k15, trivial⟩

structure T_8_int where
  c0 : Int
  c1 : Int
  c2 : Int
  c3 : Int
  c4 : Int
  c5 : Int
  c6 : Int
  c7 : Int
  deriving DecidableEq

def T_8_int.enc (x : T_8_int) : List D := [di .i64 (x.c0), di .i64 (x.c1), di .i64 (x.c2), di .i64 (x.c3), di .i64 (x.c4), di .i64 (x.c5), di .i64 (x.c6), di .i64 (x.c7)]

def T_8_int.ok (x : T_8_int) : Prop := inR .i64 x.c0 ∧ inR .i64 x.c1 ∧ inR .i64 x.c2 ∧ inR .i64 x.c3 ∧ inR .i64 x.c4 ∧ inR .i64 x.c5 ∧ inR .i64 x.c6 ∧ inR .i64 x.c7 ∧ True

theorem T_8_int.of {ds : List D} (h : all2 LfOk [.i .i64, .i .i64, .i .i64, .i .i64, .i .i64, .i .i64, .i .i64, .i .i64] ds) : ∃ x : T_8_int, ds = x.enc ∧ x.ok := by
  obtain ⟨d0, r, rfl, h0, h⟩ := all2_cons h
  obtain ⟨d1, r, rfl, h1, h⟩ := all2_cons h
  obtain ⟨d2, r, rfl, h2, h⟩ := all2_cons h
  obtain ⟨d3, r, rfl, h3, h⟩ := all2_cons h
  obtain ⟨d4, r, rfl, h4, h⟩ := all2_cons h
  obtain ⟨d5, r, rfl, h5, h⟩ := all2_cons h
  obtain ⟨d6, r, rfl, h6, h⟩ := all2_cons h
  obtain ⟨d7, r, rfl, h7, h⟩ := all2_cons h
  obtain rfl := all2_nil h
  obtain ⟨x0, rfl, k0⟩ := h0.int
  obtain ⟨x1, rfl, k1⟩ := h1.int
  obtain ⟨x2, rfl, k2⟩ := h2.int
  obtain ⟨x3, rfl, k3⟩ := h3.int
  obtain ⟨x4, rfl, k4⟩ := h4.int
  obtain ⟨x5, rfl, k5⟩ := h5.int
  obtain ⟨x6, rfl, k6⟩ := h6.int
  obtain ⟨x7, rfl, k7⟩ := h7.int
  exact ⟨⟨x0, x1, x2, x3, x4, x5, x6, x7⟩, rfl, k0, k1, k2, k3, k4, k5, k6, k7, trivial⟩

theorem T_8_int.eqB (x y : T_8_int) : (((x.c0 == y.c0) && ((x.c1 == y.c1) && ((x.c2 == y.c2) && ((x.c3 == y.c3) && ((x.c4 == y.c4) && ((x.c5 == y.c5) && ((x.c6 == y.c6) && ((x.c7 == y.c7) && true))))))))) = decide (x = y) := by
  cases x; cases y; rw [Bool.eq_iff_iff]; simp [and_assoc]

structure T_glazierref01_Wide where
  c0 : Int
  c1 : Int
  c2 : Bool
  deriving DecidableEq

def T_glazierref01_Wide.enc (x : T_glazierref01_Wide) : List D := [di .u64 (x.c0), di .u64 (x.c1), db x.c2]

def T_glazierref01_Wide.ok (x : T_glazierref01_Wide) : Prop := inR .u64 x.c0 ∧ inR .u64 x.c1 ∧ True

theorem T_glazierref01_Wide.of {ds : List D} (h : all2 LfOk [.i .u64, .i .u64, .b] ds) : ∃ x : T_glazierref01_Wide, ds = x.enc ∧ x.ok := by
  obtain ⟨d0, r, rfl, h0, h⟩ := all2_cons h
  obtain ⟨d1, r, rfl, h1, h⟩ := all2_cons h
  obtain ⟨d2, r, rfl, h2, h⟩ := all2_cons h
  obtain rfl := all2_nil h
  obtain ⟨x0, rfl, k0⟩ := h0.int
  obtain ⟨x1, rfl, k1⟩ := h1.int
  obtain ⟨x2, rfl⟩ := h2.bool
  exact ⟨⟨x0, x1, x2⟩, rfl, k0, k1, trivial⟩

/-- glazier/vec.Dist -/
def vec_Dist (x0 : Int) (x1 : T_api_Vec) : Option (Int) :=
(if decide ((x0) < 0) = true then
some (0)
else
(if decide ((x0) ≥ 5) = true then
some (0)
else
bnd ((IntKind.wrap .i64 (((IntKind.wrap .i64 (4 * (x1.c3)))) + (x1.c0)))) fun v5 =>
bnd ((IntKind.wrap .i64 (((IntKind.wrap .i64 (4 * (x1.c3)))) - (x1.c0)))) fun v6 =>
bnd ((IntKind.wrap .i64 (((IntKind.wrap .i64 (4 * (x1.c3)))) + (x1.c1)))) fun v7 =>
bnd ((IntKind.wrap .i64 (((IntKind.wrap .i64 (4 * (x1.c3)))) - (x1.c1)))) fun v8 =>
(if (0 ≤ (x0) ∧ (x0) < 5) then (([(IntKind.wrap .i64 ((x1.c2) + (x1.c3))), v5, v6, v7, v8] : List Int)[Int.toNat (x0)]?).bind fun v9 =>
some (v9) else none)))

/-- glazier/vec.row -/
def vec_row (x0 : T_api_Vec) : Option (T_8_int) :=
some (⟨x0.c0, x0.c1, x0.c2, x0.c3, x0.c4, x0.c5, x0.c6, x0.c7⟩ : T_8_int)

/-- glazier/fixed.size -/
def fixed_size (x0 : Int) : Option (Int) :=
bnd ((if ((IntKind.wrap .i64 (0 - (x0)))) > (x0) then ((IntKind.wrap .i64 (0 - (x0)))) else (x0))) fun v1 =>
some ((IntKind.wrap .u64 (v1)))

/-- math/bits.Mul64 -/
def math_bits_Mul64 (x0 : Int) (x1 : Int) : Option (Int × Int) :=
bnd ((IntKind.wrap .u64 ((BitVec.toNat (BitVec.ofInt 64 (x0) &&& (BitVec.ofInt 64 4294967295)) : Nat) : Int))) fun v1 =>
bnd ((IntKind.wrap .u64 ((BitVec.toNat (BitVec.ofInt 64 (x1) &&& (BitVec.ofInt 64 4294967295)) : Nat) : Int))) fun v2 =>
bnd ((IntKind.wrap .u64 (((IntKind.wrap .u64 (((Int.fdiv (x0) (2 ^ 32))) * (v2)))) + ((Int.fdiv ((IntKind.wrap .u64 ((v1) * (v2)))) (2 ^ 32)))))) fun v3 =>
bnd ((IntKind.wrap .u64 ((BitVec.toNat (BitVec.ofInt 64 (v3) &&& (BitVec.ofInt 64 4294967295)) : Nat) : Int))) fun v4 =>
bnd ((IntKind.wrap .u64 ((v4) + ((IntKind.wrap .u64 ((v1) * ((Int.fdiv (x1) (2 ^ 32))))))))) fun v5 =>
bnd ((IntKind.wrap .u64 (((Int.fdiv (x0) (2 ^ 32))) * ((Int.fdiv (x1) (2 ^ 32)))))) fun v6 =>
bnd ((IntKind.wrap .u64 (((IntKind.wrap .u64 ((v6) + ((Int.fdiv (v3) (2 ^ 32)))))) + ((Int.fdiv (v5) (2 ^ 32)))))) fun v7 =>
some ((v7), ((IntKind.wrap .u64 ((x0) * (x1)))))

/-- math/bits.Div64 -/
def math_bits_Div64 (x0 : Int) (x1 : Int) (x2 : Int) : Option (Int × Int) :=
(if ((x2) == 0) = true then
none
else
(if decide ((x2) ≤ (x0)) = true then
none
else
(if ((x0) == 0) = true then
(if ((x2) ≠ 0) then
(if ((x2) ≠ 0) then
some (((IntKind.wrap .u64 (Int.tdiv (x1) (x2)))), ((Int.tmod (x1) (x2)))) else none) else none)
else
none)))

/-- glazier/fixed.checked -/
def fixed_checked (x0 : Int) (x1 : Bool) : Option (Int × Int) :=
(if (!x1) = true then
some ((0), (2))
else
some ((x0), (0)))

/-- glazier/fixed.signed -/
def fixed_signed (x0 : Int) (x1 : Bool) : Option (Int × Int) :=
(if x1 = true then
(fixed_checked ((IntKind.wrap .i64 ((IntKind.wrap .u64 (0 - (x0)))))) (decide ((x0) ≤ 9223372036854775808))).bind fun q4 =>
some ((q4.1), (q4.2))
else
(fixed_checked ((IntKind.wrap .i64 (x0))) (decide ((x0) ≤ 9223372036854775807))).bind fun q5 =>
some ((q5.1), (q5.2)))

def fixed_MulDiv_j1 (x0 : Int) (x1 : Int) (x2 : Int) (j13 : Int) : Option (Int × Int) :=
(fixed_signed (j13) ((!((!(decide ((x0) < 0) == decide ((x1) < 0))) == decide ((x2) < 0))))).bind fun q14 =>
some ((q14.1), (q14.2))

/-- glazier/fixed.MulDiv -/
def fixed_MulDiv (x0 : Int) (x1 : Int) (x2 : Int) : Option (Int × Int) :=
(if ((x2) == 0) = true then
some ((0), (3))
else
(fixed_size (x0)).bind fun q3 =>
(fixed_size (x1)).bind fun q4 =>
(math_bits_Mul64 (q3) (q4)).bind fun q5 =>
(fixed_size (x2)).bind fun q6 =>
(if decide ((q5.1) ≥ (q6)) = true then
some ((0), (2))
else
(math_bits_Div64 (q5.1) (q5.2) (q6)).bind fun q9 =>
(if (!((!(decide ((x0) < 0) == decide ((x1) < 0))) == decide ((x2) < 0))) = true then
(if decide ((q9.2) > 0) = true then
(if (((IntKind.wrap .u64 ((q9.1) + 1))) == 0) = true then
some ((0), (2))
else
fixed_MulDiv_j1 x0 x1 x2 ((IntKind.wrap .u64 ((q9.1) + 1))))
else
fixed_MulDiv_j1 x0 x1 x2 q9.1)
else
fixed_MulDiv_j1 x0 x1 x2 q9.1)))

/-- glazier/vec.made -/
def vec_made (x0 : T_8_int) : Option (T_api_Vec) :=
some (⟨x0.c0, x0.c1, x0.c2, x0.c3, x0.c4, x0.c5, x0.c6, x0.c7⟩ : T_api_Vec)

/-- glazier/vec.Between -/
def vec_Between (x0 : T_api_Vec) (x1 : T_api_Vec) (x2 : Int) : Option (T_api_Vec × Bool) :=
(vec_Dist (x2) x0).bind fun q1 =>
(vec_Dist (x2) x1).bind fun q2 =>
(if decide ((x2) < 0) = true then
some ((⟨0, 0, 0, 0, 0, 0, 0, 0⟩ : T_api_Vec), (false))
else
(if decide ((x2) ≥ 5) = true then
some ((⟨0, 0, 0, 0, 0, 0, 0, 0⟩ : T_api_Vec), (false))
else
(if decide ((q1) < 0) = true then
some ((⟨0, 0, 0, 0, 0, 0, 0, 0⟩ : T_api_Vec), (false))
else
(if decide ((q2) ≥ 0) = true then
some ((⟨0, 0, 0, 0, 0, 0, 0, 0⟩ : T_api_Vec), (false))
else
(vec_row x0).bind fun q11 =>
(vec_row x1).bind fun q12 =>
(fixed_MulDiv ((IntKind.wrap .i64 ((q12.c0) - (q11.c0)))) (q1) ((IntKind.wrap .i64 ((q1) - (q2))))).bind fun q46 =>
(fixed_MulDiv ((IntKind.wrap .i64 ((q12.c1) - (q11.c1)))) (q1) ((IntKind.wrap .i64 ((q1) - (q2))))).bind fun q48 =>
(fixed_MulDiv ((IntKind.wrap .i64 ((q12.c2) - (q11.c2)))) (q1) ((IntKind.wrap .i64 ((q1) - (q2))))).bind fun q50 =>
(fixed_MulDiv ((IntKind.wrap .i64 ((q12.c3) - (q11.c3)))) (q1) ((IntKind.wrap .i64 ((q1) - (q2))))).bind fun q52 =>
(fixed_MulDiv ((IntKind.wrap .i64 ((q12.c4) - (q11.c4)))) (q1) ((IntKind.wrap .i64 ((q1) - (q2))))).bind fun q54 =>
(fixed_MulDiv ((IntKind.wrap .i64 ((q12.c5) - (q11.c5)))) (q1) ((IntKind.wrap .i64 ((q1) - (q2))))).bind fun q56 =>
(fixed_MulDiv ((IntKind.wrap .i64 ((q12.c6) - (q11.c6)))) (q1) ((IntKind.wrap .i64 ((q1) - (q2))))).bind fun q58 =>
(fixed_MulDiv ((IntKind.wrap .i64 ((q12.c7) - (q11.c7)))) (q1) ((IntKind.wrap .i64 ((q1) - (q2))))).bind fun q60 =>
(vec_made (⟨(IntKind.wrap .i64 ((q11.c0) + (q46.1))), (IntKind.wrap .i64 ((q11.c1) + (q48.1))), (IntKind.wrap .i64 ((q11.c2) + (q50.1))), (IntKind.wrap .i64 ((q11.c3) + (q52.1))), (IntKind.wrap .i64 ((q11.c4) + (q54.1))), (IntKind.wrap .i64 ((q11.c5) + (q56.1))), (IntKind.wrap .i64 ((q11.c6) + (q58.1))), (IntKind.wrap .i64 ((q11.c7) + (q60.1)))⟩ : T_8_int)).bind fun q61 =>
some (q61, (true))))))

/-- glazier/glazierlaw04.shown -/
def glazierlaw04_shown : Option (Bool) :=
(vec_Between (⟨0, 0, 0, 2, 0, 0, 0, 0⟩ : T_api_Vec) (⟨0, 0, (-6), 2, 0, 0, 0, 0⟩ : T_api_Vec) (0)).bind fun q1 =>
(if q1.2 = true then
some (decide (q1.1 = (⟨0, 0, (-2), 2, 0, 0, 0, 0⟩ : T_api_Vec)))
else
some (false))

def glazierref04_Fit_j1 (x0 : T_api_Vec) (j2 : Int) : Option (T_api_Vec) :=
some (⟨(Int.tmod (x0.c0) 32769), (Int.tmod (x0.c1) 32769), (Int.tmod (x0.c2) 32769), (IntKind.wrap .i64 (1 + (j2))), (Int.tmod (x0.c4) 4097), (Int.tmod (x0.c5) 4097), (Int.tmod (x0.c6) 4097), (Int.tmod (x0.c7) 4097)⟩ : T_api_Vec)

/-- glazier/glazierref04.Fit -/
def glazierref04_Fit (x0 : T_api_Vec) : Option (T_api_Vec) :=
(if decide (((Int.tmod (x0.c3) 32768)) < 0) = true then
glazierref04_Fit_j1 x0 ((IntKind.wrap .i64 (0 - ((Int.tmod (x0.c3) 32768)))))
else
glazierref04_Fit_j1 x0 ((Int.tmod (x0.c3) 32768)))

/-- glazier/glazierlaw04.VecSums -/
def glazierlaw04_VecSums (x0 : T_2_api_Vec) (x1 : Int) : Option (Bool) :=
(glazierlaw04_shown).bind fun q1 =>
(glazierref04_Fit (⟨x0.c0, x0.c1, x0.c2, x0.c3, x0.c4, x0.c5, x0.c6, x0.c7⟩ : T_api_Vec)).bind fun q2 =>
(glazierref04_Fit (⟨x0.c8, x0.c9, x0.c10, x0.c11, x0.c12, x0.c13, x0.c14, x0.c15⟩ : T_api_Vec)).bind fun q3 =>
bnd ((IntKind.wrap .i64 (((Int.tmod ((IntKind.wrap .i64 (x1))) 16)) * (q2.c0)))) fun v4 =>
bnd ((IntKind.wrap .i64 (((Int.tmod ((IntKind.wrap .i64 (x1))) 16)) * (q2.c1)))) fun v5 =>
bnd ((IntKind.wrap .i64 (((Int.tmod ((IntKind.wrap .i64 (x1))) 16)) * (q2.c2)))) fun v6 =>
bnd ((IntKind.wrap .i64 (((Int.tmod ((IntKind.wrap .i64 (x1))) 16)) * (q2.c3)))) fun v7 =>
(vec_Dist (0) (⟨(IntKind.wrap .i64 ((q2.c0) + (q3.c0))), (IntKind.wrap .i64 ((q2.c1) + (q3.c1))), (IntKind.wrap .i64 ((q2.c2) + (q3.c2))), (IntKind.wrap .i64 ((q2.c3) + (q3.c3))), 0, 0, 0, 0⟩ : T_api_Vec)).bind fun q176 =>
(vec_Dist (0) q2).bind fun q177 =>
(vec_Dist (0) q3).bind fun q178 =>
(if ((q176) != ((IntKind.wrap .i64 ((q177) + (q178))))) = true then
some (false)
else
(vec_Dist (0) (⟨v4, v5, v6, v7, 0, 0, 0, 0⟩ : T_api_Vec)).bind fun q180 =>
(vec_Dist (0) q2).bind fun q181 =>
bnd ((IntKind.wrap .i64 (((Int.tmod ((IntKind.wrap .i64 (x1))) 16)) * (q181)))) fun v182 =>
(if ((q180) != (v182)) = true then
some (false)
else
(vec_Dist (1) (⟨(IntKind.wrap .i64 ((q2.c0) + (q3.c0))), (IntKind.wrap .i64 ((q2.c1) + (q3.c1))), (IntKind.wrap .i64 ((q2.c2) + (q3.c2))), (IntKind.wrap .i64 ((q2.c3) + (q3.c3))), 0, 0, 0, 0⟩ : T_api_Vec)).bind fun q192 =>
(vec_Dist (1) q2).bind fun q193 =>
(vec_Dist (1) q3).bind fun q194 =>
(if ((q192) != ((IntKind.wrap .i64 ((q193) + (q194))))) = true then
some (false)
else
(vec_Dist (1) (⟨v4, v5, v6, v7, 0, 0, 0, 0⟩ : T_api_Vec)).bind fun q196 =>
(vec_Dist (1) q2).bind fun q197 =>
bnd ((IntKind.wrap .i64 (((Int.tmod ((IntKind.wrap .i64 (x1))) 16)) * (q197)))) fun v198 =>
(if ((q196) != (v198)) = true then
some (false)
else
(vec_Dist (2) (⟨(IntKind.wrap .i64 ((q2.c0) + (q3.c0))), (IntKind.wrap .i64 ((q2.c1) + (q3.c1))), (IntKind.wrap .i64 ((q2.c2) + (q3.c2))), (IntKind.wrap .i64 ((q2.c3) + (q3.c3))), 0, 0, 0, 0⟩ : T_api_Vec)).bind fun q208 =>
(vec_Dist (2) q2).bind fun q209 =>
(vec_Dist (2) q3).bind fun q210 =>
(if ((q208) != ((IntKind.wrap .i64 ((q209) + (q210))))) = true then
some (false)
else
(vec_Dist (2) (⟨v4, v5, v6, v7, 0, 0, 0, 0⟩ : T_api_Vec)).bind fun q212 =>
(vec_Dist (2) q2).bind fun q213 =>
bnd ((IntKind.wrap .i64 (((Int.tmod ((IntKind.wrap .i64 (x1))) 16)) * (q213)))) fun v214 =>
(if ((q212) != (v214)) = true then
some (false)
else
(vec_Dist (3) (⟨(IntKind.wrap .i64 ((q2.c0) + (q3.c0))), (IntKind.wrap .i64 ((q2.c1) + (q3.c1))), (IntKind.wrap .i64 ((q2.c2) + (q3.c2))), (IntKind.wrap .i64 ((q2.c3) + (q3.c3))), 0, 0, 0, 0⟩ : T_api_Vec)).bind fun q224 =>
(vec_Dist (3) q2).bind fun q225 =>
(vec_Dist (3) q3).bind fun q226 =>
(if ((q224) != ((IntKind.wrap .i64 ((q225) + (q226))))) = true then
some (false)
else
(vec_Dist (3) (⟨v4, v5, v6, v7, 0, 0, 0, 0⟩ : T_api_Vec)).bind fun q228 =>
(vec_Dist (3) q2).bind fun q229 =>
bnd ((IntKind.wrap .i64 (((Int.tmod ((IntKind.wrap .i64 (x1))) 16)) * (q229)))) fun v230 =>
(if ((q228) != (v230)) = true then
some (false)
else
(vec_Dist (4) (⟨(IntKind.wrap .i64 ((q2.c0) + (q3.c0))), (IntKind.wrap .i64 ((q2.c1) + (q3.c1))), (IntKind.wrap .i64 ((q2.c2) + (q3.c2))), (IntKind.wrap .i64 ((q2.c3) + (q3.c3))), 0, 0, 0, 0⟩ : T_api_Vec)).bind fun q240 =>
(vec_Dist (4) q2).bind fun q241 =>
(vec_Dist (4) q3).bind fun q242 =>
(if ((q240) != ((IntKind.wrap .i64 ((q241) + (q242))))) = true then
some (false)
else
(vec_Dist (4) (⟨v4, v5, v6, v7, 0, 0, 0, 0⟩ : T_api_Vec)).bind fun q244 =>
(vec_Dist (4) q2).bind fun q245 =>
bnd ((IntKind.wrap .i64 (((Int.tmod ((IntKind.wrap .i64 (x1))) 16)) * (q245)))) fun v246 =>
(if ((q244) != (v246)) = true then
some (false)
else
(if q1 = true then
(vec_Dist (0) (⟨0, 0, 3, 4, 0, 0, 0, 0⟩ : T_api_Vec)).bind fun q249 =>
(if ((q249) == 7) = true then
(vec_Dist (2) (⟨3, 0, 0, 4, 0, 0, 0, 0⟩ : T_api_Vec)).bind fun q251 =>
(if ((q251) == 13) = true then
(vec_Dist (4) (⟨0, 3, 0, 4, 0, 0, 0, 0⟩ : T_api_Vec)).bind fun q253 =>
some (((q253) == 13))
else
some (false))
else
some (false))
else
some (false))))))))))))

/-- glazier/glazierlaw04.VecSides -/
def glazierlaw04_VecSides (x0 : T_api_Vec) : Option (Bool) :=
(glazierlaw04_shown).bind fun q1 =>
(glazierref04_Fit x0).bind fun q2 =>
(vec_Dist (1) q2).bind fun q13 =>
(vec_Dist (2) q2).bind fun q14 =>
(if (((IntKind.wrap .i64 ((q13) + (q14)))) != ((IntKind.wrap .i64 (8 * (q2.c3))))) = true then
some (false)
else
(vec_Dist (3) q2).bind fun q16 =>
(vec_Dist (4) q2).bind fun q17 =>
(if (((IntKind.wrap .i64 ((q16) + (q17)))) != ((IntKind.wrap .i64 (8 * (q2.c3))))) = true then
some (false)
else
(vec_Dist (5) q2).bind fun q19 =>
(if ((q19) != 0) = true then
some (false)
else
(vec_Dist ((-1)) q2).bind fun q21 =>
(if ((q21) != 0) = true then
some (false)
else
bnd ((IntKind.wrap .i64 (((IntKind.wrap .i64 (4 * (q2.c3)))) + 1))) fun v23 =>
(if ((v23) ≠ 0) then
bnd ((IntKind.wrap .i64 (((IntKind.wrap .i64 (4 * (q2.c3)))) + 1))) fun v25 =>
(if ((v25) ≠ 0) then
(if (((IntKind.wrap .i64 ((q2.c3) + 1))) ≠ 0) then
(vec_Dist (0) (⟨(Int.tmod (q2.c0) (v23)), (Int.tmod (q2.c1) (v25)), (Int.tmod (q2.c2) ((IntKind.wrap .i64 ((q2.c3) + 1)))), q2.c3, q2.c4, q2.c5, q2.c6, q2.c7⟩ : T_api_Vec)).bind fun q156 =>
(if decide ((q156) < 0) = true then
some (false)
else
(vec_Between (⟨(Int.tmod (q2.c0) (v23)), (Int.tmod (q2.c1) (v25)), (Int.tmod (q2.c2) ((IntKind.wrap .i64 ((q2.c3) + 1)))), q2.c3, q2.c4, q2.c5, q2.c6, q2.c7⟩ : T_api_Vec) (⟨(Int.tmod (q2.c0) (v23)), (Int.tmod (q2.c1) (v25)), (Int.tmod (q2.c2) ((IntKind.wrap .i64 ((q2.c3) + 1)))), q2.c3, q2.c4, q2.c5, q2.c6, q2.c7⟩ : T_api_Vec) (0)).bind fun q158 =>
(if q158.2 = true then
some (false)
else
(vec_Dist (1) (⟨(Int.tmod (q2.c0) (v23)), (Int.tmod (q2.c1) (v25)), (Int.tmod (q2.c2) ((IntKind.wrap .i64 ((q2.c3) + 1)))), q2.c3, q2.c4, q2.c5, q2.c6, q2.c7⟩ : T_api_Vec)).bind fun q168 =>
(if decide ((q168) < 0) = true then
some (false)
else
(vec_Between (⟨(Int.tmod (q2.c0) (v23)), (Int.tmod (q2.c1) (v25)), (Int.tmod (q2.c2) ((IntKind.wrap .i64 ((q2.c3) + 1)))), q2.c3, q2.c4, q2.c5, q2.c6, q2.c7⟩ : T_api_Vec) (⟨(Int.tmod (q2.c0) (v23)), (Int.tmod (q2.c1) (v25)), (Int.tmod (q2.c2) ((IntKind.wrap .i64 ((q2.c3) + 1)))), q2.c3, q2.c4, q2.c5, q2.c6, q2.c7⟩ : T_api_Vec) (1)).bind fun q170 =>
(if q170.2 = true then
some (false)
else
(vec_Dist (2) (⟨(Int.tmod (q2.c0) (v23)), (Int.tmod (q2.c1) (v25)), (Int.tmod (q2.c2) ((IntKind.wrap .i64 ((q2.c3) + 1)))), q2.c3, q2.c4, q2.c5, q2.c6, q2.c7⟩ : T_api_Vec)).bind fun q180 =>
(if decide ((q180) < 0) = true then
some (false)
else
(vec_Between (⟨(Int.tmod (q2.c0) (v23)), (Int.tmod (q2.c1) (v25)), (Int.tmod (q2.c2) ((IntKind.wrap .i64 ((q2.c3) + 1)))), q2.c3, q2.c4, q2.c5, q2.c6, q2.c7⟩ : T_api_Vec) (⟨(Int.tmod (q2.c0) (v23)), (Int.tmod (q2.c1) (v25)), (Int.tmod (q2.c2) ((IntKind.wrap .i64 ((q2.c3) + 1)))), q2.c3, q2.c4, q2.c5, q2.c6, q2.c7⟩ : T_api_Vec) (2)).bind fun q182 =>
(if q182.2 = true then
some (false)
else
(vec_Dist (3) (⟨(Int.tmod (q2.c0) (v23)), (Int.tmod (q2.c1) (v25)), (Int.tmod (q2.c2) ((IntKind.wrap .i64 ((q2.c3) + 1)))), q2.c3, q2.c4, q2.c5, q2.c6, q2.c7⟩ : T_api_Vec)).bind fun q192 =>
(if decide ((q192) < 0) = true then
some (false)
else
(vec_Between (⟨(Int.tmod (q2.c0) (v23)), (Int.tmod (q2.c1) (v25)), (Int.tmod (q2.c2) ((IntKind.wrap .i64 ((q2.c3) + 1)))), q2.c3, q2.c4, q2.c5, q2.c6, q2.c7⟩ : T_api_Vec) (⟨(Int.tmod (q2.c0) (v23)), (Int.tmod (q2.c1) (v25)), (Int.tmod (q2.c2) ((IntKind.wrap .i64 ((q2.c3) + 1)))), q2.c3, q2.c4, q2.c5, q2.c6, q2.c7⟩ : T_api_Vec) (3)).bind fun q194 =>
(if q194.2 = true then
some (false)
else
(vec_Dist (4) (⟨(Int.tmod (q2.c0) (v23)), (Int.tmod (q2.c1) (v25)), (Int.tmod (q2.c2) ((IntKind.wrap .i64 ((q2.c3) + 1)))), q2.c3, q2.c4, q2.c5, q2.c6, q2.c7⟩ : T_api_Vec)).bind fun q204 =>
(if decide ((q204) < 0) = true then
some (false)
else
(vec_Between (⟨(Int.tmod (q2.c0) (v23)), (Int.tmod (q2.c1) (v25)), (Int.tmod (q2.c2) ((IntKind.wrap .i64 ((q2.c3) + 1)))), q2.c3, q2.c4, q2.c5, q2.c6, q2.c7⟩ : T_api_Vec) (⟨(Int.tmod (q2.c0) (v23)), (Int.tmod (q2.c1) (v25)), (Int.tmod (q2.c2) ((IntKind.wrap .i64 ((q2.c3) + 1)))), q2.c3, q2.c4, q2.c5, q2.c6, q2.c7⟩ : T_api_Vec) (4)).bind fun q206 =>
(if q206.2 = true then
some (false)
else
some (q1))))))))))) else none) else none) else none)))))

def glazierlaw04_VecEnds_j1 (q1 : Bool) (x1 : Int) (v4 : Int) (q2 : T_api_Vec) (q3 : T_api_Vec) (j13 : Int) (j14 : Int) : Option (Bool) :=
(vec_Dist ((Int.tmod ((IntKind.wrap .i64 (x1))) 5)) (⟨j13, j14, v4, (IntKind.wrap .i64 (1 + ((Int.tmod (q2.c3) 100)))), q2.c4, q2.c5, q2.c6, q2.c7⟩ : T_api_Vec)).bind fun q17 =>
(if ((q17) != 0) = true then
some (false)
else
(vec_Between (⟨j13, j14, v4, (IntKind.wrap .i64 (1 + ((Int.tmod (q2.c3) 100)))), q2.c4, q2.c5, q2.c6, q2.c7⟩ : T_api_Vec) q3 ((Int.tmod ((IntKind.wrap .i64 (x1))) 5))).bind fun q19 =>
(vec_Dist ((Int.tmod ((IntKind.wrap .i64 (x1))) 5)) q3).bind fun q20 =>
(vec_Between q3 (⟨j13, j14, v4, (IntKind.wrap .i64 (1 + ((Int.tmod (q2.c3) 100)))), q2.c4, q2.c5, q2.c6, q2.c7⟩ : T_api_Vec) ((Int.tmod ((IntKind.wrap .i64 (x1))) 5))).bind fun q21 =>
(vec_Between (⟨j13, j14, v4, (IntKind.wrap .i64 (1 + ((Int.tmod (q2.c3) 100)))), q2.c4, q2.c5, q2.c6, q2.c7⟩ : T_api_Vec) q3 (5)).bind fun q22 =>
(vec_Between (⟨j13, j14, v4, (IntKind.wrap .i64 (1 + ((Int.tmod (q2.c3) 100)))), q2.c4, q2.c5, q2.c6, q2.c7⟩ : T_api_Vec) (⟨q3.c0, q3.c1, q3.c2, q3.c3, 0, 0, 0, 0⟩ : T_api_Vec) ((Int.tmod ((IntKind.wrap .i64 (x1))) 5))).bind fun q23 =>
(if q1 = true then
(if (q19.2 == decide ((q20) < 0)) = true then
(if (!q19.2) = true then
(if (!q21.2) = true then
(if (!q22.2) = true then
(if ((q23.1.c0) == (q19.1.c0)) = true then
(if ((q23.1.c2) == (q19.1.c2)) = true then
some (((q23.1.c3) == (q19.1.c3)))
else
some (false))
else
some (false))
else
some (false))
else
some (false))
else
(if decide (q19.1 = (⟨j13, j14, v4, (IntKind.wrap .i64 (1 + ((Int.tmod (q2.c3) 100)))), q2.c4, q2.c5, q2.c6, q2.c7⟩ : T_api_Vec)) = true then
(if (!q21.2) = true then
(if (!q22.2) = true then
(if ((q23.1.c0) == (q19.1.c0)) = true then
(if ((q23.1.c2) == (q19.1.c2)) = true then
some (((q23.1.c3) == (q19.1.c3)))
else
some (false))
else
some (false))
else
some (false))
else
some (false))
else
some (false)))
else
some (false))
else
some (false)))

/-- glazier/glazierlaw04.VecEnds -/
def glazierlaw04_VecEnds (x0 : T_2_api_Vec) (x1 : Int) : Option (Bool) :=
(glazierlaw04_shown).bind fun q1 =>
(glazierref04_Fit (⟨x0.c0, x0.c1, x0.c2, x0.c3, x0.c4, x0.c5, x0.c6, x0.c7⟩ : T_api_Vec)).bind fun q2 =>
(glazierref04_Fit (⟨x0.c8, x0.c9, x0.c10, x0.c11, x0.c12, x0.c13, x0.c14, x0.c15⟩ : T_api_Vec)).bind fun q3 =>
bnd ((IntKind.wrap .i64 (0 - ((IntKind.wrap .i64 (1 + ((Int.tmod (q2.c3) 100)))))))) fun v4 =>
(if (((Int.tmod ((IntKind.wrap .i64 (x1))) 5)) == 1) = true then
bnd ((IntKind.wrap .i64 ((-4) * ((IntKind.wrap .i64 (1 + ((Int.tmod (q2.c3) 100)))))))) fun v37 =>
glazierlaw04_VecEnds_j1 q1 x1 v4 q2 q3 v37 ((Int.tmod (q2.c1) 100))
else
(if (((Int.tmod ((IntKind.wrap .i64 (x1))) 5)) == 2) = true then
bnd ((IntKind.wrap .i64 (4 * ((IntKind.wrap .i64 (1 + ((Int.tmod (q2.c3) 100)))))))) fun v39 =>
glazierlaw04_VecEnds_j1 q1 x1 v4 q2 q3 v39 ((Int.tmod (q2.c1) 100))
else
(if (((Int.tmod ((IntKind.wrap .i64 (x1))) 5)) == 3) = true then
bnd ((IntKind.wrap .i64 ((-4) * ((IntKind.wrap .i64 (1 + ((Int.tmod (q2.c3) 100)))))))) fun v41 =>
glazierlaw04_VecEnds_j1 q1 x1 v4 q2 q3 ((Int.tmod (q2.c0) 100)) v41
else
(if (((Int.tmod ((IntKind.wrap .i64 (x1))) 5)) == 4) = true then
bnd ((IntKind.wrap .i64 (4 * ((IntKind.wrap .i64 (1 + ((Int.tmod (q2.c3) 100)))))))) fun v43 =>
glazierlaw04_VecEnds_j1 q1 x1 v4 q2 q3 ((Int.tmod (q2.c0) 100)) v43
else
glazierlaw04_VecEnds_j1 q1 x1 v4 q2 q3 ((Int.tmod (q2.c0) 100)) ((Int.tmod (q2.c1) 100))))))

/-- glazier/vec.held -/
def vec_held (x0 : T_8_int) : Option (T_8_int) :=
bnd ((if 32768 < ((if (-32768) > (x0.c0) then (-32768) else (x0.c0))) then 32768 else ((if (-32768) > (x0.c0) then (-32768) else (x0.c0))))) fun v34 =>
bnd ((if 32768 < ((if (-32768) > (x0.c1) then (-32768) else (x0.c1))) then 32768 else ((if (-32768) > (x0.c1) then (-32768) else (x0.c1))))) fun v36 =>
bnd ((if 32768 < ((if (-32768) > (x0.c2) then (-32768) else (x0.c2))) then 32768 else ((if (-32768) > (x0.c2) then (-32768) else (x0.c2))))) fun v38 =>
bnd ((if 32768 < ((if (-32768) > (x0.c3) then (-32768) else (x0.c3))) then 32768 else ((if (-32768) > (x0.c3) then (-32768) else (x0.c3))))) fun v40 =>
bnd ((if 4096 < ((if (-4096) > (x0.c4) then (-4096) else (x0.c4))) then 4096 else ((if (-4096) > (x0.c4) then (-4096) else (x0.c4))))) fun v42 =>
bnd ((if 4096 < ((if (-4096) > (x0.c5) then (-4096) else (x0.c5))) then 4096 else ((if (-4096) > (x0.c5) then (-4096) else (x0.c5))))) fun v44 =>
bnd ((if 4096 < ((if (-4096) > (x0.c6) then (-4096) else (x0.c6))) then 4096 else ((if (-4096) > (x0.c6) then (-4096) else (x0.c6))))) fun v46 =>
bnd ((if 4096 < ((if (-4096) > (x0.c7) then (-4096) else (x0.c7))) then 4096 else ((if (-4096) > (x0.c7) then (-4096) else (x0.c7))))) fun v48 =>
some (⟨v34, v36, v38, v40, v42, v44, v46, v48⟩ : T_8_int)

/-- glazier/vec.Right -/
def vec_Right (x0 : T_api_Vec) : Option (Bool) :=
(vec_row x0).bind fun q1 =>
(vec_held q1).bind fun q2 =>
(if decide (q2 = q1) = true then
some (decide ((x0.c3) > 0))
else
some (false))

def glazierlaw04_VecNarrow_j2 (q1 : Bool) (j18 : Int) (j19 : Int) (j20 : Int) (j21 : Int) (j22 : Int) (j23 : Int) (j24 : Int) (j25 : Int) : Option (Bool) :=
(if q1 = true then
(vec_Right (⟨j18, j19, j20, j21, j22, j23, j24, j25⟩ : T_api_Vec)).bind fun q27 =>
some ((!q27))
else
some (false))

def glazierlaw04_VecNarrow_j1 (x1 : Int) (x2 : Bool) (q1 : Bool) (q2 : T_api_Vec) (j8 : Int) : Option (Bool) :=
(if (((Int.tmod (x1) 8)) == 0) = true then
glazierlaw04_VecNarrow_j2 q1 ((IntKind.wrap .i64 ((j8) * 32769))) q2.c1 q2.c2 q2.c3 q2.c4 q2.c5 q2.c6 q2.c7
else
(if (((Int.tmod (x1) 8)) == 1) = true then
glazierlaw04_VecNarrow_j2 q1 q2.c0 ((IntKind.wrap .i64 ((j8) * 32769))) q2.c2 q2.c3 q2.c4 q2.c5 q2.c6 q2.c7
else
(if (((Int.tmod (x1) 8)) == 2) = true then
glazierlaw04_VecNarrow_j2 q1 q2.c0 q2.c1 ((IntKind.wrap .i64 ((j8) * 32769))) q2.c3 q2.c4 q2.c5 q2.c6 q2.c7
else
(if (((Int.tmod (x1) 8)) == 3) = true then
(if x2 = true then
glazierlaw04_VecNarrow_j2 q1 q2.c0 q2.c1 q2.c2 (32769) q2.c4 q2.c5 q2.c6 q2.c7
else
glazierlaw04_VecNarrow_j2 q1 q2.c0 q2.c1 q2.c2 (0) q2.c4 q2.c5 q2.c6 q2.c7)
else
(if (((Int.tmod (x1) 4)) == 0) = true then
glazierlaw04_VecNarrow_j2 q1 q2.c0 q2.c1 q2.c2 q2.c3 ((IntKind.wrap .i64 ((j8) * 4097))) q2.c5 q2.c6 q2.c7
else
(if (((Int.tmod (x1) 4)) == 1) = true then
glazierlaw04_VecNarrow_j2 q1 q2.c0 q2.c1 q2.c2 q2.c3 q2.c4 ((IntKind.wrap .i64 ((j8) * 4097))) q2.c6 q2.c7
else
(if (((Int.tmod (x1) 4)) == 2) = true then
glazierlaw04_VecNarrow_j2 q1 q2.c0 q2.c1 q2.c2 q2.c3 q2.c4 q2.c5 ((IntKind.wrap .i64 ((j8) * 4097))) q2.c7
else
(if (((Int.tmod (x1) 4)) == 3) = true then
glazierlaw04_VecNarrow_j2 q1 q2.c0 q2.c1 q2.c2 q2.c3 q2.c4 q2.c5 q2.c6 ((IntKind.wrap .i64 ((j8) * 4097)))
else
none))))))))

/-- glazier/glazierlaw04.VecNarrow -/
def glazierlaw04_VecNarrow (x0 : T_api_Vec) (x1 : Int) (x2 : Bool) : Option (Bool) :=
(glazierlaw04_shown).bind fun q1 =>
(glazierref04_Fit x0).bind fun q2 =>
(vec_Right q2).bind fun q5 =>
(if (!q5) = true then
some (false)
else
(if x2 = true then
glazierlaw04_VecNarrow_j1 x1 x2 q1 q2 (1)
else
glazierlaw04_VecNarrow_j1 x1 x2 q1 q2 (-1)))

def glazierlaw04_VecBetween_j4 (q1 : Bool) (x1 : Int) (j23 : Bool) (j25 : Bool) (q6 : T_api_Vec × Bool) (j27 : Bool) : Option (Bool) :=
(vec_Dist ((Int.tmod ((IntKind.wrap .i64 (x1))) 5)) q6.1).bind fun q28 =>
(if q1 = true then
(if j23 = true then
(if j25 = true then
(if j27 = true then
(vec_Right q6.1).bind fun q33 =>
(if q33 = true then
(if decide ((q28) ≥ (-5)) = true then
some (decide ((q28) ≤ 5))
else
some (false))
else
some (false))
else
some (false))
else
some (false))
else
some (false))
else
some (false))

def glazierlaw04_VecBetween_j3 (q1 : Bool) (x1 : Int) (j23 : Bool) (q2 : T_api_Vec) (q3 : T_api_Vec) (q6 : T_api_Vec × Bool) (j25 : Bool) : Option (Bool) :=
(if decide ((q6.1.c6) ≥ ((if (q3.c6) < (q2.c6) then (q3.c6) else (q2.c6)))) = true then
glazierlaw04_VecBetween_j4 q1 x1 j23 j25 q6 (decide ((q6.1.c6) ≤ ((if (q3.c6) > (q2.c6) then (q3.c6) else (q2.c6)))))
else
glazierlaw04_VecBetween_j4 q1 x1 j23 j25 q6 false)

def glazierlaw04_VecBetween_j2 (q1 : Bool) (x1 : Int) (q2 : T_api_Vec) (q3 : T_api_Vec) (q6 : T_api_Vec × Bool) (j23 : Bool) : Option (Bool) :=
(if decide ((q6.1.c3) ≥ ((if (q3.c3) < (q2.c3) then (q3.c3) else (q2.c3)))) = true then
glazierlaw04_VecBetween_j3 q1 x1 j23 q2 q3 q6 (decide ((q6.1.c3) ≤ ((if (q3.c3) > (q2.c3) then (q3.c3) else (q2.c3)))))
else
glazierlaw04_VecBetween_j3 q1 x1 j23 q2 q3 q6 false)

def glazierlaw04_VecBetween_j1 (q1 : Bool) (x1 : Int) (q6 : T_api_Vec × Bool) (q2 : T_api_Vec) (q3 : T_api_Vec) : Option (Bool) :=
(if (!q6.2) = true then
(if q1 = true then
some (decide (q6.1 = (⟨0, 0, 0, 0, 0, 0, 0, 0⟩ : T_api_Vec)))
else
some (false))
else
(if decide ((q6.1.c0) ≥ ((if (q3.c0) < (q2.c0) then (q3.c0) else (q2.c0)))) = true then
glazierlaw04_VecBetween_j2 q1 x1 q2 q3 q6 (decide ((q6.1.c0) ≤ ((if (q3.c0) > (q2.c0) then (q3.c0) else (q2.c0)))))
else
glazierlaw04_VecBetween_j2 q1 x1 q2 q3 q6 false))

/-- glazier/glazierlaw04.VecBetween -/
def glazierlaw04_VecBetween (x0 : T_2_api_Vec) (x1 : Int) : Option (Bool) :=
(glazierlaw04_shown).bind fun q1 =>
(glazierref04_Fit (⟨x0.c0, x0.c1, x0.c2, x0.c3, x0.c4, x0.c5, x0.c6, x0.c7⟩ : T_api_Vec)).bind fun q2 =>
(glazierref04_Fit (⟨x0.c8, x0.c9, x0.c10, x0.c11, x0.c12, x0.c13, x0.c14, x0.c15⟩ : T_api_Vec)).bind fun q3 =>
(vec_Dist ((Int.tmod ((IntKind.wrap .i64 (x1))) 5)) q2).bind fun q4 =>
(vec_Dist ((Int.tmod ((IntKind.wrap .i64 (x1))) 5)) q3).bind fun q5 =>
(vec_Between q2 q3 ((Int.tmod ((IntKind.wrap .i64 (x1))) 5))).bind fun q6 =>
(if decide ((q4) ≥ 0) = true then
(if (!(q6.2 == decide ((q5) < 0))) = true then
some (false)
else
(vec_Right q2).bind fun q41 =>
(if (!q41) = true then
some (false)
else
(vec_Right q3).bind fun q43 =>
(if (!q43) = true then
some (false)
else
glazierlaw04_VecBetween_j1 q1 x1 q6 q2 q3)))
else
(if (!(q6.2 == false)) = true then
some (false)
else
(vec_Right q2).bind fun q46 =>
(if (!q46) = true then
some (false)
else
(vec_Right q3).bind fun q48 =>
(if (!q48) = true then
some (false)
else
glazierlaw04_VecBetween_j1 q1 x1 q6 q2 q3))))

/-- glazier/glazierref04.Small -/
def glazierref04_Small (x0 : T_api_Vec) : Option (T_api_Vec) :=
some (⟨(Int.tmod (x0.c0) 1048577), (Int.tmod (x0.c1) 1048577), (Int.tmod (x0.c2) 1048577), (Int.tmod (x0.c3) 1048577), (Int.tmod (x0.c4) 1048577), (Int.tmod (x0.c5) 1048577), (Int.tmod (x0.c6) 1048577), (Int.tmod (x0.c7) 1048577)⟩ : T_api_Vec)

/-- glazier/glazierref04.Dist -/
def glazierref04_Dist (x0 : Int) (x1 : T_api_Vec) : Option (Int) :=
(if ((x0) == 0) = true then
some ((IntKind.wrap .i64 ((x1.c2) + (x1.c3))))
else
(if ((x0) == 1) = true then
bnd ((IntKind.wrap .i64 (((IntKind.wrap .i64 (4 * (x1.c3)))) + (x1.c0)))) fun v12 =>
some (v12)
else
(if ((x0) == 2) = true then
bnd ((IntKind.wrap .i64 (((IntKind.wrap .i64 (4 * (x1.c3)))) - (x1.c0)))) fun v14 =>
some (v14)
else
(if ((x0) == 3) = true then
bnd ((IntKind.wrap .i64 (((IntKind.wrap .i64 (4 * (x1.c3)))) + (x1.c1)))) fun v16 =>
some (v16)
else
(if ((x0) == 4) = true then
bnd ((IntKind.wrap .i64 (((IntKind.wrap .i64 (4 * (x1.c3)))) - (x1.c1)))) fun v18 =>
some (v18)
else
some (0))))))

/-- glazier/glazierref01.size -/
def glazierref01_size (x0 : Int) : Option (Int) :=
(if decide ((x0) < 0) = true then
some ((IntKind.wrap .u64 (0 - ((IntKind.wrap .u64 (x0))))))
else
some ((IntKind.wrap .u64 (x0))))

def glazierref01_times_j2 (k_glazierref01_times_l1 : Int → Int → Int → Int → Int → Int → Int → Option (T_glazierref01_Wide)) (fl : Nat) (x0 : Int) (x1 : Int) (q1 : Int) (q2 : Int) (j388 : Int) (j422 : Int) (j423 : Int) : Option (T_glazierref01_Wide) :=
k_glazierref01_times_l1 x0 x1 q1 q2 j422 j423 ((IntKind.wrap .i64 ((j388) - 1)))

def glazierref01_times_j3 (k_glazierref01_times_l1 : Int → Int → Int → Int → Int → Int → Int → Option (T_glazierref01_Wide)) (fl : Nat) (x0 : Int) (x1 : Int) (q1 : Int) (q2 : Int) (j388 : Int) (v429 : Int) (j431 : Int) : Option (T_glazierref01_Wide) :=
glazierref01_times_j2 k_glazierref01_times_l1 fl x0 x1 q1 q2 j388 j431 v429

def glazierref01_times_l1 : Nat → Nat → Int → Int → Int → Int → Int → Int → Int → Option (T_glazierref01_Wide)
| 0, _, _, _, _, _, _, _, _ => none
| n1 + 1, fl, x0, x1, q1, q2, j386, j387, j388 =>
(if decide ((j388) ≥ 0) = true then
bnd ((IntKind.wrap .u64 (Int.tdiv (j387) 9223372036854775808))) fun v424 =>
bnd ((IntKind.wrap .u64 (((IntKind.wrap .u64 ((j386) * 2))) + (v424)))) fun v425 =>
(if (0 ≤ (j388)) then
bnd ((Int.tmod ((Int.fdiv (q1) (2 ^ (min (Int.toNat (j388)) 64)))) 2)) fun v427 =>
(if ((v427) == 1) = true then
bnd ((IntKind.wrap .u64 (((IntKind.wrap .u64 ((j387) * 2))) + (q2)))) fun v429 =>
(if decide ((v429) < ((IntKind.wrap .u64 ((j387) * 2)))) = true then
glazierref01_times_j3 (fun a0 a1 a2 a3 a4 a5 a6 => glazierref01_times_l1 n1 fl a0 a1 a2 a3 a4 a5 a6) fl x0 x1 q1 q2 j388 v429 ((IntKind.wrap .u64 ((v425) + 1)))
else
glazierref01_times_j3 (fun a0 a1 a2 a3 a4 a5 a6 => glazierref01_times_l1 n1 fl a0 a1 a2 a3 a4 a5 a6) fl x0 x1 q1 q2 j388 v429 v425)
else
glazierref01_times_j2 (fun a0 a1 a2 a3 a4 a5 a6 => glazierref01_times_l1 n1 fl a0 a1 a2 a3 a4 a5 a6) fl x0 x1 q1 q2 j388 v425 ((IntKind.wrap .u64 ((j387) * 2)))) else none)
else
(if (!(decide ((x0) < 0) == decide ((x1) < 0))) = true then
(if decide ((j386) > 0) = true then
some (⟨j386, j387, true⟩ : T_glazierref01_Wide)
else
some (⟨j386, j387, decide ((j387) > 0)⟩ : T_glazierref01_Wide))
else
some (⟨j386, j387, false⟩ : T_glazierref01_Wide)))

/-- glazier/glazierref01.times -/
def glazierref01_times (fl : Nat) (x0 : Int) (x1 : Int) : Option (T_glazierref01_Wide) :=
(glazierref01_size (x0)).bind fun q1 =>
(glazierref01_size (x1)).bind fun q2 =>
glazierref01_times_l1 fl fl x0 x1 q1 q2 (0) (0) (63)

def glazierref01_parts_j2 (k_glazierref01_parts_l1 : Int → Int → Int → Int → Int → T_glazierref01_Wide → Option (Int × Int × Int)) (fl : Nat) (x1 : Int) (v537 : Int) (j447 : Int) (x0 : T_glazierref01_Wide) (j547 : Int) (j548 : Int) : Option (Int × Int × Int) :=
k_glazierref01_parts_l1 x1 v537 j547 j548 ((IntKind.wrap .i64 ((j447) - 1))) x0

def glazierref01_parts_j3 (k_glazierref01_parts_l1 : Int → Int → Int → Int → Int → T_glazierref01_Wide → Option (Int × Int × Int)) (fl : Nat) (x1 : Int) (j486 : Int) (j445 : Int) (j446 : Int) (j447 : Int) (x0 : T_glazierref01_Wide) (j554 : Int) : Option (Int × Int × Int) :=
bnd ((IntKind.wrap .u64 (((IntKind.wrap .u64 ((j446) * 2))) + (j554)))) fun v555 =>
bnd ((IntKind.wrap .u64 (Int.tdiv (j445) 9223372036854775808))) fun v556 =>
bnd ((IntKind.wrap .u64 (((IntKind.wrap .u64 ((j486) * 2))) + (v556)))) fun v557 =>
(if decide ((j446) ≥ 9223372036854775808) = true then
bnd ((IntKind.wrap .u64 (((IntKind.wrap .u64 ((j445) * 2))) + 1))) fun v559 =>
glazierref01_parts_j2 k_glazierref01_parts_l1 fl x1 v557 j447 x0 v559 ((IntKind.wrap .u64 ((v555) - (x1))))
else
(if decide ((v555) ≥ (x1)) = true then
bnd ((IntKind.wrap .u64 (((IntKind.wrap .u64 ((j445) * 2))) + 1))) fun v561 =>
glazierref01_parts_j2 k_glazierref01_parts_l1 fl x1 v557 j447 x0 v561 ((IntKind.wrap .u64 ((v555) - (x1))))
else
glazierref01_parts_j2 k_glazierref01_parts_l1 fl x1 v557 j447 x0 ((IntKind.wrap .u64 ((j445) * 2))) v555))

def glazierref01_parts_l1 : Nat → Nat → Int → Int → Int → Int → Int → T_glazierref01_Wide → Option (Int × Int × Int)
| 0, _, _, _, _, _, _, _ => none
| n1 + 1, fl, x1, j486, j445, j446, j447, x0 =>
(if decide ((j447) ≥ 0) = true then
(if decide ((j447) > 63) = true then
(if (0 ≤ ((IntKind.wrap .i64 ((j447) - 64)))) then
bnd ((Int.fdiv (x0.c0) (2 ^ (min (Int.toNat ((IntKind.wrap .i64 ((j447) - 64)))) 64)))) fun v564 =>
glazierref01_parts_j3 (fun a0 a1 a2 a3 a4 a5 => glazierref01_parts_l1 n1 fl a0 a1 a2 a3 a4 a5) fl x1 j486 j445 j446 j447 x0 ((Int.tmod (v564) 2)) else none)
else
(if (0 ≤ (j447)) then
bnd ((Int.tmod ((Int.fdiv (x0.c1) (2 ^ (min (Int.toNat (j447)) 64)))) 2)) fun v566 =>
glazierref01_parts_j3 (fun a0 a1 a2 a3 a4 a5 => glazierref01_parts_l1 n1 fl a0 a1 a2 a3 a4 a5) fl x1 j486 j445 j446 j447 x0 v566 else none))
else
some ((j486), (j445), (j446)))

/-- glazier/glazierref01.parts -/
def glazierref01_parts (fl : Nat) (x0 : T_glazierref01_Wide) (x1 : Int) : Option (Int × Int × Int) :=
glazierref01_parts_l1 fl fl x1 (0) (0) (0) (127) x0

def glazierref01_told_j1 (x0 : Int) (x1 : Int) (x2 : Bool) (j2 : Int) : Option (Int × Int) :=
(if decide ((x0) > 0) = true then
some ((0), (2))
else
(if decide ((x1) > (j2)) = true then
some ((0), (2))
else
(if x2 = true then
some (((IntKind.wrap .i64 ((IntKind.wrap .u64 (0 - (x1)))))), (0))
else
some (((IntKind.wrap .i64 (x1))), (0)))))

/-- glazier/glazierref01.told -/
def glazierref01_told (x0 : Int) (x1 : Int) (x2 : Bool) : Option (Int × Int) :=
(if x2 = true then
glazierref01_told_j1 x0 x1 x2 (9223372036854775808)
else
glazierref01_told_j1 x0 x1 x2 (9223372036854775807))

def glazierref01_MulDiv_j2 (fl : Nat) (j6 : Bool) (j12 : Int) (j13 : Int) : Option (Int × Int) :=
(glazierref01_told (j12) (j13) (j6)).bind fun q14 =>
some ((q14.1), (q14.2))

def glazierref01_MulDiv_j1 (fl : Nat) (x2 : Int) (q3 : T_glazierref01_Wide) (j6 : Bool) : Option (Int × Int) :=
(glazierref01_size (x2)).bind fun q7 =>
(glazierref01_parts fl q3 (q7)).bind fun q8 =>
(if j6 = true then
(if decide ((q8.2.2) > 0) = true then
(if (((IntKind.wrap .u64 ((q8.2.1) + 1))) == 0) = true then
glazierref01_MulDiv_j2 fl j6 ((IntKind.wrap .u64 ((q8.1) + 1))) ((IntKind.wrap .u64 ((q8.2.1) + 1)))
else
glazierref01_MulDiv_j2 fl j6 q8.1 ((IntKind.wrap .u64 ((q8.2.1) + 1))))
else
glazierref01_MulDiv_j2 fl j6 q8.1 q8.2.1)
else
glazierref01_MulDiv_j2 fl j6 q8.1 q8.2.1)

/-- glazier/glazierref01.MulDiv -/
def glazierref01_MulDiv (fl : Nat) (x0 : Int) (x1 : Int) (x2 : Int) : Option (Int × Int) :=
(if ((x2) == 0) = true then
some ((0), (3))
else
(glazierref01_times fl (x0) (x1)).bind fun q3 =>
(if (!(q3.c2 == decide ((x2) < 0))) = true then
(if decide ((q3.c0) > 0) = true then
glazierref01_MulDiv_j1 fl x2 q3 true
else
glazierref01_MulDiv_j1 fl x2 q3 (decide ((q3.c1) > 0)))
else
glazierref01_MulDiv_j1 fl x2 q3 false))

/-- glazier/glazierref01.Floor -/
def glazierref01_Floor (fl : Nat) (x0 : Int) (x1 : Int) : Option (Int × Int) :=
(glazierref01_MulDiv fl (x0) (1) (x1)).bind fun q1 =>
some ((q1.1), (q1.2))

/-- glazier/glazierref01.Down -/
def glazierref01_Down (fl : Nat) (x0 : Int) (x1 : Int) : Option (Int) :=
(glazierref01_Floor fl (x0) (x1)).bind fun q1 =>
some (q1.1)

/-- glazier/glazierref04.Between -/
def glazierref04_Between (fl : Nat) (x0 : T_api_Vec) (x1 : T_api_Vec) (x2 : Int) : Option (T_api_Vec × Bool) :=
(glazierref04_Dist (x2) x0).bind fun q1 =>
(glazierref04_Dist (x2) x1).bind fun q2 =>
(if decide ((x2) < 0) = true then
some ((⟨0, 0, 0, 0, 0, 0, 0, 0⟩ : T_api_Vec), (false))
else
(if decide ((x2) > 4) = true then
some ((⟨0, 0, 0, 0, 0, 0, 0, 0⟩ : T_api_Vec), (false))
else
(if decide ((q1) < 0) = true then
some ((⟨0, 0, 0, 0, 0, 0, 0, 0⟩ : T_api_Vec), (false))
else
(if decide ((q2) ≥ 0) = true then
some ((⟨0, 0, 0, 0, 0, 0, 0, 0⟩ : T_api_Vec), (false))
else
bnd ((IntKind.wrap .i64 (((IntKind.wrap .i64 ((x1.c0) - (x0.c0)))) * (q1)))) fun v11 =>
(glazierref01_Down fl (v11) ((IntKind.wrap .i64 ((q1) - (q2))))).bind fun q12 =>
bnd ((IntKind.wrap .i64 (((IntKind.wrap .i64 ((x1.c1) - (x0.c1)))) * (q1)))) fun v13 =>
(glazierref01_Down fl (v13) ((IntKind.wrap .i64 ((q1) - (q2))))).bind fun q14 =>
bnd ((IntKind.wrap .i64 (((IntKind.wrap .i64 ((x1.c2) - (x0.c2)))) * (q1)))) fun v15 =>
(glazierref01_Down fl (v15) ((IntKind.wrap .i64 ((q1) - (q2))))).bind fun q16 =>
bnd ((IntKind.wrap .i64 (((IntKind.wrap .i64 ((x1.c3) - (x0.c3)))) * (q1)))) fun v17 =>
(glazierref01_Down fl (v17) ((IntKind.wrap .i64 ((q1) - (q2))))).bind fun q18 =>
bnd ((IntKind.wrap .i64 (((IntKind.wrap .i64 ((x1.c4) - (x0.c4)))) * (q1)))) fun v53 =>
(glazierref01_Down fl (v53) ((IntKind.wrap .i64 ((q1) - (q2))))).bind fun q54 =>
bnd ((IntKind.wrap .i64 (((IntKind.wrap .i64 ((x1.c5) - (x0.c5)))) * (q1)))) fun v57 =>
(glazierref01_Down fl (v57) ((IntKind.wrap .i64 ((q1) - (q2))))).bind fun q58 =>
bnd ((IntKind.wrap .i64 (((IntKind.wrap .i64 ((x1.c6) - (x0.c6)))) * (q1)))) fun v61 =>
(glazierref01_Down fl (v61) ((IntKind.wrap .i64 ((q1) - (q2))))).bind fun q62 =>
bnd ((IntKind.wrap .i64 (((IntKind.wrap .i64 ((x1.c7) - (x0.c7)))) * (q1)))) fun v65 =>
(glazierref01_Down fl (v65) ((IntKind.wrap .i64 ((q1) - (q2))))).bind fun q66 =>
some ((⟨(IntKind.wrap .i64 ((x0.c0) + (q12))), (IntKind.wrap .i64 ((x0.c1) + (q14))), (IntKind.wrap .i64 ((x0.c2) + (q16))), (IntKind.wrap .i64 ((x0.c3) + (q18))), (IntKind.wrap .i64 ((x0.c4) + (q54))), (IntKind.wrap .i64 ((x0.c5) + (q58))), (IntKind.wrap .i64 ((x0.c6) + (q62))), (IntKind.wrap .i64 ((x0.c7) + (q66)))⟩ : T_api_Vec), (true))))))

/-- glazier/glazierref04.within -/
def glazierref04_within (x0 : Int) (x1 : Int) : Option (Bool) :=
(if decide ((x0) ≥ ((IntKind.wrap .i64 (0 - (x1))))) = true then
some (decide ((x0) ≤ (x1)))
else
some (false))

/-- glazier/glazierref04.Right -/
def glazierref04_Right (x0 : T_api_Vec) : Option (Bool) :=
(if decide ((x0.c4) < (-4096)) = true then
some (false)
else
(if decide ((x0.c4) > 4096) = true then
some (false)
else
(if decide ((x0.c5) < (-4096)) = true then
some (false)
else
(if decide ((x0.c5) > 4096) = true then
some (false)
else
(if decide ((x0.c6) < (-4096)) = true then
some (false)
else
(if decide ((x0.c6) > 4096) = true then
some (false)
else
(if decide ((x0.c7) < (-4096)) = true then
some (false)
else
(if decide ((x0.c7) > 4096) = true then
some (false)
else
(glazierref04_within (x0.c0) (32768)).bind fun q49 =>
(glazierref04_within (x0.c1) (32768)).bind fun q50 =>
(glazierref04_within (x0.c2) (32768)).bind fun q51 =>
(if q49 = true then
(if q50 = true then
(if q51 = true then
(if decide ((x0.c3) ≥ 1) = true then
some (decide ((x0.c3) ≤ 32768))
else
some (false))
else
some (false))
else
some (false))
else
some (false))))))))))

/-- glazier/glazierlaw04.VecAll -/
def glazierlaw04_VecAll (fl : Nat) (x0 : T_api_Vec) (x1 : T_2_api_Vec) (x2 : Int) : Option (Bool) :=
(glazierlaw04_shown).bind fun q1 =>
(glazierref04_Small (⟨x1.c0, x1.c1, x1.c2, x1.c3, x1.c4, x1.c5, x1.c6, x1.c7⟩ : T_api_Vec)).bind fun q2 =>
(glazierref04_Small (⟨x1.c8, x1.c9, x1.c10, x1.c11, x1.c12, x1.c13, x1.c14, x1.c15⟩ : T_api_Vec)).bind fun q3 =>
(vec_Between q2 q3 (x2)).bind fun q4 =>
(glazierref04_Between fl q2 q3 (x2)).bind fun q5 =>
(if q1 = true then
(vec_Right x0).bind fun q7 =>
(glazierref04_Right x0).bind fun q8 =>
(if (q7 == q8) = true then
(vec_Right q2).bind fun q10 =>
(glazierref04_Right q2).bind fun q11 =>
(if (q10 == q11) = true then
(vec_Dist (x2) q2).bind fun q13 =>
(glazierref04_Dist (x2) q2).bind fun q14 =>
(if ((q13) == (q14)) = true then
(if decide (q4.1 = q5.1) = true then
some ((q4.2 == q5.2))
else
some (false))
else
some (false))
else
some (false))
else
some (false))
else
some (false))


end Go.Proofs.Ytmiffokcdmehhaa.G
