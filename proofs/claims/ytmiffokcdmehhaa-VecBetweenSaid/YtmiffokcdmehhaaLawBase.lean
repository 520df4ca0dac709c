/- Numbers that fit their kinds. -/
import Derived.Test.YtmiffokcdmehhaaEngW
set_option linter.unusedVariables false
namespace Go.Proofs.Ytmiffokcdmehhaa.G
open Go Go.RowKit Go.Proofs.Ytmiffokcdmehhaa.E

theorem wrapI {n : Int} (h1 : -9223372036854775808 ≤ n) (h2 : n ≤ 9223372036854775807) : IntKind.wrap .i64 n = n := by
  simp only [IntKind.wrap, IntKind.bits, IntKind.signed]
  simp
  split <;> omega

theorem wrapU {n : Int} (h1 : 0 ≤ n) (h2 : n ≤ 18446744073709551615) : IntKind.wrap .u64 n = n := by
  simp only [IntKind.wrap, IntKind.bits, IntKind.signed]
  simp
  omega

theorem inR_i64 {x : Int} : inR .i64 x ↔ -9223372036854775808 ≤ x ∧ x ≤ 9223372036854775807 := by
  unfold inR
  simp [Lit.wf, IntKind.min, IntKind.max, IntKind.signed, IntKind.bits]

theorem inR_u8 {x : Int} : inR .u8 x ↔ 0 ≤ x ∧ x ≤ 255 := by
  unfold inR
  simp [Lit.wf, IntKind.min, IntKind.max, IntKind.signed, IntKind.bits]

theorem inR_i8 {x : Int} : inR .i8 x ↔ -128 ≤ x ∧ x ≤ 127 := by
  unfold inR
  simp [Lit.wf, IntKind.min, IntKind.max, IntKind.signed, IntKind.bits]

theorem tmod_lt {a m : Int} (hm : 0 < m) : -m < Int.tmod a m ∧ Int.tmod a m < m := by
  have h1 := Int.tmod_lt_of_pos a hm
  have h2 := Int.lt_tmod_of_pos a hm
  exact ⟨h2, h1⟩

end Go.Proofs.Ytmiffokcdmehhaa.G
