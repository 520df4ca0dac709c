/- Vertices: what is far, and made right. -/
import Derived.Test.YtmiffokcdmehhaaLawBase
import Derived.Test.YtmiffokcdmehhaaGenV1
set_option linter.unusedVariables false
namespace Go.Proofs.Ytmiffokcdmehhaa.G
open Go Go.RowKit Go.Proofs.Ytmiffokcdmehhaa.E

/-- Numbers that sums and multiples don't leave. -/
def T_api_Vec.sm (v : T_api_Vec) : Prop := (-1099511627776 ≤ v.c0 ∧ v.c0 ≤ 1099511627776) ∧ (-1099511627776 ≤ v.c1 ∧ v.c1 ≤ 1099511627776) ∧ (-1099511627776 ≤ v.c2 ∧ v.c2 ≤ 1099511627776) ∧ (-1099511627776 ≤ v.c3 ∧ v.c3 ≤ 1099511627776)

/-- How far a vertex is inside of a plane. -/
def distS (p : Int) (v : T_api_Vec) : Int :=
  if p = 0 then v.c2 + v.c3 else if p = 1 then 4 * v.c3 + v.c0 else if p = 2 then 4 * v.c3 - v.c0 else if p = 3 then 4 * v.c3 + v.c1 else if p = 4 then 4 * v.c3 - v.c1 else 0

theorem dist_spec (p : Int) (v : T_api_Vec) (h : v.sm) : vec_Dist p v = some (distS p v) := by
  obtain ⟨h0, h1, h2, h3⟩ := h
  unfold vec_Dist bnd distS
  have e0 : IntKind.wrap .i64 (4 * v.c3) = 4 * v.c3 := wrapI (by omega) (by omega)
  have e1 : IntKind.wrap .i64 (4 * v.c3 + v.c0) = 4 * v.c3 + v.c0 := wrapI (by omega) (by omega)
  have e2 : IntKind.wrap .i64 (4 * v.c3 - v.c0) = 4 * v.c3 - v.c0 := wrapI (by omega) (by omega)
  have e3 : IntKind.wrap .i64 (4 * v.c3 + v.c1) = 4 * v.c3 + v.c1 := wrapI (by omega) (by omega)
  have e4 : IntKind.wrap .i64 (4 * v.c3 - v.c1) = 4 * v.c3 - v.c1 := wrapI (by omega) (by omega)
  have e5 : IntKind.wrap .i64 (v.c2 + v.c3) = v.c2 + v.c3 := wrapI (by omega) (by omega)
  simp only [e0, e1, e2, e3, e4, e5]
  by_cases ha : p < 0
  · rw [if_pos (by simpa using ha), if_neg (by omega), if_neg (by omega), if_neg (by omega), if_neg (by omega), if_neg (by omega)]
  · rw [if_neg (by simpa using ha)]
    by_cases hb : p ≥ 5
    · rw [if_pos (by simpa using hb), if_neg (by omega), if_neg (by omega), if_neg (by omega), if_neg (by omega), if_neg (by omega)]
    · rw [if_neg (by simpa using hb)]
      have : p = 0 ∨ p = 1 ∨ p = 2 ∨ p = 3 ∨ p = 4 := by omega
      rcases this with rfl | rfl | rfl | rfl | rfl <;> rfl

/-- A vertex that may be. -/
def T_api_Vec.fit (v : T_api_Vec) : Prop := (-32768 ≤ v.c0 ∧ v.c0 ≤ 32768) ∧ (-32768 ≤ v.c1 ∧ v.c1 ≤ 32768) ∧ (-32768 ≤ v.c2 ∧ v.c2 ≤ 32768) ∧ (1 ≤ v.c3 ∧ v.c3 ≤ 32768) ∧
  (-4096 ≤ v.c4 ∧ v.c4 ≤ 4096) ∧ (-4096 ≤ v.c5 ∧ v.c5 ≤ 4096) ∧ (-4096 ≤ v.c6 ∧ v.c6 ≤ 4096) ∧ (-4096 ≤ v.c7 ∧ v.c7 ≤ 4096)

theorem T_api_Vec.fit.sm {v : T_api_Vec} (h : v.fit) : v.sm := by
  obtain ⟨h0, h1, h2, h3, _⟩ := h
  exact ⟨by omega, by omega, by omega, by omega⟩

theorem fit_spec (x : T_api_Vec) : ∃ v, glazierref04_Fit x = some v ∧ v.fit := by
  have b0 := tmod_lt (a := x.c0) (m := 32769) (by omega)
  have b1 := tmod_lt (a := x.c1) (m := 32769) (by omega)
  have b2 := tmod_lt (a := x.c2) (m := 32769) (by omega)
  have b3 := tmod_lt (a := x.c3) (m := 32768) (by omega)
  have b4 := tmod_lt (a := x.c4) (m := 4097) (by omega)
  have b5 := tmod_lt (a := x.c5) (m := 4097) (by omega)
  have b6 := tmod_lt (a := x.c6) (m := 4097) (by omega)
  have b7 := tmod_lt (a := x.c7) (m := 4097) (by omega)
  unfold glazierref04_Fit glazierref04_Fit_j1
  by_cases h : Int.tmod x.c3 32768 < 0
  · rw [if_pos (by simpa using h)]
    refine ⟨_, rfl, by simp only; omega, by simp only; omega, by simp only; omega, ?_, by simp only; omega, by simp only; omega, by simp only; omega, by simp only; omega⟩
    simp only
    rw [wrapI (n := 0 - _) (by omega) (by omega), wrapI (by omega) (by omega)]
    omega
  · rw [if_neg (by simpa using h)]
    refine ⟨_, rfl, by simp only; omega, by simp only; omega, by simp only; omega, ?_, by simp only; omega, by simp only; omega, by simp only; omega, by simp only; omega⟩
    simp only
    rw [wrapI (by omega) (by omega)]
    omega

instance (v : T_api_Vec) : Decidable v.fit := by unfold T_api_Vec.fit; infer_instance

theorem clamp {m x : Int} (hm : 0 ≤ m) : (if m < (if (-m) > x then (-m) else x) then m else (if (-m) > x then (-m) else x)) = x ↔ -m ≤ x ∧ x ≤ m := by
  split <;> split <;> omega

/-- Which vertices may be. -/
theorem right_spec (v : T_api_Vec) : vec_Right v = some (decide v.fit) := by
  have k := fun x => clamp (m := 32768) (x := x) (by omega)
  have l := fun x => clamp (m := 4096) (x := x) (by omega)
  unfold vec_Right vec_row vec_held bnd
  simp only [Option.bind_some, T_8_int.mk.injEq, k, l]
  by_cases h : v.fit
  · have hh := h
    obtain ⟨h0, h1, h2, h3, h4, h5, h6, h7⟩ := hh
    rw [if_pos (by simp; omega)]
    simp [h]
    omega
  · have hh := h
    unfold T_api_Vec.fit at hh
    split
    · rename_i h2
      simp at h2
      simp [h]
      omega
    · simp [h]

def T_api_Vec.none : T_api_Vec := ⟨0, 0, 0, 0, 0, 0, 0, 0⟩

/-- Where there is nothing between. -/
theorem between_none (a b : T_api_Vec) (p : Int) (ha : a.sm) (hb : b.sm) (h : p < 0 ∨ 5 ≤ p ∨ distS p a < 0 ∨ 0 ≤ distS p b) : vec_Between a b p = some (T_api_Vec.none, false) := by
  unfold vec_Between
  rw [dist_spec _ _ ha, dist_spec _ _ hb]
  simp only [Option.bind_some]
  by_cases h1 : p < 0
  · rw [if_pos (by simpa using h1)]; rfl
  · rw [if_neg (by simpa using h1)]
    by_cases h2 : p ≥ 5
    · rw [if_pos (by simpa using h2)]; rfl
    · rw [if_neg (by simpa using h2)]
      by_cases h3 : distS p a < 0
      · rw [if_pos (by simpa using h3)]; rfl
      · rw [if_neg (by simpa using h3), if_pos (by simp; omega)]; rfl

theorem shown04 : glazierlaw04_shown = some true := by kernel_rfl

end Go.Proofs.Ytmiffokcdmehhaa.G
