/- What is within a triangle, and the depth of a pixel. -/
import Derived.Test.YtcgkhlccmfbhnaaLawPlane
set_option linter.unusedVariables false
namespace Go.Proofs.Ytcgkhlccmfbhnaa.G
open Go Go.RowKit Go.Proofs.Ytcgkhlccmfbhnaa.M

theorem first_spec (a b : Pt) : ∃ f, glazierref07_First a b = some f := by
  unfold glazierref07_First
  simp only [bnd_eq]
  cases F.lt b.2.1 a.2.1 <;> cases F.eq b.2.1 a.2.1 <;> exact ⟨_, rfl⟩

theorem edge_step (c : Int) (f : Bool) (r : Option Bool) : bite (F.lt c 0) (some false) (bite (F.eq c 0) (bite (F.not f) (some false) r) r) = if c < 0 ∨ (c = 0 ∧ f = false) then some false else r := by
  rcases Int.lt_trichotomy c 0 with k | k | k
  · rw [lt_t k, bite_t, if_pos (.inl k)]
  · rw [lt_f (by omega), bite_f, eq_t k, bite_t]
    cases f with
    | true => rw [not_t, bite_f, if_neg (by simp; omega)]
    | false => rw [not_f, bite_t, if_pos (.inr ⟨k, rfl⟩)]
  · rw [lt_f (by omega), bite_f, eq_f (by omega), bite_f, if_neg (by omega)]

theorem in_spec {u : Tri} {x y : Int} (hu : okTri u) (hx : near x) (hy : near y) :
    ∃ b, glazierref07_In u x y = some b ∧ (b = true → 0 ≤ crs u.1 u.2.1 x y ∧ 0 ≤ crs u.2.1 u.2.2 x y ∧ 0 ≤ crs u.2.2 u.1 x y) := by
  unfold glazierref07_In
  rw [ref_area hu]
  simp only [ob_some, bnd_eq]
  rcases Int.lt_or_le 0 (area u) with ha | ha
  · rw [le_f ha, bite_f]
    obtain ⟨f0, e0⟩ := first_spec u.1 u.2.1
    obtain ⟨f1, e1⟩ := first_spec u.2.1 u.2.2
    obtain ⟨f2, e2⟩ := first_spec u.2.2 u.1
    rw [ref_cross hu.1 hu.2.1 hx hy, ref_cross hu.2.1 hu.2.2 hx hy, ref_cross hu.2.2 hu.1 hx hy, e0, e1, e2]
    simp only [ob_some, edge_step]
    split
    · exact ⟨_, rfl, fun h => by cases h⟩
    · split
      · exact ⟨_, rfl, fun h => by cases h⟩
      · split
        · exact ⟨_, rfl, fun h => by cases h⟩
        · exact ⟨_, rfl, fun _ => by omega⟩
  · rw [le_t ha, bite_t]
    exact ⟨_, rfl, fun h => by cases h⟩

/-- What is weighed lies between. -/
theorem weigh_lo {u : Tri} {n : Int × Int × Int} {x y m : Int} (ha : 0 < area u) (h0 : 0 ≤ crs u.1 u.2.1 x y) (h1 : 0 ≤ crs u.2.1 u.2.2 x y) (h2 : 0 ≤ crs u.2.2 u.1 x y) (k0 : m ≤ n.1) (k1 : m ≤ n.2.1) (k2 : m ≤ n.2.2) : m ≤ Int.fdiv (weigh u n x y) (area u) := by
  have e : area u * m ≤ weigh u n x y := by
    have p0 := Int.mul_le_mul_of_nonneg_right k0 h1
    have p1 := Int.mul_le_mul_of_nonneg_right k1 h2
    have p2 := Int.mul_le_mul_of_nonneg_right k2 h0
    rw [← crs_sum u x y, Int.add_mul, Int.add_mul, Int.mul_comm _ m, Int.mul_comm _ m, Int.mul_comm _ m]
    unfold weigh
    omega
  have := (fdiv_in (p := weigh u n x y) ha).2
  have k : area u * m < area u * (Int.fdiv (weigh u n x y) (area u) + 1) := by rw [Int.mul_add]; omega
  have := Int.lt_of_mul_lt_mul_left k (by omega)
  omega

theorem weigh_hi {u : Tri} {n : Int × Int × Int} {x y m : Int} (ha : 0 < area u) (h0 : 0 ≤ crs u.1 u.2.1 x y) (h1 : 0 ≤ crs u.2.1 u.2.2 x y) (h2 : 0 ≤ crs u.2.2 u.1 x y) (k0 : n.1 ≤ m) (k1 : n.2.1 ≤ m) (k2 : n.2.2 ≤ m) : Int.fdiv (weigh u n x y) (area u) ≤ m := by
  have e : weigh u n x y ≤ area u * m := by
    have p0 := Int.mul_le_mul_of_nonneg_right k0 h1
    have p1 := Int.mul_le_mul_of_nonneg_right k1 h2
    have p2 := Int.mul_le_mul_of_nonneg_right k2 h0
    rw [← crs_sum u x y, Int.add_mul, Int.add_mul, Int.mul_comm _ m, Int.mul_comm _ m, Int.mul_comm _ m]
    unfold weigh
    omega
  have := (fdiv_in (p := weigh u n x y) ha).1
  have k : area u * Int.fdiv (weigh u n x y) (area u) < area u * (m + 1) := by rw [Int.mul_add]; omega
  have := Int.lt_of_mul_lt_mul_left k (by omega)
  omega

def lowZ (u : Tri) : Int := min (min u.1.2.2.1 u.2.1.2.2.1) u.2.2.2.2.1
def highZ (u : Tri) : Int := max (max u.1.2.2.1 u.2.1.2.2.1) u.2.2.2.2.1

theorem centre_spec {x : Int} (hx : -512 ≤ x ∧ x ≤ 512) : view_Centre x = some (16 * x + 8) := by
  unfold view_Centre
  simp only [bnd_eq]
  rw [mulI (by omega), addI (by omega)]

theorem each_spec (fl : Nat) {u : Tri} {x y : Int} (hx : -512 ≤ x ∧ x ≤ 512) (hy : -512 ≤ y ∧ y ≤ 512) :
    plane_each fl u x y () = plane_At fl u (u.1.2.2.1, (u.2.1.2.2.1, u.2.2.2.2.1)) (16 * x + 8) (16 * y + 8) := by
  unfold plane_each plane_Depth_1
  rw [centre_spec hx, centre_spec hy, ob_some, ob_some, ob_some, ob_some, ob_some]
  generalize plane_At fl u (u.1.2.2.1, (u.2.1.2.2.1, u.2.2.2.2.1)) (16 * x + 8) (16 * y + 8) = r
  cases r <;> rfl

theorem depth_spec (fl : Nat) {u : Tri} {x y : Int} (hu : okTri u) (hz : okTriZ u) (ha : 0 < area u) (hx : -512 ≤ x ∧ x ≤ 512) (hy : -512 ≤ y ∧ y ≤ 512) :
    plane_Depth fl u x y = some (min (max (Int.fdiv (weigh u (u.1.2.2.1, u.2.1.2.2.1, u.2.2.2.2.1) (16 * x + 8) (16 * y + 8)) (area u)) (lowZ u)) (highZ u)) := by
  have h1 := hz.1.1
  have h2 := hz.2.1.1
  have h3 := hz.2.2.1
  have k1 : small30 u.1.2.2.1 := ⟨by omega, by omega⟩
  have k2 : small30 u.2.1.2.2.1 := ⟨by omega, by omega⟩
  have k3 : small30 u.2.2.2.2.1 := ⟨by omega, by omega⟩
  have nx : near (16 * x + 8) := ⟨by omega, by omega⟩
  have ny : near (16 * y + 8) := ⟨by omega, by omega⟩
  have e : plane_At fl u (u.1.2.2.1, (u.2.1.2.2.1, u.2.2.2.2.1)) (16 * x + 8) (16 * y + 8) = _ := at_is fl hu ha k1 k2 k3 nx ny
  unfold plane_Depth
  rw [edge_area hu, ob_some, bnd_eq, le_f ha, bite_f, each_spec fl hx hy, e, ob_some, bnd_eq, bnd_eq, bnd_eq, bnd_eq, f_min, f_min, f_max, f_max, f_max, f_min]
  unfold lowZ highZ
  rfl
end Go.Proofs.Ytcgkhlccmfbhnaa.G
