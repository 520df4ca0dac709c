/- Samples of pixels, and what is within a triangle. -/
import Derived.Test.YtfejdcdomgeogaaLawSetup
set_option linter.unusedVariables false
namespace Go.Proofs.Ytfejdcdomgeogaa.G
open Go Go.RowKit Go.Proofs.Ytfejdcdomgeogaa.M

theorem first_g (a b : Px) : ∃ f, glazierref07_First a b = some f := by
  unfold glazierref07_First
  simp only [bnd_eq]
  cases F.lt b.2.1 a.2.1 <;> cases F.eq b.2.1 a.2.1 <;> exact ⟨_, rfl⟩

theorem edge_g (c : Int) (f : Bool) (r : Option Bool) : bite (F.lt c 0) (some false) (bite (F.eq c 0) (bite (F.not f) (some false) r) r) = if c < 0 ∨ (c = 0 ∧ f = false) then some false else r := by
  rcases Int.lt_trichotomy c 0 with k | k | k
  · rw [lt_t k, bite_t, if_pos (.inl k)]
  · rw [lt_f (by omega), bite_f, eq_t k, bite_t]
    cases f with
    | true => rw [not_t, bite_f, if_neg (by simp; omega)]
    | false => rw [not_f, bite_t, if_pos (.inr ⟨k, rfl⟩)]
  · rw [lt_f (by omega), bite_f, eq_f (by omega), bite_f, if_neg (by omega)]

/-- Whether a place is within, or on an edge. -/
def within (u : Tri) (x y : Int) : Prop := 0 < area u ∧ 0 ≤ crs u.1 u.2.1 x y ∧ 0 ≤ crs u.2.1 u.2.2 x y ∧ 0 ≤ crs u.2.2 u.1 x y

theorem in_g {u : Tri} {x y : Int} (hu : okG3 u) (hx : big x) (hy : big y) : ∃ b, glazierref07_In u x y = some b ∧ (b = true → within u x y) := by
  unfold glazierref07_In
  rw [rarea_g hu]
  simp only [ob_some, bnd_eq]
  rcases Int.lt_or_le 0 (area u) with ha | ha
  · rw [le_f ha, bite_f]
    obtain ⟨f0, e0⟩ := first_g u.1 u.2.1
    obtain ⟨f1, e1⟩ := first_g u.2.1 u.2.2
    obtain ⟨f2, e2⟩ := first_g u.2.2 u.1
    rw [rcrs_g hu.1 hu.2.1 hx hy, rcrs_g hu.2.1 hu.2.2 hx hy, rcrs_g hu.2.2 hu.1 hx hy, e0, e1, e2]
    simp only [ob_some, edge_g]
    split
    · exact ⟨_, rfl, fun h => by cases h⟩
    · split
      · exact ⟨_, rfl, fun h => by cases h⟩
      · split
        · exact ⟨_, rfl, fun h => by cases h⟩
        · exact ⟨_, rfl, fun _ => ⟨ha, by omega, by omega, by omega⟩⟩
  · rw [le_t ha, bite_t]
    exact ⟨_, rfl, fun h => by cases h⟩

theorem add8 {a b : Int} (h : 0 ≤ a + b ∧ a + b ≤ 255) : F.add .u8 a b = a + b := by
  unfold F.add
  obtain ⟨h1, h2⟩ := h
  simp only [IntKind.wrap, IntKind.bits, IntKind.signed]
  simp
  omega

theorem sample0 {x y : Int} (hx : 0 ≤ x ∧ x ≤ 64) (hy : 0 ≤ y ∧ y ≤ 64) : glazierref08_Sample x y 0 = some (16 * x + 2, 16 * y + 6) := by
  unfold glazierref08_Sample
  rw [bnd_eq, eq_t rfl, bite_t, bnd_eq, mulI (a := 16) (b := x) (by omega), bnd_eq, addI (a := 16 * x) (by omega), bnd_eq, mulI (a := 16) (b := y) (by omega), bnd_eq, addI (a := 16 * y) (by omega)]

theorem mask1 (fl : Nat) {u : Tri} {x y : Int} {b : Bool} (hx : 0 ≤ x ∧ x ≤ 64) (hy : 0 ≤ y ∧ y ≤ 64) (h : glazierref07_In u (16 * x + 2) (16 * y + 6) = some b) :
    glazierref08_Mask_j1 fl x y u.1.1 u.1.2.1 u.1.2.2.1 u.1.2.2.2.1 u.1.2.2.2.2.1 u.1.2.2.2.2.2.1 u.1.2.2.2.2.2.2 u.2.1.1 u.2.1.2.1 u.2.1.2.2.1 u.2.1.2.2.2.1 u.2.1.2.2.2.2.1 u.2.1.2.2.2.2.2.1 u.2.1.2.2.2.2.2.2 u.2.2.1 u.2.2.2.1 u.2.2.2.2.1 u.2.2.2.2.2.1 u.2.2.2.2.2.2.1 u.2.2.2.2.2.2.2.1 u.2.2.2.2.2.2.2.2 = some (x, (y, ((if b then 1 else 0), (u.1.1, (u.1.2.1, (u.1.2.2.1, (u.1.2.2.2.1, (u.1.2.2.2.2.1, (u.1.2.2.2.2.2.1, (u.1.2.2.2.2.2.2, (u.2.1.1, (u.2.1.2.1, (u.2.1.2.2.1, (u.2.1.2.2.2.1, (u.2.1.2.2.2.2.1, (u.2.1.2.2.2.2.2.1, (u.2.1.2.2.2.2.2.2, (u.2.2.1, (u.2.2.2.1, (u.2.2.2.2.1, (u.2.2.2.2.2.1, (u.2.2.2.2.2.2.1, (u.2.2.2.2.2.2.2.1, (u.2.2.2.2.2.2.2.2, ())))))))))))))))))))))))) := by
  unfold glazierref08_Mask_j1
  rw [sample0 hx hy, ob_some]
  rw [show glazierref07_In ((u.1.1, (u.1.2.1, (u.1.2.2.1, (u.1.2.2.2.1, (u.1.2.2.2.2.1, (u.1.2.2.2.2.2.1, u.1.2.2.2.2.2.2)))))), ((u.2.1.1, (u.2.1.2.1, (u.2.1.2.2.1, (u.2.1.2.2.2.1, (u.2.1.2.2.2.2.1, (u.2.1.2.2.2.2.2.1, u.2.1.2.2.2.2.2.2)))))), (u.2.2.1, (u.2.2.2.1, (u.2.2.2.2.1, (u.2.2.2.2.2.1, (u.2.2.2.2.2.2.1, (u.2.2.2.2.2.2.2.1, u.2.2.2.2.2.2.2.2)))))))) (16 * x + 2, 16 * y + 6).1 (16 * x + 2, 16 * y + 6).2 = some b from h, ob_some]
  cases b with
  | true => rw [bite_t]; rfl
  | false => rw [bite_f]; rfl

theorem sample1 {x y : Int} (hx : 0 ≤ x ∧ x ≤ 64) (hy : 0 ≤ y ∧ y ≤ 64) : glazierref08_Sample x y 1 = some (16 * x + 6, 16 * y + 14) := by
  unfold glazierref08_Sample
  rw [bnd_eq, eq_f (by decide), bite_f, bnd_eq, eq_t rfl, bite_t, bnd_eq, mulI (a := 16) (b := x) (by omega), bnd_eq, addI (a := 16 * x) (by omega), bnd_eq, mulI (a := 16) (b := y) (by omega), bnd_eq, addI (a := 16 * y) (by omega)]

theorem mask2 (fl : Nat) {u : Tri} {x y : Int} (m : Int) (hm : 0 ≤ m ∧ m ≤ 1) {b : Bool} (hx : 0 ≤ x ∧ x ≤ 64) (hy : 0 ≤ y ∧ y ≤ 64) (h : glazierref07_In u (16 * x + 6) (16 * y + 14) = some b) :
    glazierref08_Mask_j2 fl x y m u.1.1 u.1.2.1 u.1.2.2.1 u.1.2.2.2.1 u.1.2.2.2.2.1 u.1.2.2.2.2.2.1 u.1.2.2.2.2.2.2 u.2.1.1 u.2.1.2.1 u.2.1.2.2.1 u.2.1.2.2.2.1 u.2.1.2.2.2.2.1 u.2.1.2.2.2.2.2.1 u.2.1.2.2.2.2.2.2 u.2.2.1 u.2.2.2.1 u.2.2.2.2.1 u.2.2.2.2.2.1 u.2.2.2.2.2.2.1 u.2.2.2.2.2.2.2.1 u.2.2.2.2.2.2.2.2 = some (x, (y, ((if b then m + 2 else m), (u.1.1, (u.1.2.1, (u.1.2.2.1, (u.1.2.2.2.1, (u.1.2.2.2.2.1, (u.1.2.2.2.2.2.1, (u.1.2.2.2.2.2.2, (u.2.1.1, (u.2.1.2.1, (u.2.1.2.2.1, (u.2.1.2.2.2.1, (u.2.1.2.2.2.2.1, (u.2.1.2.2.2.2.2.1, (u.2.1.2.2.2.2.2.2, (u.2.2.1, (u.2.2.2.1, (u.2.2.2.2.1, (u.2.2.2.2.2.1, (u.2.2.2.2.2.2.1, (u.2.2.2.2.2.2.2.1, (u.2.2.2.2.2.2.2.2, ())))))))))))))))))))))))) := by
  unfold glazierref08_Mask_j2
  rw [sample1 hx hy, ob_some]
  rw [show glazierref07_In ((u.1.1, (u.1.2.1, (u.1.2.2.1, (u.1.2.2.2.1, (u.1.2.2.2.2.1, (u.1.2.2.2.2.2.1, u.1.2.2.2.2.2.2)))))), ((u.2.1.1, (u.2.1.2.1, (u.2.1.2.2.1, (u.2.1.2.2.2.1, (u.2.1.2.2.2.2.1, (u.2.1.2.2.2.2.2.1, u.2.1.2.2.2.2.2.2)))))), (u.2.2.1, (u.2.2.2.1, (u.2.2.2.2.1, (u.2.2.2.2.2.1, (u.2.2.2.2.2.2.1, (u.2.2.2.2.2.2.2.1, u.2.2.2.2.2.2.2.2)))))))) (16 * x + 6, 16 * y + 14).1 (16 * x + 6, 16 * y + 14).2 = some b from h, ob_some]
  cases b with
  | true => rw [bite_t, bnd_eq, add8 (by omega)]; rfl
  | false => rw [bite_f]; rfl

theorem sample2 {x y : Int} (hx : 0 ≤ x ∧ x ≤ 64) (hy : 0 ≤ y ∧ y ≤ 64) : glazierref08_Sample x y 2 = some (16 * x + 10, 16 * y + 2) := by
  unfold glazierref08_Sample
  rw [bnd_eq, eq_f (by decide), bite_f, bnd_eq, eq_f (by decide), bite_f, bnd_eq, eq_t rfl, bite_t, bnd_eq, mulI (a := 16) (b := x) (by omega), bnd_eq, addI (a := 16 * x) (by omega), bnd_eq, mulI (a := 16) (b := y) (by omega), bnd_eq, addI (a := 16 * y) (by omega)]

theorem mask3 (fl : Nat) {u : Tri} {x y : Int} (m : Int) (hm : 0 ≤ m ∧ m ≤ 3) {b : Bool} (hx : 0 ≤ x ∧ x ≤ 64) (hy : 0 ≤ y ∧ y ≤ 64) (h : glazierref07_In u (16 * x + 10) (16 * y + 2) = some b) :
    glazierref08_Mask_j3 fl x y m u.1.1 u.1.2.1 u.1.2.2.1 u.1.2.2.2.1 u.1.2.2.2.2.1 u.1.2.2.2.2.2.1 u.1.2.2.2.2.2.2 u.2.1.1 u.2.1.2.1 u.2.1.2.2.1 u.2.1.2.2.2.1 u.2.1.2.2.2.2.1 u.2.1.2.2.2.2.2.1 u.2.1.2.2.2.2.2.2 u.2.2.1 u.2.2.2.1 u.2.2.2.2.1 u.2.2.2.2.2.1 u.2.2.2.2.2.2.1 u.2.2.2.2.2.2.2.1 u.2.2.2.2.2.2.2.2 = some (x, (y, ((if b then m + 4 else m), (u.1.1, (u.1.2.1, (u.1.2.2.1, (u.1.2.2.2.1, (u.1.2.2.2.2.1, (u.1.2.2.2.2.2.1, (u.1.2.2.2.2.2.2, (u.2.1.1, (u.2.1.2.1, (u.2.1.2.2.1, (u.2.1.2.2.2.1, (u.2.1.2.2.2.2.1, (u.2.1.2.2.2.2.2.1, (u.2.1.2.2.2.2.2.2, (u.2.2.1, (u.2.2.2.1, (u.2.2.2.2.1, (u.2.2.2.2.2.1, (u.2.2.2.2.2.2.1, (u.2.2.2.2.2.2.2.1, (u.2.2.2.2.2.2.2.2, ())))))))))))))))))))))))) := by
  unfold glazierref08_Mask_j3
  rw [sample2 hx hy, ob_some]
  rw [show glazierref07_In ((u.1.1, (u.1.2.1, (u.1.2.2.1, (u.1.2.2.2.1, (u.1.2.2.2.2.1, (u.1.2.2.2.2.2.1, u.1.2.2.2.2.2.2)))))), ((u.2.1.1, (u.2.1.2.1, (u.2.1.2.2.1, (u.2.1.2.2.2.1, (u.2.1.2.2.2.2.1, (u.2.1.2.2.2.2.2.1, u.2.1.2.2.2.2.2.2)))))), (u.2.2.1, (u.2.2.2.1, (u.2.2.2.2.1, (u.2.2.2.2.2.1, (u.2.2.2.2.2.2.1, (u.2.2.2.2.2.2.2.1, u.2.2.2.2.2.2.2.2)))))))) (16 * x + 10, 16 * y + 2).1 (16 * x + 10, 16 * y + 2).2 = some b from h, ob_some]
  cases b with
  | true => rw [bite_t, bnd_eq, add8 (by omega)]; rfl
  | false => rw [bite_f]; rfl

theorem sample3 {x y : Int} (hx : 0 ≤ x ∧ x ≤ 64) (hy : 0 ≤ y ∧ y ≤ 64) : glazierref08_Sample x y 3 = some (16 * x + 14, 16 * y + 10) := by
  unfold glazierref08_Sample
  rw [bnd_eq, eq_f (by decide), bite_f, bnd_eq, eq_f (by decide), bite_f, bnd_eq, eq_f (by decide), bite_f, bnd_eq, mulI (a := 16) (b := x) (by omega), bnd_eq, addI (a := 16 * x) (by omega), bnd_eq, mulI (a := 16) (b := y) (by omega), bnd_eq, addI (a := 16 * y) (by omega)]

theorem mask4 (fl : Nat) {u : Tri} {x y : Int} (m : Int) (hm : 0 ≤ m ∧ m ≤ 7) {b : Bool} (hx : 0 ≤ x ∧ x ≤ 64) (hy : 0 ≤ y ∧ y ≤ 64) (h : glazierref07_In u (16 * x + 14) (16 * y + 10) = some b) :
    glazierref08_Mask_j4 fl x y m u.1.1 u.1.2.1 u.1.2.2.1 u.1.2.2.2.1 u.1.2.2.2.2.1 u.1.2.2.2.2.2.1 u.1.2.2.2.2.2.2 u.2.1.1 u.2.1.2.1 u.2.1.2.2.1 u.2.1.2.2.2.1 u.2.1.2.2.2.2.1 u.2.1.2.2.2.2.2.1 u.2.1.2.2.2.2.2.2 u.2.2.1 u.2.2.2.1 u.2.2.2.2.1 u.2.2.2.2.2.1 u.2.2.2.2.2.2.1 u.2.2.2.2.2.2.2.1 u.2.2.2.2.2.2.2.2 = some (x, (y, ((if b then m + 8 else m), (u.1.1, (u.1.2.1, (u.1.2.2.1, (u.1.2.2.2.1, (u.1.2.2.2.2.1, (u.1.2.2.2.2.2.1, (u.1.2.2.2.2.2.2, (u.2.1.1, (u.2.1.2.1, (u.2.1.2.2.1, (u.2.1.2.2.2.1, (u.2.1.2.2.2.2.1, (u.2.1.2.2.2.2.2.1, (u.2.1.2.2.2.2.2.2, (u.2.2.1, (u.2.2.2.1, (u.2.2.2.2.1, (u.2.2.2.2.2.1, (u.2.2.2.2.2.2.1, (u.2.2.2.2.2.2.2.1, (u.2.2.2.2.2.2.2.2, ())))))))))))))))))))))))) := by
  unfold glazierref08_Mask_j4
  rw [sample3 hx hy, ob_some]
  rw [show glazierref07_In ((u.1.1, (u.1.2.1, (u.1.2.2.1, (u.1.2.2.2.1, (u.1.2.2.2.2.1, (u.1.2.2.2.2.2.1, u.1.2.2.2.2.2.2)))))), ((u.2.1.1, (u.2.1.2.1, (u.2.1.2.2.1, (u.2.1.2.2.2.1, (u.2.1.2.2.2.2.1, (u.2.1.2.2.2.2.2.1, u.2.1.2.2.2.2.2.2)))))), (u.2.2.1, (u.2.2.2.1, (u.2.2.2.2.1, (u.2.2.2.2.2.1, (u.2.2.2.2.2.2.1, (u.2.2.2.2.2.2.2.1, u.2.2.2.2.2.2.2.2)))))))) (16 * x + 14, 16 * y + 10).1 (16 * x + 14, 16 * y + 10).2 = some b from h, ob_some]
  cases b with
  | true => rw [bite_t, bnd_eq, add8 (by omega)]; rfl
  | false => rw [bite_f]; rfl

theorem mask_g (fl : Nat) {u : Tri} {x y : Int} (hu : okG3 u) (hx : 0 ≤ x ∧ x ≤ 64) (hy : 0 ≤ y ∧ y ≤ 64) :
    ∃ m, glazierref08_Mask fl u x y = some m ∧ (0 ≤ m ∧ m ≤ 15) ∧ (m ≠ 0 → ∃ sx sy, (16 * x ≤ sx ∧ sx < 16 * x + 16) ∧ (16 * y ≤ sy ∧ sy < 16 * y + 16) ∧ within u sx sy) := by
  have bg : ∀ {n : Int}, 0 ≤ n ∧ n ≤ 2000 → big n := fun h => ⟨by omega, by omega⟩
  obtain ⟨b0, e0, w0⟩ := in_g (x := 16 * x + 2) (y := 16 * y + 6) hu (bg (by omega)) (bg (by omega))
  obtain ⟨b1, e1, w1⟩ := in_g (x := 16 * x + 6) (y := 16 * y + 14) hu (bg (by omega)) (bg (by omega))
  obtain ⟨b2, e2, w2⟩ := in_g (x := 16 * x + 10) (y := 16 * y + 2) hu (bg (by omega)) (bg (by omega))
  obtain ⟨b3, e3, w3⟩ := in_g (x := 16 * x + 14) (y := 16 * y + 10) hu (bg (by omega)) (bg (by omega))
  obtain ⟨m1, h1⟩ : ∃ m1 : Int, m1 = (if b0 then 1 else 0) := ⟨_, rfl⟩
  obtain ⟨m2, h2⟩ : ∃ m2 : Int, m2 = (if b1 then m1 + 2 else m1) := ⟨_, rfl⟩
  obtain ⟨m3, h3⟩ : ∃ m3 : Int, m3 = (if b2 then m2 + 4 else m2) := ⟨_, rfl⟩
  obtain ⟨m4, h4⟩ : ∃ m4 : Int, m4 = (if b3 then m3 + 8 else m3) := ⟨_, rfl⟩
  have k1 : 0 ≤ m1 ∧ m1 ≤ 1 := by rw [h1]; split <;> omega
  have k2 : 0 ≤ m2 ∧ m2 ≤ 3 := by rw [h2]; split <;> omega
  have k3 : 0 ≤ m3 ∧ m3 ≤ 7 := by rw [h3]; split <;> omega
  have k4 : 0 ≤ m4 ∧ m4 ≤ 15 := by rw [h4]; split <;> omega
  refine ⟨m4, ?_, k4, fun hm => ?_⟩
  · unfold glazierref08_Mask
    rw [mask1 fl hx hy e0, ob_some, ← h1]
    dsimp only
    rw [mask2 fl m1 k1 hx hy e1, ob_some, ← h2]
    dsimp only
    rw [mask3 fl m2 k2 hx hy e2, ob_some, ← h3]
    dsimp only
    rw [mask4 fl m3 k3 hx hy e3, ob_some, ← h4]
  · cases b0 with
    | true => exact ⟨_, _, by omega, by omega, w0 rfl⟩
    | false => cases b1 with
      | true => exact ⟨_, _, by omega, by omega, w1 rfl⟩
      | false => cases b2 with
        | true => exact ⟨_, _, by omega, by omega, w2 rfl⟩
        | false => cases b3 with
          | true => exact ⟨_, _, by omega, by omega, w3 rfl⟩
          | false =>
            exfalso
            simp at h1 h2 h3 h4
            omega
end Go.Proofs.Ytfejdcdomgeogaa.G
