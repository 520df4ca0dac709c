/- Vertices, planes, and what is between two. -/
import Derived.Test.YtfejdcdomgeogaaLawRef01
import Derived.Test.YtfejdcdomgeogaaLawList
set_option linter.unusedVariables false
namespace Go.Proofs.Ytfejdcdomgeogaa.G
open Go Go.RowKit Go.Proofs.Ytfejdcdomgeogaa.M

abbrev Vtx := Int × Int × Int × Int × Int × Int × Int × Int

def dist (p : Int) (v : Vtx) : Int :=
  if p = 0 then v.2.2.1 + v.2.2.2.1 else if p = 1 then 4 * v.2.2.2.1 + v.1 else if p = 2 then 4 * v.2.2.2.1 - v.1 else if p = 3 then 4 * v.2.2.2.1 + v.2.1 else if p = 4 then 4 * v.2.2.2.1 - v.2.1 else 0

def inC (M x : Int) : Prop := -M ≤ x ∧ x ≤ M
def okC (M : Int) (v : Vtx) : Prop := inC M v.1 ∧ inC M v.2.1 ∧ inC M v.2.2.1 ∧ inC M v.2.2.2.1 ∧ inC M v.2.2.2.2.1 ∧ inC M v.2.2.2.2.2.1 ∧ inC M v.2.2.2.2.2.2.1 ∧ inC M v.2.2.2.2.2.2.2

abbrev okB (v : Vtx) : Prop := okC 1048576 v

def isP (p : Int) : Prop := 0 ≤ p ∧ p ≤ 4

theorem five {p : Int} (h : isP p) : p = 0 ∨ p = 1 ∨ p = 2 ∨ p = 3 ∨ p = 4 := by
  obtain ⟨h1, h2⟩ := h
  omega

theorem dist_in {p : Int} {v : Vtx} (h : okB v) : -5242880 ≤ dist p v ∧ dist p v ≤ 5242880 := by
  obtain ⟨⟨a1, a2⟩, ⟨b1, b2⟩, ⟨c1, c2⟩, ⟨d1, d2⟩, _⟩ := h
  unfold dist
  split
  · omega
  · split
    · omega
    · split
      · omega
      · split
        · omega
        · split <;> omega

theorem dist0 (v : Vtx) : dist 0 v = v.2.2.1 + v.2.2.2.1 := rfl
theorem dist1 (v : Vtx) : dist 1 v = 4 * v.2.2.2.1 + v.1 := rfl
theorem dist2 (v : Vtx) : dist 2 v = 4 * v.2.2.2.1 - v.1 := rfl
theorem dist3 (v : Vtx) : dist 3 v = 4 * v.2.2.2.1 + v.2.1 := rfl
theorem dist4 (v : Vtx) : dist 4 v = 4 * v.2.2.2.1 - v.2.1 := rfl

theorem vec_dist {p : Int} {v : Vtx} (h : okB v) : vec_Dist p v = some (dist p v) := by
  obtain ⟨⟨a1, a2⟩, ⟨b1, b2⟩, ⟨c1, c2⟩, ⟨d1, d2⟩, _⟩ := h
  unfold vec_Dist
  by_cases h0 : p < 0
  · rw [bnd_eq, lt_t h0, bite_t]
    unfold dist
    rw [if_neg (by omega), if_neg (by omega), if_neg (by omega), if_neg (by omega), if_neg (by omega)]
  · rw [bnd_eq, lt_f (by omega), bite_f]
    by_cases h1 : 5 ≤ p
    · rw [bnd_eq, ge_t h1, bite_t]
      unfold dist
      rw [if_neg (by omega), if_neg (by omega), if_neg (by omega), if_neg (by omega), if_neg (by omega)]
    · rw [bnd_eq, ge_f (by omega), bite_f, bnd_eq, mulI (a := 4) (b := v.2.2.2.1) (by omega), bnd_eq, addI (a := v.2.2.1) (b := v.2.2.2.1) (by omega), bnd_eq, addI (a := 4 * v.2.2.2.1) (b := v.1) (by omega), bnd_eq, subI (a := 4 * v.2.2.2.1) (b := v.1) (by omega), bnd_eq, addI (a := 4 * v.2.2.2.1) (b := v.2.1) (by omega), bnd_eq, subI (a := 4 * v.2.2.2.1) (b := v.2.1) (by omega)]
      rcases five (p := p) ⟨by omega, by omega⟩ with rfl | rfl | rfl | rfl | rfl <;> rfl

theorem ref_dist {p : Int} {v : Vtx} (h : okB v) : glazierref04_Dist p v = some (dist p v) := by
  obtain ⟨⟨a1, a2⟩, ⟨b1, b2⟩, ⟨c1, c2⟩, ⟨d1, d2⟩, _⟩ := h
  unfold glazierref04_Dist
  by_cases h0 : p = 0
  · subst h0; rw [bnd_eq, eq_t rfl, bite_t, bnd_eq, addI (by omega)]; rfl
  · rw [bnd_eq, eq_f h0, bite_f]
    by_cases h1 : p = 1
    · subst h1; rw [bnd_eq, eq_t rfl, bite_t, bnd_eq, mulI (by omega), bnd_eq, addI (by omega)]; rfl
    · rw [bnd_eq, eq_f h1, bite_f]
      by_cases h2 : p = 2
      · subst h2; rw [bnd_eq, eq_t rfl, bite_t, bnd_eq, mulI (by omega), bnd_eq, subI (by omega)]; rfl
      · rw [bnd_eq, eq_f h2, bite_f]
        by_cases h3 : p = 3
        · subst h3; rw [bnd_eq, eq_t rfl, bite_t, bnd_eq, mulI (by omega), bnd_eq, addI (by omega)]; rfl
        · rw [bnd_eq, eq_f h3, bite_f]
          by_cases h4 : p = 4
          · subst h4; rw [bnd_eq, eq_t rfl, bite_t, bnd_eq, mulI (by omega), bnd_eq, subI (by omega)]; rfl
          · rw [bnd_eq, eq_f h4, bite_f]
            unfold dist
            rw [if_neg h0, if_neg h1, if_neg h2, if_neg h3, if_neg h4]

/-! ### What is between two -/
def mid (a b d e : Int) : Int := a + Int.fdiv ((b - a) * d) (d - e)

/-- Between both, and less than one below the place itself. -/
theorem mid_in {a b d e : Int} (hd : 0 ≤ d) (he : e < 0) : (min a b ≤ mid a b d e ∧ mid a b d e ≤ max a b) ∧ (d - e) * mid a b d e ≤ (d - e) * a + (b - a) * d ∧ (d - e) * a + (b - a) * d < (d - e) * mid a b d e + (d - e) := by
  have hD : 0 < d - e := by omega
  obtain ⟨f1, f2⟩ := fdiv_in (p := (b - a) * d) hD
  unfold mid
  refine ⟨?_, by rw [Int.mul_add]; omega, by rw [Int.mul_add]; omega⟩
  rcases Int.le_total a b with h | h
  · have h0 : 0 ≤ (b - a) * d := Int.mul_nonneg (by omega) hd
    have h1 : (b - a) * d ≤ (d - e) * (b - a) := by
      rw [Int.mul_comm (d - e)]
      exact Int.mul_le_mul_of_nonneg_left (by omega) (by omega)
    have g0 : Int.fdiv 0 (d - e) ≤ Int.fdiv ((b - a) * d) (d - e) := fdiv_mono hD h0
    rw [Int.zero_fdiv] at g0
    have g1 := fdiv_mono hD h1
    rw [Int.mul_comm (d - e) (b - a), Int.mul_fdiv_cancel _ (by omega)] at g1
    omega
  · have h0 : (b - a) * d ≤ 0 := Int.mul_nonpos_of_nonpos_of_nonneg (by omega) hd
    have h1 : (d - e) * (b - a) ≤ (b - a) * d := by
      have := Int.mul_le_mul_of_nonneg_left (show d ≤ d - e by omega) (show 0 ≤ a - b by omega)
      have e1 : (a - b) * d = -((b - a) * d) := by rw [← Int.neg_mul, Int.neg_sub]
      have e2 : (a - b) * (d - e) = -((b - a) * (d - e)) := by rw [← Int.neg_mul, Int.neg_sub]
      rw [e1, e2] at this
      rw [Int.mul_comm (d - e)]
      omega
    have g0 : Int.fdiv ((b - a) * d) (d - e) ≤ Int.fdiv 0 (d - e) := fdiv_mono hD h0
    rw [Int.zero_fdiv] at g0
    have g1 := fdiv_mono hD h1
    rw [Int.mul_comm (d - e) (b - a), Int.mul_fdiv_cancel _ (by omega)] at g1
    omega

def btw (p : Int) (a b : Vtx) : Vtx :=
  let d := dist p a
  let e := dist p b
  (mid a.1 b.1 d e, (mid a.2.1 b.2.1 d e, (mid a.2.2.1 b.2.2.1 d e, (mid a.2.2.2.1 b.2.2.2.1 d e, (mid a.2.2.2.2.1 b.2.2.2.2.1 d e, (mid a.2.2.2.2.2.1 b.2.2.2.2.2.1 d e, (mid a.2.2.2.2.2.2.1 b.2.2.2.2.2.2.1 d e, mid a.2.2.2.2.2.2.2 b.2.2.2.2.2.2.2 d e)))))))

instance (p : Int) : Decidable (isP p) := inferInstanceAs (Decidable (_ ∧ _))

def crossV (p : Int) (a b : Vtx) : Bool := decide (isP p ∧ 0 ≤ dist p a ∧ dist p b < 0)

def zeroV : Vtx := (0, (0, (0, (0, (0, (0, (0, 0)))))))

theorem mul_inC {a b m n : Int} (ha : -m ≤ a ∧ a ≤ m) (hb : 0 ≤ b ∧ b ≤ n) : -(m * n) ≤ a * b ∧ a * b ≤ m * n := by
  have hm : 0 ≤ m := by omega
  have h1 : a * b ≤ m * b := Int.mul_le_mul_of_nonneg_right ha.2 hb.1
  have h2 : m * b ≤ m * n := Int.mul_le_mul_of_nonneg_left hb.2 hm
  have h3 : -m * b ≤ a * b := Int.mul_le_mul_of_nonneg_right ha.1 hb.1
  rw [Int.neg_mul] at h3
  omega

theorem mid_run (fl : Nat) {a b d e : Int} (ha : inC 1048576 a) (hb : inC 1048576 b) (hd : 0 ≤ d ∧ d ≤ 5242880) (he : -5242880 ≤ e ∧ e < 0) :
    fixed_MulDiv fl (F.sub .i64 b a) d (F.sub .i64 d e) = some (Int.fdiv ((b - a) * d) (d - e), 0) ∧ F.add .i64 a (Int.fdiv ((b - a) * d) (d - e)) = mid a b d e := by
  obtain ⟨a1, a2⟩ := ha
  obtain ⟨b1, b2⟩ := hb
  have hp := mul_inC (a := b - a) (b := d) (m := 2097152) (n := 5242880) (by omega) hd
  have hm := (mid_in (a := a) (b := b) hd.1 he.2).1
  rw [subI (by omega), subI (by omega)]
  refine ⟨mulDiv_spec fl (by omega) (by omega) (by omega) (by omega) (by omega), ?_⟩
  unfold mid at hm ⊢
  rw [addI (by omega)]

theorem mid_ref {fl : Nat} (hfl : 130 ≤ fl) {a b d e : Int} (ha : inC 1048576 a) (hb : inC 1048576 b) (hd : 0 ≤ d ∧ d ≤ 5242880) (he : -5242880 ≤ e ∧ e < 0) :
    glazierref01_Down fl (F.mul .i64 (F.sub .i64 b a) d) (F.sub .i64 d e) = some (Int.fdiv ((b - a) * d) (d - e)) := by
  obtain ⟨a1, a2⟩ := ha
  obtain ⟨b1, b2⟩ := hb
  have hp := mul_inC (a := b - a) (b := d) (m := 2097152) (n := 5242880) (by omega) hd
  rw [subI (by omega), subI (by omega), mulI (by omega)]
  exact ref_down hfl (by omega) (by omega) (by omega)

theorem vec_between (fl : Nat) {p : Int} {a b : Vtx} (ha : okB a) (hb : okB b) : vec_Between fl a b p = some (if crossV p a b then (btw p a b, true) else (zeroV, false)) := by
  have hda := dist_in (p := p) ha
  have hdb := dist_in (p := p) hb
  unfold vec_Between
  rw [vec_dist ha, ob_some, vec_dist hb, ob_some]
  by_cases h0 : p < 0
  · rw [bnd_eq, lt_t h0, bite_t, if_neg (by unfold crossV isP; rw [decide_eq_true_eq]; omega)]; rfl
  · rw [bnd_eq, lt_f (by omega), bite_f]
    by_cases h1 : 5 ≤ p
    · rw [bnd_eq, ge_t h1, bite_t, if_neg (by unfold crossV isP; rw [decide_eq_true_eq]; omega)]; rfl
    · rw [bnd_eq, ge_f (by omega), bite_f]
      by_cases h2 : dist p a < 0
      · rw [bnd_eq, lt_t h2, bite_t, if_neg (by unfold crossV isP; rw [decide_eq_true_eq]; omega)]; rfl
      · rw [bnd_eq, lt_f (by omega), bite_f]
        by_cases h3 : 0 ≤ dist p b
        · rw [bnd_eq, ge_t h3, bite_t, if_neg (by unfold crossV isP; rw [decide_eq_true_eq]; omega)]; rfl
        · rw [bnd_eq, ge_f (by omega), bite_f, if_pos (by unfold crossV isP; rw [decide_eq_true_eq]; omega)]
          have hd : 0 ≤ dist p a ∧ dist p a ≤ 5242880 := by omega
          have he : -5242880 ≤ dist p b ∧ dist p b < 0 := by omega
          obtain ⟨a1, a2, a3, a4, a5, a6, a7, a8⟩ := ha
          obtain ⟨b1, b2, b3, b4, b5, b6, b7, b8⟩ := hb
          obtain ⟨m1, n1⟩ := mid_run fl a1 b1 hd he
          obtain ⟨m2, n2⟩ := mid_run fl a2 b2 hd he
          obtain ⟨m3, n3⟩ := mid_run fl a3 b3 hd he
          obtain ⟨m4, n4⟩ := mid_run fl a4 b4 hd he
          obtain ⟨m5, n5⟩ := mid_run fl a5 b5 hd he
          obtain ⟨m6, n6⟩ := mid_run fl a6 b6 hd he
          obtain ⟨m7, n7⟩ := mid_run fl a7 b7 hd he
          obtain ⟨m8, n8⟩ := mid_run fl a8 b8 hd he
          unfold vec_row vec_made
          rw [ob_some, ob_some, bnd_eq, bnd_eq, m1, ob_some, bnd_eq, n1, bnd_eq, bnd_eq, m2, ob_some, bnd_eq, n2, bnd_eq, bnd_eq, m3, ob_some, bnd_eq, n3, bnd_eq, bnd_eq, m4, ob_some, bnd_eq, n4, bnd_eq, bnd_eq, m5, ob_some, bnd_eq, n5, bnd_eq, bnd_eq, m6, ob_some, bnd_eq, n6,
            bnd_eq, bnd_eq, m7, ob_some, bnd_eq, n7, bnd_eq, bnd_eq, m8, ob_some, bnd_eq, n8, ob_some]
          rfl

theorem ref_between {fl : Nat} (hfl : 130 ≤ fl) {p : Int} {a b : Vtx} (ha : okB a) (hb : okB b) : glazierref04_Between fl a b p = some (if crossV p a b then (btw p a b, true) else (zeroV, false)) := by
  have hda := dist_in (p := p) ha
  have hdb := dist_in (p := p) hb
  unfold glazierref04_Between
  rw [ref_dist ha, ob_some, ref_dist hb, ob_some]
  by_cases h0 : p < 0
  · rw [bnd_eq, lt_t h0, bite_t, if_neg (by unfold crossV isP; rw [decide_eq_true_eq]; omega)]; rfl
  · rw [bnd_eq, lt_f (by omega), bite_f]
    by_cases h1 : 5 ≤ p
    · rw [bnd_eq, gt_t (by omega), bite_t, if_neg (by unfold crossV isP; rw [decide_eq_true_eq]; omega)]; rfl
    · rw [bnd_eq, gt_f (by omega), bite_f]
      by_cases h2 : dist p a < 0
      · rw [bnd_eq, lt_t h2, bite_t, if_neg (by unfold crossV isP; rw [decide_eq_true_eq]; omega)]; rfl
      · rw [bnd_eq, lt_f (by omega), bite_f]
        by_cases h3 : 0 ≤ dist p b
        · rw [bnd_eq, ge_t h3, bite_t, if_neg (by unfold crossV isP; rw [decide_eq_true_eq]; omega)]; rfl
        · rw [bnd_eq, ge_f (by omega), bite_f, if_pos (by unfold crossV isP; rw [decide_eq_true_eq]; omega)]
          have hd : 0 ≤ dist p a ∧ dist p a ≤ 5242880 := by omega
          have he : -5242880 ≤ dist p b ∧ dist p b < 0 := by omega
          obtain ⟨a1, a2, a3, a4, a5, a6, a7, a8⟩ := ha
          obtain ⟨b1, b2, b3, b4, b5, b6, b7, b8⟩ := hb
          have n1 := (mid_run fl a1 b1 hd he).2
          have n2 := (mid_run fl a2 b2 hd he).2
          have n3 := (mid_run fl a3 b3 hd he).2
          have n4 := (mid_run fl a4 b4 hd he).2
          have n5 := (mid_run fl a5 b5 hd he).2
          have n6 := (mid_run fl a6 b6 hd he).2
          have n7 := (mid_run fl a7 b7 hd he).2
          have n8 := (mid_run fl a8 b8 hd he).2
          rw [bnd_eq, bnd_eq, bnd_eq, mid_ref hfl a1 b1 hd he, ob_some, bnd_eq, n1, bnd_eq, bnd_eq, bnd_eq, mid_ref hfl a2 b2 hd he, ob_some, bnd_eq, n2, bnd_eq, bnd_eq, bnd_eq, mid_ref hfl a3 b3 hd he, ob_some, bnd_eq, n3,
            bnd_eq, bnd_eq, bnd_eq, mid_ref hfl a4 b4 hd he, ob_some, bnd_eq, n4, bnd_eq, bnd_eq, bnd_eq, mid_ref hfl a5 b5 hd he, ob_some, bnd_eq, n5, bnd_eq, bnd_eq, bnd_eq, mid_ref hfl a6 b6 hd he, ob_some, bnd_eq, n6,
            bnd_eq, bnd_eq, bnd_eq, mid_ref hfl a7 b7 hd he, ob_some, bnd_eq, n7, bnd_eq, bnd_eq, bnd_eq, mid_ref hfl a8 b8 hd he, ob_some, bnd_eq, n8]
          rfl

theorem btw_in {M p : Int} {a b : Vtx} (ha : okC M a) (hb : okC M b) (h0 : 0 ≤ dist p a) (h1 : dist p b < 0) : okC M (btw p a b) := by
  obtain ⟨⟨a1, a1'⟩, ⟨a2, a2'⟩, ⟨a3, a3'⟩, ⟨a4, a4'⟩, ⟨a5, a5'⟩, ⟨a6, a6'⟩, ⟨a7, a7'⟩, a8, a8'⟩ := ha
  obtain ⟨⟨b1, b1'⟩, ⟨b2, b2'⟩, ⟨b3, b3'⟩, ⟨b4, b4'⟩, ⟨b5, b5'⟩, ⟨b6, b6'⟩, ⟨b7, b7'⟩, b8, b8'⟩ := hb
  have go : ∀ {x y : Int}, -M ≤ x → x ≤ M → -M ≤ y → y ≤ M → inC M (mid x y (dist p a) (dist p b)) := fun {x y} h1' h2' h3' h4' => by
    have := (mid_in (a := x) (b := y) h0 h1).1
    unfold inC
    omega
  exact ⟨go a1 a1' b1 b1', go a2 a2' b2 b2', go a3 a3' b3 b3', go a4 a4' b4 b4', go a5 a5' b5 b5', go a6 a6' b6 b6', go a7 a7' b7 b7', go a8 a8' b8 b8'⟩
end Go.Proofs.Ytfejdcdomgeogaa.G
