/- Vertices, planes, and what is cut. -/
import Derived.Test.YtofmlolhhcffoaaLawRef01
import Derived.Test.YtofmlolhhcffoaaLawList
set_option linter.unusedVariables false
namespace Go.Proofs.Ytofmlolhhcffoaa.G
open Go Go.RowKit Go.Proofs.Ytofmlolhhcffoaa.M

abbrev Vtx := Int × Int × Int × Int × Int × Int × Int × Int

def dist (p : Int) (v : Vtx) : Int :=
  if p = 0 then v.2.2.1 + v.2.2.2.1 else if p = 1 then 4 * v.2.2.2.1 + v.1 else if p = 2 then 4 * v.2.2.2.1 - v.1 else if p = 3 then 4 * v.2.2.2.1 + v.2.1 else if p = 4 then 4 * v.2.2.2.1 - v.2.1 else 0

def inC (M x : Int) : Prop := -M ≤ x ∧ x ≤ M
def okC (M : Int) (v : Vtx) : Prop := inC M v.1 ∧ inC M v.2.1 ∧ inC M v.2.2.1 ∧ inC M v.2.2.2.1 ∧ inC M v.2.2.2.2.1 ∧ inC M v.2.2.2.2.2.1 ∧ inC M v.2.2.2.2.2.2.1 ∧ inC M v.2.2.2.2.2.2.2

abbrev okB (v : Vtx) : Prop := okC 1048576 v

def isP (p : Int) : Prop := 0 ≤ p ∧ p ≤ 4

theorem five {p : Int} (h : isP p) : p = 0 ∨ p = 1 ∨ p = 2 ∨ p = 3 ∨ p = 4 := by
  obtain ⟨h1, h2⟩ := h
  omega

theorem dist_in {p : Int} {v : Vtx} (h : okB v) : -5242880 ≤ dist p v ∧ dist p v ≤ 5242880 := by
  obtain ⟨⟨a1, a2⟩, ⟨b1, b2⟩, ⟨c1, c2⟩, ⟨d1, d2⟩, _⟩ := h
  unfold dist
  split
  · omega
  · split
    · omega
    · split
      · omega
      · split
        · omega
        · split <;> omega

theorem dist0 (v : Vtx) : dist 0 v = v.2.2.1 + v.2.2.2.1 := rfl
theorem dist1 (v : Vtx) : dist 1 v = 4 * v.2.2.2.1 + v.1 := rfl
theorem dist2 (v : Vtx) : dist 2 v = 4 * v.2.2.2.1 - v.1 := rfl
theorem dist3 (v : Vtx) : dist 3 v = 4 * v.2.2.2.1 + v.2.1 := rfl
theorem dist4 (v : Vtx) : dist 4 v = 4 * v.2.2.2.1 - v.2.1 := rfl

theorem vec_dist {p : Int} {v : Vtx} (h : okB v) : vec_Dist p v = some (dist p v) := by
  obtain ⟨⟨a1, a2⟩, ⟨b1, b2⟩, ⟨c1, c2⟩, ⟨d1, d2⟩, _⟩ := h
  unfold vec_Dist
  by_cases h0 : p < 0
  · rw [bnd_eq, lt_t h0, bite_t]
    unfold dist
    rw [if_neg (by omega), if_neg (by omega), if_neg (by omega), if_neg (by omega), if_neg (by omega)]
  · rw [bnd_eq, lt_f (by omega), bite_f]
    by_cases h1 : 5 ≤ p
    · rw [bnd_eq, ge_t h1, bite_t]
      unfold dist
      rw [if_neg (by omega), if_neg (by omega), if_neg (by omega), if_neg (by omega), if_neg (by omega)]
    · rw [bnd_eq, ge_f (by omega), bite_f, bnd_eq, mulI (a := 4) (b := v.2.2.2.1) (by omega), bnd_eq, addI (a := v.2.2.1) (b := v.2.2.2.1) (by omega), bnd_eq, addI (a := 4 * v.2.2.2.1) (b := v.1) (by omega), bnd_eq, subI (a := 4 * v.2.2.2.1) (b := v.1) (by omega), bnd_eq, addI (a := 4 * v.2.2.2.1) (b := v.2.1) (by omega), bnd_eq, subI (a := 4 * v.2.2.2.1) (b := v.2.1) (by omega)]
      rcases five (p := p) ⟨by omega, by omega⟩ with rfl | rfl | rfl | rfl | rfl <;> rfl

theorem ref_dist {p : Int} {v : Vtx} (h : okB v) : glazierref04_Dist p v = some (dist p v) := by
  obtain ⟨⟨a1, a2⟩, ⟨b1, b2⟩, ⟨c1, c2⟩, ⟨d1, d2⟩, _⟩ := h
  unfold glazierref04_Dist
  by_cases h0 : p = 0
  · subst h0; rw [bnd_eq, eq_t rfl, bite_t, bnd_eq, addI (by omega)]; rfl
  · rw [bnd_eq, eq_f h0, bite_f]
    by_cases h1 : p = 1
    · subst h1; rw [bnd_eq, eq_t rfl, bite_t, bnd_eq, mulI (by omega), bnd_eq, addI (by omega)]; rfl
    · rw [bnd_eq, eq_f h1, bite_f]
      by_cases h2 : p = 2
      · subst h2; rw [bnd_eq, eq_t rfl, bite_t, bnd_eq, mulI (by omega), bnd_eq, subI (by omega)]; rfl
      · rw [bnd_eq, eq_f h2, bite_f]
        by_cases h3 : p = 3
        · subst h3; rw [bnd_eq, eq_t rfl, bite_t, bnd_eq, mulI (by omega), bnd_eq, addI (by omega)]; rfl
        · rw [bnd_eq, eq_f h3, bite_f]
          by_cases h4 : p = 4
          · subst h4; rw [bnd_eq, eq_t rfl, bite_t, bnd_eq, mulI (by omega), bnd_eq, subI (by omega)]; rfl
          · rw [bnd_eq, eq_f h4, bite_f]
            unfold dist
            rw [if_neg h0, if_neg h1, if_neg h2, if_neg h3, if_neg h4]

/-! ### What is between two -/
def mid (a b d e : Int) : Int := a + Int.fdiv ((b - a) * d) (d - e)

/-- Between both, and less than one below the place itself. -/
theorem mid_in {a b d e : Int} (hd : 0 ≤ d) (he : e < 0) : (min a b ≤ mid a b d e ∧ mid a b d e ≤ max a b) ∧ (d - e) * mid a b d e ≤ (d - e) * a + (b - a) * d ∧ (d - e) * a + (b - a) * d < (d - e) * mid a b d e + (d - e) := by
  have hD : 0 < d - e := by omega
  obtain ⟨f1, f2⟩ := fdiv_in (p := (b - a) * d) hD
  unfold mid
  refine ⟨?_, by rw [Int.mul_add]; omega, by rw [Int.mul_add]; omega⟩
  rcases Int.le_total a b with h | h
  · have h0 : 0 ≤ (b - a) * d := Int.mul_nonneg (by omega) hd
    have h1 : (b - a) * d ≤ (d - e) * (b - a) := by
      rw [Int.mul_comm (d - e)]
      exact Int.mul_le_mul_of_nonneg_left (by omega) (by omega)
    have g0 : Int.fdiv 0 (d - e) ≤ Int.fdiv ((b - a) * d) (d - e) := fdiv_mono hD h0
    rw [Int.zero_fdiv] at g0
    have g1 := fdiv_mono hD h1
    rw [Int.mul_comm (d - e) (b - a), Int.mul_fdiv_cancel _ (by omega)] at g1
    omega
  · have h0 : (b - a) * d ≤ 0 := Int.mul_nonpos_of_nonpos_of_nonneg (by omega) hd
    have h1 : (d - e) * (b - a) ≤ (b - a) * d := by
      have := Int.mul_le_mul_of_nonneg_left (show d ≤ d - e by omega) (show 0 ≤ a - b by omega)
      have e1 : (a - b) * d = -((b - a) * d) := by rw [← Int.neg_mul, Int.neg_sub]
      have e2 : (a - b) * (d - e) = -((b - a) * (d - e)) := by rw [← Int.neg_mul, Int.neg_sub]
      rw [e1, e2] at this
      rw [Int.mul_comm (d - e)]
      omega
    have g0 : Int.fdiv ((b - a) * d) (d - e) ≤ Int.fdiv 0 (d - e) := fdiv_mono hD h0
    rw [Int.zero_fdiv] at g0
    have g1 := fdiv_mono hD h1
    rw [Int.mul_comm (d - e) (b - a), Int.mul_fdiv_cancel _ (by omega)] at g1
    omega

def btw (p : Int) (a b : Vtx) : Vtx :=
  let d := dist p a
  let e := dist p b
  (mid a.1 b.1 d e, (mid a.2.1 b.2.1 d e, (mid a.2.2.1 b.2.2.1 d e, (mid a.2.2.2.1 b.2.2.2.1 d e, (mid a.2.2.2.2.1 b.2.2.2.2.1 d e, (mid a.2.2.2.2.2.1 b.2.2.2.2.2.1 d e, (mid a.2.2.2.2.2.2.1 b.2.2.2.2.2.2.1 d e, mid a.2.2.2.2.2.2.2 b.2.2.2.2.2.2.2 d e)))))))

instance (p : Int) : Decidable (isP p) := inferInstanceAs (Decidable (_ ∧ _))

def crossV (p : Int) (a b : Vtx) : Bool := decide (isP p ∧ 0 ≤ dist p a ∧ dist p b < 0)

def zeroV : Vtx := (0, (0, (0, (0, (0, (0, (0, 0)))))))

theorem mul_inC {a b m n : Int} (ha : -m ≤ a ∧ a ≤ m) (hb : 0 ≤ b ∧ b ≤ n) : -(m * n) ≤ a * b ∧ a * b ≤ m * n := by
  have hm : 0 ≤ m := by omega
  have h1 : a * b ≤ m * b := Int.mul_le_mul_of_nonneg_right ha.2 hb.1
  have h2 : m * b ≤ m * n := Int.mul_le_mul_of_nonneg_left hb.2 hm
  have h3 : -m * b ≤ a * b := Int.mul_le_mul_of_nonneg_right ha.1 hb.1
  rw [Int.neg_mul] at h3
  omega

theorem mid_run (fl : Nat) {a b d e : Int} (ha : inC 1048576 a) (hb : inC 1048576 b) (hd : 0 ≤ d ∧ d ≤ 5242880) (he : -5242880 ≤ e ∧ e < 0) :
    fixed_MulDiv fl (F.sub .i64 b a) d (F.sub .i64 d e) = some (Int.fdiv ((b - a) * d) (d - e), 0) ∧ F.add .i64 a (Int.fdiv ((b - a) * d) (d - e)) = mid a b d e := by
  obtain ⟨a1, a2⟩ := ha
  obtain ⟨b1, b2⟩ := hb
  have hp := mul_inC (a := b - a) (b := d) (m := 2097152) (n := 5242880) (by omega) hd
  have hm := (mid_in (a := a) (b := b) hd.1 he.2).1
  rw [subI (by omega), subI (by omega)]
  refine ⟨mulDiv_spec fl (by omega) (by omega) (by omega) (by omega) (by omega), ?_⟩
  unfold mid at hm ⊢
  rw [addI (by omega)]

theorem mid_ref {fl : Nat} (hfl : 130 ≤ fl) {a b d e : Int} (ha : inC 1048576 a) (hb : inC 1048576 b) (hd : 0 ≤ d ∧ d ≤ 5242880) (he : -5242880 ≤ e ∧ e < 0) :
    glazierref01_Down fl (F.mul .i64 (F.sub .i64 b a) d) (F.sub .i64 d e) = some (Int.fdiv ((b - a) * d) (d - e)) := by
  obtain ⟨a1, a2⟩ := ha
  obtain ⟨b1, b2⟩ := hb
  have hp := mul_inC (a := b - a) (b := d) (m := 2097152) (n := 5242880) (by omega) hd
  rw [subI (by omega), subI (by omega), mulI (by omega)]
  exact ref_down hfl (by omega) (by omega) (by omega)

theorem vec_between (fl : Nat) {p : Int} {a b : Vtx} (ha : okB a) (hb : okB b) : vec_Between fl a b p = some (if crossV p a b then (btw p a b, true) else (zeroV, false)) := by
  have hda := dist_in (p := p) ha
  have hdb := dist_in (p := p) hb
  unfold vec_Between
  rw [vec_dist ha, ob_some, vec_dist hb, ob_some]
  by_cases h0 : p < 0
  · rw [bnd_eq, lt_t h0, bite_t, if_neg (by unfold crossV isP; rw [decide_eq_true_eq]; omega)]; rfl
  · rw [bnd_eq, lt_f (by omega), bite_f]
    by_cases h1 : 5 ≤ p
    · rw [bnd_eq, ge_t h1, bite_t, if_neg (by unfold crossV isP; rw [decide_eq_true_eq]; omega)]; rfl
    · rw [bnd_eq, ge_f (by omega), bite_f]
      by_cases h2 : dist p a < 0
      · rw [bnd_eq, lt_t h2, bite_t, if_neg (by unfold crossV isP; rw [decide_eq_true_eq]; omega)]; rfl
      · rw [bnd_eq, lt_f (by omega), bite_f]
        by_cases h3 : 0 ≤ dist p b
        · rw [bnd_eq, ge_t h3, bite_t, if_neg (by unfold crossV isP; rw [decide_eq_true_eq]; omega)]; rfl
        · rw [bnd_eq, ge_f (by omega), bite_f, if_pos (by unfold crossV isP; rw [decide_eq_true_eq]; omega)]
          have hd : 0 ≤ dist p a ∧ dist p a ≤ 5242880 := by omega
          have he : -5242880 ≤ dist p b ∧ dist p b < 0 := by omega
          obtain ⟨a1, a2, a3, a4, a5, a6, a7, a8⟩ := ha
          obtain ⟨b1, b2, b3, b4, b5, b6, b7, b8⟩ := hb
          obtain ⟨m1, n1⟩ := mid_run fl a1 b1 hd he
          obtain ⟨m2, n2⟩ := mid_run fl a2 b2 hd he
          obtain ⟨m3, n3⟩ := mid_run fl a3 b3 hd he
          obtain ⟨m4, n4⟩ := mid_run fl a4 b4 hd he
          obtain ⟨m5, n5⟩ := mid_run fl a5 b5 hd he
          obtain ⟨m6, n6⟩ := mid_run fl a6 b6 hd he
          obtain ⟨m7, n7⟩ := mid_run fl a7 b7 hd he
          obtain ⟨m8, n8⟩ := mid_run fl a8 b8 hd he
          unfold vec_row vec_made
          rw [ob_some, ob_some, bnd_eq, bnd_eq, m1, ob_some, bnd_eq, n1, bnd_eq, bnd_eq, m2, ob_some, bnd_eq, n2, bnd_eq, bnd_eq, m3, ob_some, bnd_eq, n3, bnd_eq, bnd_eq, m4, ob_some, bnd_eq, n4, bnd_eq, bnd_eq, m5, ob_some, bnd_eq, n5, bnd_eq, bnd_eq, m6, ob_some, bnd_eq, n6,
            bnd_eq, bnd_eq, m7, ob_some, bnd_eq, n7, bnd_eq, bnd_eq, m8, ob_some, bnd_eq, n8, ob_some]
          rfl

theorem ref_between {fl : Nat} (hfl : 130 ≤ fl) {p : Int} {a b : Vtx} (ha : okB a) (hb : okB b) : glazierref04_Between fl a b p = some (if crossV p a b then (btw p a b, true) else (zeroV, false)) := by
  have hda := dist_in (p := p) ha
  have hdb := dist_in (p := p) hb
  unfold glazierref04_Between
  rw [ref_dist ha, ob_some, ref_dist hb, ob_some]
  by_cases h0 : p < 0
  · rw [bnd_eq, lt_t h0, bite_t, if_neg (by unfold crossV isP; rw [decide_eq_true_eq]; omega)]; rfl
  · rw [bnd_eq, lt_f (by omega), bite_f]
    by_cases h1 : 5 ≤ p
    · rw [bnd_eq, gt_t (by omega), bite_t, if_neg (by unfold crossV isP; rw [decide_eq_true_eq]; omega)]; rfl
    · rw [bnd_eq, gt_f (by omega), bite_f]
      by_cases h2 : dist p a < 0
      · rw [bnd_eq, lt_t h2, bite_t, if_neg (by unfold crossV isP; rw [decide_eq_true_eq]; omega)]; rfl
      · rw [bnd_eq, lt_f (by omega), bite_f]
        by_cases h3 : 0 ≤ dist p b
        · rw [bnd_eq, ge_t h3, bite_t, if_neg (by unfold crossV isP; rw [decide_eq_true_eq]; omega)]; rfl
        · rw [bnd_eq, ge_f (by omega), bite_f, if_pos (by unfold crossV isP; rw [decide_eq_true_eq]; omega)]
          have hd : 0 ≤ dist p a ∧ dist p a ≤ 5242880 := by omega
          have he : -5242880 ≤ dist p b ∧ dist p b < 0 := by omega
          obtain ⟨a1, a2, a3, a4, a5, a6, a7, a8⟩ := ha
          obtain ⟨b1, b2, b3, b4, b5, b6, b7, b8⟩ := hb
          have n1 := (mid_run fl a1 b1 hd he).2
          have n2 := (mid_run fl a2 b2 hd he).2
          have n3 := (mid_run fl a3 b3 hd he).2
          have n4 := (mid_run fl a4 b4 hd he).2
          have n5 := (mid_run fl a5 b5 hd he).2
          have n6 := (mid_run fl a6 b6 hd he).2
          have n7 := (mid_run fl a7 b7 hd he).2
          have n8 := (mid_run fl a8 b8 hd he).2
          rw [bnd_eq, bnd_eq, bnd_eq, mid_ref hfl a1 b1 hd he, ob_some, bnd_eq, n1, bnd_eq, bnd_eq, bnd_eq, mid_ref hfl a2 b2 hd he, ob_some, bnd_eq, n2, bnd_eq, bnd_eq, bnd_eq, mid_ref hfl a3 b3 hd he, ob_some, bnd_eq, n3,
            bnd_eq, bnd_eq, bnd_eq, mid_ref hfl a4 b4 hd he, ob_some, bnd_eq, n4, bnd_eq, bnd_eq, bnd_eq, mid_ref hfl a5 b5 hd he, ob_some, bnd_eq, n5, bnd_eq, bnd_eq, bnd_eq, mid_ref hfl a6 b6 hd he, ob_some, bnd_eq, n6,
            bnd_eq, bnd_eq, bnd_eq, mid_ref hfl a7 b7 hd he, ob_some, bnd_eq, n7, bnd_eq, bnd_eq, bnd_eq, mid_ref hfl a8 b8 hd he, ob_some, bnd_eq, n8]
          rfl

theorem btw_in {M p : Int} {a b : Vtx} (ha : okC M a) (hb : okC M b) (h0 : 0 ≤ dist p a) (h1 : dist p b < 0) : okC M (btw p a b) := by
  obtain ⟨⟨a1, a1'⟩, ⟨a2, a2'⟩, ⟨a3, a3'⟩, ⟨a4, a4'⟩, ⟨a5, a5'⟩, ⟨a6, a6'⟩, ⟨a7, a7'⟩, a8, a8'⟩ := ha
  obtain ⟨⟨b1, b1'⟩, ⟨b2, b2'⟩, ⟨b3, b3'⟩, ⟨b4, b4'⟩, ⟨b5, b5'⟩, ⟨b6, b6'⟩, ⟨b7, b7'⟩, b8, b8'⟩ := hb
  have go : ∀ {x y : Int}, -M ≤ x → x ≤ M → -M ≤ y → y ≤ M → inC M (mid x y (dist p a) (dist p b)) := fun {x y} h1' h2' h3' h4' => by
    have := (mid_in (a := x) (b := y) h0 h1).1
    unfold inC
    omega
  exact ⟨go a1 a1' b1 b1', go a2 a2' b2 b2', go a3 a3' b3 b3', go a4 a4' b4 b4', go a5 a5' b5 b5', go a6 a6' b6 b6', go a7 a7' b7 b7', go a8 a8' b8 b8'⟩

/-! ### Cutting by a plane -/
def step (p : Int) (q : Vtx × Vtx) : List Vtx :=
  if 0 ≤ dist p q.1 then q.1 :: (if dist p q.2 < 0 then [btw p q.1 q.2] else []) else if 0 ≤ dist p q.2 then [btw p q.2 q.1] else []

def rot1 (l : List Vtx) : List Vtx := l.drop 1 ++ l.take 1
def prs (l : List Vtx) : List (Vtx × Vtx) := l.zip (rot1 l)
def cutBy (p : Int) (l : List Vtx) : List Vtx := (prs l).flatMap (step p)
def byL (p : Int) (l : List Vtx) : List Vtx := if isP p then cutBy p l else l

theorem rot1_length (l : List Vtx) : (rot1 l).length = l.length := by
  unfold rot1
  rw [List.length_append, List.length_drop, List.length_take]
  omega

theorem prs_length (l : List Vtx) : (prs l).length = l.length := by
  unfold prs
  rw [List.length_zip, rot1_length, Nat.min_self]

theorem rot1_get {l : List Vtx} {k : Nat} (h : k < l.length) : (rot1 l)[k]? = some (l[(k + 1) % l.length]'(Nat.mod_lt _ (by omega))) := by
  unfold rot1
  by_cases hk : k + 1 < l.length
  · rw [List.getElem?_append_left (by rw [List.length_drop]; omega), List.getElem?_drop, Nat.add_comm 1 k, List.getElem?_eq_getElem hk]
    congr 1
    exact getElem_congr_idx (Nat.mod_eq_of_lt hk).symm
  · have he : k + 1 = l.length := by omega
    rw [List.getElem?_append_right (by rw [List.length_drop]; omega), List.length_drop, show k - (l.length - 1) = 0 by omega, List.getElem?_take, if_pos (by decide), List.getElem?_eq_getElem (by omega)]
    congr 1
    exact getElem_congr_idx (by rw [he, Nat.mod_self])

theorem prs_get {l : List Vtx} {k : Nat} (h : k < l.length) : (prs l)[k]'(by rw [prs_length]; exact h) = (l[k], l[(k + 1) % l.length]'(Nat.mod_lt _ (by omega))) := by
  have h2 := rot1_get h
  have hr : k < (rot1 l).length := by rw [rot1_length]; exact h
  rw [List.getElem?_eq_getElem hr] at h2
  injection h2 with h2
  unfold prs
  rw [List.getElem_zip, h2]

theorem prs_mem {l : List Vtx} {q : Vtx × Vtx} (h : q ∈ prs l) : q.1 ∈ l ∧ q.2 ∈ l := by
  have := List.of_mem_zip (a := q.1) (b := q.2) (l₁ := l) (l₂ := rot1 l) h
  refine ⟨this.1, ?_⟩
  rcases List.mem_append.1 this.2 with h | h
  · exact List.mem_of_mem_drop h
  · exact List.mem_of_mem_take h

theorem step_in {M p : Int} {q : Vtx × Vtx} (h1 : okC M q.1) (h2 : okC M q.2) : ∀ v ∈ step p q, okC M v := fun v hv => by
  unfold step at hv
  split at hv
  · rcases List.mem_cons.1 hv with rfl | hv
    · exact h1
    · split at hv
      · simp at hv; subst hv; exact btw_in h1 h2 (by assumption) (by assumption)
      · cases hv
  · split at hv
    · simp at hv; subst hv; exact btw_in h2 h1 (by assumption) (by omega)
    · cases hv

theorem cut_mem {P : Vtx → Prop} {p : Int} {l : List Vtx} (h : ∀ q, q.1 ∈ l → q.2 ∈ l → ∀ v ∈ step p q, P v) : ∀ v ∈ cutBy p l, P v := fun v hv => by
  obtain ⟨q, hq, hv⟩ := List.mem_flatMap.1 hv
  exact h q (prs_mem hq).1 (prs_mem hq).2 v hv

theorem byL_in {M p : Int} {l : List Vtx} (h : ∀ v ∈ l, okC M v) : ∀ v ∈ byL p l, okC M v := by
  unfold byL
  split
  · exact cut_mem fun q h1 h2 => step_in (h _ h1) (h _ h2)
  · exact h

theorem step_length (p : Int) (q : Vtx × Vtx) : (step p q).length ≤ 2 := by
  unfold step
  split
  · split <;> simp
  · split <;> simp

theorem flat_length {ps : List (Vtx × Vtx)} {p : Int} : (ps.flatMap (step p)).length ≤ 2 * ps.length := by
  induction ps with
  | nil => simp
  | cons q r ih =>
    rw [List.flatMap_cons, List.length_append, List.length_cons]
    have := step_length p q
    omega

theorem byL_length (p : Int) (l : List Vtx) : (byL p l).length ≤ 2 * l.length := by
  unfold byL
  split
  · have := flat_length (ps := prs l) (p := p)
    rw [prs_length] at this
    exact this
  · omega

theorem nextI {k n : Nat} (h : k < n) (hn : n ≤ 10000) : F.rem (F.add .i64 (k : Int) 1) (n : Int) = (((k + 1) % n : Nat) : Int) := by
  rw [addI (by omega)]
  unfold F.rem
  rw [show (k : Int) + 1 = ((k + 1 : Nat) : Int) by omega, Int.tmod_eq_emod_of_nonneg (by omega)]
  rfl

theorem crossV_t {p : Int} {a b : Vtx} (hp : isP p) (h1 : 0 ≤ dist p a) (h2 : dist p b < 0) : crossV p a b = true := decide_eq_true ⟨hp, h1, h2⟩
theorem crossV_f {p : Int} {a b : Vtx} (h : dist p a < 0 ∨ 0 ≤ dist p b) : crossV p a b = false := decide_eq_false (by omega)

theorem by_loop (fl : Nat) {p : Int} (hp : isP p) {l : List Vtx} (hl : ∀ v ∈ l, okB v) (hlen : l.length ≤ 10000) : ∀ (m k n : Nat) (acc : List Vtx), k + m = l.length → m + 1 ≤ n → acc.length ≤ 2 * k →
    clip_By_l1 fl n p l acc l (l.length : Int) (k : Int) = some (acc ++ ((prs l).drop k).flatMap (step p), ())
  | 0, k, 0, acc, _, h, _ => by omega
  | 0, k, n + 1, acc, hk, _, _ => by
    unfold clip_By_l1
    rw [bnd_eq, lt_f (by omega), bite_f, List.drop_eq_nil_of_le (by rw [prs_length]; omega), List.flatMap_nil, List.append_nil]
  | m + 1, k, 0, acc, _, h, _ => by omega
  | m + 1, k, n + 1, acc, hk, hn, ha => by
    have hkl : k < l.length := by omega
    have hnx : (k + 1) % l.length < l.length := Nat.mod_lt _ (by omega)
    have hps : k < (prs l).length := by rw [prs_length]; exact hkl
    unfold clip_By_l1
    rw [bnd_eq, lt_t (by omega), bite_t, lgetK hkl, ob_some, bnd_eq, bnd_eq, lenK, nz_t (by omega), bgd_t, bnd_eq, nextI hkl hlen, lgetK hnx, ob_some]
    have o1 := hl _ (List.getElem_mem hkl)
    have o2 := hl _ (List.getElem_mem hnx)
    have ih : ∀ acc' : List Vtx, acc' = acc ++ step p (l[k], l[(k + 1) % l.length]) → clip_By_l1 fl n p l acc' l (l.length : Int) ((k : Int) + 1) = some (acc ++ ((prs l).drop k).flatMap (step p), ()) := fun acc' he => by
      have := by_loop fl hp hl hlen m (k + 1) n acc' (by omega) (by omega) (by rw [he, List.length_append]; have := step_length p (l[k], l[(k + 1) % l.length]); omega)
      rw [show ((k + 1 : Nat) : Int) = (k : Int) + 1 by omega] at this
      rw [this, ldrop hps, List.flatMap_cons, prs_get hkl, he, List.append_assoc]
    obtain ⟨a, ea⟩ : ∃ a, a = l[k] := ⟨_, rfl⟩
    obtain ⟨b, eb⟩ : ∃ b, b = l[(k + 1) % l.length] := ⟨_, rfl⟩
    rw [← ea] at o1 ih ⊢
    rw [← eb] at o2 ih ⊢
    rw [vec_dist o1, ob_some, bnd_eq]
    by_cases h1 : 0 ≤ dist p a
    · rw [ge_t h1, bite_t, appOk_t (by simp; omega) (by decide), bgd_t, bnd_eq, appK, vec_between fl o1 o2, ob_some]
      by_cases h2 : dist p b < 0
      · rw [crossV_t hp h1 h2, if_pos rfl, bite_t, appOk_t (by simp; omega) (by decide), bgd_t, bnd_eq, appK, bnd_eq, addI (by omega)]
        refine ih _ ?_
        unfold step
        rw [if_pos h1, if_pos h2, List.append_assoc]
        rfl
      · rw [crossV_f (by omega), if_neg (by decide), bite_f, bnd_eq, addI (by omega)]
        refine ih _ ?_
        unfold step
        rw [if_pos h1, if_neg h2]
    · rw [ge_f (by omega), bite_f, vec_between fl o2 o1, ob_some]
      by_cases h2 : 0 ≤ dist p b
      · rw [crossV_t hp h2 (by omega), if_pos rfl, bite_t, appOk_t (by simp; omega) (by decide), bgd_t, bnd_eq, appK, bnd_eq, addI (by omega)]
        refine ih _ ?_
        unfold step
        rw [if_neg h1, if_pos h2]
      · rw [crossV_f (by omega), if_neg (by decide), bite_f, bnd_eq, addI (by omega)]
        refine ih _ ?_
        unfold step
        rw [if_neg h1, if_neg h2, List.append_nil]

theorem own_spec {l : List Vtx} (hlen : l.length ≤ 10000) : clip_own l = some l := by
  unfold clip_own
  rw [bnd_eq, lenK, fillOk_t (by omega) (by omega) (by decide), bgd_t, bnd_eq, over_same (by unfold F.fill; rw [List.length_replicate]; omega)]

theorem by_spec {fl : Nat} {p : Int} {l : List Vtx} (hl : ∀ v ∈ l, okB v) (hlen : l.length ≤ 10000) (hfl : l.length + 1 ≤ fl) : clip_By fl p l = some (byL p l) := by
  unfold clip_By byL
  by_cases h0 : p < 0
  · rw [bnd_eq, lt_t h0, bite_t, own_spec hlen, ob_some, if_neg (by unfold isP; omega)]
  · rw [bnd_eq, lt_f (by omega), bite_f]
    by_cases h1 : 5 ≤ p
    · rw [bnd_eq, ge_t h1, bite_t, own_spec hlen, ob_some, if_neg (by unfold isP; omega)]
    · have hp : isP p := ⟨by omega, by omega⟩
      have := by_loop fl hp hl hlen l.length 0 fl [] (by omega) hfl (by simp)
      rw [bnd_eq, ge_f (by omega), bite_f, bnd_eq, lenK]
      rw [show ((0 : Nat) : Int) = 0 from rfl] at this
      rw [this, ob_some, if_pos hp, List.drop_zero]
      rfl

theorem rby_loop {fl : Nat} (hf : 130 ≤ fl) {p : Int} (hp : isP p) {l : List Vtx} (hl : ∀ v ∈ l, okB v) (hlen : l.length ≤ 10000) : ∀ (m k n : Nat) (acc : List Vtx), k + m = l.length → m + 1 ≤ n → acc.length ≤ 2 * k →
    glazierref05_By_l1 fl n p l acc (k : Int) = some (acc ++ ((prs l).drop k).flatMap (step p), ())
  | 0, k, 0, acc, _, h, _ => by omega
  | 0, k, n + 1, acc, hk, _, _ => by
    unfold glazierref05_By_l1
    rw [bnd_eq, lenK, bnd_eq, lt_f (by omega), bite_f, List.drop_eq_nil_of_le (by rw [prs_length]; omega), List.flatMap_nil, List.append_nil]
  | m + 1, k, 0, acc, _, h, _ => by omega
  | m + 1, k, n + 1, acc, hk, hn, ha => by
    have hkl : k < l.length := by omega
    have hnx : (k + 1) % l.length < l.length := Nat.mod_lt _ (by omega)
    have hps : k < (prs l).length := by rw [prs_length]; exact hkl
    unfold glazierref05_By_l1
    rw [bnd_eq, lenK, bnd_eq, lt_t (by omega), bite_t, lgetK hkl, ob_some, bnd_eq, bnd_eq, nz_t (by omega), bgd_t, bnd_eq, nextI hkl hlen, lgetK hnx, ob_some]
    have o1 := hl _ (List.getElem_mem hkl)
    have o2 := hl _ (List.getElem_mem hnx)
    have ih : ∀ acc' : List Vtx, acc' = acc ++ step p (l[k], l[(k + 1) % l.length]) → glazierref05_By_l1 fl n p l acc' ((k : Int) + 1) = some (acc ++ ((prs l).drop k).flatMap (step p), ()) := fun acc' he => by
      have := rby_loop hf hp hl hlen m (k + 1) n acc' (by omega) (by omega) (by rw [he, List.length_append]; have := step_length p (l[k], l[(k + 1) % l.length]); omega)
      rw [show ((k + 1 : Nat) : Int) = (k : Int) + 1 by omega] at this
      rw [this, ldrop hps, List.flatMap_cons, prs_get hkl, he, List.append_assoc]
    obtain ⟨a, ea⟩ : ∃ a, a = l[k] := ⟨_, rfl⟩
    obtain ⟨b, eb⟩ : ∃ b, b = l[(k + 1) % l.length] := ⟨_, rfl⟩
    rw [← ea] at o1 ih ⊢
    rw [← eb] at o2 ih ⊢
    rw [ref_dist o1, ob_some, bnd_eq, ref_dist o2, ob_some, bnd_eq]
    by_cases h1 : 0 ≤ dist p a
    · rw [ge_t h1, bite_t, appOk_t (by simp; omega) (by decide), bgd_t, bnd_eq, appK, bite_t, bnd_eq]
      by_cases h2 : dist p b < 0
      · rw [ge_f h2, not_f, bite_t, ref_between hf o1 o2, ob_some, crossV_t hp h1 h2, if_pos rfl, appOk_t (by simp; omega) (by decide), bgd_t, bnd_eq, appK, bnd_eq, not_t, bite_f, bnd_eq, addI (by omega)]
        refine ih _ ?_
        unfold step
        rw [if_pos h1, if_pos h2, List.append_assoc]
        rfl
      · rw [ge_t (by omega), not_t, bite_f, bnd_eq, bite_f, bnd_eq, addI (by omega)]
        refine ih _ ?_
        unfold step
        rw [if_pos h1, if_neg h2]
    · rw [ge_f (by omega), bite_f, bite_f, bnd_eq, not_f, bite_t]
      by_cases h2 : 0 ≤ dist p b
      · rw [ge_t h2, bite_t, ref_between hf o2 o1, ob_some, crossV_t hp h2 (by omega), if_pos rfl, appOk_t (by simp; omega) (by decide), bgd_t, bnd_eq, appK, bnd_eq, addI (by omega)]
        refine ih _ ?_
        unfold step
        rw [if_neg h1, if_pos h2]
      · rw [ge_f (by omega), bite_f, bnd_eq, addI (by omega)]
        refine ih _ ?_
        unfold step
        rw [if_neg h1, if_neg h2, List.append_nil]

theorem rby_spec {fl : Nat} {p : Int} {l : List Vtx} (hl : ∀ v ∈ l, okB v) (hlen : l.length ≤ 10000) (hfl : l.length + 130 ≤ fl) : glazierref05_By fl p l = some (byL p l) := by
  unfold glazierref05_By byL
  by_cases h0 : p < 0
  · rw [bnd_eq, lt_t h0, bite_t, appOk_t (by simp; omega) (by decide), bgd_t, bnd_eq, appK, List.nil_append, if_neg (by unfold isP; omega)]
  · rw [bnd_eq, lt_f (by omega), bite_f]
    by_cases h1 : 5 ≤ p
    · rw [bnd_eq, gt_t (by omega), bite_t, appOk_t (by simp; omega) (by decide), bgd_t, bnd_eq, appK, List.nil_append, if_neg (by unfold isP; omega)]
    · have hp : isP p := ⟨by omega, by omega⟩
      have := rby_loop (fl := fl) (by omega) hp hl hlen l.length 0 fl [] (by omega) (by omega) (by simp)
      rw [bnd_eq, gt_f (by omega), bite_f]
      rw [show ((0 : Nat) : Int) = 0 from rfl] at this
      rw [this, ob_some, if_pos hp, List.drop_zero]
      rfl

/-! ### By all planes -/
def allL (l : List Vtx) : List Vtx := byL 4 (byL 3 (byL 2 (byL 1 (byL 0 l))))
def polyL (l : List Vtx) : List Vtx := if (allL l).length < 3 then [] else allL l

theorem chain {l : List Vtx} (hl : ∀ v ∈ l, okB v) (hlen : l.length ≤ 100) : (∀ v ∈ byL 0 l, okB v) ∧ (∀ v ∈ byL 1 (byL 0 l), okB v) ∧ (∀ v ∈ byL 2 (byL 1 (byL 0 l)), okB v) ∧ (∀ v ∈ byL 3 (byL 2 (byL 1 (byL 0 l))), okB v) ∧ (∀ v ∈ allL l, okB v) ∧
    (byL 0 l).length ≤ 200 ∧ (byL 1 (byL 0 l)).length ≤ 400 ∧ (byL 2 (byL 1 (byL 0 l))).length ≤ 800 ∧ (byL 3 (byL 2 (byL 1 (byL 0 l)))).length ≤ 1600 ∧ (allL l).length ≤ 3200 := by
  have h0 := byL_in (p := 0) hl
  have h1 := byL_in (p := 1) h0
  have h2 := byL_in (p := 2) h1
  have h3 := byL_in (p := 3) h2
  have h4 := byL_in (p := 4) h3
  have l0 := byL_length 0 l
  have l1 := byL_length 1 (byL 0 l)
  have l2 := byL_length 2 (byL 1 (byL 0 l))
  have l3 := byL_length 3 (byL 2 (byL 1 (byL 0 l)))
  have l4 := byL_length 4 (byL 3 (byL 2 (byL 1 (byL 0 l))))
  refine ⟨h0, h1, h2, h3, h4, ?_, ?_, ?_, ?_, ?_⟩
  · omega
  · omega
  · omega
  · omega
  · unfold allL; omega

theorem poly_spec {fl : Nat} {l : List Vtx} (hl : ∀ v ∈ l, okB v) (hlen : l.length ≤ 100) (hfl : 5000 ≤ fl) : clip_Poly fl l = some (polyL l) := by
  obtain ⟨h0, h1, h2, h3, h4, k0, k1, k2, k3, k4⟩ := chain hl hlen
  unfold clip_Poly polyL
  rw [own_spec (by omega), ob_some, by_spec hl (by omega) (by omega), ob_some, by_spec h0 (by omega) (by omega), ob_some, by_spec h1 (by omega) (by omega), ob_some, by_spec h2 (by omega) (by omega), ob_some, by_spec h3 (by omega) (by omega), ob_some, bnd_eq, bnd_eq]
  show bite (F.lt (F.len (allL l)) 3) (some []) (some (allL l)) = _
  rw [lenK]
  by_cases h : (allL l).length < 3
  · rw [lt_t (by omega), bite_t, if_pos h]
  · rw [lt_f (by omega), bite_f, if_neg h]

theorem rpoly_spec {fl : Nat} {l : List Vtx} (hl : ∀ v ∈ l, okB v) (hlen : l.length ≤ 100) (hfl : 5000 ≤ fl) : glazierref05_Poly fl l = some (polyL l) := by
  obtain ⟨h0, h1, h2, h3, h4, k0, k1, k2, k3, k4⟩ := chain hl hlen
  unfold glazierref05_Poly polyL
  rw [appOk_t (by simp; omega) (by decide), bgd_t, bnd_eq, appK, List.nil_append, rby_spec hl (by omega) (by omega), ob_some, rby_spec h0 (by omega) (by omega), ob_some, rby_spec h1 (by omega) (by omega), ob_some, rby_spec h2 (by omega) (by omega), ob_some, rby_spec h3 (by omega) (by omega), ob_some, bnd_eq, bnd_eq]
  show bite (F.lt (F.len (allL l)) 3) (some []) (some (allL l)) = _
  rw [lenK]
  by_cases h : (allL l).length < 3
  · rw [lt_t (by omega), bite_t, if_pos h]
  · rw [lt_f (by omega), bite_f, if_neg h]
end Go.Proofs.Ytofmlolhhcffoaa.G
