/- ClipFew holds. -/
import Derived.Test.YtofmlolhhcffoaaLawClipMore
set_option linter.unusedVariables false
namespace Go.Proofs.Ytofmlolhhcffoaa.clipFew
open Go Go.RowKit Go.Proofs.Ytofmlolhhcffoaa.M Go.Proofs.Ytofmlolhhcffoaa.G

/-! ### How many there are -/
def ins (p : Int) (v : Vtx) : Bool := decide (0 ≤ dist p v)

theorem counts {p : Int} : ∀ (ps : List (Vtx × Vtx)), ∃ c1 c2 c11 c00 : Nat, (ps.map (·.1)).countP (ins p) = c1 + c11 ∧ (ps.map (·.2)).countP (ins p) = c2 + c11 ∧ ps.length = c1 + c2 + c11 + c00 ∧ (ps.flatMap (G.step p)).length = c1 + c11 + c1 + c2
  | [] => ⟨0, 0, 0, 0, rfl, rfl, rfl, rfl⟩
  | q :: r => by
    obtain ⟨c1, c2, c11, c00, h1, h2, h3, h4⟩ := counts (p := p) r
    simp only [List.map_cons, List.countP_cons, List.length_cons, List.flatMap_cons, List.length_append, h1, h2, h3, h4]
    unfold G.step ins
    by_cases a1 : 0 ≤ dist p q.1 <;> by_cases a2 : 0 ≤ dist p q.2
    · refine ⟨c1, c2, c11 + 1, c00, ?_, ?_, ?_, ?_⟩
      · rw [if_pos (by simpa using a1)]; omega
      · rw [if_pos (by simpa using a2)]; omega
      · omega
      · rw [if_pos a1, if_neg (by omega)]; simp; omega
    · refine ⟨c1 + 1, c2, c11, c00, ?_, ?_, ?_, ?_⟩
      · rw [if_pos (by simpa using a1)]; omega
      · rw [if_neg (by simpa using a2)]; omega
      · omega
      · rw [if_pos a1, if_pos (by omega)]; simp; omega
    · refine ⟨c1, c2 + 1, c11, c00, ?_, ?_, ?_, ?_⟩
      · rw [if_neg (by simpa using a1)]; omega
      · rw [if_pos (by simpa using a2)]; omega
      · omega
      · rw [if_neg a1, if_pos a2]; simp; omega
    · refine ⟨c1, c2, c11, c00 + 1, ?_, ?_, ?_, ?_⟩
      · rw [if_neg (by simpa using a1)]; omega
      · rw [if_neg (by simpa using a2)]; omega
      · omega
      · rw [if_neg a1, if_neg a2]; simp

theorem half (p : Int) (l : List Vtx) : 2 * (byL p l).length ≤ 3 * l.length := by
  unfold byL
  split
  · obtain ⟨c1, c2, c11, c00, h1, h2, h3, h4⟩ := counts (p := p) (prs l)
    rw [prs_fst] at h1
    rw [prs_snd] at h2
    rw [prs_length] at h3
    have hr : (rot1 l).countP (ins p) = l.countP (ins p) := by
      unfold rot1
      rw [List.countP_append, Nat.add_comm, ← List.countP_append, List.take_append_drop]
    unfold cutBy
    omega
  · omega

/-! ### Where they are -/
def goodC (m : Int) (j : Int) (v : Vtx) : Prop := fitC v ∧ ∀ q, 0 ≤ q → q < j → -m ≤ dist q v

theorem mid_dist {p q m : Int} {a b : Vtx} (hq : isP q) (h0 : 0 ≤ dist p a) (h1 : dist p b < 0) (ha : -m ≤ dist q a) (hb : -m ≤ dist q b) : -(m + 4) ≤ dist q (btw p a b) := by
  have hD : 0 < dist p a - dist p b := by omega
  have lin : ∀ {d e x y mx M : Int}, mx = mid x y d e → M = (d - e) * mx → M = (d - e) * mid x y d e := fun h1 h2 => by rw [h2, h1]
  have go : ∀ (x y : Int), (dist p a - dist p b) * mid x y (dist p a) (dist p b) ≤ (dist p a - dist p b) * x + (y - x) * dist p a ∧ (dist p a - dist p b) * x + (y - x) * dist p a < (dist p a - dist p b) * mid x y (dist p a) (dist p b) + (dist p a - dist p b) := fun x y => (mid_in (a := x) (b := y) h0 h1).2
  have gx := go a.1 b.1
  have gy := go a.2.1 b.2.1
  have gz := go a.2.2.1 b.2.2.1
  have gw := go a.2.2.2.1 b.2.2.2.1
  -- the exact place is no farther out
  have ex : ∀ {s t : Int}, -m ≤ s → -m ≤ t → -(m * (dist p a - dist p b)) ≤ (dist p a - dist p b) * s + (t - s) * dist p a := fun {s t} hs ht => by
    have e : (dist p a - dist p b) * s + (t - s) * dist p a = (-dist p b) * s + dist p a * t := by grind
    have k1 : (-dist p b) * (-m) ≤ (-dist p b) * s := Int.mul_le_mul_of_nonneg_left hs (by omega)
    have k2 : dist p a * (-m) ≤ dist p a * t := Int.mul_le_mul_of_nonneg_left ht h0
    have e2 : -(m * (dist p a - dist p b)) = (-dist p b) * (-m) + dist p a * (-m) := by grind
    rw [e, e2]
    omega
  have he := ex ha hb
  have fin : ∀ {r : Int}, -(m * (dist p a - dist p b)) < (dist p a - dist p b) * r + 5 * (dist p a - dist p b) → -(m + 4) ≤ r := fun {r} h => by
    refine Int.not_lt.1 fun hc => ?_
    have : (dist p a - dist p b) * r ≤ (dist p a - dist p b) * (-(m + 5)) := Int.mul_le_mul_of_nonneg_left (by omega) (by omega)
    have e : (dist p a - dist p b) * (-(m + 5)) = -(m * (dist p a - dist p b)) - 5 * (dist p a - dist p b) := by grind
    omega
  rcases five hq with rfl | rfl | rfl | rfl | rfl
  · rw [dist0] at he ⊢
    refine fin ?_
    show _ < (dist p a - dist p b) * (mid a.2.2.1 b.2.2.1 (dist p a) (dist p b) + mid a.2.2.2.1 b.2.2.2.1 (dist p a) (dist p b)) + _
    rw [dist0] at he
    have e1 : (dist p a - dist p b) * (a.2.2.1 + a.2.2.2.1) + (b.2.2.1 + b.2.2.2.1 - (a.2.2.1 + a.2.2.2.1)) * dist p a = ((dist p a - dist p b) * a.2.2.1 + (b.2.2.1 - a.2.2.1) * dist p a) + ((dist p a - dist p b) * a.2.2.2.1 + (b.2.2.2.1 - a.2.2.2.1) * dist p a) := by grind
    rw [e1] at he
    rw [Int.mul_add]
    omega
  · rw [dist1] at he ⊢
    refine fin ?_
    show _ < (dist p a - dist p b) * (4 * mid a.2.2.2.1 b.2.2.2.1 (dist p a) (dist p b) + mid a.1 b.1 (dist p a) (dist p b)) + _
    rw [dist1] at he
    have e1 : (dist p a - dist p b) * (4 * a.2.2.2.1 + a.1) + (4 * b.2.2.2.1 + b.1 - (4 * a.2.2.2.1 + a.1)) * dist p a = 4 * ((dist p a - dist p b) * a.2.2.2.1 + (b.2.2.2.1 - a.2.2.2.1) * dist p a) + ((dist p a - dist p b) * a.1 + (b.1 - a.1) * dist p a) := by grind
    rw [e1] at he
    rw [Int.mul_add (dist p a - dist p b), Int.mul_left_comm (dist p a - dist p b)]
    omega
  · rw [dist2] at he ⊢
    refine fin ?_
    show _ < (dist p a - dist p b) * (4 * mid a.2.2.2.1 b.2.2.2.1 (dist p a) (dist p b) - mid a.1 b.1 (dist p a) (dist p b)) + _
    rw [dist2] at he
    have e1 : (dist p a - dist p b) * (4 * a.2.2.2.1 - a.1) + (4 * b.2.2.2.1 - b.1 - (4 * a.2.2.2.1 - a.1)) * dist p a = 4 * ((dist p a - dist p b) * a.2.2.2.1 + (b.2.2.2.1 - a.2.2.2.1) * dist p a) - ((dist p a - dist p b) * a.1 + (b.1 - a.1) * dist p a) := by grind
    rw [e1] at he
    rw [Int.mul_sub (dist p a - dist p b), Int.mul_left_comm (dist p a - dist p b)]
    omega
  · rw [dist3] at he ⊢
    refine fin ?_
    show _ < (dist p a - dist p b) * (4 * mid a.2.2.2.1 b.2.2.2.1 (dist p a) (dist p b) + mid a.2.1 b.2.1 (dist p a) (dist p b)) + _
    rw [dist3] at he
    have e1 : (dist p a - dist p b) * (4 * a.2.2.2.1 + a.2.1) + (4 * b.2.2.2.1 + b.2.1 - (4 * a.2.2.2.1 + a.2.1)) * dist p a = 4 * ((dist p a - dist p b) * a.2.2.2.1 + (b.2.2.2.1 - a.2.2.2.1) * dist p a) + ((dist p a - dist p b) * a.2.1 + (b.2.1 - a.2.1) * dist p a) := by grind
    rw [e1] at he
    rw [Int.mul_add (dist p a - dist p b), Int.mul_left_comm (dist p a - dist p b)]
    omega
  · rw [dist4] at he ⊢
    refine fin ?_
    show _ < (dist p a - dist p b) * (4 * mid a.2.2.2.1 b.2.2.2.1 (dist p a) (dist p b) - mid a.2.1 b.2.1 (dist p a) (dist p b)) + _
    rw [dist4] at he
    have e1 : (dist p a - dist p b) * (4 * a.2.2.2.1 - a.2.1) + (4 * b.2.2.2.1 - b.2.1 - (4 * a.2.2.2.1 - a.2.1)) * dist p a = 4 * ((dist p a - dist p b) * a.2.2.2.1 + (b.2.2.2.1 - a.2.2.2.1) * dist p a) - ((dist p a - dist p b) * a.2.1 + (b.2.1 - a.2.1) * dist p a) := by grind
    rw [e1] at he
    rw [Int.mul_sub (dist p a - dist p b), Int.mul_left_comm (dist p a - dist p b)]
    omega

/-- On the plane itself. -/
theorem mid_self {p : Int} {a b : Vtx} (hp : isP p) (h0 : 0 ≤ dist p a) (h1 : dist p b < 0) : -4 ≤ dist p (btw p a b) := by
  have hD : 0 < dist p a - dist p b := by omega
  have go : ∀ (x y : Int), (dist p a - dist p b) * mid x y (dist p a) (dist p b) ≤ (dist p a - dist p b) * x + (y - x) * dist p a ∧ (dist p a - dist p b) * x + (y - x) * dist p a < (dist p a - dist p b) * mid x y (dist p a) (dist p b) + (dist p a - dist p b) := fun x y => (mid_in (a := x) (b := y) h0 h1).2
  have gx := go a.1 b.1
  have gy := go a.2.1 b.2.1
  have gz := go a.2.2.1 b.2.2.1
  have gw := go a.2.2.2.1 b.2.2.2.1
  have fin : ∀ {r : Int}, 0 < (dist p a - dist p b) * r + 5 * (dist p a - dist p b) → -4 ≤ r := fun {r} h => by
    refine Int.not_lt.1 fun hc => ?_
    have : (dist p a - dist p b) * r ≤ (dist p a - dist p b) * (-5) := Int.mul_le_mul_of_nonneg_left (by omega) (by omega)
    omega
  have he : (dist p a - dist p b) * dist p a + (dist p b - dist p a) * dist p a = 0 := by grind
  rcases five hp with rfl | rfl | rfl | rfl | rfl
  · have e1 : (dist 0 a - dist 0 b) * dist 0 a + (dist 0 b - dist 0 a) * dist 0 a = ((dist 0 a - dist 0 b) * a.2.2.1 + (b.2.2.1 - a.2.2.1) * dist 0 a) + ((dist 0 a - dist 0 b) * a.2.2.2.1 + (b.2.2.2.1 - a.2.2.2.1) * dist 0 a) := by rw [dist0, dist0]; grind
    rw [e1] at he
    refine fin ?_
    show _ < (dist 0 a - dist 0 b) * (mid a.2.2.1 b.2.2.1 (dist 0 a) (dist 0 b) + mid a.2.2.2.1 b.2.2.2.1 (dist 0 a) (dist 0 b)) + _
    rw [Int.mul_add]
    omega
  · have e1 : (dist 1 a - dist 1 b) * dist 1 a + (dist 1 b - dist 1 a) * dist 1 a = 4 * ((dist 1 a - dist 1 b) * a.2.2.2.1 + (b.2.2.2.1 - a.2.2.2.1) * dist 1 a) + ((dist 1 a - dist 1 b) * a.1 + (b.1 - a.1) * dist 1 a) := by rw [dist1, dist1]; grind
    rw [e1] at he
    refine fin ?_
    show _ < (dist 1 a - dist 1 b) * (4 * mid a.2.2.2.1 b.2.2.2.1 (dist 1 a) (dist 1 b) + mid a.1 b.1 (dist 1 a) (dist 1 b)) + _
    rw [Int.mul_add (_ - _), Int.mul_left_comm (_ - _)]
    omega
  · have e1 : (dist 2 a - dist 2 b) * dist 2 a + (dist 2 b - dist 2 a) * dist 2 a = 4 * ((dist 2 a - dist 2 b) * a.2.2.2.1 + (b.2.2.2.1 - a.2.2.2.1) * dist 2 a) - ((dist 2 a - dist 2 b) * a.1 + (b.1 - a.1) * dist 2 a) := by rw [dist2, dist2]; grind
    rw [e1] at he
    refine fin ?_
    show _ < (dist 2 a - dist 2 b) * (4 * mid a.2.2.2.1 b.2.2.2.1 (dist 2 a) (dist 2 b) - mid a.1 b.1 (dist 2 a) (dist 2 b)) + _
    rw [Int.mul_sub (_ - _), Int.mul_left_comm (_ - _)]
    omega
  · have e1 : (dist 3 a - dist 3 b) * dist 3 a + (dist 3 b - dist 3 a) * dist 3 a = 4 * ((dist 3 a - dist 3 b) * a.2.2.2.1 + (b.2.2.2.1 - a.2.2.2.1) * dist 3 a) + ((dist 3 a - dist 3 b) * a.2.1 + (b.2.1 - a.2.1) * dist 3 a) := by rw [dist3, dist3]; grind
    rw [e1] at he
    refine fin ?_
    show _ < (dist 3 a - dist 3 b) * (4 * mid a.2.2.2.1 b.2.2.2.1 (dist 3 a) (dist 3 b) + mid a.2.1 b.2.1 (dist 3 a) (dist 3 b)) + _
    rw [Int.mul_add (_ - _), Int.mul_left_comm (_ - _)]
    omega
  · have e1 : (dist 4 a - dist 4 b) * dist 4 a + (dist 4 b - dist 4 a) * dist 4 a = 4 * ((dist 4 a - dist 4 b) * a.2.2.2.1 + (b.2.2.2.1 - a.2.2.2.1) * dist 4 a) - ((dist 4 a - dist 4 b) * a.2.1 + (b.2.1 - a.2.1) * dist 4 a) := by rw [dist4, dist4]; grind
    rw [e1] at he
    refine fin ?_
    show _ < (dist 4 a - dist 4 b) * (4 * mid a.2.2.2.1 b.2.2.2.1 (dist 4 a) (dist 4 b) - mid a.2.1 b.2.1 (dist 4 a) (dist 4 b)) + _
    rw [Int.mul_sub (_ - _), Int.mul_left_comm (_ - _)]
    omega

theorem btw_fit {p : Int} {a b : Vtx} (ha : fitC a) (hb : fitC b) (h0 : 0 ≤ dist p a) (h1 : dist p b < 0) : fitC (btw p a b) := by
  have go : ∀ {x y lo hi : Int}, lo ≤ x → x ≤ hi → lo ≤ y → y ≤ hi → lo ≤ mid x y (dist p a) (dist p b) ∧ mid x y (dist p a) (dist p b) ≤ hi := fun {x y lo hi} h1' h2' h3' h4' => by
    have := (mid_in (a := x) (b := y) h0 h1).1
    omega
  obtain ⟨⟨a1, a1'⟩, ⟨a2, a2'⟩, ⟨a3, a3'⟩, ⟨a4, a4'⟩, ⟨a5, a5'⟩, ⟨a6, a6'⟩, ⟨a7, a7'⟩, a8, a8'⟩ := ha
  obtain ⟨⟨b1, b1'⟩, ⟨b2, b2'⟩, ⟨b3, b3'⟩, ⟨b4, b4'⟩, ⟨b5, b5'⟩, ⟨b6, b6'⟩, ⟨b7, b7'⟩, b8, b8'⟩ := hb
  exact ⟨go a1 a1' b1 b1', go a2 a2' b2 b2', go a3 a3' b3 b3', go a4 a4' b4 b4', go a5 a5' b5 b5', go a6 a6' b6 b6', go a7 a7' b7 b7', go a8 a8' b8 b8'⟩

theorem cut_good {m p : Int} {l : List Vtx} (hm : 0 ≤ m) (hp : isP p) (h : ∀ v ∈ l, goodC m p v) : ∀ v ∈ byL p l, goodC (m + 4) (p + 1) v := by
  unfold byL
  rw [if_pos hp]
  refine cut_mem fun q h1 h2 v hv => ?_
  have b1 := h _ h1
  have b2 := h _ h2
  have cr : ∀ {a b : Vtx}, goodC m p a → goodC m p b → 0 ≤ dist p a → dist p b < 0 → goodC (m + 4) (p + 1) (btw p a b) := fun {a b} ga gb d0 d1 => by
    refine ⟨btw_fit ga.1 gb.1 d0 d1, fun r r0 r1 => ?_⟩
    have hr : isP r := ⟨r0, by have := hp.2; omega⟩
    by_cases hrp : r = p
    · subst hrp
      have := mid_self hp d0 d1
      omega
    · exact mid_dist hr d0 d1 (ga.2 r r0 (by omega)) (gb.2 r r0 (by omega))
  unfold G.step at hv
  split at hv
  · rename_i c1
    rcases List.mem_cons.1 hv with rfl | hv
    · refine ⟨b1.1, fun r r0 r1 => ?_⟩
      by_cases hrp : r = p
      · subst hrp; omega
      · have := b1.2 r r0 (by omega)
        omega
    · split at hv
      · rename_i c2
        simp at hv; subst hv
        exact cr b1 b2 c1 c2
      · cases hv
  · rename_i c1
    split at hv
    · rename_i c2
      simp at hv; subst hv
      exact cr b2 b1 c2 (by omega)
    · cases hv

theorem right {v : Vtx} (h : fitC v) : glazierref04_Right v = some true := by
  obtain ⟨⟨a1, a1'⟩, ⟨a2, a2'⟩, ⟨a3, a3'⟩, ⟨a4, a4'⟩, ⟨a5, a5'⟩, ⟨a6, a6'⟩, ⟨a7, a7'⟩, a8, a8'⟩ := h
  have wi : ∀ {x : Int}, -32768 ≤ x → x ≤ 32768 → glazierref04_within x 32768 = some true := fun {x} h1 h2 => by
    unfold glazierref04_within
    rw [bnd_eq, negI (by decide), bnd_eq, ge_t h1, bite_t, bnd_eq, le_t h2]
  unfold glazierref04_Right
  rw [bnd_eq, lt_f a5, bite_f, bnd_eq, gt_f a5', bite_f, bnd_eq, lt_f a6, bite_f, bnd_eq, gt_f a6', bite_f, bnd_eq, lt_f a7, bite_f, bnd_eq, gt_f a7', bite_f, bnd_eq, lt_f a8, bite_f, bnd_eq, gt_f a8', bite_f, wi a1 a1', ob_some, wi a2 a2', ob_some, wi a3 a3', ob_some, bite_t, bite_t, bite_t, bnd_eq, ge_t a4, bite_t, bnd_eq, le_t a4']

theorem loop (fl : Nat) {h : Bool} {l : List Vtx} (hl : ∀ v ∈ l, goodC 20 5 v) (hlen : l.length ≤ 1000) : ∀ (m k n : Nat), k + m = l.length → m + 1 ≤ n → glazierlaw05_ClipFew_l1 fl n h l (k : Int) = some (.inr (h, ()))
  | 0, k, 0, _, h => by omega
  | 0, k, n + 1, hk, _ => by
    unfold glazierlaw05_ClipFew_l1
    rw [bnd_eq, lenK, bnd_eq, lt_f (by omega), bite_f]
  | m + 1, k, 0, _, h => by omega
  | m + 1, k, n + 1, hk, hn => by
    have hkl : k < l.length := by omega
    obtain ⟨g1, g2⟩ := hl _ (List.getElem_mem hkl)
    have ok := fitC_ok g1
    have ih := loop fl (h := h) hl hlen m (k + 1) n (by omega) (by omega)
    have d0 := g2 0 (by decide) (by decide)
    have d1 := g2 1 (by decide) (by decide)
    have d2 := g2 2 (by decide) (by decide)
    have d3 := g2 3 (by decide) (by decide)
    have d4 := g2 4 (by decide) (by decide)
    unfold glazierlaw05_ClipFew_l1
    rw [bnd_eq, lenK, bnd_eq, lt_t (by omega), bite_t, lgetK hkl, ob_some, right g1, ob_some, bnd_eq, not_t, bite_f, ob_some, ref_dist ok, ob_some, bnd_eq, lt_f (by omega), bite_f, ob_some, ref_dist ok, ob_some, bnd_eq, lt_f (by omega), bite_f, ob_some, ref_dist ok, ob_some, bnd_eq, lt_f (by omega), bite_f, ob_some, ref_dist ok, ob_some, bnd_eq, lt_f (by omega), bite_f,
      ob_some, ref_dist ok, ob_some, bnd_eq, lt_f (by omega), bite_f, bnd_eq, addI (by omega), show (k : Int) + 1 = ((k + 1 : Nat) : Int) by omega]
    exact ih

theorem law (x0 : (Ty.pair (.pair (.int .i64) (.pair (.int .i64) (.pair (.int .i64) (.pair (.int .i64) (.pair (.int .i64) (.pair (.int .i64) (.pair (.int .i64) (.int .i64)))))))) (.pair (.pair (.int .i64) (.pair (.int .i64) (.pair (.int .i64) (.pair (.int .i64) (.pair (.int .i64) (.pair (.int .i64) (.pair (.int .i64) (.int .i64)))))))) (.pair (.int .i64) (.pair (.int .i64) (.pair (.int .i64) (.pair (.int .i64) (.pair (.int .i64) (.pair (.int .i64) (.pair (.int .i64) (.int .i64)))))))))).T)
    (h0 : okT _ x0) : ∃ fl, glazierlaw05_ClipFew fl x0 = some true := by
  refine ⟨5000, ?_⟩
  unfold glazierlaw05_ClipFew
  obtain ⟨v, ev, hl, hf⟩ := cfit (fl := 5000) (by omega) [x0.1, x0.2.1, x0.2.2]
  have hl3 : v.length = 3 := by rw [hl]; rfl
  have hv : ∀ x ∈ v, okB x := fun x hx => fitC_ok (hf x hx)
  have g0 : ∀ x ∈ v, goodC 0 0 x := fun x hx => ⟨hf x hx, fun q q0 q1 => by omega⟩
  have g1 := cut_good (by decide) (by decide) g0
  have g2 := cut_good (by decide) (by decide) g1
  have g3 := cut_good (by decide) (by decide) g2
  have g4 := cut_good (by decide) (by decide) g3
  have g5 := cut_good (by decide) (by decide) g4
  have k1 := half 0 v
  have k2 := half 1 (byL 0 v)
  have k3 := half 2 (byL 1 (byL 0 v))
  have k4 := half 3 (byL 2 (byL 1 (byL 0 v)))
  have k5 := half 4 (byL 3 (byL 2 (byL 1 (byL 0 v))))
  have hall : (allL v).length ≤ 24 := by unfold allL; omega
  have hg : ∀ x ∈ polyL v, goodC 20 5 x := by
    unfold polyL
    split
    · simp
    · exact g5
  have hpl : (polyL v).length ≤ 24 ∧ (polyL v).length ≠ 1 ∧ (polyL v).length ≠ 2 := by
    unfold polyL
    split
    · simp
    · omega
  have hlo := loop 5000 (h := true) hg (by omega) (polyL v).length 0 5000 (by omega) (by omega)
  rw [show ((0 : Nat) : Int) = 0 from rfl] at hlo
  rw [cshown (by omega), ob_some, ev, ob_some, poly_spec hv (by omega) (by omega), ob_some, bnd_eq, lenK, bnd_eq, gt_f (by omega), bite_f, bnd_eq, bnd_eq, eq_f (by omega), bite_f, bnd_eq, bnd_eq, eq_f (by omega), bite_f, hlo]
  rfl
end Go.Proofs.Ytofmlolhhcffoaa.clipFew
