/- Triangles on a screen: areas, which way they are turned, and the parts that one becomes. -/
import Derived.Test.YtfejdcdomgeogaaLawClipPlain
import Derived.Test.YtfejdcdomgeogaaLawViewRow
set_option linter.unusedVariables false
namespace Go.Proofs.Ytfejdcdomgeogaa.G
open Go Go.RowKit Go.Proofs.Ytfejdcdomgeogaa.M

abbrev Tri := Px × Px × Px

def crs (a b : Px) (x y : Int) : Int := (b.1 - a.1) * (y - a.2.1) - (b.2.1 - a.2.1) * (x - a.1)
def area (u : Tri) : Int := crs u.1 u.2.1 u.2.2.1 u.2.2.2.1

def big (n : Int) : Prop := -536872960 ≤ n ∧ n ≤ 536872960
def okG (p : Px) : Prop := big p.1 ∧ big p.2.1
def okG3 (u : Tri) : Prop := okG u.1 ∧ okG u.2.1 ∧ okG u.2.2

theorem mul_abs {a b m n : Int} (ha : -m ≤ a ∧ a ≤ m) (hb : -n ≤ b ∧ b ≤ n) : -(m * n) ≤ a * b ∧ a * b ≤ m * n := by
  have h : (a * b).natAbs ≤ m.natAbs * n.natAbs := by
    rw [Int.natAbs_mul]
    exact Nat.mul_le_mul (by omega) (by omega)
  have e : ((m.natAbs * n.natAbs : Nat) : Int) = m * n := by
    rw [Int.natCast_mul, Int.natAbs_of_nonneg (by omega), Int.natAbs_of_nonneg (by omega)]
  omega

theorem crs_num {a b : Px} {x y : Int} (ha : okG a) (hb : okG b) (hx : big x) (hy : big y) :
    (-1152930301087046400 ≤ (b.1 - a.1) * (y - a.2.1) ∧ (b.1 - a.1) * (y - a.2.1) ≤ 1152930301087046400) ∧ (-1152930301087046400 ≤ (b.2.1 - a.2.1) * (x - a.1) ∧ (b.2.1 - a.2.1) * (x - a.1) ≤ 1152930301087046400) := by
  obtain ⟨⟨a1, a2⟩, a3, a4⟩ := ha
  obtain ⟨⟨b1, b2⟩, b3, b4⟩ := hb
  obtain ⟨x1, x2⟩ := hx
  obtain ⟨y1, y2⟩ := hy
  have h1 := mul_abs (a := b.1 - a.1) (b := y - a.2.1) (m := 1073745920) (n := 1073745920) (by omega) (by omega)
  have h2 := mul_abs (a := b.2.1 - a.2.1) (b := x - a.1) (m := 1073745920) (n := 1073745920) (by omega) (by omega)
  omega

theorem crs_g {a b : Px} {x y : Int} (ha : okG a) (hb : okG b) (hx : big x) (hy : big y) : edge_Cross a b x y = some (crs a b x y) := by
  obtain ⟨h1, h2⟩ := crs_num ha hb hx hy
  obtain ⟨⟨a1, a2⟩, a3, a4⟩ := ha
  obtain ⟨⟨b1, b2⟩, b3, b4⟩ := hb
  obtain ⟨x1, x2⟩ := hx
  obtain ⟨y1, y2⟩ := hy
  unfold edge_Cross
  rw [bnd_eq, subI (a := b.1) (by omega), bnd_eq, subI (a := y) (by omega), bnd_eq, mulI (by omega), bnd_eq, subI (a := b.2.1) (by omega), bnd_eq, subI (a := x) (by omega), bnd_eq, mulI (by omega), bnd_eq, subI (by omega)]
  rfl

theorem rcrs_g {a b : Px} {x y : Int} (ha : okG a) (hb : okG b) (hx : big x) (hy : big y) : glazierref07_Cross a b x y = some (crs a b x y) := by
  obtain ⟨h1, h2⟩ := crs_num ha hb hx hy
  obtain ⟨⟨a1, a2⟩, a3, a4⟩ := ha
  obtain ⟨⟨b1, b2⟩, b3, b4⟩ := hb
  obtain ⟨x1, x2⟩ := hx
  obtain ⟨y1, y2⟩ := hy
  unfold glazierref07_Cross
  rw [bnd_eq, subI (a := b.1) (by omega), bnd_eq, subI (a := y) (by omega), bnd_eq, mulI (by omega), bnd_eq, subI (a := b.2.1) (by omega), bnd_eq, subI (a := x) (by omega), bnd_eq, mulI (by omega), bnd_eq, subI (by omega)]
  rfl

theorem area_g {u : Tri} (h : okG3 u) : edge_Area u = some (area u) := by
  unfold edge_Area
  rw [crs_g h.1 h.2.1 h.2.2.1 h.2.2.2, ob_some]
  rfl

theorem rarea_g {u : Tri} (h : okG3 u) : glazierref07_Area u = some (area u) := by
  unfold glazierref07_Area
  rw [rcrs_g h.1 h.2.1 h.2.2.1 h.2.2.2, ob_some]
  rfl

/-! ### Turned -/
def zt : Tri := (pzS, (pzS, pzS))
def turn (u : Tri) : Tri × Bool := if area u = 0 then (zt, false) else if area u < 0 then ((u.1, (u.2.2, u.2.1)), true) else (u, true)

theorem area_swap (u : Tri) : area (u.1, (u.2.2, u.2.1)) = -area u := by
  unfold area crs
  grind

theorem turned_g {u : Tri} (h : okG3 u) : edge_Turned u = some (turn u) := by
  unfold edge_Turned turn
  rw [area_g h, ob_some, bnd_eq]
  by_cases h0 : area u = 0
  · rw [eq_t h0, bite_t, if_pos h0]; rfl
  · rw [eq_f h0, bite_f, if_neg h0, bnd_eq]
    by_cases h1 : area u < 0
    · rw [lt_t h1, bite_t, if_pos h1]
    · rw [lt_f (by omega), bite_f, if_neg h1]

theorem rturned_g {u : Tri} (h : okG3 u) : glazierref07_Turned u = some (turn u) := by
  unfold glazierref07_Turned turn
  rw [rarea_g h, ob_some, bnd_eq]
  by_cases h0 : area u = 0
  · rw [eq_t h0, bite_t, if_pos h0]; rfl
  · rw [eq_f h0, bite_f, if_neg h0, bnd_eq]
    by_cases h1 : area u < 0
    · rw [lt_t h1, bite_t, if_pos h1]
    · rw [lt_f (by omega), bite_f, if_neg h1]

theorem turn_pos {u : Tri} (h : okG3 u) (ht : (turn u).2 = true) : 0 < area (turn u).1 ∧ okG3 (turn u).1 := by
  unfold turn at ht ⊢
  split at ht
  · cases ht
  · rename_i h0
    rw [if_neg h0]
    split
    · rename_i h1
      refine ⟨?_, h.1, h.2.2, h.2.1⟩
      show 0 < area (u.1, (u.2.2, u.2.1))
      rw [area_swap]
      omega
    · exact ⟨by show 0 < area u; omega, h⟩

/-! ### Parts -/
def ptAt (pts : List Px) (k : Nat) : Px := pts.getD k pzS
def tri3 (pts : List Px) (k : Nat) : Tri := (ptAt pts 0, (ptAt pts (k - 1), ptAt pts k))
def piece (pts : List Px) (k : Nat) : List (Int × Tri) := if (turn (tri3 pts k)).2 then [((k : Int) - 2, (turn (tri3 pts k)).1)] else []
def fan (pts : List Px) : List (Int × Tri) := (List.range' 2 (pts.length - 2)).flatMap (piece pts)

theorem ptAt_get {pts : List Px} {k : Nat} (h : k < pts.length) : ptAt pts k = pts[k] := by
  unfold ptAt
  rw [List.getD_eq_getElem?_getD, List.getElem?_eq_getElem h]
  rfl

theorem ptAt_ok {pts : List Px} (hp : ∀ p ∈ pts, okG p) (k : Nat) : okG (ptAt pts k) := by
  unfold ptAt
  rw [List.getD_eq_getElem?_getD]
  cases h : pts[k]? with
  | none => exact ⟨⟨by decide, by decide⟩, ⟨by decide, by decide⟩⟩
  | some p => exact hp p (List.mem_of_getElem? h)

theorem tri3_ok {pts : List Px} (hp : ∀ p ∈ pts, okG p) (k : Nat) : okG3 (tri3 pts k) := ⟨ptAt_ok hp _, ptAt_ok hp _, ptAt_ok hp _⟩

theorem piece_len (pts : List Px) (k : Nat) : (piece pts k).length ≤ 1 := by
  unfold piece
  split <;> simp

theorem pieces_len (pts : List Px) : ∀ (m k : Nat), ((List.range' k m).flatMap (piece pts)).length ≤ m
  | 0, k => by simp
  | m + 1, k => by
    have h1 := piece_len pts k
    have h2 := pieces_len pts m (k + 1)
    rw [List.range'_succ, List.flatMap_cons, List.length_append]
    omega

theorem fan_loop (fl : Nat) {pts : List Px} (hp : ∀ p ∈ pts, okG p) (hlen : pts.length ≤ 10000) : ∀ (m k n : Nat) (acc : List (Int × Tri)), m = pts.length - k → 2 ≤ k → m + 1 ≤ n → acc.length ≤ k →
    setup_Parts_l1 fl n pts acc (k : Int) = some (acc ++ (List.range' k m).flatMap (piece pts), ())
  | m, k, 0, acc, _, _, h, _ => by omega
  | 0, k, n + 1, acc, hm, hk, hn, ha => by
    rw [setup_Parts_l1, bnd_eq, lenK, bnd_eq, lt_f (by omega), bite_f]
    simp
  | m + 1, k, n + 1, acc, hm, hk, hn, ha => by
    have h0 : 0 < pts.length := by omega
    have h1 : k - 1 < pts.length := by omega
    have h2 : k < pts.length := by omega
    have ht := tri3_ok hp k
    have et : ((pts[0], (pts[k - 1], pts[k])) : Tri) = tri3 pts k := by
      unfold tri3
      rw [ptAt_get h0, ptAt_get h1, ptAt_get h2]
    have g0 : F.get pts 0 = some pts[0] := lgetI (k := 0) rfl h0
    rw [setup_Parts_l1, bnd_eq, lenK, bnd_eq, lt_t (by omega), bite_t, g0, ob_some, bnd_eq, subI (by omega), lgetI (k := k - 1) (by omega) h1, ob_some, lgetK h2, ob_some, et, turned_g ht, ob_some, List.range'_succ, List.flatMap_cons]
    by_cases hb : (turn (tri3 pts k)).2 = true
    · have ep : piece pts k = [((k : Int) - 2, (turn (tri3 pts k)).1)] := if_pos hb
      have ih := fan_loop fl hp hlen m (k + 1) n (acc ++ [((k : Int) - 2, (turn (tri3 pts k)).1)]) (by omega) (by omega) (by omega) (by simp; omega)
      rw [hb, bite_t, bnd_eq, subI (by omega), appOk_t (by simp; omega) (by decide), bgd_t, bnd_eq, appK, bnd_eq, addI (by omega), ep]
      rw [show ((k + 1 : Nat) : Int) = (k : Int) + 1 by omega] at ih
      rw [ih, List.append_assoc]
    · have ep : piece pts k = [] := if_neg hb
      have hb0 : (turn (tri3 pts k)).2 = false := by simpa using hb
      have ih := fan_loop fl hp hlen m (k + 1) n acc (by omega) (by omega) (by omega) (by omega)
      rw [hb0, bite_f, bnd_eq, addI (by omega), ep]
      rw [show ((k + 1 : Nat) : Int) = (k : Int) + 1 by omega] at ih
      rw [ih]
      rfl

def ptsL (w h : Int) (l : List Vtx) : List Px := if l.all (onS w h) then l.map (ptS w h) else []

theorem okV_of {v : Vtx} (h : okB v) : okV v := ⟨h.1, h.2.1, h.2.2.1, h.2.2.2.1⟩

theorem ptS_ok {w h : Int} {v : Vtx} (hw : 1 ≤ w ∧ w ≤ 64) (hh : 1 ≤ h ∧ h ≤ 64) (hv : okB v) (hW : 1 ≤ v.2.2.2.1) : okG (ptS w h v) := by
  obtain ⟨h1, h2, _⟩ := hv
  have p1 := mul_in (a := v.1) (b := 8 * w) (m := 1048576) (n := 512) h1 (by omega)
  have p2 := mul_in (a := v.2.1) (b := 8 * h) (m := 1048576) (n := 512) h2 (by omega)
  have l1 := fdiv_lim (p := v.1 * (8 * w)) (c := v.2.2.2.1) (m := 536870912) (by omega) (by omega) (by omega) (by decide)
  have l2 := fdiv_lim (p := v.2.1 * (8 * h)) (c := v.2.2.2.1) (m := 536870912) (by omega) (by omega) (by omega) (by decide)
  unfold ptS
  refine ⟨⟨?_, ?_⟩, ⟨?_, ?_⟩⟩ <;> (simp only; omega)

theorem ptsL_ok {w h : Int} {l : List Vtx} (hw : 1 ≤ w ∧ w ≤ 64) (hh : 1 ≤ h ∧ h ≤ 64) (hl : ∀ v ∈ l, okB v) : ∀ p ∈ ptsL w h l, okG p := fun p hp => by
  unfold ptsL at hp
  split at hp
  · rename_i ha
    obtain ⟨v, hv, rfl⟩ := List.mem_map.1 hp
    rw [List.all_eq_true] at ha
    exact ptS_ok hw hh (hl v hv) (of_decide_eq_true (ha v hv)).2.2
  · cases hp

theorem ptsL_length (w h : Int) (l : List Vtx) : (ptsL w h l).length ≤ l.length := by
  unfold ptsL
  split <;> simp

theorem poly_okB {l : List Vtx} (hl : ∀ v ∈ l, okB v) (hlen : l.length ≤ 100) : ∀ v ∈ polyL l, okB v := fun v hv => by
  unfold polyL at hv
  split at hv
  · cases hv
  · exact (chain hl hlen).2.2.2.2.1 v hv

theorem poly_len {l : List Vtx} (hl : l.length = 3) : (polyL l).length ≤ 19 := by
  have h0 := half 0 l
  have h1 := half 1 (byL 0 l)
  have h2 := half 2 (byL 1 (byL 0 l))
  have h3 := half 3 (byL 2 (byL 1 (byL 0 l)))
  have h4 := half 4 (byL 3 (byL 2 (byL 1 (byL 0 l))))
  unfold polyL
  split
  · simp
  · unfold allL
    omega

theorem pts_fst (w h : Int) (l : List Vtx) : (if l.all (onS w h) then (l.map (ptS w h), true) else ([], false)).1 = ptsL w h l := by
  unfold ptsL
  cases l.all (onS w h) <;> rfl

theorem parts_of {fl : Nat} (hfl : 5000 ≤ fl) {w h : Int} (hw : 1 ≤ w ∧ w ≤ 64) (hh : 1 ≤ h ∧ h ≤ 64) {u : Vtx × Vtx × Vtx} {l : List Vtx} (hp : ∀ v ∈ l, okB v) (hn : l.length ≤ 19) (e : clip_Poly fl [u.1, u.2.1, u.2.2] = some l) : setup_Parts fl w h u = some (fan (ptsL w h l)) := by
  have hpts := ptsL_ok hw hh hp
  have hpl := ptsL_length w h l
  have lp := fan_loop fl hpts (by omega) ((ptsL w h l).length - 2) 2 fl [] rfl (by omega) (by omega) (by simp)
  rw [show ((2 : Nat) : Int) = 2 from rfl, List.nil_append] at lp
  unfold setup_Parts
  rw [e, ob_some, points_S (fun v hv => okV_of (hp v hv)) (by omega) (by omega), ob_some, pts_fst, lp, ob_some]
  rfl

theorem parts_spec {fl : Nat} (hfl : 5000 ≤ fl) {w h : Int} (hw : 1 ≤ w ∧ w ≤ 64) (hh : 1 ≤ h ∧ h ≤ 64) {a b c : Vtx} (ha : okB a) (hb : okB b) (hc : okB c) : setup_Parts fl w h (a, (b, c)) = some (fan (ptsL w h (polyL [a, b, c]))) := by
  have hl : ∀ v ∈ [a, b, c], okB v := fun v hv => by
    simp only [List.mem_cons, List.not_mem_nil, or_false] at hv
    rcases hv with rfl | rfl | rfl <;> assumption
  exact parts_of hfl hw hh (poly_okB hl (by simp)) (poly_len rfl) (poly_spec hl (by simp) hfl)

/-! ### Boxes -/
theorem pixel_spec (fl : Nat) {x : Int} (h : -4611686018427387904 ≤ x ∧ x ≤ 4611686018427387904) : view_Pixel fl x = some (x / 16) := by
  unfold view_Pixel fixed_Floor
  rw [mulDiv_spec fl (by omega) (by decide) (by omega) (by decide) (by decide), ob_some, ob_some, Int.mul_one, Int.fdiv_eq_ediv_of_nonneg _ (by decide)]

def sideLo (a b c : Int) : Int := max (min (min a b) c / 16) 0
def sideHi (w a b c : Int) : Int := min (max (max a b) c / 16 + 1) w

theorem side_is (fl : Nat) {w a b c : Int} (ha : big a) (hb : big b) (hc : big c) : setup_side fl w a b c = some (sideLo a b c, sideHi w a b c) := by
  obtain ⟨a1, a2⟩ := ha
  obtain ⟨b1, b2⟩ := hb
  obtain ⟨c1, c2⟩ := hc
  unfold setup_side
  rw [bnd_eq, f_min, f_min, pixel_spec fl (by omega), ob_some, bnd_eq, f_max, bnd_eq, f_max, f_max, pixel_spec fl (by omega), ob_some, bnd_eq, addI (by omega), bnd_eq, f_min]
  rfl

theorem box_is (fl : Nat) {w h : Int} {u : Tri} (hu : okG3 u) : setup_Box fl w h u = some (sideLo u.1.1 u.2.1.1 u.2.2.1, (sideLo u.1.2.1 u.2.1.2.1 u.2.2.2.1, (sideHi w u.1.1 u.2.1.1 u.2.2.1, sideHi h u.1.2.1 u.2.1.2.1 u.2.2.2.1))) := by
  obtain ⟨⟨a1, a2⟩, ⟨b1, b2⟩, c1, c2⟩ := hu
  unfold setup_Box
  rw [side_is fl a1 b1 c1, ob_some, side_is fl a2 b2 c2, ob_some]

theorem setup_shown (fl : Nat) : glazierlaw10_shown fl = some true := by
  unfold glazierlaw10_shown
  rw [box_is fl ⟨⟨⟨by decide, by decide⟩, ⟨by decide, by decide⟩⟩, ⟨⟨by decide, by decide⟩, ⟨by decide, by decide⟩⟩, ⟨⟨by decide, by decide⟩, ⟨by decide, by decide⟩⟩⟩, ob_some]
  decide +kernel

theorem setup_fit (u : Vtx × Vtx × Vtx) : ∃ a b c, glazierlaw10_fit u = some (a, (b, c)) ∧ fitC a ∧ fitC b ∧ fitC c := by
  obtain ⟨a, ea, ha⟩ := fit_C u.1
  obtain ⟨b, eb, hb⟩ := fit_C u.2.1
  obtain ⟨c, ec, hc⟩ := fit_C u.2.2
  refine ⟨a, b, c, ?_, ha, hb, hc⟩
  unfold glazierlaw10_fit
  rw [ea, ob_some, eb, ob_some, ec, ob_some]
end Go.Proofs.Ytfejdcdomgeogaa.G
