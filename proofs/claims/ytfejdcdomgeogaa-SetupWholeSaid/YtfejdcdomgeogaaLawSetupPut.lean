/- Vertices that are put inside of all planes: one part, or none. -/
import Derived.Test.YtfejdcdomgeogaaLawSetupIn
set_option linter.unusedVariables false
namespace Go.Proofs.Ytfejdcdomgeogaa.G
open Go Go.RowKit Go.Proofs.Ytfejdcdomgeogaa.M

theorem os_r {α β γ : Type} (x : β) (f : α → Option γ) (g : β → Option γ) : osum (.inr x : α ⊕ β) f g = g x := rfl
theorem os_l {α β γ : Type} (x : α) (f : α → Option γ) (g : β → Option γ) : osum (.inl x : α ⊕ β) f g = f x := rfl

/-- A vertex put inside, by how great its W may be. -/
def kW (m : Int) (v : Vtx) : Int := 1 + Int.tmod v.2.2.2.1 m
def inV (m : Int) (v : Vtx) : Vtx := (Int.tmod v.1 (4 * kW m v + 1), (Int.tmod v.2.1 (4 * kW m v + 1), (Int.tmod v.2.2.1 (kW m v + 1), (kW m v, v.2.2.2.2))))

theorem kW_in {m : Int} (hm : 1 ≤ m ∧ m ≤ 4096) {v : Vtx} (hv : fitC v) : 1 ≤ kW m v ∧ kW m v ≤ m := by
  have h1 := Int.tmod_lt_of_pos v.2.2.2.1 (show 0 < m by omega)
  have h2 := Int.tmod_nonneg m (show 0 ≤ v.2.2.2.1 by have := hv.2.2.2.1; omega)
  unfold kW
  omega

theorem inV_in {m : Int} (hm : 1 ≤ m ∧ m ≤ 4096) {v : Vtx} (hv : fitC v) : (-(4 * kW m v) ≤ (inV m v).1 ∧ (inV m v).1 ≤ 4 * kW m v) ∧ (-(4 * kW m v) ≤ (inV m v).2.1 ∧ (inV m v).2.1 ≤ 4 * kW m v) ∧ (-(kW m v) ≤ (inV m v).2.2.1 ∧ (inV m v).2.2.1 ≤ kW m v) := by
  have k := kW_in hm hv
  have t1 := tmod_lt (a := v.1) (m := 4 * kW m v + 1) (by omega)
  have t2 := tmod_lt (a := v.2.1) (m := 4 * kW m v + 1) (by omega)
  have t3 := tmod_lt (a := v.2.2.1) (m := kW m v + 1) (by omega)
  unfold inV
  dsimp only
  omega

theorem inV_ok {m : Int} (hm : 1 ≤ m ∧ m ≤ 4096) {v : Vtx} (hv : fitC v) : okB (inV m v) := by
  have k := kW_in hm hv
  obtain ⟨h1, h2, h3⟩ := inV_in hm hv
  have hb := fitC_ok hv
  refine ⟨⟨by omega, by omega⟩, ⟨by omega, by omega⟩, ⟨by omega, by omega⟩, ⟨?_, ?_⟩, hb.2.2.2.2⟩
  · show -1048576 ≤ kW m v; omega
  · show kW m v ≤ 1048576; omega

theorem inV_dist {m : Int} (hm : 1 ≤ m ∧ m ≤ 4096) {v : Vtx} (hv : fitC v) {p : Int} (hp : isP p) : 0 ≤ dist p (inV m v) := by
  obtain ⟨h1, h2, h3⟩ := inV_in hm hv
  have e : (inV m v).2.2.2.1 = kW m v := rfl
  rcases five hp with rfl | rfl | rfl | rfl | rfl
  · rw [dist0, e]; omega
  · rw [dist1, e]; omega
  · rw [dist2, e]; omega
  · rw [dist3, e]; omega
  · rw [dist4, e]; omega

theorem poly_stays {l : List Vtx} (hl : 3 ≤ l.length) (h : ∀ p, isP p → ∀ v ∈ l, 0 ≤ dist p v) : polyL l = l := by
  have e : allL l = l := by
    unfold allL
    rw [byL_stays (h 0 (by unfold isP; omega)), byL_stays (h 1 (by unfold isP; omega)), byL_stays (h 2 (by unfold isP; omega)), byL_stays (h 3 (by unfold isP; omega)), byL_stays (h 4 (by unfold isP; omega))]
  unfold polyL
  rw [e, if_neg (by omega)]

theorem pts3 {w h : Int} (hw : 1 ≤ w ∧ w ≤ 64) (hh : 1 ≤ h ∧ h ≤ 64) {a b c : Vtx} (ha : 1 ≤ a.2.2.2.1) (hb : 1 ≤ b.2.2.2.1) (hc : 1 ≤ c.2.2.2.1) : ptsL w h [a, b, c] = [ptS w h a, ptS w h b, ptS w h c] ∧ [a, b, c].all (onS w h) = true := by
  have o : ∀ {v : Vtx}, 1 ≤ v.2.2.2.1 → onS w h v = true := fun hv => decide_eq_true ⟨hw, hh, hv⟩
  have e : [a, b, c].all (onS w h) = true := by
    simp only [List.all_cons, List.all_nil, o ha, o hb, o hc]
    rfl
  refine ⟨?_, e⟩
  unfold ptsL
  rw [if_pos e]
  rfl

theorem fan3 (p q r : Px) : fan [p, q, r] = if (turn (p, (q, r))).2 then [(0, (turn (p, (q, r))).1)] else [] := by
  have e : fan [p, q, r] = piece [p, q, r] 2 := by
    unfold fan
    show (List.range' 2 1).flatMap _ = _
    rw [show List.range' 2 1 = [2] from rfl, List.flatMap_cons, List.flatMap_nil, List.append_nil]
  rw [e]
  unfold piece
  rfl

/-- The parts of what is inside. -/
theorem parts_in {fl : Nat} (hfl : 5000 ≤ fl) {m w h : Int} (hm : 1 ≤ m ∧ m ≤ 4096) (hw : 1 ≤ w ∧ w ≤ 64) (hh : 1 ≤ h ∧ h ≤ 64) {a b c : Vtx} (ha : fitC a) (hb : fitC b) (hc : fitC c) :
    setup_Parts fl w h (inV m a, (inV m b, inV m c)) = some (if (turn (ptS w h (inV m a), (ptS w h (inV m b), ptS w h (inV m c)))).2 then [(0, (turn (ptS w h (inV m a), (ptS w h (inV m b), ptS w h (inV m c)))).1)] else []) := by
  rw [parts_spec hfl hw hh (inV_ok hm ha) (inV_ok hm hb) (inV_ok hm hc), poly_stays (by simp) (fun p hp v hv => by
    simp only [List.mem_cons, List.not_mem_nil, or_false] at hv
    rcases hv with rfl | rfl | rfl
    · exact inV_dist hm ha hp
    · exact inV_dist hm hb hp
    · exact inV_dist hm hc hp), (pts3 hw hh (kW_in hm ha).1 (kW_in hm hb).1 (kW_in hm hc).1).1, fan3]
end Go.Proofs.Ytfejdcdomgeogaa.G
