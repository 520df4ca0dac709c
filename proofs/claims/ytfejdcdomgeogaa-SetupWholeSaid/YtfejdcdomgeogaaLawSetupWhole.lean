/- SetupWhole holds. -/
import Derived.Test.YtfejdcdomgeogaaLawSetupPut
set_option linter.unusedVariables false
namespace Go.Proofs.Ytfejdcdomgeogaa.setupWhole
open Go Go.RowKit Go.Proofs.Ytfejdcdomgeogaa.M Go.Proofs.Ytfejdcdomgeogaa.G

/-- A vertex put inside, and then outside of one plane (5: of none). -/
def outV (p : Int) (v : Vtx) : Vtx :=
  if p = 0 then ((inV 4096 v).1, ((inV 4096 v).2.1, (-kW 4096 v - 1, (inV 4096 v).2.2.2)))
  else if p = 1 then (-4 * kW 4096 v - 1, (inV 4096 v).2)
  else if p = 2 then (4 * kW 4096 v + 1, (inV 4096 v).2)
  else if p = 3 then ((inV 4096 v).1, (-4 * kW 4096 v - 1, (inV 4096 v).2.2))
  else if p = 4 then ((inV 4096 v).1, (4 * kW 4096 v + 1, (inV 4096 v).2.2))
  else inV 4096 v

theorem m4 : (1 : Int) ≤ 4096 ∧ (4096 : Int) ≤ 4096 := by decide

def isQ (p : Int) : Prop := p = 0 ∨ p = 1 ∨ p = 2 ∨ p = 3 ∨ p = 4 ∨ p = 5

theorem outV_5 (v : Vtx) : outV 5 v = inV 4096 v := rfl

theorem outV_ok {p : Int} (hp : isQ p) {v : Vtx} (hv : fitC v) : okB (outV p v) := by
  have k := kW_in m4 hv
  obtain ⟨⟨a1, a2⟩, ⟨b1, b2⟩, c1, c2⟩ := inV_in m4 hv
  have ok := inV_ok m4 hv
  obtain ⟨o1, o2, o3, o4⟩ := ok
  rcases hp with rfl | rfl | rfl | rfl | rfl | rfl
  · exact ⟨o1, o2, ⟨by show -1048576 ≤ -kW 4096 v - 1; omega, by show -kW 4096 v - 1 ≤ 1048576; omega⟩, o4⟩
  · exact ⟨⟨by show -1048576 ≤ -4 * kW 4096 v - 1; omega, by show -4 * kW 4096 v - 1 ≤ 1048576; omega⟩, o2, o3, o4⟩
  · exact ⟨⟨by show -1048576 ≤ 4 * kW 4096 v + 1; omega, by show 4 * kW 4096 v + 1 ≤ 1048576; omega⟩, o2, o3, o4⟩
  · exact ⟨o1, ⟨by show -1048576 ≤ -4 * kW 4096 v - 1; omega, by show -4 * kW 4096 v - 1 ≤ 1048576; omega⟩, o3, o4⟩
  · exact ⟨o1, ⟨by show -1048576 ≤ 4 * kW 4096 v + 1; omega, by show 4 * kW 4096 v + 1 ≤ 1048576; omega⟩, o3, o4⟩
  · exact ⟨o1, o2, o3, o4⟩

theorem d0 (v : Vtx) (hv : fitC v) : dist 0 (outV 0 v) < 0 := by
  rw [dist0]; show -kW 4096 v - 1 + kW 4096 v < 0; omega
theorem d1 (v : Vtx) (hv : fitC v) : dist 1 (outV 1 v) < 0 ∧ 0 ≤ dist 0 (outV 1 v) := by
  obtain ⟨_, _, c1, c2⟩ := inV_in m4 hv
  rw [dist1, dist0]
  refine ⟨?_, ?_⟩
  · show 4 * kW 4096 v + (-4 * kW 4096 v - 1) < 0; omega
  · show 0 ≤ (inV 4096 v).2.2.1 + kW 4096 v; omega
theorem d2 (v : Vtx) (hv : fitC v) : dist 2 (outV 2 v) < 0 ∧ 0 ≤ dist 0 (outV 2 v) ∧ 0 ≤ dist 1 (outV 2 v) := by
  have k := kW_in m4 hv
  obtain ⟨_, _, c1, c2⟩ := inV_in m4 hv
  rw [dist2, dist1, dist0]
  refine ⟨?_, ?_, ?_⟩
  · show 4 * kW 4096 v - (4 * kW 4096 v + 1) < 0; omega
  · show 0 ≤ (inV 4096 v).2.2.1 + kW 4096 v; omega
  · show 0 ≤ 4 * kW 4096 v + (4 * kW 4096 v + 1); omega
theorem d3 (v : Vtx) (hv : fitC v) : dist 3 (outV 3 v) < 0 ∧ 0 ≤ dist 0 (outV 3 v) ∧ 0 ≤ dist 1 (outV 3 v) ∧ 0 ≤ dist 2 (outV 3 v) := by
  have k := kW_in m4 hv
  obtain ⟨⟨a1, a2⟩, _, c1, c2⟩ := inV_in m4 hv
  rw [dist3, dist2, dist1, dist0]
  refine ⟨?_, ?_, ?_, ?_⟩
  · show 4 * kW 4096 v + (-4 * kW 4096 v - 1) < 0; omega
  · show 0 ≤ (inV 4096 v).2.2.1 + kW 4096 v; omega
  · show 0 ≤ 4 * kW 4096 v + (inV 4096 v).1; omega
  · show 0 ≤ 4 * kW 4096 v - (inV 4096 v).1; omega
theorem d4 (v : Vtx) (hv : fitC v) : dist 4 (outV 4 v) < 0 ∧ 0 ≤ dist 0 (outV 4 v) ∧ 0 ≤ dist 1 (outV 4 v) ∧ 0 ≤ dist 2 (outV 4 v) ∧ 0 ≤ dist 3 (outV 4 v) := by
  have k := kW_in m4 hv
  obtain ⟨⟨a1, a2⟩, _, c1, c2⟩ := inV_in m4 hv
  rw [dist4, dist3, dist2, dist1, dist0]
  refine ⟨?_, ?_, ?_, ?_, ?_⟩
  · show 4 * kW 4096 v - (4 * kW 4096 v + 1) < 0; omega
  · show 0 ≤ (inV 4096 v).2.2.1 + kW 4096 v; omega
  · show 0 ≤ 4 * kW 4096 v + (inV 4096 v).1; omega
  · show 0 ≤ 4 * kW 4096 v - (inV 4096 v).1; omega
  · show 0 ≤ 4 * kW 4096 v + (4 * kW 4096 v + 1); omega

theorem poly_goes {p : Int} (hp : isP p) {l : List Vtx} (hl : ∀ v ∈ l, fitC v) : polyL (l.map (outV p)) = [] := by
  have each : ∀ {P : Vtx → Prop}, (∀ v, fitC v → P (outV p v)) → ∀ v ∈ l.map (outV p), P v := fun h v hv => by
    obtain ⟨u, hu, rfl⟩ := List.mem_map.1 hv
    exact h u (hl u hu)
  have e : allL (l.map (outV p)) = [] := by
    unfold allL
    rcases five hp with rfl | rfl | rfl | rfl | rfl
    · rw [byL_goes (by unfold isP; omega) (each fun v hv => d0 v hv), byL_nil, byL_nil, byL_nil, byL_nil]
    · rw [byL_stays (each fun v hv => (d1 v hv).2), byL_goes (by unfold isP; omega) (each fun v hv => (d1 v hv).1), byL_nil, byL_nil, byL_nil]
    · rw [byL_stays (each fun v hv => (d2 v hv).2.1), byL_stays (each fun v hv => (d2 v hv).2.2), byL_goes (by unfold isP; omega) (each fun v hv => (d2 v hv).1), byL_nil, byL_nil]
    · rw [byL_stays (each fun v hv => (d3 v hv).2.1), byL_stays (each fun v hv => (d3 v hv).2.2.1), byL_stays (each fun v hv => (d3 v hv).2.2.2), byL_goes (by unfold isP; omega) (each fun v hv => (d3 v hv).1), byL_nil]
    · rw [byL_stays (each fun v hv => (d4 v hv).2.1), byL_stays (each fun v hv => (d4 v hv).2.2.1), byL_stays (each fun v hv => (d4 v hv).2.2.2.1), byL_stays (each fun v hv => (d4 v hv).2.2.2.2), byL_goes (by unfold isP; omega) (each fun v hv => (d4 v hv).1)]
  unfold polyL
  rw [e]
  rfl

theorem parts_out {fl : Nat} (hfl : 5000 ≤ fl) {p w h : Int} (hp : isP p) (hw : 1 ≤ w ∧ w ≤ 64) (hh : 1 ≤ h ∧ h ≤ 64) {a b c : Vtx} (ha : fitC a) (hb : fitC b) (hc : fitC c) : setup_Parts fl w h (outV p a, (outV p b, outV p c)) = some [] := by
  have hq : isQ p := by
    have := five hp
    unfold isQ
    omega
  have e := poly_goes hp (l := [a, b, c]) (fun v hv => by
    simp only [List.mem_cons, List.not_mem_nil, or_false] at hv
    rcases hv with rfl | rfl | rfl <;> assumption)
  rw [parts_spec hfl hw hh (outV_ok hq ha) (outV_ok hq hb) (outV_ok hq hc)]
  rw [show polyL [outV p a, outV p b, outV p c] = [] from e]
  rfl

theorem put1 (fl : Nat) {n p w h : Int} {t : Bool} {a b c : Vtx} (hv : fitC a) (hp : isQ p) (e : F.rem n 6 = p) :
    glazierlaw10_SetupWhole_j1 fl n t w h a.1 a.2.1 a.2.2.1 a.2.2.2.1 a.2.2.2.2.1 a.2.2.2.2.2.1 a.2.2.2.2.2.2.1 a.2.2.2.2.2.2.2 b.1 b.2.1 b.2.2.1 b.2.2.2.1 b.2.2.2.2.1 b.2.2.2.2.2.1 b.2.2.2.2.2.2.1 b.2.2.2.2.2.2.2 c.1 c.2.1 c.2.2.1 c.2.2.2.1 c.2.2.2.2.1 c.2.2.2.2.2.1 c.2.2.2.2.2.2.1 c.2.2.2.2.2.2.2 = some (n, (t, (w, (h, ((outV p a).1, ((outV p a).2.1, ((outV p a).2.2.1, ((outV p a).2.2.2.1, ((outV p a).2.2.2.2.1, ((outV p a).2.2.2.2.2.1, ((outV p a).2.2.2.2.2.2.1, ((outV p a).2.2.2.2.2.2.2, (b.1, (b.2.1, (b.2.2.1, (b.2.2.2.1, (b.2.2.2.2.1, (b.2.2.2.2.2.1, (b.2.2.2.2.2.2.1, (b.2.2.2.2.2.2.2, (c.1, (c.2.1, (c.2.2.1, (c.2.2.2.1, (c.2.2.2.2.1, (c.2.2.2.2.2.1, (c.2.2.2.2.2.2.1, (c.2.2.2.2.2.2.2, ())))))))))))))))))))))))))))) := by
  have k := kW_in m4 hv
  have wv : F.add .i64 1 (F.rem a.2.2.2.1 4096) = kW 4096 a := addI (by unfold kW at k; unfold F.rem; omega)
  unfold glazierlaw10_SetupWhole_j1
  rw [bnd_eq, bnd_eq, wv, bnd_eq, mulI (a := 4) (b := kW 4096 a) (by omega), bnd_eq, addI (a := 4 * kW 4096 a) (by omega), nz_t (a := 4 * kW 4096 a + 1) (by omega), bgd_t, bnd_eq, bnd_eq, bnd_eq, addI (a := 4 * kW 4096 a) (by omega), nz_t (a := 4 * kW 4096 a + 1) (by omega), bgd_t, bnd_eq, bnd_eq, addI (a := kW 4096 a) (by omega), nz_t (a := kW 4096 a + 1) (by omega), bgd_t, bnd_eq, bnd_eq, e, bnd_eq]
  rcases hp with rfl | rfl | rfl | rfl | rfl | rfl
  · rw [eq_t rfl, bite_t, bnd_eq, negI (by omega), bnd_eq, subI (by omega)]; rfl
  · rw [eq_f (by decide), bite_f, bnd_eq, eq_t rfl, bite_t, bnd_eq, mulI (by omega), bnd_eq, subI (by omega)]; rfl
  · rw [eq_f (by decide), bite_f, bnd_eq, eq_f (by decide), bite_f, bnd_eq, eq_t rfl, bite_t, bnd_eq, bnd_eq, addI (a := 4 * kW 4096 a) (by omega)]; rfl
  · rw [eq_f (by decide), bite_f, bnd_eq, eq_f (by decide), bite_f, bnd_eq, eq_f (by decide), bite_f, bnd_eq, eq_t rfl, bite_t, bnd_eq, mulI (by omega), bnd_eq, subI (by omega)]; rfl
  · rw [eq_f (by decide), bite_f, bnd_eq, eq_f (by decide), bite_f, bnd_eq, eq_f (by decide), bite_f, bnd_eq, eq_f (by decide), bite_f, bnd_eq, eq_t rfl, bite_t, bnd_eq, bnd_eq, addI (a := 4 * kW 4096 a) (by omega)]; rfl
  · rw [eq_f (by decide), bite_f, bnd_eq, eq_f (by decide), bite_f, bnd_eq, eq_f (by decide), bite_f, bnd_eq, eq_f (by decide), bite_f, bnd_eq, eq_f (by decide), bite_f]; rfl

theorem put2 (fl : Nat) {n p w h : Int} {t : Bool} {a b c : Vtx} (hv : fitC b) (hp : isQ p) (e : F.rem n 6 = p) :
    glazierlaw10_SetupWhole_j2 fl n t w h (outV p a).1 (outV p a).2.1 (outV p a).2.2.1 (outV p a).2.2.2.1 (outV p a).2.2.2.2.1 (outV p a).2.2.2.2.2.1 (outV p a).2.2.2.2.2.2.1 (outV p a).2.2.2.2.2.2.2 b.1 b.2.1 b.2.2.1 b.2.2.2.1 b.2.2.2.2.1 b.2.2.2.2.2.1 b.2.2.2.2.2.2.1 b.2.2.2.2.2.2.2 c.1 c.2.1 c.2.2.1 c.2.2.2.1 c.2.2.2.2.1 c.2.2.2.2.2.1 c.2.2.2.2.2.2.1 c.2.2.2.2.2.2.2 = some (n, (t, (w, (h, ((outV p a).1, ((outV p a).2.1, ((outV p a).2.2.1, ((outV p a).2.2.2.1, ((outV p a).2.2.2.2.1, ((outV p a).2.2.2.2.2.1, ((outV p a).2.2.2.2.2.2.1, ((outV p a).2.2.2.2.2.2.2, ((outV p b).1, ((outV p b).2.1, ((outV p b).2.2.1, ((outV p b).2.2.2.1, ((outV p b).2.2.2.2.1, ((outV p b).2.2.2.2.2.1, ((outV p b).2.2.2.2.2.2.1, ((outV p b).2.2.2.2.2.2.2, (c.1, (c.2.1, (c.2.2.1, (c.2.2.2.1, (c.2.2.2.2.1, (c.2.2.2.2.2.1, (c.2.2.2.2.2.2.1, (c.2.2.2.2.2.2.2, ())))))))))))))))))))))))))))) := by
  have k := kW_in m4 hv
  have wv : F.add .i64 1 (F.rem b.2.2.2.1 4096) = kW 4096 b := addI (by unfold kW at k; unfold F.rem; omega)
  unfold glazierlaw10_SetupWhole_j2
  rw [bnd_eq, bnd_eq, wv, bnd_eq, mulI (a := 4) (b := kW 4096 b) (by omega), bnd_eq, addI (a := 4 * kW 4096 b) (by omega), nz_t (a := 4 * kW 4096 b + 1) (by omega), bgd_t, bnd_eq, bnd_eq, bnd_eq, addI (a := 4 * kW 4096 b) (by omega), nz_t (a := 4 * kW 4096 b + 1) (by omega), bgd_t, bnd_eq, bnd_eq, addI (a := kW 4096 b) (by omega), nz_t (a := kW 4096 b + 1) (by omega), bgd_t, bnd_eq, bnd_eq, e, bnd_eq]
  rcases hp with rfl | rfl | rfl | rfl | rfl | rfl
  · rw [eq_t rfl, bite_t, bnd_eq, negI (by omega), bnd_eq, subI (by omega)]; rfl
  · rw [eq_f (by decide), bite_f, bnd_eq, eq_t rfl, bite_t, bnd_eq, mulI (by omega), bnd_eq, subI (by omega)]; rfl
  · rw [eq_f (by decide), bite_f, bnd_eq, eq_f (by decide), bite_f, bnd_eq, eq_t rfl, bite_t, bnd_eq, bnd_eq, addI (a := 4 * kW 4096 b) (by omega)]; rfl
  · rw [eq_f (by decide), bite_f, bnd_eq, eq_f (by decide), bite_f, bnd_eq, eq_f (by decide), bite_f, bnd_eq, eq_t rfl, bite_t, bnd_eq, mulI (by omega), bnd_eq, subI (by omega)]; rfl
  · rw [eq_f (by decide), bite_f, bnd_eq, eq_f (by decide), bite_f, bnd_eq, eq_f (by decide), bite_f, bnd_eq, eq_f (by decide), bite_f, bnd_eq, eq_t rfl, bite_t, bnd_eq, bnd_eq, addI (a := 4 * kW 4096 b) (by omega)]; rfl
  · rw [eq_f (by decide), bite_f, bnd_eq, eq_f (by decide), bite_f, bnd_eq, eq_f (by decide), bite_f, bnd_eq, eq_f (by decide), bite_f, bnd_eq, eq_f (by decide), bite_f]; rfl

theorem put3 (fl : Nat) {n p w h : Int} {t : Bool} {a b c : Vtx} (hv : fitC c) (hp : isQ p) (e : F.rem n 6 = p) :
    glazierlaw10_SetupWhole_j3 fl n t w h (outV p a).1 (outV p a).2.1 (outV p a).2.2.1 (outV p a).2.2.2.1 (outV p a).2.2.2.2.1 (outV p a).2.2.2.2.2.1 (outV p a).2.2.2.2.2.2.1 (outV p a).2.2.2.2.2.2.2 (outV p b).1 (outV p b).2.1 (outV p b).2.2.1 (outV p b).2.2.2.1 (outV p b).2.2.2.2.1 (outV p b).2.2.2.2.2.1 (outV p b).2.2.2.2.2.2.1 (outV p b).2.2.2.2.2.2.2 c.1 c.2.1 c.2.2.1 c.2.2.2.1 c.2.2.2.2.1 c.2.2.2.2.2.1 c.2.2.2.2.2.2.1 c.2.2.2.2.2.2.2 = some (n, (t, (w, (h, ((outV p a).1, ((outV p a).2.1, ((outV p a).2.2.1, ((outV p a).2.2.2.1, ((outV p a).2.2.2.2.1, ((outV p a).2.2.2.2.2.1, ((outV p a).2.2.2.2.2.2.1, ((outV p a).2.2.2.2.2.2.2, ((outV p b).1, ((outV p b).2.1, ((outV p b).2.2.1, ((outV p b).2.2.2.1, ((outV p b).2.2.2.2.1, ((outV p b).2.2.2.2.2.1, ((outV p b).2.2.2.2.2.2.1, ((outV p b).2.2.2.2.2.2.2, ((outV p c).1, ((outV p c).2.1, ((outV p c).2.2.1, ((outV p c).2.2.2.1, ((outV p c).2.2.2.2.1, ((outV p c).2.2.2.2.2.1, ((outV p c).2.2.2.2.2.2.1, ((outV p c).2.2.2.2.2.2.2, ())))))))))))))))))))))))))))) := by
  have k := kW_in m4 hv
  have wv : F.add .i64 1 (F.rem c.2.2.2.1 4096) = kW 4096 c := addI (by unfold kW at k; unfold F.rem; omega)
  unfold glazierlaw10_SetupWhole_j3
  rw [bnd_eq, bnd_eq, wv, bnd_eq, mulI (a := 4) (b := kW 4096 c) (by omega), bnd_eq, addI (a := 4 * kW 4096 c) (by omega), nz_t (a := 4 * kW 4096 c + 1) (by omega), bgd_t, bnd_eq, bnd_eq, bnd_eq, addI (a := 4 * kW 4096 c) (by omega), nz_t (a := 4 * kW 4096 c + 1) (by omega), bgd_t, bnd_eq, bnd_eq, addI (a := kW 4096 c) (by omega), nz_t (a := kW 4096 c + 1) (by omega), bgd_t, bnd_eq, bnd_eq, e, bnd_eq]
  rcases hp with rfl | rfl | rfl | rfl | rfl | rfl
  · rw [eq_t rfl, bite_t, bnd_eq, negI (by omega), bnd_eq, subI (by omega)]; rfl
  · rw [eq_f (by decide), bite_f, bnd_eq, eq_t rfl, bite_t, bnd_eq, mulI (by omega), bnd_eq, subI (by omega)]; rfl
  · rw [eq_f (by decide), bite_f, bnd_eq, eq_f (by decide), bite_f, bnd_eq, eq_t rfl, bite_t, bnd_eq, bnd_eq, addI (a := 4 * kW 4096 c) (by omega)]; rfl
  · rw [eq_f (by decide), bite_f, bnd_eq, eq_f (by decide), bite_f, bnd_eq, eq_f (by decide), bite_f, bnd_eq, eq_t rfl, bite_t, bnd_eq, mulI (by omega), bnd_eq, subI (by omega)]; rfl
  · rw [eq_f (by decide), bite_f, bnd_eq, eq_f (by decide), bite_f, bnd_eq, eq_f (by decide), bite_f, bnd_eq, eq_f (by decide), bite_f, bnd_eq, eq_t rfl, bite_t, bnd_eq, bnd_eq, addI (a := 4 * kW 4096 c) (by omega)]; rfl
  · rw [eq_f (by decide), bite_f, bnd_eq, eq_f (by decide), bite_f, bnd_eq, eq_f (by decide), bite_f, bnd_eq, eq_f (by decide), bite_f, bnd_eq, eq_f (by decide), bite_f]; rfl

theorem eqA (x : Int × Int × Int × Int) : F.both (F.eq x.1 x.1) (F.both (F.eq x.2.1 x.2.1) (F.both (F.eq x.2.2.1 x.2.2.1) (F.eq x.2.2.2 x.2.2.2))) = true := by
  rw [eq_t rfl, eq_t rfl, eq_t rfl, eq_t rfl]; rfl

theorem eqB {x y : Int × Int × Int × Int} (h : x = y) : F.both (F.eq x.1 y.1) (F.both (F.eq x.2.1 y.2.1) (F.both (F.eq x.2.2.1 y.2.2.1) (F.eq x.2.2.2 y.2.2.2))) = true := by
  subst h; exact eqA x

theorem main (x0 : Int × Int) (x1 : Vtx × Vtx × Vtx) (n : Int) (h0 : inR .u8 x0.1 ∧ inR .u8 x0.2) (hn : 0 ≤ n ∧ n ≤ 255) : ∃ fl, glazierlaw10_SetupWhole fl x0 x1 n = some true := by
  refine ⟨5000, ?_⟩
  obtain ⟨w, ew, w1, w2⟩ := side_spec (m := 64) h0.1 (by decide) (by decide)
  obtain ⟨h, eh, g1, g2⟩ := side_spec (m := 64) h0.2 (by decide) (by decide)
  obtain ⟨a, b, c, ef, ha, hb, hc⟩ := setup_fit x1
  have hw : 1 ≤ w ∧ w ≤ 64 := ⟨w1, w2⟩
  have hh : 1 ≤ h ∧ h ≤ 64 := ⟨g1, g2⟩
  obtain ⟨p, hpe⟩ : ∃ p, p = n % 6 := ⟨_, rfl⟩
  have e6 : F.rem n 6 = p := by rw [hpe]; exact Int.tmod_eq_emod_of_nonneg hn.1
  have hp : isQ p := by unfold isQ; omega
  unfold glazierlaw10_SetupWhole
  rw [setup_shown, ob_some, bnd_eq, bnd_eq, bnd_eq, ew, bnd_eq, bnd_eq, bnd_eq, eh, ef, ob_some]
  dsimp only
  rw [put1 5000 ha hp e6, ob_some]
  dsimp only
  rw [put2 5000 hb hp e6, ob_some]
  dsimp only
  rw [put3 5000 hc hp e6, ob_some]
  dsimp only
  rw [e6]
  rw [show setup_Parts 5000 w h (((outV p a).1, ((outV p a).2.1, ((outV p a).2.2.1, ((outV p a).2.2.2.1, ((outV p a).2.2.2.2.1, ((outV p a).2.2.2.2.2.1, ((outV p a).2.2.2.2.2.2.1, (outV p a).2.2.2.2.2.2.2))))))), (((outV p b).1, ((outV p b).2.1, ((outV p b).2.2.1, ((outV p b).2.2.2.1, ((outV p b).2.2.2.2.1, ((outV p b).2.2.2.2.2.1, ((outV p b).2.2.2.2.2.2.1, (outV p b).2.2.2.2.2.2.2))))))), ((outV p c).1, ((outV p c).2.1, ((outV p c).2.2.1, ((outV p c).2.2.2.1, ((outV p c).2.2.2.2.1, ((outV p c).2.2.2.2.2.1, ((outV p c).2.2.2.2.2.2.1, (outV p c).2.2.2.2.2.2.2))))))))) = setup_Parts 5000 w h (outV p a, (outV p b, outV p c)) from rfl]
  by_cases h5 : p = 5
  · subst h5
    have kb := kW_in m4 hb
    obtain ⟨t, ht⟩ : ∃ t : Tri, t = (ptS w h (inV 4096 a), (ptS w h (inV 4096 b), ptS w h (inV 4096 c))) := ⟨_, rfl⟩
    have ep := parts_in (fl := 5000) (by omega) m4 hw hh ha hb hc
    rw [← ht] at ep
    have ta : t.1.2.2.2 = a.2.2.2.2 := by rw [ht]; rfl
    have tb : t.2.1.2.2.2 = b.2.2.2.2 := by rw [ht]; rfl
    have tc : t.2.2.2.2.2 = c.2.2.2.2 := by rw [ht]; rfl
    rw [outV_5, outV_5, outV_5, ep, ob_some, bnd_eq, bnd_eq, lt_f (by decide), bite_f, bnd_eq, bnd_eq]
    by_cases hk : (turn t).2 = true
    · rw [if_pos hk]
      have l1 : F.len [((0 : Int), (turn t).1)] = 1 := rfl
      have g0 : F.get [((0 : Int), (turn t).1)] 0 = some (0, (turn t).1) := rfl
      rw [l1, eq_f (by decide), bite_f, bite_t, bnd_eq, bnd_eq, eq_t rfl, bite_t, g0, ob_some, bnd_eq, eq_t rfl, bite_t, ob_some, bnd_eq]
      rcases Int.lt_trichotomy (area t) 0 with k | k | k
      · have et : (turn t).1 = (t.1, (t.2.2, t.2.1)) := by
          unfold turn
          rw [if_neg (by omega), if_pos k]
        rw [et]
        rw [eqB (x := t.1.2.2.2) (y := (inV 4096 a).2.2.2.2) ta, bite_t, ob_some, bnd_eq]
        cases F.both (F.eq t.2.2.2.2.2.1 (inV 4096 b).2.2.2.2.1) (F.both (F.eq t.2.2.2.2.2.2.1 (inV 4096 b).2.2.2.2.2.1) (F.both (F.eq t.2.2.2.2.2.2.2.1 (inV 4096 b).2.2.2.2.2.2.1) (F.eq t.2.2.2.2.2.2.2.2 (inV 4096 b).2.2.2.2.2.2.2))) with
        | true =>
          rw [bite_t, ob_some, bnd_eq]
          cases F.both (F.eq t.2.1.2.2.2.1 (inV 4096 c).2.2.2.2.1) (F.both (F.eq t.2.1.2.2.2.2.1 (inV 4096 c).2.2.2.2.2.1) (F.both (F.eq t.2.1.2.2.2.2.2.1 (inV 4096 c).2.2.2.2.2.2.1) (F.eq t.2.1.2.2.2.2.2.2 (inV 4096 c).2.2.2.2.2.2.2))) with
          | true => rw [bite_t]
          | false => rw [bite_f, ob_some, bnd_eq, eqB (x := t.2.2.2.2.2) (y := (inV 4096 c).2.2.2.2) tc, bite_t, ob_some, bnd_eq, eqB (x := t.2.1.2.2.2) (y := (inV 4096 b).2.2.2.2) tb]
        | false => rw [bite_f, ob_some, bnd_eq, eqB (x := t.2.2.2.2.2) (y := (inV 4096 c).2.2.2.2) tc, bite_t, ob_some, bnd_eq, eqB (x := t.2.1.2.2.2) (y := (inV 4096 b).2.2.2.2) tb]
      · exfalso
        unfold turn at hk
        rw [if_pos k] at hk
        cases hk
      · have et : (turn t).1 = t := by
          unfold turn
          rw [if_neg (by omega), if_neg (by omega)]
        rw [et]
        rw [eqB (x := t.1.2.2.2) (y := (inV 4096 a).2.2.2.2) ta, bite_t, ob_some, bnd_eq, eqB (x := t.2.1.2.2.2) (y := (inV 4096 b).2.2.2.2) tb, bite_t, ob_some, bnd_eq, eqB (x := t.2.2.2.2.2) (y := (inV 4096 c).2.2.2.2) tc, bite_t]
    · rw [if_neg hk]
      rw [show F.len ([] : List (Int × Tri)) = 0 from rfl, eq_t rfl, bite_t]
  · have hpp : isP p := by unfold isQ at hp; unfold isP; omega
    rw [parts_out (by omega) hpp hw hh ha hb hc, ob_some, bnd_eq, bnd_eq, lt_t (by unfold isP at hpp; omega), bite_t, bite_t, bnd_eq]
    rfl

theorem law (x0 : (Ty.pair (.int .u8) (.int .u8)).T) (x1 : (Ty.pair (.pair (.int .i64) (.pair (.int .i64) (.pair (.int .i64) (.pair (.int .i64) (.pair (.int .i64) (.pair (.int .i64) (.pair (.int .i64) (.int .i64)))))))) (.pair (.pair (.int .i64) (.pair (.int .i64) (.pair (.int .i64) (.pair (.int .i64) (.pair (.int .i64) (.pair (.int .i64) (.pair (.int .i64) (.int .i64)))))))) (.pair (.int .i64) (.pair (.int .i64) (.pair (.int .i64) (.pair (.int .i64) (.pair (.int .i64) (.pair (.int .i64) (.pair (.int .i64) (.int .i64)))))))))).T) (x2 : (Ty.int .u8).T)
    (h0 : okT (Ty.pair (.int .u8) (.int .u8)) x0) (h1 : okT (Ty.pair (.pair (.int .i64) (.pair (.int .i64) (.pair (.int .i64) (.pair (.int .i64) (.pair (.int .i64) (.pair (.int .i64) (.pair (.int .i64) (.int .i64)))))))) (.pair (.pair (.int .i64) (.pair (.int .i64) (.pair (.int .i64) (.pair (.int .i64) (.pair (.int .i64) (.pair (.int .i64) (.pair (.int .i64) (.int .i64)))))))) (.pair (.int .i64) (.pair (.int .i64) (.pair (.int .i64) (.pair (.int .i64) (.pair (.int .i64) (.pair (.int .i64) (.pair (.int .i64) (.int .i64)))))))))) x1) (h2 : okT (.int .u8) x2) : ∃ fl, glazierlaw10_SetupWhole fl x0 x1 x2 = some true :=
  main x0 x1 x2 ⟨h0.1, h0.2⟩ (inR_u8.1 h2)
end Go.Proofs.Ytfejdcdomgeogaa.setupWhole
