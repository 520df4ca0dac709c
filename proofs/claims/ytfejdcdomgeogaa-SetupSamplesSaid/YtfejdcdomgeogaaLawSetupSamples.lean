/- SetupSamples holds. -/
import Derived.Test.YtfejdcdomgeogaaLawSetupPut
set_option linter.unusedVariables false
namespace Go.Proofs.Ytfejdcdomgeogaa.setupSamples
open Go Go.RowKit Go.Proofs.Ytfejdcdomgeogaa.M Go.Proofs.Ytfejdcdomgeogaa.G

theorem and_zero {m : Int} : F.and .u8 m 0 = 0 := by
  unfold F.and
  rw [show BitVec.ofInt IntKind.u8.bits 0 = 0#8 from rfl]
  show IntKind.wrap .u8 ((BitVec.ofInt 8 m &&& 0#8).toNat : Int) = 0
  rw [BitVec.and_zero]
  rfl

theorem zero_or {m : Int} (h : 0 ≤ m ∧ m ≤ 15) : F.or .u8 0 m = m := by
  have all : ∀ k : Fin 16, F.or .u8 0 ((k : Nat) : Int) = ((k : Nat) : Int) := by decide
  have := all ⟨m.toNat, by omega⟩
  rw [show ((m.toNat : Nat) : Int) = m by omega] at this
  exact this

def parts1 (ok : Bool) (u : Tri) : List (Int × Tri) := if ok then [(0, u)] else []

theorem one (fl : Nat) (hfl : 3 ≤ fl) {t ok : Bool} {u : Tri} {w h y x m : Int} (hm : 0 ≤ m ∧ m ≤ 15) (hk : ok = true → glazierref08_Mask fl u x y = some m) :
    glazierlaw10_SetupSamples_l5 fl fl t w h (parts1 ok u) ok y x 0 0 u.1.1 u.1.2.1 u.1.2.2.1 u.1.2.2.2.1 u.1.2.2.2.2.1 u.1.2.2.2.2.2.1 u.1.2.2.2.2.2.2 u.2.1.1 u.2.1.2.1 u.2.1.2.2.1 u.2.1.2.2.2.1 u.2.1.2.2.2.2.1 u.2.1.2.2.2.2.2.1 u.2.1.2.2.2.2.2.2 u.2.2.1 u.2.2.2.1 u.2.2.2.2.1 u.2.2.2.2.2.1 u.2.2.2.2.2.2.1 u.2.2.2.2.2.2.2.1 u.2.2.2.2.2.2.2.2 = some (.inr (t, (w, (h, (parts1 ok u, (ok, (y, (x, (if ok then m else 0, (u.1.1, (u.1.2.1, (u.1.2.2.1, (u.1.2.2.2.1, (u.1.2.2.2.2.1, (u.1.2.2.2.2.2.1, (u.1.2.2.2.2.2.2, (u.2.1.1, (u.2.1.2.1, (u.2.1.2.2.1, (u.2.1.2.2.2.1, (u.2.1.2.2.2.2.1, (u.2.1.2.2.2.2.2.1, (u.2.1.2.2.2.2.2.2, (u.2.2.1, (u.2.2.2.1, (u.2.2.2.2.1, (u.2.2.2.2.2.1, (u.2.2.2.2.2.2.1, (u.2.2.2.2.2.2.2.1, (u.2.2.2.2.2.2.2.2, ())))))))))))))))))))))))))))))) := by
  obtain ⟨n, hn⟩ : ∃ n, fl = n + 3 := ⟨fl - 3, by omega⟩
  have go : glazierlaw10_SetupSamples_l5 fl (n + 3) t w h (parts1 ok u) ok y x 0 0 u.1.1 u.1.2.1 u.1.2.2.1 u.1.2.2.2.1 u.1.2.2.2.2.1 u.1.2.2.2.2.2.1 u.1.2.2.2.2.2.2 u.2.1.1 u.2.1.2.1 u.2.1.2.2.1 u.2.1.2.2.2.1 u.2.1.2.2.2.2.1 u.2.1.2.2.2.2.2.1 u.2.1.2.2.2.2.2.2 u.2.2.1 u.2.2.2.1 u.2.2.2.2.1 u.2.2.2.2.2.1 u.2.2.2.2.2.2.1 u.2.2.2.2.2.2.2.1 u.2.2.2.2.2.2.2.2 = some (.inr (t, (w, (h, (parts1 ok u, (ok, (y, (x, (if ok then m else 0, (u.1.1, (u.1.2.1, (u.1.2.2.1, (u.1.2.2.2.1, (u.1.2.2.2.2.1, (u.1.2.2.2.2.2.1, (u.1.2.2.2.2.2.2, (u.2.1.1, (u.2.1.2.1, (u.2.1.2.2.1, (u.2.1.2.2.2.1, (u.2.1.2.2.2.2.1, (u.2.1.2.2.2.2.2.1, (u.2.1.2.2.2.2.2.2, (u.2.2.1, (u.2.2.2.1, (u.2.2.2.2.1, (u.2.2.2.2.2.1, (u.2.2.2.2.2.2.1, (u.2.2.2.2.2.2.2.1, (u.2.2.2.2.2.2.2.2, ())))))))))))))))))))))))))))))) := by
    cases ok with
    | false =>
      rw [glazierlaw10_SetupSamples_l5, bnd_eq, show F.len (parts1 false u) = 0 from rfl, bnd_eq, lt_f (by decide), bite_f]
      rfl
    | true =>
      rw [glazierlaw10_SetupSamples_l5, bnd_eq, show F.len (parts1 true u) = 1 from rfl, bnd_eq, lt_t (by decide), bite_t, show F.get (parts1 true u) 0 = some (0, u) from rfl, ob_some]
      rw [show glazierref08_Mask fl ((0, u) : Int × Tri).2 x y = some m from hk rfl, ob_some, bnd_eq, and_zero, bnd_eq, ne_f rfl, bite_f, bnd_eq, zero_or hm, bnd_eq, show F.add .i64 0 1 = 1 from rfl]
      rw [glazierlaw10_SetupSamples_l5, bnd_eq, show F.len (parts1 true u) = 1 from rfl, bnd_eq, lt_f (by decide), bite_f]
      rfl
  rw [← hn] at go
  exact go

theorem row (fl : Nat) (hfl : 3 ≤ fl) {t ok : Bool} {u : Tri} {w h y : Int} (hu : ok = true → okG3 u) (hw : 1 ≤ w ∧ w ≤ 64) (hh : 1 ≤ h ∧ h ≤ 64) (hy : 0 ≤ y ∧ y < h) : ∀ (m n : Nat) (x : Int), 0 ≤ x → x + m = w → m + 1 ≤ n →
    glazierlaw10_SetupSamples_l6 fl n t w h (parts1 ok u) ok y x u.1.1 u.1.2.1 u.1.2.2.1 u.1.2.2.2.1 u.1.2.2.2.2.1 u.1.2.2.2.2.2.1 u.1.2.2.2.2.2.2 u.2.1.1 u.2.1.2.1 u.2.1.2.2.1 u.2.1.2.2.2.1 u.2.1.2.2.2.2.1 u.2.1.2.2.2.2.2.1 u.2.1.2.2.2.2.2.2 u.2.2.1 u.2.2.2.1 u.2.2.2.2.1 u.2.2.2.2.2.1 u.2.2.2.2.2.2.1 u.2.2.2.2.2.2.2.1 u.2.2.2.2.2.2.2.2 = some (.inr (t, (w, (h, (parts1 ok u, (ok, (y, (u.1.1, (u.1.2.1, (u.1.2.2.1, (u.1.2.2.2.1, (u.1.2.2.2.2.1, (u.1.2.2.2.2.2.1, (u.1.2.2.2.2.2.2, (u.2.1.1, (u.2.1.2.1, (u.2.1.2.2.1, (u.2.1.2.2.2.1, (u.2.1.2.2.2.2.1, (u.2.1.2.2.2.2.2.1, (u.2.1.2.2.2.2.2.2, (u.2.2.1, (u.2.2.2.1, (u.2.2.2.2.1, (u.2.2.2.2.2.1, (u.2.2.2.2.2.2.1, (u.2.2.2.2.2.2.2.1, (u.2.2.2.2.2.2.2.2, ()))))))))))))))))))))))))))))
  | m, 0, x, _, _, h => by omega
  | 0, n + 1, x, hx, hk, hn => by
    rw [glazierlaw10_SetupSamples_l6, bnd_eq, lt_f (by omega), bite_f]
  | m + 1, n + 1, x, hx, hk, hn => by
    have ih := row fl hfl (t := t) hu hw hh hy m n (x + 1) (by omega) (by omega) (by omega)
    obtain ⟨k, hk0, hk1⟩ : ∃ k : Int, (0 ≤ k ∧ k ≤ 15) ∧ (ok = true → glazierref08_Mask fl u x y = some k) := by
      cases ok with
      | false => exact ⟨0, by decide, fun h => by cases h⟩
      | true =>
        obtain ⟨k, ek, h0, _⟩ := mask_g fl (x := x) (y := y) (hu rfl) (by omega) (by omega)
        exact ⟨k, h0, fun _ => ek⟩
    rw [glazierlaw10_SetupSamples_l6, bnd_eq, lt_t (by omega), bite_t, one fl hfl hk0 hk1, ob_some, os_r]
    dsimp only
    cases ok with
    | false =>
      rw [bite_f, if_neg (by decide), bnd_eq, ne_f rfl, bite_f, bnd_eq, addI (by omega)]
      exact ih
    | true =>
      rw [bite_t, if_pos rfl]
      rw [show glazierref08_Mask fl ((u.1.1, (u.1.2.1, (u.1.2.2.1, (u.1.2.2.2.1, (u.1.2.2.2.2.1, (u.1.2.2.2.2.2.1, u.1.2.2.2.2.2.2)))))), ((u.2.1.1, (u.2.1.2.1, (u.2.1.2.2.1, (u.2.1.2.2.2.1, (u.2.1.2.2.2.2.1, (u.2.1.2.2.2.2.2.1, u.2.1.2.2.2.2.2.2)))))), (u.2.2.1, (u.2.2.2.1, (u.2.2.2.2.1, (u.2.2.2.2.2.1, (u.2.2.2.2.2.2.1, (u.2.2.2.2.2.2.2.1, u.2.2.2.2.2.2.2.2)))))))) x y = some k from hk1 rfl, ob_some, bnd_eq, ne_f rfl, bite_f, bnd_eq, addI (by omega)]
      exact ih

theorem rows (fl : Nat) (hfl : 70 ≤ fl) {t ok : Bool} {u : Tri} {w h : Int} (hu : ok = true → okG3 u) (hw : 1 ≤ w ∧ w ≤ 64) (hh : 1 ≤ h ∧ h ≤ 64) : ∀ (m n : Nat) (y : Int), 0 ≤ y → y + m = h → m + 1 ≤ n →
    glazierlaw10_SetupSamples_l7 fl n t w h (parts1 ok u) ok y u.1.1 u.1.2.1 u.1.2.2.1 u.1.2.2.2.1 u.1.2.2.2.2.1 u.1.2.2.2.2.2.1 u.1.2.2.2.2.2.2 u.2.1.1 u.2.1.2.1 u.2.1.2.2.1 u.2.1.2.2.2.1 u.2.1.2.2.2.2.1 u.2.1.2.2.2.2.2.1 u.2.1.2.2.2.2.2.2 u.2.2.1 u.2.2.2.1 u.2.2.2.2.1 u.2.2.2.2.2.1 u.2.2.2.2.2.2.1 u.2.2.2.2.2.2.2.1 u.2.2.2.2.2.2.2.2 = some (.inr (t, ()))
  | m, 0, y, _, _, h => by omega
  | 0, n + 1, y, hy, hk, hn => by
    rw [glazierlaw10_SetupSamples_l7, bnd_eq, lt_f (by omega), bite_f]
  | m + 1, n + 1, y, hy, hk, hn => by
    have ih := rows fl hfl (t := t) hu hw hh m n (y + 1) (by omega) (by omega) (by omega)
    have r := row fl (by omega) (t := t) hu hw hh (y := y) (by omega) w.toNat fl 0 (by omega) (by omega) (by omega)
    rw [glazierlaw10_SetupSamples_l7, bnd_eq, lt_t (by omega), bite_t, r, ob_some, os_r]
    dsimp only
    rw [bnd_eq, addI (by omega)]
    exact ih

theorem law (x0 : (Ty.pair (.int .u8) (.int .u8)).T) (x1 : (Ty.pair (.pair (.int .i64) (.pair (.int .i64) (.pair (.int .i64) (.pair (.int .i64) (.pair (.int .i64) (.pair (.int .i64) (.pair (.int .i64) (.int .i64)))))))) (.pair (.pair (.int .i64) (.pair (.int .i64) (.pair (.int .i64) (.pair (.int .i64) (.pair (.int .i64) (.pair (.int .i64) (.pair (.int .i64) (.int .i64)))))))) (.pair (.int .i64) (.pair (.int .i64) (.pair (.int .i64) (.pair (.int .i64) (.pair (.int .i64) (.pair (.int .i64) (.pair (.int .i64) (.int .i64)))))))))).T)
    (h0 : okT (Ty.pair (.int .u8) (.int .u8)) x0) (h1 : okT (Ty.pair (.pair (.int .i64) (.pair (.int .i64) (.pair (.int .i64) (.pair (.int .i64) (.pair (.int .i64) (.pair (.int .i64) (.pair (.int .i64) (.int .i64)))))))) (.pair (.pair (.int .i64) (.pair (.int .i64) (.pair (.int .i64) (.pair (.int .i64) (.pair (.int .i64) (.pair (.int .i64) (.pair (.int .i64) (.int .i64)))))))) (.pair (.int .i64) (.pair (.int .i64) (.pair (.int .i64) (.pair (.int .i64) (.pair (.int .i64) (.pair (.int .i64) (.pair (.int .i64) (.int .i64)))))))))) x1) : ∃ fl, glazierlaw10_SetupSamples fl x0 x1 = some true := by
  refine ⟨5000, ?_⟩
  obtain ⟨w, ew, w1, w2⟩ := side_spec (m := 12) h0.1 (by decide) (by decide)
  obtain ⟨h, eh, g1, g2⟩ := side_spec (m := 12) h0.2 (by decide) (by decide)
  obtain ⟨a, b, c, ef, ha, hb, hc⟩ := setup_fit x1
  have hm : (1 : Int) ≤ 64 ∧ (64 : Int) ≤ 4096 := by decide
  have ka := kW_in hm ha
  have kb := kW_in hm hb
  have kc := kW_in hm hc
  have hw : 1 ≤ w ∧ w ≤ 64 := by omega
  have hh : 1 ≤ h ∧ h ≤ 64 := by omega
  have oa := inV_ok hm ha
  have ob := inV_ok hm hb
  have oc := inV_ok hm hc
  have ep := parts_in (fl := 5000) (by omega) hm hw hh ha hb hc
  have eq := rpoints_S (fl := 5000) (w := w) (h := h) (l := [inV 64 a, inV 64 b, inV 64 c]) (fun v hv => by
    simp only [List.mem_cons, List.not_mem_nil, or_false] at hv
    rcases hv with rfl | rfl | rfl
    · exact okV_of oa
    · exact okV_of ob
    · exact okV_of oc) (by simp) (by simp)
  rw [if_pos (pts3 hw hh ka.1 kb.1 kc.1).2] at eq
  obtain ⟨t, ht⟩ : ∃ t : Tri, t = (ptS w h (inV 64 a), (ptS w h (inV 64 b), ptS w h (inV 64 c))) := ⟨_, rfl⟩
  have ot : okG3 t := by rw [ht]; exact ⟨ptS_ok hw hh oa ka.1, ptS_ok hw hh ob kb.1, ptS_ok hw hh oc kc.1⟩
  rw [← ht] at ep
  have wa : F.add .i64 1 (F.rem a.2.2.2.1 64) = kW 64 a := addI (by unfold kW at ka; unfold F.rem; omega)
  have wb : F.add .i64 1 (F.rem b.2.2.2.1 64) = kW 64 b := addI (by unfold kW at kb; unfold F.rem; omega)
  have wc : F.add .i64 1 (F.rem c.2.2.2.1 64) = kW 64 c := addI (by unfold kW at kc; unfold F.rem; omega)
  have r := rows 5000 (by omega) (t := true) (ok := (turn t).2) (u := (turn t).1) (w := w) (h := h) (fun h => (turn_pos ot h).2) hw hh h.toNat 5000 0 (by omega) (by omega) (by omega)
  unfold glazierlaw10_SetupSamples
  rw [setup_shown, ob_some, bnd_eq, bnd_eq, bnd_eq, ew, bnd_eq, bnd_eq, bnd_eq, eh, ef, ob_some]
  dsimp only
  rw [bnd_eq, bnd_eq, wa, bnd_eq, mulI (a := 4) (b := kW 64 a) (by omega), bnd_eq, addI (a := 4 * kW 64 a) (by omega), nz_t (a := 4 * kW 64 a + 1) (by omega), bgd_t, bnd_eq, bnd_eq, bnd_eq, addI (a := 4 * kW 64 a) (by omega), nz_t (a := 4 * kW 64 a + 1) (by omega), bgd_t, bnd_eq, bnd_eq, addI (a := kW 64 a) (by omega), nz_t (a := kW 64 a + 1) (by omega), bgd_t, bnd_eq]
  rw [bnd_eq, bnd_eq, wb, bnd_eq, mulI (a := 4) (b := kW 64 b) (by omega), bnd_eq, addI (a := 4 * kW 64 b) (by omega), nz_t (a := 4 * kW 64 b + 1) (by omega), bgd_t, bnd_eq, bnd_eq, bnd_eq, addI (a := 4 * kW 64 b) (by omega), nz_t (a := 4 * kW 64 b + 1) (by omega), bgd_t, bnd_eq, bnd_eq, addI (a := kW 64 b) (by omega), nz_t (a := kW 64 b + 1) (by omega), bgd_t, bnd_eq]
  rw [bnd_eq, bnd_eq, wc, bnd_eq, mulI (a := 4) (b := kW 64 c) (by omega), bnd_eq, addI (a := 4 * kW 64 c) (by omega), nz_t (a := 4 * kW 64 c + 1) (by omega), bgd_t, bnd_eq, bnd_eq, bnd_eq, addI (a := 4 * kW 64 c) (by omega), nz_t (a := 4 * kW 64 c + 1) (by omega), bgd_t, bnd_eq, bnd_eq, addI (a := kW 64 c) (by omega), nz_t (a := kW 64 c + 1) (by omega), bgd_t, bnd_eq]
  have fa : ((F.rem a.1 (4 * kW 64 a + 1), (F.rem a.2.1 (4 * kW 64 a + 1), (F.rem a.2.2.1 (kW 64 a + 1), (kW 64 a, a.2.2.2.2)))) : Vtx) = inV 64 a := rfl
  have fb : ((F.rem b.1 (4 * kW 64 b + 1), (F.rem b.2.1 (4 * kW 64 b + 1), (F.rem b.2.2.1 (kW 64 b + 1), (kW 64 b, b.2.2.2.2)))) : Vtx) = inV 64 b := rfl
  have fc : ((F.rem c.1 (4 * kW 64 c + 1), (F.rem c.2.1 (4 * kW 64 c + 1), (F.rem c.2.2.1 (kW 64 c + 1), (kW 64 c, c.2.2.2.2)))) : Vtx) = inV 64 c := rfl
  rw [fa, fb, fc, ep, ob_some, eq, ob_some]
  rw [show F.get ([inV 64 a, inV 64 b, inV 64 c].map (ptS w h), true).1 0 = some (ptS w h (inV 64 a)) from rfl, ob_some, show F.get ([inV 64 a, inV 64 b, inV 64 c].map (ptS w h), true).1 1 = some (ptS w h (inV 64 b)) from rfl, ob_some, show F.get ([inV 64 a, inV 64 b, inV 64 c].map (ptS w h), true).1 2 = some (ptS w h (inV 64 c)) from rfl, ob_some, ← ht, rturned_g ot, ob_some]
  rw [show (if (turn t).2 = true then [((0 : Int), (turn t).1)] else []) = parts1 (turn t).2 (turn t).1 from rfl, r, ob_some, os_r]
end Go.Proofs.Ytfejdcdomgeogaa.setupSamples
