/- SetupParts holds. -/
import Derived.Test.YtfejdcdomgeogaaLawSetup
set_option linter.unusedVariables false
namespace Go.Proofs.Ytfejdcdomgeogaa.setupParts
open Go Go.RowKit Go.Proofs.Ytfejdcdomgeogaa.M Go.Proofs.Ytfejdcdomgeogaa.G

theorem piece_in {pts : List Px} (hp : ∀ p ∈ pts, okG p) {k : Nat} {e : Int × Tri} (h : e ∈ piece pts k) : e.1 = (k : Int) - 2 ∧ 0 < area e.2 ∧ okG3 e.2 := by
  unfold piece at h
  split at h
  · rename_i ht
    have := turn_pos (tri3_ok hp k) ht
    simp only [List.mem_singleton] at h
    subst h
    exact ⟨rfl, this.1, this.2⟩
  · cases h

theorem fan_in {pts : List Px} (hp : ∀ p ∈ pts, okG p) {e : Int × Tri} (h : e ∈ fan pts) : 0 ≤ e.1 ∧ e.1 < pts.length ∧ 0 < area e.2 ∧ okG3 e.2 := by
  unfold fan at h
  obtain ⟨k, hk, he⟩ := List.mem_flatMap.1 h
  rw [List.mem_range'_1] at hk
  obtain ⟨h1, h2, h3⟩ := piece_in hp he
  exact ⟨by omega, by omega, h2, h3⟩

theorem fan_rises {pts : List Px} (hp : ∀ p ∈ pts, okG p) : (fan pts).Pairwise (fun a b => a.1 < b.1) := by
  unfold fan
  rw [List.pairwise_flatMap]
  refine ⟨fun k _ => ?_, ?_⟩
  · unfold piece
    split <;> simp
  · refine (List.pairwise_lt_range' (s := 2) (n := pts.length - 2) (step := 1)).imp fun {a b} hab x hx y hy => ?_
    have h1 := (piece_in hp hx).1
    have h2 := (piece_in hp hy).1
    omega

theorem loop (fl : Nat) {b : Bool} {q : List (Int × Tri)} (hlen : q.length ≤ 1000) (hq : ∀ e ∈ q, 0 ≤ e.1 ∧ e.1 ≤ 22 ∧ 0 < area e.2 ∧ okG3 e.2) (hr : q.Pairwise (fun a b => a.1 < b.1)) : ∀ (m k n : Nat), k + m = q.length → m + 1 ≤ n → glazierlaw10_SetupParts_l1 fl n b q (k : Int) = some (.inr (b, (q, ())))
  | m, k, 0, _, h => by omega
  | 0, k, n + 1, hk, hn => by
    rw [glazierlaw10_SetupParts_l1, bnd_eq, lenK, bnd_eq, lt_f (by omega), bite_f]
  | m + 1, k, n + 1, hk, hn => by
    have hkl : k < q.length := by omega
    obtain ⟨h1, h2, h3, h4⟩ := hq _ (List.getElem_mem hkl)
    have ih := loop fl (b := b) hlen hq hr m (k + 1) n (by omega) (by omega)
    rw [show ((k + 1 : Nat) : Int) = (k : Int) + 1 by omega] at ih
    rw [glazierlaw10_SetupParts_l1, bnd_eq, lenK, bnd_eq, lt_t (by omega), bite_t, lgetK hkl, ob_some, rarea_g h4, ob_some, bnd_eq, le_f h3, bite_f, ob_some, bnd_eq, lt_f h1, bite_f, ob_some, bnd_eq, gt_f h2, bite_f, bnd_eq]
    by_cases h0 : 0 < k
    · have hk1 : k - 1 < q.length := by omega
      have hlt : q[k - 1].1 < q[k].1 := List.pairwise_iff_getElem.1 hr (k - 1) k hk1 hkl (by omega)
      rw [gt_t (by omega), bite_t, ob_some, bnd_eq, subI (by omega), lgetI (k := k - 1) (by omega) hk1, ob_some, bnd_eq, le_f hlt, bite_f, bnd_eq, addI (by omega)]
      exact ih
    · rw [gt_f (by omega), bite_f, bnd_eq, addI (by omega)]
      exact ih

theorem law (x0 : (Ty.pair (.int .u8) (.int .u8)).T) (x1 : (Ty.pair (.pair (.int .i64) (.pair (.int .i64) (.pair (.int .i64) (.pair (.int .i64) (.pair (.int .i64) (.pair (.int .i64) (.pair (.int .i64) (.int .i64)))))))) (.pair (.pair (.int .i64) (.pair (.int .i64) (.pair (.int .i64) (.pair (.int .i64) (.pair (.int .i64) (.pair (.int .i64) (.pair (.int .i64) (.int .i64)))))))) (.pair (.int .i64) (.pair (.int .i64) (.pair (.int .i64) (.pair (.int .i64) (.pair (.int .i64) (.pair (.int .i64) (.pair (.int .i64) (.int .i64)))))))))).T)
    (h0 : okT (Ty.pair (.int .u8) (.int .u8)) x0) (h1 : okT (Ty.pair (.pair (.int .i64) (.pair (.int .i64) (.pair (.int .i64) (.pair (.int .i64) (.pair (.int .i64) (.pair (.int .i64) (.pair (.int .i64) (.int .i64)))))))) (.pair (.pair (.int .i64) (.pair (.int .i64) (.pair (.int .i64) (.pair (.int .i64) (.pair (.int .i64) (.pair (.int .i64) (.pair (.int .i64) (.int .i64)))))))) (.pair (.int .i64) (.pair (.int .i64) (.pair (.int .i64) (.pair (.int .i64) (.pair (.int .i64) (.pair (.int .i64) (.pair (.int .i64) (.int .i64)))))))))) x1) : ∃ fl, glazierlaw10_SetupParts fl x0 x1 = some true := by
  refine ⟨5000, ?_⟩
  obtain ⟨w, ew, w1, w2⟩ := side_spec (m := 12) h0.1 (by decide) (by decide)
  obtain ⟨h, eh, k1, k2⟩ := side_spec (m := 12) h0.2 (by decide) (by decide)
  obtain ⟨a, b, c, ef, ha, hb, hc⟩ := setup_fit x1
  have ka := fitC_ok ha
  have kb := fitC_ok hb
  have kc := fitC_ok hc
  have hl : ∀ v ∈ [a, b, c], okB v := fun v hv => by
    simp only [List.mem_cons, List.not_mem_nil, or_false] at hv
    rcases hv with rfl | rfl | rfl <;> assumption
  have hpts := ptsL_ok (w := w) (h := h) ⟨w1, by omega⟩ ⟨k1, by omega⟩ (poly_okB hl (by simp))
  have hpl := ptsL_length w h (polyL [a, b, c])
  have hn := poly_len (l := [a, b, c]) rfl
  have hfl : (fan (ptsL w h (polyL [a, b, c]))).length ≤ 17 := by
    have := pieces_len (ptsL w h (polyL [a, b, c])) ((ptsL w h (polyL [a, b, c])).length - 2) 2
    unfold fan
    omega
  have lp := loop 5000 (b := true) (q := fan (ptsL w h (polyL [a, b, c]))) (by omega) (fun e he => by
    obtain ⟨e1, e2, e3, e4⟩ := fan_in hpts he
    exact ⟨e1, by omega, e3, e4⟩) (fan_rises hpts) (fan (ptsL w h (polyL [a, b, c]))).length 0 5000 (by omega) (by omega)
  rw [show ((0 : Nat) : Int) = 0 from rfl] at lp
  unfold glazierlaw10_SetupParts
  rw [setup_shown, ob_some, bnd_eq, bnd_eq, bnd_eq, ew, bnd_eq, bnd_eq, bnd_eq, eh, ef, ob_some, parts_spec (by omega) ⟨w1, by omega⟩ ⟨k1, by omega⟩ ka kb kc, ob_some, lp, ob_some]
  show bite true _ _ = _
  rw [bite_t, bnd_eq, bnd_eq, lenK, le_t (by dsimp only; omega)]
end Go.Proofs.Ytfejdcdomgeogaa.setupParts
