/- ViewRefuses holds. -/
import Derived.Test.YtjflobchmpmeoaaLawViewList
set_option linter.unusedVariables false
namespace Go.Proofs.Ytjflobchmpmeoaa.viewRefuses
open Go Go.RowKit Go.Proofs.Ytjflobchmpmeoaa.M Go.Proofs.Ytjflobchmpmeoaa.G

def fitV (v : Vx) : Prop := okV v ∧ 1 ≤ v.2.2.2.1

theorem fit_V (v : Vx) : ∃ r, glazierref04_Fit v = some r ∧ fitV r := by
  obtain ⟨r, e, h1, h2, h3, h4, _⟩ := fit_spec v
  exact ⟨r, e, ⟨⟨by omega, by omega⟩, ⟨by omega, by omega⟩, ⟨by omega, by omega⟩, ⟨by omega, by omega⟩⟩, h4.1⟩

theorem loop (fl : Nat) {l : List Vx} {a b : Int} {q : Bool} : ∀ (m k n : Nat) (acc : List Vx), min l.length 20 - k = m → k ≤ min l.length 20 → m + 1 ≤ n → acc.length = k → (∀ v ∈ acc, fitV v) →
    ∃ v, glazierlaw06_ViewRefuses_l1 fl n l a b q acc (k : Int) = some (a, (b, (q, (v, ())))) ∧ v.length = min l.length 20 ∧ ∀ x ∈ v, fitV x
  | 0, k, 0, acc, _, _, h, _, _ => by omega
  | 0, k, n + 1, acc, hm, hk, _, ha, hf => by
    unfold glazierlaw06_ViewRefuses_l1
    by_cases c1 : k < l.length
    · rw [bnd_eq, lenK, bnd_eq, lt_t (by omega), bite_t, bnd_eq, lt_f (by omega), bite_f]
      exact ⟨acc, rfl, by omega, hf⟩
    · rw [bnd_eq, lenK, bnd_eq, lt_f (by omega), bite_f]
      exact ⟨acc, rfl, by omega, hf⟩
  | m + 1, k, 0, acc, _, _, h, _, _ => by omega
  | m + 1, k, n + 1, acc, hm, hk, hn, ha, hf => by
    have hkl : k < l.length := by omega
    obtain ⟨r, er, hr⟩ := fit_V l[k]
    unfold glazierlaw06_ViewRefuses_l1
    rw [bnd_eq, lenK, bnd_eq, lt_t (by omega), bite_t, bnd_eq, lt_t (by omega), bite_t, lgetK hkl, ob_some, er, ob_some, appOk_t (by simp; omega) (by decide), bgd_t, bnd_eq, appK, bnd_eq, addI (by omega)]
    have ih := loop fl (l := l) (a := a) (b := b) (q := q) m (k + 1) n (acc ++ [r]) (by omega) (by omega) (by omega) (by simp [ha]) (fun v hv => by
      rcases List.mem_append.1 hv with hv | hv
      · exact hf v hv
      · simp at hv; subst hv; exact hr)
    rw [show ((k + 1 : Nat) : Int) = (k : Int) + 1 by omega] at ih
    exact ih

theorem law (x0 : (Ty.list (.pair (.int .i64) (.pair (.int .i64) (.pair (.int .i64) (.pair (.int .i64) (.pair (.int .i64) (.pair (.int .i64) (.pair (.int .i64) (.int .i64))))))))).T) (x1 : (Ty.int .u8).T) (x2 : (Ty.int .u8).T)
    (h0 : okT (Ty.list (.pair (.int .i64) (.pair (.int .i64) (.pair (.int .i64) (.pair (.int .i64) (.pair (.int .i64) (.pair (.int .i64) (.pair (.int .i64) (.int .i64))))))))) x0) (h1 : okT (.int .u8) x1) (h2 : okT (.int .u8) x2) : ∃ fl, glazierlaw06_ViewRefuses fl x0 x1 x2 = some true := by
  refine ⟨200, ?_⟩
  have h1 := inR_u8.1 h1
  have h2 := inR_u8.1 h2
  unfold glazierlaw06_ViewRefuses
  obtain ⟨v, ev, hvl, hvf⟩ := loop 200 (l := x0) (a := x1) (b := x2) (q := true) (min x0.length 20) 0 200 [] (by omega) (by omega) (by omega) rfl (by simp)
  rw [show ((0 : Nat) : Int) = 0 from rfl] at ev
  rw [shown_spec, ob_some, ev, ob_some]
  have hok : ∀ x ∈ v, okV x := fun x hx => (hvf x hx).1
  have pts : ∀ w h : Int, view_Points 200 w h v = some (if v.all (onS w h) then (v.map (ptS w h), true) else ([], false)) := fun w h => points_S hok (by omega) (by omega)
  have all : v.all (onS 64 1) = true := by
    rw [List.all_eq_true]
    intro x hx
    exact decide_eq_true ⟨by decide, by decide, (hvf x hx).2⟩
  have bad : ∀ w h : Int, ¬ ((1 ≤ w ∧ w ≤ 64) ∧ (1 ≤ h ∧ h ≤ 64)) → ∀ x, onS w h x = false := fun w h hb x => decide_eq_false (fun hc => hb ⟨hc.1, hc.2.1⟩)
  -- a screen that is none: no points, but of no vertices
  have none' : ∀ w h : Int, ¬ ((1 ≤ w ∧ w ≤ 64) ∧ (1 ≤ h ∧ h ≤ 64)) → ∀ (K : Bool → Option Bool), (obind (view_Points 200 w h v) fun q => bite true (bnd (F.len q.1) fun v13 => bnd (F.eq v13 0) fun v14 => bite v14 (bnd (F.len v) fun v15 => bnd (F.eq v15 0) fun v16 => bnd (F.beq q.2 v16) fun v17 => some v17) (some false)) (some false)) = some true := fun w h hb K => by
    rw [pts w h, ob_some, bite_t]
    cases hv : v with
    | nil => rfl
    | cons y r =>
      rw [List.all_cons, bad w h hb y]
      show bnd (F.len ([] : List Px)) _ = _
      rw [bnd_eq, bnd_eq, eq_t (by rfl), bite_t, bnd_eq, bnd_eq, eq_f (by rw [lenK, List.length_cons]; omega)]
      rfl
  dsimp only
  rw [pts 64 1, ob_some, all, if_pos rfl]
  dsimp only
  rw [bnd_eq, not_t, bite_f, bnd_eq, bnd_eq, bnd_eq, ne_f (by rw [lenK, lenK, List.length_map]), bite_f, bnd_eq]
  have hr0 : 0 ≤ F.rem x2 4 ∧ F.rem x2 4 < 4 := ⟨Int.tmod_nonneg _ h2.1, Int.tmod_lt_of_pos _ (by decide)⟩
  obtain ⟨r, er⟩ : ∃ r, r = F.rem x2 4 := ⟨_, rfl⟩
  rw [← er] at hr0 ⊢
  rw [bnd_eq]
  by_cases c0 : r = 0
  · rw [eq_t c0, bite_t]
    exact none' 65 1 (by decide) fun _ => none
  · rw [eq_f c0, bite_f, bnd_eq]
    by_cases c1 : r = 1
    · rw [eq_t c1, bite_t]
      exact none' 64 0 (by decide) fun _ => none
    · rw [eq_f c1, bite_f, bnd_eq]
      by_cases c2 : r = 2
      · rw [eq_t c2, bite_t]
        exact none' (-3) 1 (by decide) fun _ => none
      · have c3 : r = 3 := by omega
        rw [eq_f c2, bite_f, bnd_eq, eq_t c3, bite_t, bnd_eq, bnd_eq]
        by_cases hz : v.length = 0
        · rw [eq_t (by rw [lenK, hz]; rfl), bite_t]
        · rw [eq_f (by rw [lenK]; omega), bite_f, bnd_eq, convI (by omega), bnd_eq, nz_t (by rw [lenK]; omega), bgd_t, bnd_eq]
          have hq0 := Int.tmod_nonneg (v.length : Int) h1.1
          have hq1 := Int.tmod_lt_of_pos x1 (show (0 : Int) < v.length by omega)
          obtain ⟨k, hk⟩ := Int.eq_ofNat_of_zero_le hq0
          have hkl : k < v.length := by omega
          have hrem : F.rem x1 (F.len v) = (k : Int) := hk
          rw [hrem, show F.has v (k : Int) = true by unfold F.has; rw [decide_eq_true (by omega), decide_eq_true (by omega)]; rfl, bgd_t, lgetK hkl, ob_some, bnd_eq]
          let v' : List Vx := F.put v (k : Int) (v[k].1, (v[k].2.1, (v[k].2.2.1, (0, v[k].2.2.2.2))))
          have hv' : v' = v.set k (v[k].1, (v[k].2.1, (v[k].2.2.1, (0, v[k].2.2.2.2)))) := rfl
          have hl' : v'.length = v.length := by rw [hv', List.length_set]
          have hok' : ∀ x ∈ v', okV x := fun x hx => by
            rcases List.mem_or_eq_of_mem_set (hv' ▸ hx) with hx | rfl
            · exact hok x hx
            · have := hok _ (List.getElem_mem hkl)
              exact ⟨this.1, this.2.1, this.2.2.1, show (-1048576 : Int) ≤ 0 ∧ (0 : Int) ≤ 1048576 by decide⟩
          have hall : v'.all (onS 64 1) = false := by
            rw [List.all_eq_false]
            refine ⟨_, hv' ▸ List.mem_set hkl _, ?_⟩
            rw [show onS 64 1 (v[k].1, (v[k].2.1, (v[k].2.2.1, (0, v[k].2.2.2.2)))) = false from decide_eq_false (by dsimp only; omega)]
            simp
          have := points_S (fl := 200) (w := 64) (h := 1) hok' (by omega) (by omega)
          rw [hall] at this
          show obind (view_Points 200 64 1 v') _ = _
          rw [this, if_neg (by decide), ob_some, bite_t]
          show bnd (F.len ([] : List Px)) _ = _
          rw [bnd_eq, bnd_eq, eq_t (by rfl), bite_t, bnd_eq, bnd_eq, eq_f (by rw [lenK, hl']; omega)]
          rfl
end Go.Proofs.Ytjflobchmpmeoaa.viewRefuses
