/- ViewAll holds. -/
import Derived.Test.YtjflobchmpmeoaaLawViewList
set_option linter.unusedVariables false
namespace Go.Proofs.Ytjflobchmpmeoaa.viewAll
open Go Go.RowKit Go.Proofs.Ytjflobchmpmeoaa.M Go.Proofs.Ytjflobchmpmeoaa.G

theorem loop {fl : Nat} (hfl : 130 ≤ fl) {l : List Vx} {a w h : Int} {q : Bool} : ∀ (m k n : Nat) (acc : List Vx), min l.length 20 - k = m → k ≤ min l.length 20 → m + 1 ≤ n → acc.length = k → (∀ v ∈ acc, okV v) →
    ∃ v, glazierlaw06_ViewAll_l1 fl n l a q acc (k : Int) w h = some (.inr (a, (q, (v, (w, (h, ())))))) ∧ v.length = min l.length 20 ∧ ∀ x ∈ v, okV x
  | 0, k, 0, acc, _, _, h, _, _ => by omega
  | 0, k, n + 1, acc, hm, hk, _, ha, hf => by
    unfold glazierlaw06_ViewAll_l1
    by_cases c1 : k < l.length
    · rw [bnd_eq, lenK, bnd_eq, lt_t (by omega), bite_t, bnd_eq, lt_f (by omega), bite_f]
      exact ⟨acc, rfl, by omega, hf⟩
    · rw [bnd_eq, lenK, bnd_eq, lt_f (by omega), bite_f]
      exact ⟨acc, rfl, by omega, hf⟩
  | m + 1, k, 0, acc, _, _, h, _, _ => by omega
  | m + 1, k, n + 1, acc, hm, hk, hn, ha, hf => by
    have hkl : k < l.length := by omega
    obtain ⟨r, er, hr⟩ := small4 l[k]
    unfold glazierlaw06_ViewAll_l1
    rw [bnd_eq, lenK, bnd_eq, lt_t (by omega), bite_t, bnd_eq, lt_t (by omega), bite_t, lgetK hkl, ob_some, er, ob_some, appOk_t (by simp; omega) (by decide), bgd_t, bnd_eq, appK, point_S fl hr, ob_some, ref_point hfl hr, ob_some, bnd_eq, eq7, bite_f, bnd_eq,
      show F.bne (PS w h r).2 (PS w h r).2 = false by cases (PS w h r).2 <;> rfl, bite_f, bnd_eq, addI (by omega)]
    have ih := loop hfl (l := l) (a := a) (w := w) (h := h) (q := q) m (k + 1) n (acc ++ [r]) (by omega) (by omega) (by omega) (by simp [ha]) (fun v hv => by
      rcases List.mem_append.1 hv with hv | hv
      · exact hf v hv
      · simp at hv; subst hv; exact hr)
    rw [show ((k + 1 : Nat) : Int) = (k : Int) + 1 by omega] at ih
    exact ih

theorem law (x0 : (Ty.pair (.int .i64) (.int .i64)).T) (x1 : (Ty.list (.pair (.int .i64) (.pair (.int .i64) (.pair (.int .i64) (.pair (.int .i64) (.pair (.int .i64) (.pair (.int .i64) (.pair (.int .i64) (.int .i64))))))))).T) (x2 : (Ty.int .i64).T)
    (h0 : okT (Ty.pair (.int .i64) (.int .i64)) x0) (h1 : okT (Ty.list (.pair (.int .i64) (.pair (.int .i64) (.pair (.int .i64) (.pair (.int .i64) (.pair (.int .i64) (.pair (.int .i64) (.pair (.int .i64) (.int .i64))))))))) x1) (h2 : okT (.int .i64) x2) : ∃ fl, glazierlaw06_ViewAll fl x0 x1 x2 = some true := by
  refine ⟨200, ?_⟩
  unfold glazierlaw06_ViewAll
  obtain ⟨v, ev, hvl, hok⟩ := loop (fl := 200) (by omega) (l := x1) (a := x2) (w := x0.1) (h := x0.2) (q := true) (min x1.length 20) 0 200 [] (by omega) (by omega) (by omega) rfl (by simp)
  rw [show ((0 : Nat) : Int) = 0 from rfl] at ev
  rw [shown_spec, ob_some, ev, ob_some]
  show obind (view_Points 200 x0.1 x0.2 v) _ = _
  have t1 := tmod_lt (a := x2) (m := 1099511627777) (by decide)
  obtain ⟨k, hk⟩ : ∃ k, k = Int.tmod x2 1099511627777 := ⟨_, rfl⟩
  have small : glazierlaw06_small x2 = some k := by rw [hk]; rfl
  rw [← hk] at t1
  have pix : view_Pixel 200 k = some (Int.fdiv k 16) := by
    unfold view_Pixel fixed_Floor
    rw [mulDiv_spec 200 (by omega) (by decide) (by omega) (by decide) (by decide), Int.mul_one]
    rfl
  have rpix : glazierref06_Pixel 200 k = some (Int.fdiv k 16) := by
    unfold glazierref06_Pixel
    rw [ref_down (by omega) (by omega) (by decide) (by decide)]
    rfl
  have same : ∀ l : List Px, l.length ≤ 20 → glazierref06_Same 200 l l = some true := fun l hl => same_S (by omega) (by omega)
  have fin : ∀ b : Bool, (bite true (bite true (bnd (F.beq b b) fun v11 => bite v11 (obind (view_Pixel 200 k) fun q12 => obind (glazierref06_Pixel 200 k) fun q13 => bnd (F.eq q12 q13) fun v14 => bite v14 (obind (view_Centre k) fun q15 => obind (glazierref06_Centre k) fun q16 => bnd (F.eq q15 q16) fun v17 => some v17) (some false)) (some false)) (some false)) (some false)) = some true := fun b => by
    rw [bite_t, bite_t, bnd_eq, show F.beq b b = true by cases b <;> rfl, bite_t, pix, ob_some, rpix, ob_some, bnd_eq, eq_t rfl, bite_t]
    unfold view_Centre glazierref06_Centre
    rw [bnd_eq, bnd_eq, ob_some, ob_some, bnd_eq, eq_t rfl]
  rw [points_S hok (by omega) (by omega), ob_some]
  show obind (glazierref06_Points 200 x0.1 x0.2 v) _ = _
  rw [rpoints_S hok (by omega) (by omega), ob_some]
  cases v.all (onS x0.1 x0.2) with
  | true =>
    rw [if_pos rfl]
    show obind (glazierref06_Same 200 (v.map (ptS x0.1 x0.2)) (v.map (ptS x0.1 x0.2))) _ = _
    rw [same _ (by rw [List.length_map]; omega), ob_some]
    show obind (glazierlaw06_small x2) _ = _
    rw [small, ob_some]
    exact fin true
  | false =>
    rw [if_neg (by decide)]
    show obind (glazierref06_Same 200 [] []) _ = _
    rw [same _ (by simp), ob_some]
    show obind (glazierlaw06_small x2) _ = _
    rw [small, ob_some]
    exact fin false
end Go.Proofs.Ytjflobchmpmeoaa.viewAll
