/- More of vertices that are cut: rows that are made, rows compared, what stays and what goes. -/
import Derived.Test.YtofmlolhhcffoaaLawClip
set_option linter.unusedVariables false
namespace Go.Proofs.Ytofmlolhhcffoaa.G
open Go Go.RowKit Go.Proofs.Ytofmlolhhcffoaa.M

theorem cshown {fl : Nat} (hfl : 10 ≤ fl) : glazierlaw05_shown fl = some true := by
  unfold glazierlaw05_shown
  rw [by_spec (l := [(0, (0, (0, (2, (0, (0, (0, 0))))))), (0, (0, ((-6), (2, (0, (0, (0, 0))))))), (0, (0, (0, (2, (0, (0, (0, 0)))))))]) (fun v hv => by
    simp only [List.mem_cons, List.not_mem_nil, or_false] at hv
    rcases hv with rfl | rfl | rfl <;> (refine ⟨⟨?_, ?_⟩, ⟨?_, ?_⟩, ⟨?_, ?_⟩, ⟨?_, ?_⟩, ⟨?_, ?_⟩, ⟨?_, ?_⟩, ⟨?_, ?_⟩, ⟨?_, ?_⟩⟩ <;> decide)) (by decide) (by simp; omega)]
  decide +kernel

/-! ### Rows compared -/
instance decVtx : DecidableEq Vtx := fun a b => decidable_of_iff (a.1 = b.1 ∧ a.2.1 = b.2.1 ∧ a.2.2.1 = b.2.2.1 ∧ a.2.2.2.1 = b.2.2.2.1 ∧ a.2.2.2.2.1 = b.2.2.2.2.1 ∧ a.2.2.2.2.2.1 = b.2.2.2.2.2.1 ∧ a.2.2.2.2.2.2.1 = b.2.2.2.2.2.2.1 ∧ a.2.2.2.2.2.2.2 = b.2.2.2.2.2.2.2) (by
  obtain ⟨a1, a2, a3, a4, a5, a6, a7, a8⟩ := a
  obtain ⟨b1, b2, b3, b4, b5, b6, b7, b8⟩ := b
  simp only [Prod.mk.injEq])

instance decVs : DecidableEq (List Vtx) := inferInstance

theorem eq8 (a b : Vtx) : F.both (F.eq a.1 b.1) (F.both (F.eq a.2.1 b.2.1) (F.both (F.eq a.2.2.1 b.2.2.1) (F.both (F.eq a.2.2.2.1 b.2.2.2.1) (F.both (F.eq a.2.2.2.2.1 b.2.2.2.2.1) (F.both (F.eq a.2.2.2.2.2.1 b.2.2.2.2.2.1) (F.both (F.eq a.2.2.2.2.2.2.1 b.2.2.2.2.2.2.1) (F.eq a.2.2.2.2.2.2.2 b.2.2.2.2.2.2.2))))))) = decide (a = b) := by
  rw [Bool.eq_iff_iff, decide_eq_true_eq]
  obtain ⟨a1, a2, a3, a4, a5, a6, a7, a8⟩ := a
  obtain ⟨b1, b2, b3, b4, b5, b6, b7, b8⟩ := b
  simp only [F.both, f_eq, Prod.mk.injEq, Bool.and_eq_true, decide_eq_true_eq]

theorem csame_loop (fl : Nat) {x y : List Vtx} (hl : x.length = y.length) (hlen : x.length ≤ 10000) : ∀ (m k n : Nat), k + m = x.length → m + 1 ≤ n → glazierref04_Same_l1 fl n x y (k : Int) = some (if x.drop k = y.drop k then .inr () else .inl ())
  | 0, k, 0, _, h => by omega
  | 0, k, n + 1, hk, _ => by
    unfold glazierref04_Same_l1
    rw [bnd_eq, lenK, bnd_eq, lt_f (by omega), bite_f, List.drop_eq_nil_of_le (by omega), List.drop_eq_nil_of_le (by omega), if_pos rfl]
  | m + 1, k, 0, _, h => by omega
  | m + 1, k, n + 1, hk, hn => by
    have hkx : k < x.length := by omega
    have hky : k < y.length := by omega
    unfold glazierref04_Same_l1
    rw [bnd_eq, lenK, bnd_eq, lt_t (by omega), bite_t, lgetK hkx, ob_some, lgetK hky, ob_some, bnd_eq, eq8, ldrop hkx, ldrop hky]
    by_cases he : x[k] = y[k]
    · rw [decide_eq_true he, not_t, bite_f, bnd_eq, addI (by omega)]
      have ih := csame_loop fl hl hlen m (k + 1) n (by omega) (by omega)
      rw [show ((k + 1 : Nat) : Int) = (k : Int) + 1 by omega] at ih
      rw [ih, he]
      simp only [List.cons.injEq, true_and]
    · rw [decide_eq_false he, not_f, bite_t, if_neg (fun h => he (by injection h))]

theorem csame {fl : Nat} {x y : List Vtx} (hlen : x.length ≤ 10000) (hfl : x.length + 1 ≤ fl) : glazierref04_Same fl x y = some (decide (x = y)) := by
  unfold glazierref04_Same
  rw [bnd_eq, lenK, bnd_eq, lenK, bnd_eq]
  by_cases hl : x.length = y.length
  · have := csame_loop fl hl hlen x.length 0 fl (by omega) hfl
    rw [show ((0 : Nat) : Int) = 0 from rfl, List.drop_zero, List.drop_zero] at this
    rw [ne_f (by omega), bite_f, this, ob_some]
    by_cases he : x = y
    · rw [if_pos he, decide_eq_true he]; rfl
    · rw [if_neg he, decide_eq_false he]; rfl
  · rw [ne_t (by omega), bite_t, decide_eq_false (fun h => hl (by rw [h]))]

/-! ### Rows that are made -/
def fitC (v : Vtx) : Prop := inC 32768 v.1 ∧ inC 32768 v.2.1 ∧ inC 32768 v.2.2.1 ∧ (1 ≤ v.2.2.2.1 ∧ v.2.2.2.1 ≤ 32768) ∧ inC 4096 v.2.2.2.2.1 ∧ inC 4096 v.2.2.2.2.2.1 ∧ inC 4096 v.2.2.2.2.2.2.1 ∧ inC 4096 v.2.2.2.2.2.2.2

theorem fitC_ok {v : Vtx} (h : fitC v) : okB v := by
  obtain ⟨⟨a1, a2⟩, ⟨b1, b2⟩, ⟨c1, c2⟩, ⟨d1, d2⟩, ⟨e1, e2⟩, ⟨f1, f2⟩, ⟨g1, g2⟩, h1, h2⟩ := h
  refine ⟨⟨?_, ?_⟩, ⟨?_, ?_⟩, ⟨?_, ?_⟩, ⟨?_, ?_⟩, ⟨?_, ?_⟩, ⟨?_, ?_⟩, ⟨?_, ?_⟩, ⟨?_, ?_⟩⟩ <;> omega

theorem fit_C (v : Vtx) : ∃ r, glazierref04_Fit v = some r ∧ fitC r := by
  have t1 := tmod_lt (a := v.1) (m := 32769) (by decide)
  have t2 := tmod_lt (a := v.2.1) (m := 32769) (by decide)
  have t3 := tmod_lt (a := v.2.2.1) (m := 32769) (by decide)
  have t4 := tmod_lt (a := v.2.2.2.1) (m := 32768) (by decide)
  have t5 := tmod_lt (a := v.2.2.2.2.1) (m := 4097) (by decide)
  have t6 := tmod_lt (a := v.2.2.2.2.2.1) (m := 4097) (by decide)
  have t7 := tmod_lt (a := v.2.2.2.2.2.2.1) (m := 4097) (by decide)
  have t8 := tmod_lt (a := v.2.2.2.2.2.2.2) (m := 4097) (by decide)
  unfold glazierref04_Fit
  simp only [bnd_eq, F.rem]
  by_cases h : v.2.2.2.1.tmod 32768 < 0
  · rw [lt_t h, bite_t, negI (by omega), addI (by omega)]
    exact ⟨_, rfl, ⟨by dsimp only; omega, by dsimp only; omega⟩, ⟨by dsimp only; omega, by dsimp only; omega⟩, ⟨by dsimp only; omega, by dsimp only; omega⟩, ⟨by dsimp only; omega, by dsimp only; omega⟩, ⟨by dsimp only; omega, by dsimp only; omega⟩, ⟨by dsimp only; omega, by dsimp only; omega⟩, ⟨by dsimp only; omega, by dsimp only; omega⟩, ⟨by dsimp only; omega, by dsimp only; omega⟩⟩
  · rw [lt_f (by omega), bite_f, addI (by omega)]
    exact ⟨_, rfl, ⟨by dsimp only; omega, by dsimp only; omega⟩, ⟨by dsimp only; omega, by dsimp only; omega⟩, ⟨by dsimp only; omega, by dsimp only; omega⟩, ⟨by dsimp only; omega, by dsimp only; omega⟩, ⟨by dsimp only; omega, by dsimp only; omega⟩, ⟨by dsimp only; omega, by dsimp only; omega⟩, ⟨by dsimp only; omega, by dsimp only; omega⟩, ⟨by dsimp only; omega, by dsimp only; omega⟩⟩

theorem small_C (v : Vtx) : ∃ r, glazierref04_Small v = some r ∧ okB r := by
  have t1 := tmod_lt (a := v.1) (m := 1048577) (by decide)
  have t2 := tmod_lt (a := v.2.1) (m := 1048577) (by decide)
  have t3 := tmod_lt (a := v.2.2.1) (m := 1048577) (by decide)
  have t4 := tmod_lt (a := v.2.2.2.1) (m := 1048577) (by decide)
  have t5 := tmod_lt (a := v.2.2.2.2.1) (m := 1048577) (by decide)
  have t6 := tmod_lt (a := v.2.2.2.2.2.1) (m := 1048577) (by decide)
  have t7 := tmod_lt (a := v.2.2.2.2.2.2.1) (m := 1048577) (by decide)
  have t8 := tmod_lt (a := v.2.2.2.2.2.2.2) (m := 1048577) (by decide)
  unfold glazierref04_Small
  simp only [bnd_eq]
  refine ⟨_, rfl, ⟨?_, ?_⟩, ⟨?_, ?_⟩, ⟨?_, ?_⟩, ⟨?_, ?_⟩, ⟨?_, ?_⟩, ⟨?_, ?_⟩, ⟨?_, ?_⟩, ⟨?_, ?_⟩⟩ <;> (simp only [F.rem]; omega)

theorem fit_loop (fl : Nat) {l : List Vtx} : ∀ (m k n : Nat) (acc : List Vtx), min l.length 8 - k = m → k ≤ min l.length 8 → m + 1 ≤ n → acc.length = k → (∀ v ∈ acc, fitC v) →
    ∃ v, glazierlaw05_fit_l1 fl n l acc (k : Int) = some (v, ()) ∧ v.length = min l.length 8 ∧ ∀ x ∈ v, fitC x
  | 0, k, 0, acc, _, _, h, _, _ => by omega
  | 0, k, n + 1, acc, hm, hk, _, ha, hf => by
    unfold glazierlaw05_fit_l1
    by_cases c1 : k < l.length
    · rw [bnd_eq, lenK, bnd_eq, lt_t (by omega), bite_t, bnd_eq, lt_f (by omega), bite_f]
      exact ⟨acc, rfl, by omega, hf⟩
    · rw [bnd_eq, lenK, bnd_eq, lt_f (by omega), bite_f]
      exact ⟨acc, rfl, by omega, hf⟩
  | m + 1, k, 0, acc, _, _, h, _, _ => by omega
  | m + 1, k, n + 1, acc, hm, hk, hn, ha, hf => by
    have hkl : k < l.length := by omega
    obtain ⟨r, er, hr⟩ := fit_C l[k]
    unfold glazierlaw05_fit_l1
    rw [bnd_eq, lenK, bnd_eq, lt_t (by omega), bite_t, bnd_eq, lt_t (by omega), bite_t, lgetK hkl, ob_some, er, ob_some, appOk_t (by simp; omega) (by decide), bgd_t, bnd_eq, appK, bnd_eq, addI (by omega)]
    have ih := fit_loop fl (l := l) m (k + 1) n (acc ++ [r]) (by omega) (by omega) (by omega) (by simp [ha]) (fun v hv => by
      rcases List.mem_append.1 hv with hv | hv
      · exact hf v hv
      · simp at hv; subst hv; exact hr)
    rw [show ((k + 1 : Nat) : Int) = (k : Int) + 1 by omega] at ih
    exact ih

theorem cfit {fl : Nat} (hfl : 10 ≤ fl) (l : List Vtx) : ∃ v, glazierlaw05_fit fl l = some v ∧ v.length = min l.length 8 ∧ ∀ x ∈ v, fitC x := by
  obtain ⟨v, ev, h1, h2⟩ := fit_loop fl (l := l) (min l.length 8) 0 fl [] (by omega) (by omega) (by omega) rfl (by simp)
  rw [show ((0 : Nat) : Int) = 0 from rfl] at ev
  refine ⟨v, ?_, h1, h2⟩
  unfold glazierlaw05_fit
  rw [ev]
  rfl

theorem few_loop (fl : Nat) {l : List Vtx} : ∀ (m k n : Nat) (acc : List Vtx), min l.length 8 - k = m → k ≤ min l.length 8 → m + 1 ≤ n → acc.length = k → (∀ v ∈ acc, okB v) →
    ∃ v, glazierlaw05_few_l1 fl n l acc (k : Int) = some (v, ()) ∧ v.length = min l.length 8 ∧ ∀ x ∈ v, okB x
  | 0, k, 0, acc, _, _, h, _, _ => by omega
  | 0, k, n + 1, acc, hm, hk, _, ha, hf => by
    unfold glazierlaw05_few_l1
    by_cases c1 : k < l.length
    · rw [bnd_eq, lenK, bnd_eq, lt_t (by omega), bite_t, bnd_eq, lt_f (by omega), bite_f]
      exact ⟨acc, rfl, by omega, hf⟩
    · rw [bnd_eq, lenK, bnd_eq, lt_f (by omega), bite_f]
      exact ⟨acc, rfl, by omega, hf⟩
  | m + 1, k, 0, acc, _, _, h, _, _ => by omega
  | m + 1, k, n + 1, acc, hm, hk, hn, ha, hf => by
    have hkl : k < l.length := by omega
    obtain ⟨r, er, hr⟩ := small_C l[k]
    unfold glazierlaw05_few_l1
    rw [bnd_eq, lenK, bnd_eq, lt_t (by omega), bite_t, bnd_eq, lt_t (by omega), bite_t, lgetK hkl, ob_some, er, ob_some, appOk_t (by simp; omega) (by decide), bgd_t, bnd_eq, appK, bnd_eq, addI (by omega)]
    have ih := few_loop fl (l := l) m (k + 1) n (acc ++ [r]) (by omega) (by omega) (by omega) (by simp [ha]) (fun v hv => by
      rcases List.mem_append.1 hv with hv | hv
      · exact hf v hv
      · simp at hv; subst hv; exact hr)
    rw [show ((k + 1 : Nat) : Int) = (k : Int) + 1 by omega] at ih
    exact ih

theorem cfew {fl : Nat} (hfl : 10 ≤ fl) (l : List Vtx) : ∃ v, glazierlaw05_few fl l = some v ∧ v.length = min l.length 8 ∧ ∀ x ∈ v, okB x := by
  obtain ⟨v, ev, h1, h2⟩ := few_loop fl (l := l) (min l.length 8) 0 fl [] (by omega) (by omega) (by omega) rfl (by simp)
  rw [show ((0 : Nat) : Int) = 0 from rfl] at ev
  refine ⟨v, ?_, h1, h2⟩
  unfold glazierlaw05_few
  rw [ev]
  rfl

/-! ### What stays, and what goes -/
theorem flat_in {p : Int} : ∀ {ps : List (Vtx × Vtx)}, (∀ q ∈ ps, 0 ≤ dist p q.1 ∧ 0 ≤ dist p q.2) → ps.flatMap (step p) = ps.map (·.1)
  | [], _ => rfl
  | q :: r, h => by
    obtain ⟨h1, h2⟩ := h q (by simp)
    rw [List.flatMap_cons, List.map_cons, flat_in fun q hq => h q (by simp [hq])]
    unfold step
    rw [if_pos h1, if_neg (by omega)]
    rfl

theorem prs_fst (l : List Vtx) : (prs l).map (·.1) = l := by
  unfold prs
  exact List.map_fst_zip (by rw [rot1_length]; exact Nat.le_refl _)

theorem prs_snd (l : List Vtx) : (prs l).map (·.2) = rot1 l := by
  unfold prs
  exact List.map_snd_zip (by rw [rot1_length]; exact Nat.le_refl _)

theorem byL_stays {p : Int} {l : List Vtx} (h : ∀ v ∈ l, 0 ≤ dist p v) : byL p l = l := by
  unfold byL
  split
  · unfold cutBy
    rw [flat_in fun q hq => ⟨h _ (prs_mem hq).1, h _ (prs_mem hq).2⟩, prs_fst]
  · rfl

theorem byL_goes {p : Int} (hp : isP p) {l : List Vtx} (h : ∀ v ∈ l, dist p v < 0) : byL p l = [] := by
  unfold byL
  rw [if_pos hp]
  unfold cutBy
  rw [List.flatMap_eq_nil_iff]
  intro q hq
  have h1 := h _ (prs_mem hq).1
  have h2 := h _ (prs_mem hq).2
  unfold step
  rw [if_neg (by omega), if_neg (by omega)]

theorem byL_nil (p : Int) : byL p [] = [] := byL_stays (by simp)
end Go.Proofs.Ytofmlolhhcffoaa.G
