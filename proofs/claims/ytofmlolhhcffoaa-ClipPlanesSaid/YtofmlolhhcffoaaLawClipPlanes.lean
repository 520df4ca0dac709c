/- ClipPlanes holds. -/
import Derived.Test.YtofmlolhhcffoaaLawClipMore
set_option linter.unusedVariables false
namespace Go.Proofs.Ytofmlolhhcffoaa.clipPlanes
open Go Go.RowKit Go.Proofs.Ytofmlolhhcffoaa.M Go.Proofs.Ytofmlolhhcffoaa.G

theorem loop0 (fl : Nat) {h : Bool} {v now : List Vtx} (hv : ∀ x ∈ now, okB x) (hlen : now.length ≤ 1000) : ∀ (m k n : Nat) (b : Bool), k + m = now.length → m + 1 ≤ n → (b = true → ∀ x ∈ now.take k, 0 ≤ dist 0 x) →
    ∃ b' J, glazierlaw05_ClipPlanes_l1 fl n h v now b (k : Int) = some (h, (v, (now, (b', J)))) ∧ (b' = true → ∀ x ∈ now, 0 ≤ dist 0 x)
  | 0, k, 0, b, _, h, _ => by omega
  | 0, k, n + 1, b, hk, _, hx => by
    unfold glazierlaw05_ClipPlanes_l1
    rw [bnd_eq, lenK, bnd_eq, lt_f (by omega), bite_f]
    rw [List.take_of_length_le (by omega)] at hx
    exact ⟨b, _, rfl, hx⟩
  | m + 1, k, 0, b, _, h, _ => by omega
  | m + 1, k, n + 1, b, hk, hn, hx => by
    have hkl : k < now.length := by omega
    unfold glazierlaw05_ClipPlanes_l1
    rw [bnd_eq, lenK, bnd_eq, lt_t (by omega), bite_t]
    cases b with
    | false =>
      rw [bite_f, bnd_eq, addI (by omega), show (k : Int) + 1 = ((k + 1 : Nat) : Int) by omega]
      exact loop0 fl hv hlen m (k + 1) n false (by omega) (by omega) (fun h => by cases h)
    | true =>
      rw [bite_t, lgetK hkl, ob_some, ref_dist (hv _ (List.getElem_mem hkl)), ob_some, bnd_eq, bnd_eq, addI (by omega), show (k : Int) + 1 = ((k + 1 : Nat) : Int) by omega]
      refine loop0 fl hv hlen m (k + 1) n _ (by omega) (by omega) fun hb x hx' => ?_
      rw [List.take_succ_eq_append_getElem hkl] at hx'
      rcases List.mem_append.1 hx' with h | h
      · exact hx rfl x h
      · simp at h
        subst h
        exact of_decide_eq_true hb

theorem cut0 {fl : Nat} {h : Bool} {v now : List Vtx} (hv : ∀ x ∈ now, okB x) (hlen : now.length ≤ 500) (hfl : 1100 ≤ fl) : ∃ J, glazierlaw05_ClipPlanes_j2 fl h v now = some (.inr (h, (v, (byL 0 now, J)))) := by
  have hl := byL_length 0 now
  obtain ⟨b, J, e, hb⟩ := loop0 fl (h := h) (v := v) hv (by omega) now.length 0 fl true (by omega) (by omega) (by simp)
  rw [show ((0 : Nat) : Int) = 0 from rfl] at e
  unfold glazierlaw05_ClipPlanes_j2
  rw [e, ob_some]
  dsimp only
  rw [by_spec hv (by omega) (by omega), ob_some]
  rw [csame (by omega) (by omega), ob_some]
  cases b with
  | true =>
    rw [byL_stays (hb rfl), decide_eq_true rfl]
    exact ⟨_, rfl⟩
  | false => exact ⟨_, rfl⟩

theorem loop1 (fl : Nat) {h : Bool} {v now : List Vtx} (hv : ∀ x ∈ now, okB x) (hlen : now.length ≤ 1000) : ∀ (m k n : Nat) (b : Bool), ∀ (y0 : List Vtx) (y1 : Bool) (y2 : Int) (y3 : List Vtx) (y4 : Int) (y5 : Bool) (y6 : List Vtx) (y7 : List Vtx) (y8 : List Vtx) (y9 : Bool) (y10 : Bool) (y11 : Bool) (y12 : Bool), k + m = now.length → m + 1 ≤ n → (b = true → ∀ x ∈ now.take k, 0 ≤ dist 1 x) →
    ∃ b' J, glazierlaw05_ClipPlanes_l3 fl n h v now b (k : Int) y0 y1 y2 y3 y4 y5 y6 y7 y8 y9 y10 y11 y12 = some (h, (v, (now, (b', J)))) ∧ (b' = true → ∀ x ∈ now, 0 ≤ dist 1 x)
  | 0, k, 0, b, y0, y1, y2, y3, y4, y5, y6, y7, y8, y9, y10, y11, y12, _, h, _ => by omega
  | 0, k, n + 1, b, y0, y1, y2, y3, y4, y5, y6, y7, y8, y9, y10, y11, y12, hk, _, hx => by
    unfold glazierlaw05_ClipPlanes_l3
    rw [bnd_eq, lenK, bnd_eq, lt_f (by omega), bite_f]
    rw [List.take_of_length_le (by omega)] at hx
    exact ⟨b, _, rfl, hx⟩
  | m + 1, k, 0, b, y0, y1, y2, y3, y4, y5, y6, y7, y8, y9, y10, y11, y12, _, h, _ => by omega
  | m + 1, k, n + 1, b, y0, y1, y2, y3, y4, y5, y6, y7, y8, y9, y10, y11, y12, hk, hn, hx => by
    have hkl : k < now.length := by omega
    unfold glazierlaw05_ClipPlanes_l3
    rw [bnd_eq, lenK, bnd_eq, lt_t (by omega), bite_t]
    cases b with
    | false =>
      rw [bite_f, bnd_eq, addI (by omega), show (k : Int) + 1 = ((k + 1 : Nat) : Int) by omega]
      exact loop1 fl hv hlen m (k + 1) n false _ _ _ _ _ _ _ _ _ _ _ _ _ (by omega) (by omega) (fun h => by cases h)
    | true =>
      rw [bite_t, lgetK hkl, ob_some, ref_dist (hv _ (List.getElem_mem hkl)), ob_some, bnd_eq, bnd_eq, addI (by omega), show (k : Int) + 1 = ((k + 1 : Nat) : Int) by omega]
      refine loop1 fl hv hlen m (k + 1) n _ _ _ _ _ _ _ _ _ _ _ _ _ _ (by omega) (by omega) fun hb x hx' => ?_
      rw [List.take_succ_eq_append_getElem hkl] at hx'
      rcases List.mem_append.1 hx' with h | h
      · exact hx rfl x h
      · simp at h
        subst h
        exact of_decide_eq_true hb

theorem cut1 {fl : Nat} {h : Bool} {v now : List Vtx} (x3 : Bool) (x4 : Int) (y0 : List Vtx) (y1 : Bool) (y2 : Int) (y3 : List Vtx) (y4 : Int) (y5 : Bool) (y6 : List Vtx) (y7 : List Vtx) (y8 : List Vtx) (y9 : Bool) (y10 : Bool) (y11 : Bool) (y12 : Bool) (hv : ∀ x ∈ now, okB x) (hlen : now.length ≤ 500) (hfl : 1100 ≤ fl) : ∃ J, glazierlaw05_ClipPlanes_j4 fl h v now x3 x4 y0 y1 y2 y3 y4 y5 y6 y7 y8 y9 y10 y11 y12 = some (.inr (h, (v, (byL 1 now, J)))) := by
  have hl := byL_length 1 now
  obtain ⟨b, J, e, hb⟩ := loop1 fl (h := h) (v := v) hv (by omega) now.length 0 fl true y0 y1 y2 y3 y4 y5 y6 y7 y8 y9 y10 y11 y12 (by omega) (by omega) (by simp)
  rw [show ((0 : Nat) : Int) = 0 from rfl] at e
  unfold glazierlaw05_ClipPlanes_j4
  rw [e, ob_some]
  dsimp only
  rw [by_spec hv (by omega) (by omega), ob_some]
  rw [csame (by omega) (by omega), ob_some]
  cases b with
  | true =>
    rw [byL_stays (hb rfl), decide_eq_true rfl]
    exact ⟨_, rfl⟩
  | false => exact ⟨_, rfl⟩

theorem loop2 (fl : Nat) {h : Bool} {v now : List Vtx} (hv : ∀ x ∈ now, okB x) (hlen : now.length ≤ 1000) : ∀ (m k n : Nat) (b : Bool), ∀ (y0 : List Vtx) (y1 : Bool) (y2 : Int) (y3 : List Vtx) (y4 : Int) (y5 : Bool) (y6 : List Vtx) (y7 : List Vtx) (y8 : List Vtx) (y9 : Bool) (y10 : Bool) (y11 : Bool) (y12 : Bool), k + m = now.length → m + 1 ≤ n → (b = true → ∀ x ∈ now.take k, 0 ≤ dist 2 x) →
    ∃ b' J, glazierlaw05_ClipPlanes_l5 fl n h v now b (k : Int) y0 y1 y2 y3 y4 y5 y6 y7 y8 y9 y10 y11 y12 = some (h, (v, (now, (b', J)))) ∧ (b' = true → ∀ x ∈ now, 0 ≤ dist 2 x)
  | 0, k, 0, b, y0, y1, y2, y3, y4, y5, y6, y7, y8, y9, y10, y11, y12, _, h, _ => by omega
  | 0, k, n + 1, b, y0, y1, y2, y3, y4, y5, y6, y7, y8, y9, y10, y11, y12, hk, _, hx => by
    unfold glazierlaw05_ClipPlanes_l5
    rw [bnd_eq, lenK, bnd_eq, lt_f (by omega), bite_f]
    rw [List.take_of_length_le (by omega)] at hx
    exact ⟨b, _, rfl, hx⟩
  | m + 1, k, 0, b, y0, y1, y2, y3, y4, y5, y6, y7, y8, y9, y10, y11, y12, _, h, _ => by omega
  | m + 1, k, n + 1, b, y0, y1, y2, y3, y4, y5, y6, y7, y8, y9, y10, y11, y12, hk, hn, hx => by
    have hkl : k < now.length := by omega
    unfold glazierlaw05_ClipPlanes_l5
    rw [bnd_eq, lenK, bnd_eq, lt_t (by omega), bite_t]
    cases b with
    | false =>
      rw [bite_f, bnd_eq, addI (by omega), show (k : Int) + 1 = ((k + 1 : Nat) : Int) by omega]
      exact loop2 fl hv hlen m (k + 1) n false _ _ _ _ _ _ _ _ _ _ _ _ _ (by omega) (by omega) (fun h => by cases h)
    | true =>
      rw [bite_t, lgetK hkl, ob_some, ref_dist (hv _ (List.getElem_mem hkl)), ob_some, bnd_eq, bnd_eq, addI (by omega), show (k : Int) + 1 = ((k + 1 : Nat) : Int) by omega]
      refine loop2 fl hv hlen m (k + 1) n _ _ _ _ _ _ _ _ _ _ _ _ _ _ (by omega) (by omega) fun hb x hx' => ?_
      rw [List.take_succ_eq_append_getElem hkl] at hx'
      rcases List.mem_append.1 hx' with h | h
      · exact hx rfl x h
      · simp at h
        subst h
        exact of_decide_eq_true hb

theorem cut2 {fl : Nat} {h : Bool} {v now : List Vtx} (x3 : Bool) (x4 : Int) (y0 : List Vtx) (y1 : Bool) (y2 : Int) (y3 : List Vtx) (y4 : Int) (y5 : Bool) (y6 : List Vtx) (y7 : List Vtx) (y8 : List Vtx) (y9 : Bool) (y10 : Bool) (y11 : Bool) (y12 : Bool) (hv : ∀ x ∈ now, okB x) (hlen : now.length ≤ 500) (hfl : 1100 ≤ fl) : ∃ J, glazierlaw05_ClipPlanes_j6 fl h v now x3 x4 y0 y1 y2 y3 y4 y5 y6 y7 y8 y9 y10 y11 y12 = some (.inr (h, (v, (byL 2 now, J)))) := by
  have hl := byL_length 2 now
  obtain ⟨b, J, e, hb⟩ := loop2 fl (h := h) (v := v) hv (by omega) now.length 0 fl true y0 y1 y2 y3 y4 y5 y6 y7 y8 y9 y10 y11 y12 (by omega) (by omega) (by simp)
  rw [show ((0 : Nat) : Int) = 0 from rfl] at e
  unfold glazierlaw05_ClipPlanes_j6
  rw [e, ob_some]
  dsimp only
  rw [by_spec hv (by omega) (by omega), ob_some]
  rw [csame (by omega) (by omega), ob_some]
  cases b with
  | true =>
    rw [byL_stays (hb rfl), decide_eq_true rfl]
    exact ⟨_, rfl⟩
  | false => exact ⟨_, rfl⟩

theorem loop3 (fl : Nat) {h : Bool} {v now : List Vtx} (hv : ∀ x ∈ now, okB x) (hlen : now.length ≤ 1000) : ∀ (m k n : Nat) (b : Bool), ∀ (y0 : List Vtx) (y1 : Bool) (y2 : Int) (y3 : List Vtx) (y4 : Int) (y5 : Bool) (y6 : List Vtx) (y7 : List Vtx) (y8 : List Vtx) (y9 : Bool) (y10 : Bool) (y11 : Bool) (y12 : Bool), k + m = now.length → m + 1 ≤ n → (b = true → ∀ x ∈ now.take k, 0 ≤ dist 3 x) →
    ∃ b' J, glazierlaw05_ClipPlanes_l7 fl n h v now b (k : Int) y0 y1 y2 y3 y4 y5 y6 y7 y8 y9 y10 y11 y12 = some (h, (v, (now, (b', J)))) ∧ (b' = true → ∀ x ∈ now, 0 ≤ dist 3 x)
  | 0, k, 0, b, y0, y1, y2, y3, y4, y5, y6, y7, y8, y9, y10, y11, y12, _, h, _ => by omega
  | 0, k, n + 1, b, y0, y1, y2, y3, y4, y5, y6, y7, y8, y9, y10, y11, y12, hk, _, hx => by
    unfold glazierlaw05_ClipPlanes_l7
    rw [bnd_eq, lenK, bnd_eq, lt_f (by omega), bite_f]
    rw [List.take_of_length_le (by omega)] at hx
    exact ⟨b, _, rfl, hx⟩
  | m + 1, k, 0, b, y0, y1, y2, y3, y4, y5, y6, y7, y8, y9, y10, y11, y12, _, h, _ => by omega
  | m + 1, k, n + 1, b, y0, y1, y2, y3, y4, y5, y6, y7, y8, y9, y10, y11, y12, hk, hn, hx => by
    have hkl : k < now.length := by omega
    unfold glazierlaw05_ClipPlanes_l7
    rw [bnd_eq, lenK, bnd_eq, lt_t (by omega), bite_t]
    cases b with
    | false =>
      rw [bite_f, bnd_eq, addI (by omega), show (k : Int) + 1 = ((k + 1 : Nat) : Int) by omega]
      exact loop3 fl hv hlen m (k + 1) n false _ _ _ _ _ _ _ _ _ _ _ _ _ (by omega) (by omega) (fun h => by cases h)
    | true =>
      rw [bite_t, lgetK hkl, ob_some, ref_dist (hv _ (List.getElem_mem hkl)), ob_some, bnd_eq, bnd_eq, addI (by omega), show (k : Int) + 1 = ((k + 1 : Nat) : Int) by omega]
      refine loop3 fl hv hlen m (k + 1) n _ _ _ _ _ _ _ _ _ _ _ _ _ _ (by omega) (by omega) fun hb x hx' => ?_
      rw [List.take_succ_eq_append_getElem hkl] at hx'
      rcases List.mem_append.1 hx' with h | h
      · exact hx rfl x h
      · simp at h
        subst h
        exact of_decide_eq_true hb

theorem cut3 {fl : Nat} {h : Bool} {v now : List Vtx} (x3 : Bool) (x4 : Int) (y0 : List Vtx) (y1 : Bool) (y2 : Int) (y3 : List Vtx) (y4 : Int) (y5 : Bool) (y6 : List Vtx) (y7 : List Vtx) (y8 : List Vtx) (y9 : Bool) (y10 : Bool) (y11 : Bool) (y12 : Bool) (hv : ∀ x ∈ now, okB x) (hlen : now.length ≤ 500) (hfl : 1100 ≤ fl) : ∃ J, glazierlaw05_ClipPlanes_j8 fl h v now x3 x4 y0 y1 y2 y3 y4 y5 y6 y7 y8 y9 y10 y11 y12 = some (.inr (h, (v, (byL 3 now, J)))) := by
  have hl := byL_length 3 now
  obtain ⟨b, J, e, hb⟩ := loop3 fl (h := h) (v := v) hv (by omega) now.length 0 fl true y0 y1 y2 y3 y4 y5 y6 y7 y8 y9 y10 y11 y12 (by omega) (by omega) (by simp)
  rw [show ((0 : Nat) : Int) = 0 from rfl] at e
  unfold glazierlaw05_ClipPlanes_j8
  rw [e, ob_some]
  dsimp only
  rw [by_spec hv (by omega) (by omega), ob_some]
  rw [csame (by omega) (by omega), ob_some]
  cases b with
  | true =>
    rw [byL_stays (hb rfl), decide_eq_true rfl]
    exact ⟨_, rfl⟩
  | false => exact ⟨_, rfl⟩

theorem loop4 (fl : Nat) {h : Bool} {v now : List Vtx} (hv : ∀ x ∈ now, okB x) (hlen : now.length ≤ 1000) : ∀ (m k n : Nat) (b : Bool), ∀ (y0 : List Vtx) (y1 : Bool) (y2 : Int) (y3 : List Vtx) (y4 : Int) (y5 : Bool) (y6 : List Vtx) (y7 : List Vtx) (y8 : List Vtx) (y9 : Bool) (y10 : Bool) (y11 : Bool) (y12 : Bool), k + m = now.length → m + 1 ≤ n → (b = true → ∀ x ∈ now.take k, 0 ≤ dist 4 x) →
    ∃ b' J, glazierlaw05_ClipPlanes_l9 fl n h v now b (k : Int) y0 y1 y2 y3 y4 y5 y6 y7 y8 y9 y10 y11 y12 = some (h, (v, (now, (b', J)))) ∧ (b' = true → ∀ x ∈ now, 0 ≤ dist 4 x)
  | 0, k, 0, b, y0, y1, y2, y3, y4, y5, y6, y7, y8, y9, y10, y11, y12, _, h, _ => by omega
  | 0, k, n + 1, b, y0, y1, y2, y3, y4, y5, y6, y7, y8, y9, y10, y11, y12, hk, _, hx => by
    unfold glazierlaw05_ClipPlanes_l9
    rw [bnd_eq, lenK, bnd_eq, lt_f (by omega), bite_f]
    rw [List.take_of_length_le (by omega)] at hx
    exact ⟨b, _, rfl, hx⟩
  | m + 1, k, 0, b, y0, y1, y2, y3, y4, y5, y6, y7, y8, y9, y10, y11, y12, _, h, _ => by omega
  | m + 1, k, n + 1, b, y0, y1, y2, y3, y4, y5, y6, y7, y8, y9, y10, y11, y12, hk, hn, hx => by
    have hkl : k < now.length := by omega
    unfold glazierlaw05_ClipPlanes_l9
    rw [bnd_eq, lenK, bnd_eq, lt_t (by omega), bite_t]
    cases b with
    | false =>
      rw [bite_f, bnd_eq, addI (by omega), show (k : Int) + 1 = ((k + 1 : Nat) : Int) by omega]
      exact loop4 fl hv hlen m (k + 1) n false _ _ _ _ _ _ _ _ _ _ _ _ _ (by omega) (by omega) (fun h => by cases h)
    | true =>
      rw [bite_t, lgetK hkl, ob_some, ref_dist (hv _ (List.getElem_mem hkl)), ob_some, bnd_eq, bnd_eq, addI (by omega), show (k : Int) + 1 = ((k + 1 : Nat) : Int) by omega]
      refine loop4 fl hv hlen m (k + 1) n _ _ _ _ _ _ _ _ _ _ _ _ _ _ (by omega) (by omega) fun hb x hx' => ?_
      rw [List.take_succ_eq_append_getElem hkl] at hx'
      rcases List.mem_append.1 hx' with h | h
      · exact hx rfl x h
      · simp at h
        subst h
        exact of_decide_eq_true hb

theorem cut4 {fl : Nat} {h : Bool} {v now : List Vtx} (x3 : Bool) (x4 : Int) (y0 : List Vtx) (y1 : Bool) (y2 : Int) (y3 : List Vtx) (y4 : Int) (y5 : Bool) (y6 : List Vtx) (y7 : List Vtx) (y8 : List Vtx) (y9 : Bool) (y10 : Bool) (y11 : Bool) (y12 : Bool) (hv : ∀ x ∈ now, okB x) (hlen : now.length ≤ 500) (hfl : 1100 ≤ fl) : ∃ J, glazierlaw05_ClipPlanes_j10 fl h v now x3 x4 y0 y1 y2 y3 y4 y5 y6 y7 y8 y9 y10 y11 y12 = some (.inr (h, (v, (byL 4 now, J)))) := by
  have hl := byL_length 4 now
  obtain ⟨b, J, e, hb⟩ := loop4 fl (h := h) (v := v) hv (by omega) now.length 0 fl true y0 y1 y2 y3 y4 y5 y6 y7 y8 y9 y10 y11 y12 (by omega) (by omega) (by simp)
  rw [show ((0 : Nat) : Int) = 0 from rfl] at e
  unfold glazierlaw05_ClipPlanes_j10
  rw [e, ob_some]
  dsimp only
  rw [by_spec hv (by omega) (by omega), ob_some]
  rw [csame (by omega) (by omega), ob_some]
  cases b with
  | true =>
    rw [byL_stays (hb rfl), decide_eq_true rfl]
    exact ⟨_, rfl⟩
  | false => exact ⟨_, rfl⟩

theorem law (x0 : (Ty.list (.pair (.int .i64) (.pair (.int .i64) (.pair (.int .i64) (.pair (.int .i64) (.pair (.int .i64) (.pair (.int .i64) (.pair (.int .i64) (.int .i64))))))))).T)
    (h0 : okT (Ty.list (.pair (.int .i64) (.pair (.int .i64) (.pair (.int .i64) (.pair (.int .i64) (.pair (.int .i64) (.pair (.int .i64) (.pair (.int .i64) (.int .i64))))))))) x0) : ∃ fl, glazierlaw05_ClipPlanes fl x0 = some true := by
  refine ⟨5000, ?_⟩
  unfold glazierlaw05_ClipPlanes
  obtain ⟨v, ev, hl, hf⟩ := cfit (fl := 5000) (by omega) x0
  have hv : ∀ x ∈ v, okB x := fun x hx => fitC_ok (hf x hx)
  have h0 := byL_in (p := 0) hv
  have h1 := byL_in (p := 1) h0
  have h2 := byL_in (p := 2) h1
  have h3 := byL_in (p := 3) h2
  have l0 := byL_length 0 v
  have l1 := byL_length 1 (byL 0 v)
  have l2 := byL_length 2 (byL 1 (byL 0 v))
  have l3 := byL_length 3 (byL 2 (byL 1 (byL 0 v)))
  have l4 := byL_length 4 (byL 3 (byL 2 (byL 1 (byL 0 v))))
  rw [cshown (by omega), ob_some, ev, ob_some, ob_some]
  obtain ⟨J0, e0⟩ := cut0 (fl := 5000) (h := true) (v := v) hv (by omega) (by omega)
  rw [e0, ob_some]
  dsimp only [osum]
  obtain ⟨J1, e1⟩ := cut1 (fl := 5000) (h := true) (v := v) (now := (byL 0 v)) (x3 := _) (x4 := _) (y0 := _) (y1 := _) (y2 := _) (y3 := _) (y4 := _) (y5 := _) (y6 := _) (y7 := _) (y8 := _) (y9 := _) (y10 := _) (y11 := _) (y12 := _) h0 (by omega) (by omega)
  rw [e1, ob_some]
  dsimp only [osum]
  obtain ⟨J2, e2⟩ := cut2 (fl := 5000) (h := true) (v := v) (now := (byL 1 (byL 0 v))) (x3 := _) (x4 := _) (y0 := _) (y1 := _) (y2 := _) (y3 := _) (y4 := _) (y5 := _) (y6 := _) (y7 := _) (y8 := _) (y9 := _) (y10 := _) (y11 := _) (y12 := _) h1 (by omega) (by omega)
  rw [e2, ob_some]
  dsimp only [osum]
  obtain ⟨J3, e3⟩ := cut3 (fl := 5000) (h := true) (v := v) (now := (byL 2 (byL 1 (byL 0 v)))) (x3 := _) (x4 := _) (y0 := _) (y1 := _) (y2 := _) (y3 := _) (y4 := _) (y5 := _) (y6 := _) (y7 := _) (y8 := _) (y9 := _) (y10 := _) (y11 := _) (y12 := _) h2 (by omega) (by omega)
  rw [e3, ob_some]
  dsimp only [osum]
  obtain ⟨J4, e4⟩ := cut4 (fl := 5000) (h := true) (v := v) (now := (byL 3 (byL 2 (byL 1 (byL 0 v))))) (x3 := _) (x4 := _) (y0 := _) (y1 := _) (y2 := _) (y3 := _) (y4 := _) (y5 := _) (y6 := _) (y7 := _) (y8 := _) (y9 := _) (y10 := _) (y11 := _) (y12 := _) h3 (by omega) (by omega)
  rw [e4, ob_some]
  dsimp only [osum]
  rw [poly_spec hv (by omega) (by omega), ob_some, bnd_eq, bnd_eq, lenK]
  show bite (F.lt ((allL v).length : Int) 3) _ (obind (glazierref04_Same 5000 (polyL v) (allL v)) _) = _
  unfold polyL
  by_cases c : (allL v).length < 3
  · rw [lt_t (by omega), bite_t, bite_t, if_pos c]
    rfl
  · rw [lt_f (by omega), bite_f, if_neg c, csame (by unfold allL; omega) (by unfold allL; omega), ob_some, bite_t, decide_eq_true rfl]
end Go.Proofs.Ytofmlolhhcffoaa.clipPlanes
