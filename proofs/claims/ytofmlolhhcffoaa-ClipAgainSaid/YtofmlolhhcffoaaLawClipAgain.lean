/- ClipAgain holds. -/
import Derived.Test.YtofmlolhhcffoaaLawClipMore
set_option linter.unusedVariables false
namespace Go.Proofs.Ytofmlolhhcffoaa.clipAgain
open Go Go.RowKit Go.Proofs.Ytofmlolhhcffoaa.M Go.Proofs.Ytofmlolhhcffoaa.G

theorem loop1 (fl : Nat) {h : Bool} {v : List Vtx} {p : Int} {a : List Vtx} (ha : ∀ x ∈ a, okB x) (hlen : a.length ≤ 1000) : ∀ (m k n : Nat) (acc : List Vtx), k + m = a.length → m + 1 ≤ n → acc.length ≤ k →
    glazierlaw05_ClipAgain_l1 fl n h v p a acc (k : Int) = some (h, (v, (p, (a, (acc ++ (a.drop k).filter (fun x => decide (0 ≤ dist p x)), ())))))
  | 0, k, 0, acc, _, h, _ => by omega
  | 0, k, n + 1, acc, hk, _, _ => by
    unfold glazierlaw05_ClipAgain_l1
    rw [bnd_eq, lenK, bnd_eq, lt_f (by omega), bite_f, List.drop_eq_nil_of_le (by omega), List.filter_nil, List.append_nil]
  | m + 1, k, 0, acc, _, h, _ => by omega
  | m + 1, k, n + 1, acc, hk, hn, hacc => by
    have hkl : k < a.length := by omega
    have ih := fun (acc' : List Vtx) (hac : acc'.length ≤ k + 1) => loop1 fl (h := h) (v := v) (p := p) ha hlen m (k + 1) n acc' (by omega) (by omega) hac
    unfold glazierlaw05_ClipAgain_l1
    rw [bnd_eq, lenK, bnd_eq, lt_t (by omega), bite_t, lgetK hkl, ob_some, ref_dist (ha _ (List.getElem_mem hkl)), ob_some, bnd_eq, ldrop hkl]
    by_cases hd : 0 ≤ dist p a[k]
    · rw [ge_t hd, bite_t, ob_some, appOk_t (by simp; omega) (by decide), bgd_t, bnd_eq, appK, bnd_eq, addI (by omega), show (k : Int) + 1 = ((k + 1 : Nat) : Int) by omega, ih _ (by simp; omega), List.filter_cons_of_pos (by simpa using hd), List.append_assoc]
      rfl
    · rw [ge_f (by omega), bite_f, bnd_eq, addI (by omega), show (k : Int) + 1 = ((k + 1 : Nat) : Int) by omega, ih _ (by omega), List.filter_cons_of_neg (by simpa using hd)]

theorem loop2 (fl : Nat) {h s : Bool} {v a : List Vtx} {p : Int} (hlen : v.length ≤ 1000) : ∀ (m k n : Nat) (lo hi : Int), k + m = v.length → m + 1 ≤ n → (∀ x ∈ v.take k, lo ≤ x.2.1 ∧ x.2.1 ≤ hi) →
    ∃ lo' hi', glazierlaw05_ClipAgain_l2 fl n h v p a s lo hi (k : Int) = some (h, (v, (p, (a, (s, (lo', (hi', ()))))))) ∧ ∀ x ∈ v, lo' ≤ x.2.1 ∧ x.2.1 ≤ hi'
  | 0, k, 0, lo, hi, _, h, _ => by omega
  | 0, k, n + 1, lo, hi, hk, _, hx => by
    unfold glazierlaw05_ClipAgain_l2
    rw [bnd_eq, lenK, bnd_eq, lt_f (by omega), bite_f]
    rw [List.take_of_length_le (by omega)] at hx
    exact ⟨lo, hi, rfl, hx⟩
  | m + 1, k, 0, lo, hi, _, h, _ => by omega
  | m + 1, k, n + 1, lo, hi, hk, hn, hx => by
    have hkl : k < v.length := by omega
    unfold glazierlaw05_ClipAgain_l2
    rw [bnd_eq, lenK, bnd_eq, lt_t (by omega), bite_t, lgetK hkl, ob_some, bnd_eq, ob_some, bnd_eq, bnd_eq, addI (by omega), show (k : Int) + 1 = ((k + 1 : Nat) : Int) by omega]
    refine loop2 fl hlen m (k + 1) n _ _ (by omega) (by omega) fun x hx' => ?_
    rw [f_min, f_max]
    rw [List.take_succ_eq_append_getElem hkl] at hx'
    rcases List.mem_append.1 hx' with h | h
    · have := hx x h
      omega
    · simp at h
      subst h
      omega

theorem loop3 (fl : Nat) {h s : Bool} {v a : List Vtx} {p lo hi : Int} (hlen : a.length ≤ 1000) (hx : ∀ x ∈ a, lo ≤ x.2.1 ∧ x.2.1 ≤ hi) : ∀ (m k n : Nat), k + m = a.length → m + 1 ≤ n →
    glazierlaw05_ClipAgain_l3 fl n h v p a s lo hi (k : Int) = some (.inr (h, (v, (p, (a, (s, ()))))))
  | 0, k, 0, _, h => by omega
  | 0, k, n + 1, hk, _ => by
    unfold glazierlaw05_ClipAgain_l3
    rw [bnd_eq, lenK, bnd_eq, lt_f (by omega), bite_f]
  | m + 1, k, 0, _, h => by omega
  | m + 1, k, n + 1, hk, hn => by
    have hkl : k < a.length := by omega
    have hb := hx _ (List.getElem_mem hkl)
    have ih := loop3 fl (h := h) (s := s) (v := v) (p := p) hlen hx m (k + 1) n (by omega) (by omega)
    unfold glazierlaw05_ClipAgain_l3
    rw [bnd_eq, lenK, bnd_eq, lt_t (by omega), bite_t, lgetK hkl, ob_some, bnd_eq, lt_f hb.1, bite_f, ob_some, bnd_eq, gt_f hb.2, bite_f, bnd_eq, addI (by omega), show (k : Int) + 1 = ((k + 1 : Nat) : Int) by omega]
    exact ih

theorem between {p lo hi : Int} {l : List Vtx} (h : ∀ x ∈ l, lo ≤ x.2.1 ∧ x.2.1 ≤ hi) : ∀ x ∈ byL p l, lo ≤ x.2.1 ∧ x.2.1 ≤ hi := by
  unfold byL
  split
  · refine cut_mem (P := fun x => lo ≤ x.2.1 ∧ x.2.1 ≤ hi) fun q h1 h2 v hv => ?_
    have b1 := h _ h1
    have b2 := h _ h2
    unfold G.step at hv
    split at hv
    · rename_i c1
      rcases List.mem_cons.1 hv with rfl | hv
      · exact b1
      · split at hv
        · rename_i c2
          simp at hv; subst hv
          have := (mid_in (a := q.1.2.1) (b := q.2.2.1) c1 c2).1
          show lo ≤ mid q.1.2.1 q.2.2.1 (dist p q.1) (dist p q.2) ∧ mid q.1.2.1 q.2.2.1 (dist p q.1) (dist p q.2) ≤ hi
          omega
        · cases hv
    · rename_i c1
      split at hv
      · rename_i c2
        simp at hv; subst hv
        have := (mid_in (a := q.2.2.1) (b := q.1.2.1) c2 (show dist p q.1 < 0 by omega)).1
        show lo ≤ mid q.2.2.1 q.1.2.1 (dist p q.2) (dist p q.1) ∧ mid q.2.2.1 q.1.2.1 (dist p q.2) (dist p q.1) ≤ hi
        omega
      · cases hv
  · exact h

theorem law (x0 : (Ty.list (.pair (.int .i64) (.pair (.int .i64) (.pair (.int .i64) (.pair (.int .i64) (.pair (.int .i64) (.pair (.int .i64) (.pair (.int .i64) (.int .i64))))))))).T) (x1 : (Ty.int .u8).T)
    (h0 : okT (Ty.list (.pair (.int .i64) (.pair (.int .i64) (.pair (.int .i64) (.pair (.int .i64) (.pair (.int .i64) (.pair (.int .i64) (.pair (.int .i64) (.int .i64))))))))) x0) (h1 : okT (.int .u8) x1) : ∃ fl, glazierlaw05_ClipAgain fl x0 x1 = some true := by
  refine ⟨5000, ?_⟩
  have h1 := inR_u8.1 h1
  unfold glazierlaw05_ClipAgain
  obtain ⟨v, ev, hl, hf⟩ := cfit (fl := 5000) (by omega) x0
  have hv : ∀ x ∈ v, okB x := fun x hx => fitC_ok (hf x hx)
  rw [cshown (by omega), ob_some, ev, ob_some, bnd_eq, convI (by omega), bnd_eq]
  obtain ⟨p, ep⟩ : ∃ p, p = F.rem x1 5 := ⟨_, rfl⟩
  rw [← ep]
  have hbl := byL_length p v
  have hb := byL_in (p := p) hv
  obtain ⟨a, ea⟩ : ∃ a, a = byL p v := ⟨_, rfl⟩
  rw [by_spec hv (by omega) (by omega), ob_some, ← ea]
  rw [← ea] at hbl hb
  have l1 := loop1 5000 (h := true) (v := v) (p := p) hb (by omega) a.length 0 5000 [] (by omega) (by omega) (by simp)
  rw [show ((0 : Nat) : Int) = 0 from rfl, List.drop_zero, List.nil_append] at l1
  obtain ⟨i, ei⟩ : ∃ i, i = a.filter (fun x => decide (0 ≤ dist p x)) := ⟨_, rfl⟩
  rw [← ei] at l1
  have hil : i.length ≤ a.length := by rw [ei]; exact List.length_filter_le _ _
  have hi : ∀ x ∈ i, okB x := fun x hx => by rw [ei] at hx; exact hb x (List.mem_filter.1 hx).1
  have hid : byL p i = i := byL_stays fun x hx => by rw [ei] at hx; simpa using (List.mem_filter.1 hx).2
  rw [l1, ob_some]
  dsimp only
  rw [by_spec hi (by omega) (by omega), ob_some, hid, csame (by omega) (by omega), ob_some, decide_eq_true rfl]
  obtain ⟨lo, hh, l2, hx⟩ := loop2 5000 (h := true) (s := true) (v := v) (a := a) (p := p) (by omega) v.length 0 5000 32768 (-32768) (by omega) (by omega) (by simp)
  rw [show ((0 : Nat) : Int) = 0 from rfl] at l2
  rw [l2, ob_some]
  dsimp only
  have hxa : ∀ x ∈ a, lo ≤ x.2.1 ∧ x.2.1 ≤ hh := by rw [ea]; exact between hx
  have l3 := loop3 5000 (h := true) (s := true) (v := v) (p := p) (by omega) hxa a.length 0 5000 (by omega) (by omega)
  rw [show ((0 : Nat) : Int) = 0 from rfl] at l3
  rw [l3, ob_some]
  show bite true (bite true (obind (clip_By 5000 p []) _) _) _ = _
  rw [bite_t, bite_t, by_spec (by simp) (by simp) (by simp), ob_some, byL_nil, bnd_eq, bnd_eq, eq_t (by rfl), bite_t, poly_spec (by simp) (by simp) (by omega), ob_some, show polyL [] = [] by unfold polyL allL; simp only [byL_nil]; rfl, bnd_eq, bnd_eq, eq_t (by rfl), bite_t, bnd_eq, bnd_eq, bnd_eq, lenK, lenK]
  dsimp only
  rw [mulI (by omega), bnd_eq, le_t (by omega)]
end Go.Proofs.Ytofmlolhhcffoaa.clipAgain
