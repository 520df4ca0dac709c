/- What is cut by planes. -/
import Derived.Test.YtfejdcdomgeogaaLawVecs
set_option linter.unusedVariables false
namespace Go.Proofs.Ytfejdcdomgeogaa.G
open Go Go.RowKit Go.Proofs.Ytfejdcdomgeogaa.M

/-! ### Cutting by a plane -/
def step (p : Int) (q : Vtx × Vtx) : List Vtx :=
  if 0 ≤ dist p q.1 then q.1 :: (if dist p q.2 < 0 then [btw p q.1 q.2] else []) else if 0 ≤ dist p q.2 then [btw p q.2 q.1] else []

def rot1 (l : List Vtx) : List Vtx := l.drop 1 ++ l.take 1
def prs (l : List Vtx) : List (Vtx × Vtx) := l.zip (rot1 l)
def cutBy (p : Int) (l : List Vtx) : List Vtx := (prs l).flatMap (step p)
def byL (p : Int) (l : List Vtx) : List Vtx := if isP p then cutBy p l else l

theorem rot1_length (l : List Vtx) : (rot1 l).length = l.length := by
  unfold rot1
  rw [List.length_append, List.length_drop, List.length_take]
  omega

theorem prs_length (l : List Vtx) : (prs l).length = l.length := by
  unfold prs
  rw [List.length_zip, rot1_length, Nat.min_self]

theorem rot1_get {l : List Vtx} {k : Nat} (h : k < l.length) : (rot1 l)[k]? = some (l[(k + 1) % l.length]'(Nat.mod_lt _ (by omega))) := by
  unfold rot1
  by_cases hk : k + 1 < l.length
  · rw [List.getElem?_append_left (by rw [List.length_drop]; omega), List.getElem?_drop, Nat.add_comm 1 k, List.getElem?_eq_getElem hk]
    congr 1
    exact getElem_congr_idx (Nat.mod_eq_of_lt hk).symm
  · have he : k + 1 = l.length := by omega
    rw [List.getElem?_append_right (by rw [List.length_drop]; omega), List.length_drop, show k - (l.length - 1) = 0 by omega, List.getElem?_take, if_pos (by decide), List.getElem?_eq_getElem (by omega)]
    congr 1
    exact getElem_congr_idx (by rw [he, Nat.mod_self])

theorem prs_get {l : List Vtx} {k : Nat} (h : k < l.length) : (prs l)[k]'(by rw [prs_length]; exact h) = (l[k], l[(k + 1) % l.length]'(Nat.mod_lt _ (by omega))) := by
  have h2 := rot1_get h
  have hr : k < (rot1 l).length := by rw [rot1_length]; exact h
  rw [List.getElem?_eq_getElem hr] at h2
  injection h2 with h2
  unfold prs
  rw [List.getElem_zip, h2]

theorem prs_mem {l : List Vtx} {q : Vtx × Vtx} (h : q ∈ prs l) : q.1 ∈ l ∧ q.2 ∈ l := by
  have := List.of_mem_zip (a := q.1) (b := q.2) (l₁ := l) (l₂ := rot1 l) h
  refine ⟨this.1, ?_⟩
  rcases List.mem_append.1 this.2 with h | h
  · exact List.mem_of_mem_drop h
  · exact List.mem_of_mem_take h

theorem step_in {M p : Int} {q : Vtx × Vtx} (h1 : okC M q.1) (h2 : okC M q.2) : ∀ v ∈ step p q, okC M v := fun v hv => by
  unfold step at hv
  split at hv
  · rcases List.mem_cons.1 hv with rfl | hv
    · exact h1
    · split at hv
      · simp at hv; subst hv; exact btw_in h1 h2 (by assumption) (by assumption)
      · cases hv
  · split at hv
    · simp at hv; subst hv; exact btw_in h2 h1 (by assumption) (by omega)
    · cases hv

theorem cut_mem {P : Vtx → Prop} {p : Int} {l : List Vtx} (h : ∀ q, q.1 ∈ l → q.2 ∈ l → ∀ v ∈ step p q, P v) : ∀ v ∈ cutBy p l, P v := fun v hv => by
  obtain ⟨q, hq, hv⟩ := List.mem_flatMap.1 hv
  exact h q (prs_mem hq).1 (prs_mem hq).2 v hv

theorem byL_in {M p : Int} {l : List Vtx} (h : ∀ v ∈ l, okC M v) : ∀ v ∈ byL p l, okC M v := by
  unfold byL
  split
  · exact cut_mem fun q h1 h2 => step_in (h _ h1) (h _ h2)
  · exact h

theorem step_length (p : Int) (q : Vtx × Vtx) : (step p q).length ≤ 2 := by
  unfold step
  split
  · split <;> simp
  · split <;> simp

theorem flat_length {ps : List (Vtx × Vtx)} {p : Int} : (ps.flatMap (step p)).length ≤ 2 * ps.length := by
  induction ps with
  | nil => simp
  | cons q r ih =>
    rw [List.flatMap_cons, List.length_append, List.length_cons]
    have := step_length p q
    omega

theorem byL_length (p : Int) (l : List Vtx) : (byL p l).length ≤ 2 * l.length := by
  unfold byL
  split
  · have := flat_length (ps := prs l) (p := p)
    rw [prs_length] at this
    exact this
  · omega

theorem nextI {k n : Nat} (h : k < n) (hn : n ≤ 10000) : F.rem (F.add .i64 (k : Int) 1) (n : Int) = (((k + 1) % n : Nat) : Int) := by
  rw [addI (by omega)]
  unfold F.rem
  rw [show (k : Int) + 1 = ((k + 1 : Nat) : Int) by omega, Int.tmod_eq_emod_of_nonneg (by omega)]
  rfl

theorem crossV_t {p : Int} {a b : Vtx} (hp : isP p) (h1 : 0 ≤ dist p a) (h2 : dist p b < 0) : crossV p a b = true := decide_eq_true ⟨hp, h1, h2⟩
theorem crossV_f {p : Int} {a b : Vtx} (h : dist p a < 0 ∨ 0 ≤ dist p b) : crossV p a b = false := decide_eq_false (by omega)

theorem by_loop (fl : Nat) {p : Int} (hp : isP p) {l : List Vtx} (hl : ∀ v ∈ l, okB v) (hlen : l.length ≤ 10000) : ∀ (m k n : Nat) (acc : List Vtx), k + m = l.length → m + 1 ≤ n → acc.length ≤ 2 * k →
    clip_By_l1 fl n p l acc l (l.length : Int) (k : Int) = some (acc ++ ((prs l).drop k).flatMap (step p), ())
  | 0, k, 0, acc, _, h, _ => by omega
  | 0, k, n + 1, acc, hk, _, _ => by
    unfold clip_By_l1
    rw [bnd_eq, lt_f (by omega), bite_f, List.drop_eq_nil_of_le (by rw [prs_length]; omega), List.flatMap_nil, List.append_nil]
  | m + 1, k, 0, acc, _, h, _ => by omega
  | m + 1, k, n + 1, acc, hk, hn, ha => by
    have hkl : k < l.length := by omega
    have hnx : (k + 1) % l.length < l.length := Nat.mod_lt _ (by omega)
    have hps : k < (prs l).length := by rw [prs_length]; exact hkl
    unfold clip_By_l1
    rw [bnd_eq, lt_t (by omega), bite_t, lgetK hkl, ob_some, bnd_eq, bnd_eq, lenK, nz_t (by omega), bgd_t, bnd_eq, nextI hkl hlen, lgetK hnx, ob_some]
    have o1 := hl _ (List.getElem_mem hkl)
    have o2 := hl _ (List.getElem_mem hnx)
    have ih : ∀ acc' : List Vtx, acc' = acc ++ step p (l[k], l[(k + 1) % l.length]) → clip_By_l1 fl n p l acc' l (l.length : Int) ((k : Int) + 1) = some (acc ++ ((prs l).drop k).flatMap (step p), ()) := fun acc' he => by
      have := by_loop fl hp hl hlen m (k + 1) n acc' (by omega) (by omega) (by rw [he, List.length_append]; have := step_length p (l[k], l[(k + 1) % l.length]); omega)
      rw [show ((k + 1 : Nat) : Int) = (k : Int) + 1 by omega] at this
      rw [this, ldrop hps, List.flatMap_cons, prs_get hkl, he, List.append_assoc]
    obtain ⟨a, ea⟩ : ∃ a, a = l[k] := ⟨_, rfl⟩
    obtain ⟨b, eb⟩ : ∃ b, b = l[(k + 1) % l.length] := ⟨_, rfl⟩
    rw [← ea] at o1 ih ⊢
    rw [← eb] at o2 ih ⊢
    rw [vec_dist o1, ob_some, bnd_eq]
    by_cases h1 : 0 ≤ dist p a
    · rw [ge_t h1, bite_t, appOk_t (by simp; omega) (by decide), bgd_t, bnd_eq, appK, vec_between fl o1 o2, ob_some]
      by_cases h2 : dist p b < 0
      · rw [crossV_t hp h1 h2, if_pos rfl, bite_t, appOk_t (by simp; omega) (by decide), bgd_t, bnd_eq, appK, bnd_eq, addI (by omega)]
        refine ih _ ?_
        unfold step
        rw [if_pos h1, if_pos h2, List.append_assoc]
        rfl
      · rw [crossV_f (by omega), if_neg (by decide), bite_f, bnd_eq, addI (by omega)]
        refine ih _ ?_
        unfold step
        rw [if_pos h1, if_neg h2]
    · rw [ge_f (by omega), bite_f, vec_between fl o2 o1, ob_some]
      by_cases h2 : 0 ≤ dist p b
      · rw [crossV_t hp h2 (by omega), if_pos rfl, bite_t, appOk_t (by simp; omega) (by decide), bgd_t, bnd_eq, appK, bnd_eq, addI (by omega)]
        refine ih _ ?_
        unfold step
        rw [if_neg h1, if_pos h2]
      · rw [crossV_f (by omega), if_neg (by decide), bite_f, bnd_eq, addI (by omega)]
        refine ih _ ?_
        unfold step
        rw [if_neg h1, if_neg h2, List.append_nil]

theorem own_spec {l : List Vtx} (hlen : l.length ≤ 10000) : clip_own l = some l := by
  unfold clip_own
  rw [bnd_eq, lenK, fillOk_t (by omega) (by omega) (by decide), bgd_t, bnd_eq, over_same (by unfold F.fill; rw [List.length_replicate]; omega)]

theorem by_spec {fl : Nat} {p : Int} {l : List Vtx} (hl : ∀ v ∈ l, okB v) (hlen : l.length ≤ 10000) (hfl : l.length + 1 ≤ fl) : clip_By fl p l = some (byL p l) := by
  unfold clip_By byL
  by_cases h0 : p < 0
  · rw [bnd_eq, lt_t h0, bite_t, own_spec hlen, ob_some, if_neg (by unfold isP; omega)]
  · rw [bnd_eq, lt_f (by omega), bite_f]
    by_cases h1 : 5 ≤ p
    · rw [bnd_eq, ge_t h1, bite_t, own_spec hlen, ob_some, if_neg (by unfold isP; omega)]
    · have hp : isP p := ⟨by omega, by omega⟩
      have := by_loop fl hp hl hlen l.length 0 fl [] (by omega) hfl (by simp)
      rw [bnd_eq, ge_f (by omega), bite_f, bnd_eq, lenK]
      rw [show ((0 : Nat) : Int) = 0 from rfl] at this
      rw [this, ob_some, if_pos hp, List.drop_zero]
      rfl

theorem rby_loop {fl : Nat} (hf : 130 ≤ fl) {p : Int} (hp : isP p) {l : List Vtx} (hl : ∀ v ∈ l, okB v) (hlen : l.length ≤ 10000) : ∀ (m k n : Nat) (acc : List Vtx), k + m = l.length → m + 1 ≤ n → acc.length ≤ 2 * k →
    glazierref05_By_l1 fl n p l acc (k : Int) = some (acc ++ ((prs l).drop k).flatMap (step p), ())
  | 0, k, 0, acc, _, h, _ => by omega
  | 0, k, n + 1, acc, hk, _, _ => by
    unfold glazierref05_By_l1
    rw [bnd_eq, lenK, bnd_eq, lt_f (by omega), bite_f, List.drop_eq_nil_of_le (by rw [prs_length]; omega), List.flatMap_nil, List.append_nil]
  | m + 1, k, 0, acc, _, h, _ => by omega
  | m + 1, k, n + 1, acc, hk, hn, ha => by
    have hkl : k < l.length := by omega
    have hnx : (k + 1) % l.length < l.length := Nat.mod_lt _ (by omega)
    have hps : k < (prs l).length := by rw [prs_length]; exact hkl
    unfold glazierref05_By_l1
    rw [bnd_eq, lenK, bnd_eq, lt_t (by omega), bite_t, lgetK hkl, ob_some, bnd_eq, bnd_eq, nz_t (by omega), bgd_t, bnd_eq, nextI hkl hlen, lgetK hnx, ob_some]
    have o1 := hl _ (List.getElem_mem hkl)
    have o2 := hl _ (List.getElem_mem hnx)
    have ih : ∀ acc' : List Vtx, acc' = acc ++ step p (l[k], l[(k + 1) % l.length]) → glazierref05_By_l1 fl n p l acc' ((k : Int) + 1) = some (acc ++ ((prs l).drop k).flatMap (step p), ()) := fun acc' he => by
      have := rby_loop hf hp hl hlen m (k + 1) n acc' (by omega) (by omega) (by rw [he, List.length_append]; have := step_length p (l[k], l[(k + 1) % l.length]); omega)
      rw [show ((k + 1 : Nat) : Int) = (k : Int) + 1 by omega] at this
      rw [this, ldrop hps, List.flatMap_cons, prs_get hkl, he, List.append_assoc]
    obtain ⟨a, ea⟩ : ∃ a, a = l[k] := ⟨_, rfl⟩
    obtain ⟨b, eb⟩ : ∃ b, b = l[(k + 1) % l.length] := ⟨_, rfl⟩
    rw [← ea] at o1 ih ⊢
    rw [← eb] at o2 ih ⊢
    rw [ref_dist o1, ob_some, bnd_eq, ref_dist o2, ob_some, bnd_eq]
    by_cases h1 : 0 ≤ dist p a
    · rw [ge_t h1, bite_t, appOk_t (by simp; omega) (by decide), bgd_t, bnd_eq, appK, bite_t, bnd_eq]
      by_cases h2 : dist p b < 0
      · rw [ge_f h2, not_f, bite_t, ref_between hf o1 o2, ob_some, crossV_t hp h1 h2, if_pos rfl, appOk_t (by simp; omega) (by decide), bgd_t, bnd_eq, appK, bnd_eq, not_t, bite_f, bnd_eq, addI (by omega)]
        refine ih _ ?_
        unfold step
        rw [if_pos h1, if_pos h2, List.append_assoc]
        rfl
      · rw [ge_t (by omega), not_t, bite_f, bnd_eq, bite_f, bnd_eq, addI (by omega)]
        refine ih _ ?_
        unfold step
        rw [if_pos h1, if_neg h2]
    · rw [ge_f (by omega), bite_f, bite_f, bnd_eq, not_f, bite_t]
      by_cases h2 : 0 ≤ dist p b
      · rw [ge_t h2, bite_t, ref_between hf o2 o1, ob_some, crossV_t hp h2 (by omega), if_pos rfl, appOk_t (by simp; omega) (by decide), bgd_t, bnd_eq, appK, bnd_eq, addI (by omega)]
        refine ih _ ?_
        unfold step
        rw [if_neg h1, if_pos h2]
      · rw [ge_f (by omega), bite_f, bnd_eq, addI (by omega)]
        refine ih _ ?_
        unfold step
        rw [if_neg h1, if_neg h2, List.append_nil]

theorem rby_spec {fl : Nat} {p : Int} {l : List Vtx} (hl : ∀ v ∈ l, okB v) (hlen : l.length ≤ 10000) (hfl : l.length + 130 ≤ fl) : glazierref05_By fl p l = some (byL p l) := by
  unfold glazierref05_By byL
  by_cases h0 : p < 0
  · rw [bnd_eq, lt_t h0, bite_t, appOk_t (by simp; omega) (by decide), bgd_t, bnd_eq, appK, List.nil_append, if_neg (by unfold isP; omega)]
  · rw [bnd_eq, lt_f (by omega), bite_f]
    by_cases h1 : 5 ≤ p
    · rw [bnd_eq, gt_t (by omega), bite_t, appOk_t (by simp; omega) (by decide), bgd_t, bnd_eq, appK, List.nil_append, if_neg (by unfold isP; omega)]
    · have hp : isP p := ⟨by omega, by omega⟩
      have := rby_loop (fl := fl) (by omega) hp hl hlen l.length 0 fl [] (by omega) (by omega) (by simp)
      rw [bnd_eq, gt_f (by omega), bite_f]
      rw [show ((0 : Nat) : Int) = 0 from rfl] at this
      rw [this, ob_some, if_pos hp, List.drop_zero]
      rfl

/-! ### By all planes -/
def allL (l : List Vtx) : List Vtx := byL 4 (byL 3 (byL 2 (byL 1 (byL 0 l))))
def polyL (l : List Vtx) : List Vtx := if (allL l).length < 3 then [] else allL l

theorem chain {l : List Vtx} (hl : ∀ v ∈ l, okB v) (hlen : l.length ≤ 100) : (∀ v ∈ byL 0 l, okB v) ∧ (∀ v ∈ byL 1 (byL 0 l), okB v) ∧ (∀ v ∈ byL 2 (byL 1 (byL 0 l)), okB v) ∧ (∀ v ∈ byL 3 (byL 2 (byL 1 (byL 0 l))), okB v) ∧ (∀ v ∈ allL l, okB v) ∧
    (byL 0 l).length ≤ 200 ∧ (byL 1 (byL 0 l)).length ≤ 400 ∧ (byL 2 (byL 1 (byL 0 l))).length ≤ 800 ∧ (byL 3 (byL 2 (byL 1 (byL 0 l)))).length ≤ 1600 ∧ (allL l).length ≤ 3200 := by
  have h0 := byL_in (p := 0) hl
  have h1 := byL_in (p := 1) h0
  have h2 := byL_in (p := 2) h1
  have h3 := byL_in (p := 3) h2
  have h4 := byL_in (p := 4) h3
  have l0 := byL_length 0 l
  have l1 := byL_length 1 (byL 0 l)
  have l2 := byL_length 2 (byL 1 (byL 0 l))
  have l3 := byL_length 3 (byL 2 (byL 1 (byL 0 l)))
  have l4 := byL_length 4 (byL 3 (byL 2 (byL 1 (byL 0 l))))
  refine ⟨h0, h1, h2, h3, h4, ?_, ?_, ?_, ?_, ?_⟩
  · omega
  · omega
  · omega
  · omega
  · unfold allL; omega

theorem poly_spec {fl : Nat} {l : List Vtx} (hl : ∀ v ∈ l, okB v) (hlen : l.length ≤ 100) (hfl : 5000 ≤ fl) : clip_Poly fl l = some (polyL l) := by
  obtain ⟨h0, h1, h2, h3, h4, k0, k1, k2, k3, k4⟩ := chain hl hlen
  unfold clip_Poly polyL
  rw [own_spec (by omega), ob_some, by_spec hl (by omega) (by omega), ob_some, by_spec h0 (by omega) (by omega), ob_some, by_spec h1 (by omega) (by omega), ob_some, by_spec h2 (by omega) (by omega), ob_some, by_spec h3 (by omega) (by omega), ob_some, bnd_eq, bnd_eq]
  show bite (F.lt (F.len (allL l)) 3) (some []) (some (allL l)) = _
  rw [lenK]
  by_cases h : (allL l).length < 3
  · rw [lt_t (by omega), bite_t, if_pos h]
  · rw [lt_f (by omega), bite_f, if_neg h]

theorem rpoly_spec {fl : Nat} {l : List Vtx} (hl : ∀ v ∈ l, okB v) (hlen : l.length ≤ 100) (hfl : 5000 ≤ fl) : glazierref05_Poly fl l = some (polyL l) := by
  obtain ⟨h0, h1, h2, h3, h4, k0, k1, k2, k3, k4⟩ := chain hl hlen
  unfold glazierref05_Poly polyL
  rw [appOk_t (by simp; omega) (by decide), bgd_t, bnd_eq, appK, List.nil_append, rby_spec hl (by omega) (by omega), ob_some, rby_spec h0 (by omega) (by omega), ob_some, rby_spec h1 (by omega) (by omega), ob_some, rby_spec h2 (by omega) (by omega), ob_some, rby_spec h3 (by omega) (by omega), ob_some, bnd_eq, bnd_eq]
  show bite (F.lt (F.len (allL l)) 3) (some []) (some (allL l)) = _
  rw [lenK]
  by_cases h : (allL l).length < 3
  · rw [lt_t (by omega), bite_t, if_pos h]
  · rw [lt_f (by omega), bite_f, if_neg h]
end Go.Proofs.Ytfejdcdomgeogaa.G
