/- Of vertices that are cut, in plain words: what is made, what stays and what goes, how many there are. -/
import Derived.Test.YtfejdcdomgeogaaLawClip
set_option linter.unusedVariables false
namespace Go.Proofs.Ytfejdcdomgeogaa.G
open Go Go.RowKit Go.Proofs.Ytfejdcdomgeogaa.M

/-! ### Rows that are made -/
def fitC (v : Vtx) : Prop := inC 32768 v.1 ∧ inC 32768 v.2.1 ∧ inC 32768 v.2.2.1 ∧ (1 ≤ v.2.2.2.1 ∧ v.2.2.2.1 ≤ 32768) ∧ inC 4096 v.2.2.2.2.1 ∧ inC 4096 v.2.2.2.2.2.1 ∧ inC 4096 v.2.2.2.2.2.2.1 ∧ inC 4096 v.2.2.2.2.2.2.2

theorem fitC_ok {v : Vtx} (h : fitC v) : okB v := by
  obtain ⟨⟨a1, a2⟩, ⟨b1, b2⟩, ⟨c1, c2⟩, ⟨d1, d2⟩, ⟨e1, e2⟩, ⟨f1, f2⟩, ⟨g1, g2⟩, h1, h2⟩ := h
  refine ⟨⟨?_, ?_⟩, ⟨?_, ?_⟩, ⟨?_, ?_⟩, ⟨?_, ?_⟩, ⟨?_, ?_⟩, ⟨?_, ?_⟩, ⟨?_, ?_⟩, ⟨?_, ?_⟩⟩ <;> omega

theorem fit_C (v : Vtx) : ∃ r, glazierref04_Fit v = some r ∧ fitC r := by
  have t1 := tmod_lt (a := v.1) (m := 32769) (by decide)
  have t2 := tmod_lt (a := v.2.1) (m := 32769) (by decide)
  have t3 := tmod_lt (a := v.2.2.1) (m := 32769) (by decide)
  have t4 := tmod_lt (a := v.2.2.2.1) (m := 32768) (by decide)
  have t5 := tmod_lt (a := v.2.2.2.2.1) (m := 4097) (by decide)
  have t6 := tmod_lt (a := v.2.2.2.2.2.1) (m := 4097) (by decide)
  have t7 := tmod_lt (a := v.2.2.2.2.2.2.1) (m := 4097) (by decide)
  have t8 := tmod_lt (a := v.2.2.2.2.2.2.2) (m := 4097) (by decide)
  unfold glazierref04_Fit
  simp only [bnd_eq, F.rem]
  by_cases h : v.2.2.2.1.tmod 32768 < 0
  · rw [lt_t h, bite_t, negI (by omega), addI (by omega)]
    exact ⟨_, rfl, ⟨by dsimp only; omega, by dsimp only; omega⟩, ⟨by dsimp only; omega, by dsimp only; omega⟩, ⟨by dsimp only; omega, by dsimp only; omega⟩, ⟨by dsimp only; omega, by dsimp only; omega⟩, ⟨by dsimp only; omega, by dsimp only; omega⟩, ⟨by dsimp only; omega, by dsimp only; omega⟩, ⟨by dsimp only; omega, by dsimp only; omega⟩, ⟨by dsimp only; omega, by dsimp only; omega⟩⟩
  · rw [lt_f (by omega), bite_f, addI (by omega)]
    exact ⟨_, rfl, ⟨by dsimp only; omega, by dsimp only; omega⟩, ⟨by dsimp only; omega, by dsimp only; omega⟩, ⟨by dsimp only; omega, by dsimp only; omega⟩, ⟨by dsimp only; omega, by dsimp only; omega⟩, ⟨by dsimp only; omega, by dsimp only; omega⟩, ⟨by dsimp only; omega, by dsimp only; omega⟩, ⟨by dsimp only; omega, by dsimp only; omega⟩, ⟨by dsimp only; omega, by dsimp only; omega⟩⟩

/-! ### What stays, and what goes -/
theorem flat_in {p : Int} : ∀ {ps : List (Vtx × Vtx)}, (∀ q ∈ ps, 0 ≤ dist p q.1 ∧ 0 ≤ dist p q.2) → ps.flatMap (step p) = ps.map (·.1)
  | [], _ => rfl
  | q :: r, h => by
    obtain ⟨h1, h2⟩ := h q (by simp)
    rw [List.flatMap_cons, List.map_cons, flat_in fun q hq => h q (by simp [hq])]
    unfold step
    rw [if_pos h1, if_neg (by omega)]
    rfl

theorem prs_fst (l : List Vtx) : (prs l).map (·.1) = l := by
  unfold prs
  exact List.map_fst_zip (by rw [rot1_length]; exact Nat.le_refl _)

theorem prs_snd (l : List Vtx) : (prs l).map (·.2) = rot1 l := by
  unfold prs
  exact List.map_snd_zip (by rw [rot1_length]; exact Nat.le_refl _)

theorem byL_stays {p : Int} {l : List Vtx} (h : ∀ v ∈ l, 0 ≤ dist p v) : byL p l = l := by
  unfold byL
  split
  · unfold cutBy
    rw [flat_in fun q hq => ⟨h _ (prs_mem hq).1, h _ (prs_mem hq).2⟩, prs_fst]
  · rfl

theorem byL_goes {p : Int} (hp : isP p) {l : List Vtx} (h : ∀ v ∈ l, dist p v < 0) : byL p l = [] := by
  unfold byL
  rw [if_pos hp]
  unfold cutBy
  rw [List.flatMap_eq_nil_iff]
  intro q hq
  have h1 := h _ (prs_mem hq).1
  have h2 := h _ (prs_mem hq).2
  unfold step
  rw [if_neg (by omega), if_neg (by omega)]

theorem byL_nil (p : Int) : byL p [] = [] := byL_stays (by simp)
/-! ### How many there are -/
def ins (p : Int) (v : Vtx) : Bool := decide (0 ≤ dist p v)

theorem counts {p : Int} : ∀ (ps : List (Vtx × Vtx)), ∃ c1 c2 c11 c00 : Nat, (ps.map (·.1)).countP (ins p) = c1 + c11 ∧ (ps.map (·.2)).countP (ins p) = c2 + c11 ∧ ps.length = c1 + c2 + c11 + c00 ∧ (ps.flatMap (G.step p)).length = c1 + c11 + c1 + c2
  | [] => ⟨0, 0, 0, 0, rfl, rfl, rfl, rfl⟩
  | q :: r => by
    obtain ⟨c1, c2, c11, c00, h1, h2, h3, h4⟩ := counts (p := p) r
    simp only [List.map_cons, List.countP_cons, List.length_cons, List.flatMap_cons, List.length_append, h1, h2, h3, h4]
    unfold G.step ins
    by_cases a1 : 0 ≤ dist p q.1 <;> by_cases a2 : 0 ≤ dist p q.2
    · refine ⟨c1, c2, c11 + 1, c00, ?_, ?_, ?_, ?_⟩
      · rw [if_pos (by simpa using a1)]; omega
      · rw [if_pos (by simpa using a2)]; omega
      · omega
      · rw [if_pos a1, if_neg (by omega)]; simp; omega
    · refine ⟨c1 + 1, c2, c11, c00, ?_, ?_, ?_, ?_⟩
      · rw [if_pos (by simpa using a1)]; omega
      · rw [if_neg (by simpa using a2)]; omega
      · omega
      · rw [if_pos a1, if_pos (by omega)]; simp; omega
    · refine ⟨c1, c2 + 1, c11, c00, ?_, ?_, ?_, ?_⟩
      · rw [if_neg (by simpa using a1)]; omega
      · rw [if_pos (by simpa using a2)]; omega
      · omega
      · rw [if_neg a1, if_pos a2]; simp; omega
    · refine ⟨c1, c2, c11, c00 + 1, ?_, ?_, ?_, ?_⟩
      · rw [if_neg (by simpa using a1)]; omega
      · rw [if_neg (by simpa using a2)]; omega
      · omega
      · rw [if_neg a1, if_neg a2]; simp

theorem half (p : Int) (l : List Vtx) : 2 * (byL p l).length ≤ 3 * l.length := by
  unfold byL
  split
  · obtain ⟨c1, c2, c11, c00, h1, h2, h3, h4⟩ := counts (p := p) (prs l)
    rw [prs_fst] at h1
    rw [prs_snd] at h2
    rw [prs_length] at h3
    have hr : (rot1 l).countP (ins p) = l.countP (ins p) := by
      unfold rot1
      rw [List.countP_append, Nat.add_comm, ← List.countP_append, List.take_append_drop]
    unfold cutBy
    omega
  · omega
end Go.Proofs.Ytfejdcdomgeogaa.G
