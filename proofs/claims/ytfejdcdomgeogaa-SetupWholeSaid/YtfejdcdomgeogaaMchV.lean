/- What is reckoned is so: lists of operations, regions, code. -/
import Derived.Test.YtfejdcdomgeogaaMchU
set_option linter.unusedVariables false
namespace Go.Proofs.Ytfejdcdomgeogaa.M
open Go Go.RowKit

section
variable {ρ : Type} {P : Program} {E : Env} {s s' : St} {a : Act} {w : World} {g : Gh} {o : Oper} {N : Nat} {ops : Array Oper} {r : Option Nat} {T : List Ent}

theorem astep_hint {i : Nat} {h1 h2 : List (Nat × Hint)} (h : ∀ j, i ≤ j → h1.lookup j = h2.lookup j) : ∀ (l : List Oper) (i' : Nat) (s : St), i ≤ i' → arun P N ops h1 i' l s = arun P N ops h2 i' l s
  | [], i', s, _ => rfl
  | o :: l, i', s, hi => by
    simp only [arun, h i' hi]
    cases astep P N ops (h2.lookup i') s o with
    | none => rfl
    | some q =>
      obtain ⟨s1, ob⟩ := q
      simp only [astep_hint h l (i' + 1) s1 (by omega)]

theorem arunC_hint {h1 h2 : List (Nat × Hint)} {tl : List Nat} : ∀ (l : List Oper) (i' : Nat) (s : St), (∀ j, i' ≤ j → h1.lookup j = h2.lookup j) → arunC P N ops h1 tl i' l s = arunC P N ops h2 tl i' l s
  | [], i', s, _ => rfl
  | o :: l, i', s, h => by
    have ih : ∀ s1, arunC P N ops h1 tl (i' + 1) l s1 = arunC P N ops h2 tl (i' + 1) l s1 := fun s1 => arunC_hint l (i' + 1) s1 (fun j h3 => h j (by omega))
    simp only [arunC, h i' (Nat.le_refl _), ih]

theorem lookup_none {α : Type} {l : List (Nat × α)} {j : Nat} (h : ∀ q ∈ l, q.1 ≠ j) : l.lookup j = none := by
  induction l with
  | nil => rfl
  | cons q l ih =>
    obtain ⟨k, x⟩ := q
    have : (j == k) = false := by
      have := h (k, x) (by simp)
      simpa using fun e => this e.symm
    simp only [List.lookup_cons, this]
    exact ih fun q hq => h q (by simp [hq])

/-- Hints of later operations, with one more ahead. -/
theorem lookup_ahead {hs : List (Nat × Hint)} {i : Nat} {h : Option Hint} (hk : ∀ q ∈ hs, i + 1 ≤ q.1) : ∃ hs' : List (Nat × Hint), (∀ q ∈ hs', i ≤ q.1) ∧ hs'.lookup i = h ∧ (∀ j, i + 1 ≤ j → hs'.lookup j = hs.lookup j) ∧ (∀ q ∈ hs', q.1 = i ∨ q ∈ hs) := by
  cases h with
  | none => exact ⟨hs, fun q hq => by have := hk q hq; omega, lookup_none fun q hq => by have := hk q hq; omega, fun _ _ => rfl, fun q hq => .inr hq⟩
  | some h =>
    refine ⟨(i, h) :: hs, fun q hq => ?_, by simp, fun j hj => ?_, fun q hq => ?_⟩
    · rcases List.mem_cons.1 hq with rfl | hq
      · exact Nat.le_refl _
      · have := hk q hq; omega
    · have : (j == i) = false := by simp; omega
      simp [List.lookup_cons, this]
    · rcases List.mem_cons.1 hq with rfl | hq
      · exact .inl rfl
      · exact .inr hq

theorem shareHead_eq (s : St) (K : St → Option ρ) : shareHead s K = K s := by
  unfold shareHead
  split
  · rfl
  · rename_i d v rr h
    rw [share_eq]
    obtain ⟨sl, bx⟩ := s
    simp only at h
    subst h
    rfl

theorem evT_sound (hT : ∀ e ∈ T, Ent.Ok P e) {K : St → Option ρ} {y : ρ} : ∀ (l : List Oper) (i : Nat) (s : St), evT T P N ops l s K = some y →
    ∃ hs s' ob, (∀ q ∈ hs, i ≤ q.1) ∧ arun P N ops hs i l s = some (s', ob) ∧ ob ∧ K s' = some y
  | [], i, s, h => ⟨[], s, True, by simp, rfl, trivial, h⟩
  | o :: l, i, s, h => by
    have next : ∀ {s1 : St} {ob1 : Prop} {hh : Option Hint}, astep P N ops hh s o = some (s1, ob1) → ob1 → evT T P N ops l s1 K = some y →
        ∃ hs s' ob, (∀ q ∈ hs, i ≤ q.1) ∧ arun P N ops hs i (o :: l) s = some (s', ob) ∧ ob ∧ K s' = some y := fun {s1 ob1 hh} h1 hob h2 => by
      obtain ⟨hs, s', ob, k1, k2, k3, k4⟩ := evT_sound hT l (i + 1) s1 h2
      obtain ⟨hs', m1, m2, m3, _⟩ := lookup_ahead (h := hh) k1
      refine ⟨hs', s', ob1 ∧ ob, m1, ?_, ⟨hob, k3⟩, k4⟩
      simp only [arun, m2, h1]
      rw [astep_hint (h2 := hs) (i := i + 1) m3 l (i + 1) s1 (Nat.le_refl _), k2]
    simp only [evT] at h
    split at h
    · rename_i hw
      split at h
      · rename_i d hd
        split at h
        · rename_i hdN
          exact next (hh := none) (by simp only [astep, hw, hd, if_pos hdN]) trivial h
        · cases h
      · rename_i hd
        exact next (hh := none) (by simp only [astep, hw, hd]) trivial h
    · rename_i hw
      split at h
      · rename_i ht
        split at h
        · rename_i t q hel
          obtain ⟨e, he, h⟩ := obind_some h
          split at h
          · rename_i s1 c hat
            rw [shareHead_eq] at h
            exact next (hh := some (.elem t e)) (s1 := s1) (ob1 := c.P) (by simp only [astep, hw, ht, if_true, hat, Option.map_some]) (tail_ob hel he hat) h
          · cases h
        · split at h
          · rename_i s1 c hat
            obtain ⟨hc, h⟩ := gd_some h
            refine next (hh := none) (s1 := s1) (ob1 := c.P) (by simp only [astep, hw, ht, if_true, hat, Option.map_some]) hc ?_
            split at h
            · rw [shareHead_eq] at h; exact h
            · exact h
          · cases h
      · rename_i ht
        split at h
        · rename_i d hd
          split at h
          · rename_i hdN
            obtain ⟨hh, v, ob, b, h1, h2, h3⟩ := calm_sound hT h
            split at h3
            · cases h3
            · rename_i hvr
              exact next (hh := hh) (by simp only [astep, hw, ht, hd, if_pos hdN, h1, hvr]; rfl) h2 h3
          · cases h
        · cases h
    · cases h

/-- The writing end grows, by later ones. -/
theorem evC_sound (hT : ∀ e ∈ T, Ent.Ok P e) {b : List Nat} {K : St → List (Option Res) → Option ρ} {y : ρ} : ∀ (l : List Oper) (i : Nat) (tl : List Nat) (s : St) (acc : List (Option Res)), (∀ j ∈ tl, j < i) → evC T P N ops b l i tl s acc K = some y →
    ∃ hs tl' rs s' ob, (∀ j, j < i → tl'.contains j = tl.contains j) ∧ (∀ q ∈ hs, i ≤ q.1) ∧ arunC P N ops hs tl' i l s = some (rs, s', ob) ∧ ob ∧ K s' (acc ++ rs) = some y
  | [], i, tl, s, acc, htl, h => ⟨[], tl, [], s, True, fun _ _ => rfl, by simp, rfl, trivial, by simpa [evC] using h⟩
  | o :: l, i, tl, s, acc, htl, h => by
    have hnot : tl.contains i = false := by
      cases hc : tl.contains i with
      | false => rfl
      | true => have := htl i (by simpa using hc); omega
    have stop : evC T P N ops b l (i + 1) (tl ++ [i]) s (acc ++ [none]) K = some y → ∃ hs tl' rs s' ob, (∀ j, j < i → tl'.contains j = tl.contains j) ∧ (∀ q ∈ hs, i ≤ q.1) ∧ arunC P N ops hs tl' i (o :: l) s = some (rs, s', ob) ∧ ob ∧ K s' (acc ++ rs) = some y := fun h => by
      obtain ⟨hs, tl', rs, s', ob, ht, hk, ha, hob, hK⟩ := evC_sound hT l (i + 1) (tl ++ [i]) s _ (fun j hj => by
        rcases List.mem_append.1 hj with hj | hj
        · have := htl j hj; omega
        · simp at hj; omega) h
      refine ⟨hs, tl', none :: rs, s', ob, fun j hj => ?_, fun q hq => by have := hk q hq; omega, ?_, hob, by rw [List.append_assoc] at hK; exact hK⟩
      · rw [ht j (by omega), Bool.eq_iff_iff]
        simp
        omega
      · have : tl'.contains i = true := by rw [ht i (by omega)]; simp
        simp only [arunC, this, ha]
    have stay : ∀ {tl' : List Nat}, (∀ j, j < i + 1 → tl'.contains j = tl.contains j) → tl'.contains i = false := fun ht => by rw [ht i (by omega), hnot]
    simp only [evC] at h
    split at h
    · exact stop h
    · split at h
      · rename_i hw
        split at h
        · rename_i d hd
          split at h
          · rename_i hdN
            obtain ⟨hs, tl', rs, s', ob, ht, hk, ha, hob, hK⟩ := evC_sound hT l (i + 1) tl _ _ (fun j hj => by have := htl j hj; omega) h
            refine ⟨hs, tl', _ :: rs, s', ob, fun j hj => ht j (by omega), fun q hq => by have := hk q hq; omega, ?_, hob, by rw [List.append_assoc] at hK; exact hK⟩
            simp only [arunC, stay ht, hw, hd, if_pos hdN, ha]
          · cases h
        · cases h
      · rename_i hw
        split at h
        · exact stop h
        · split at h
          · rename_i d hd
            split at h
            · rename_i hdN
              obtain ⟨hh, v, ob1, x, h1, h2, h3⟩ := calm_sound hT h
              split at h3
              · cases h3
              · rename_i hvr
                obtain ⟨hs, tl', rs, s', ob, ht, hk, ha, hob, hK⟩ := evC_sound hT l (i + 1) tl _ _ (fun j hj => by have := htl j hj; omega) h3
                obtain ⟨hs', m1, m2, m3, m4⟩ := lookup_ahead (h := hh) (i := i) (hs := hs) hk
                refine ⟨hs', tl', _ :: rs, s', ob1 ∧ ob, fun j hj => ht j (by omega), m1, ?_, ⟨h2, hob⟩, by rw [List.append_assoc] at hK; exact hK⟩
                simp only [arunC, stay ht, hw, hd, if_pos hdN, m2, h1, hvr]
                rw [arunC_hint (h2 := hs) l (i + 1) _ m3, ha]
                simp
            · cases h
          · cases h
      · cases h
end
end Go.Proofs.Ytfejdcdomgeogaa.M
