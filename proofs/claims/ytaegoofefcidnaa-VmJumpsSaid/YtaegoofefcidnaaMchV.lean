/- What is reckoned is so: lists of operations, regions, code. -/
import Derived.Test.YtaegoofefcidnaaMchUa
set_option linter.unusedVariables false
namespace Go.Proofs.Ytaegoofefcidnaa.M
open Go Go.RowKit

section
variable {ρ : Type} {P : Program} {E : Env} {s s' : St} {a : Act} {w : World} {g : Gh} {o : Oper} {N : Nat} {ops : Array Oper} {r : Option Nat} {T : List Ent}

theorem arunC_hint {h1 h2 : List (Nat × Hint)} {tl : List Nat} : ∀ (l : List Oper) (i' : Nat) (s : St), (∀ j, i' ≤ j → h1.lookup j = h2.lookup j) → arunC P N ops h1 tl i' l s = arunC P N ops h2 tl i' l s
  | [], i', s, _ => rfl
  | o :: l, i', s, h => by
    have ih : ∀ s1, arunC P N ops h1 tl (i' + 1) l s1 = arunC P N ops h2 tl (i' + 1) l s1 := fun s1 => arunC_hint l (i' + 1) s1 (fun j h3 => h j (by omega))
    simp only [arunC, h i' (Nat.le_refl _), ih]

theorem lookup_none {α : Type} {l : List (Nat × α)} {j : Nat} (h : ∀ q ∈ l, q.1 ≠ j) : l.lookup j = none := by
  induction l with
  | nil => rfl
  | cons q l ih =>
    obtain ⟨k, x⟩ := q
    have : (j == k) = false := by
      have := h (k, x) (by simp)
      simpa using fun e => this e.symm
    simp only [List.lookup_cons, this]
    exact ih fun q hq => h q (by simp [hq])

/-- Hints of later operations, with one more ahead. -/
theorem lookup_ahead {hs : List (Nat × Hint)} {i : Nat} {h : Option Hint} (hk : ∀ q ∈ hs, i + 1 ≤ q.1) : ∃ hs' : List (Nat × Hint), (∀ q ∈ hs', i ≤ q.1) ∧ hs'.lookup i = h ∧ (∀ j, i + 1 ≤ j → hs'.lookup j = hs.lookup j) ∧ (∀ q ∈ hs', q.1 = i ∨ q ∈ hs) := by
  cases h with
  | none => exact ⟨hs, fun q hq => by have := hk q hq; omega, lookup_none fun q hq => by have := hk q hq; omega, fun _ _ => rfl, fun q hq => .inr hq⟩
  | some h =>
    refine ⟨(i, h) :: hs, fun q hq => ?_, by simp, fun j hj => ?_, fun q hq => ?_⟩
    · rcases List.mem_cons.1 hq with rfl | hq
      · exact Nat.le_refl _
      · have := hk q hq; omega
    · have : (j == i) = false := by simp; omega
      simp [List.lookup_cons, this]
    · rcases List.mem_cons.1 hq with rfl | hq
      · exact .inl rfl
      · exact .inr hq

theorem shareHead_eq (s : St) (K : St → Option ρ) : shareHead s K = K s := by
  unfold shareHead
  split
  · rfl
  · rename_i d v rr h
    rw [share_eq]
    obtain ⟨sl, bx⟩ := s
    simp only at h
    subst h
    rfl

/-- Going through him who is called: what is handed back, and what then holds for him who calls. -/
def InlOk (P : Program) (fn : Nat) (f : St → List SV → (SV → St → Option ρ) → Option ρ) : Prop :=
  (∀ args w, (callFunc fn args).run P w = .ok (.enter fn args) w) ∧
  ∀ (E : Env) (s : St) (args : List SV) (K : SV → St → Option ρ) (y : ρ), f s args K = some y → ∀ (rd : Option Nat) (a : Act) (w : World) (g : Gh) (vs : List Value), Rel E s a w g → vs.length = args.length →
    (∀ (i : Nat) x v, args[i]? = some x → vs[i]? = some v → (∃ pl, SVR (ctx E g a w) pl x v) ∧ x.cs.any Cell.isOwn = false) →
    CallsIn (Fr rd) 9 P fn vs.toArray w fun e w' => ∃ u v s' g', e = .returned u ∧ K v s' = some y ∧ Rel E s' a w' g' ∧ (∃ pl, SVR (ctx E g' a w') pl v u) ∧ v.cs.any Cell.isOwn = false

def InlsOk (P : Program) (I : Inl ρ) : Prop := ∀ fn f, I fn = some f → InlOk P fn f

theorem evalIn_sound (hr : Rel E s a w g) : ∀ {l : List Operand} {args : List SV}, evalIn s l = some args → (l.map a.eval).length = args.length ∧ ∀ (i : Nat) x v, args[i]? = some x → (l.map a.eval)[i]? = some v → (∃ pl, SVR (ctx E g a w) pl x v) ∧ x.cs.any Cell.isOwn = false
  | [], args, h => by simp [evalIn] at h; subst h; simp
  | z :: l, args, h => by
    simp only [evalIn] at h
    split at h
    · rename_i v l' hz h2
      injection h with h
      subst h
      obtain ⟨l1, l2⟩ := evalIn_sound hr h2
      refine ⟨by simpa using l1, fun i x y hx hy => ?_⟩
      cases i with
      | zero =>
        simp at hx hy
        subst hx; subst hy
        exact ⟨⟨_, SVR.copy (pl := plOf z) (pl' := fun _ => .slot 0 0) (pl2 := fun _ => .slot 0 0) (by cases v; exact hr.eval hz) fun h => by cases h⟩, copyCells_notOwn _ _⟩
      | succ i => exact l2 i x y (by simpa using hx) (by simpa using hy)
    · cases h

/-- A call that is gone through. -/
theorem inl_step {I : Inl ρ} (hI : InlsOk P I) (hN : N = E.N) {f : St → List SV → (SV → St → Option ρ) → Option ρ} {args : List SV} {K : St → Option ρ} {y : ρ} (h1 : inlOf I s o = some (f, args)) (h2 : f s args (takeIn N o K) = some y) (hr : Rel E s a w g) {K' : Act → World → Prop} {Q : Exit → Act → World → Prop}
    (hK : ∀ s' a' w' g', K s' = some y → Rel E s' a' w' g' → K' a' w') : o.wpIn (Fr r) 9 P a w K' Q := by
  unfold inlOf at h1
  split at h1
  · rename_i c hop
    split at h1
    · rename_i fo hcal
      split at h1
      · rename_i fn caps hf
        split at h1
        · rename_i f0 hIf
          split at h1
          · rename_i as hargs
            simp only [Option.some.injEq, Prod.mk.injEq] at h1
            obtain ⟨rfl, rfl⟩ := h1
            obtain ⟨hent, hok⟩ := hI fn f0 hIf
            obtain ⟨l1, l2⟩ := evalIn_sound hr hargs
            have hfv : a.eval fo = .func (.func fn) #[] (caps.map fun q => Value.pointer (some ⟨g.ι q.1, q.2, none⟩)).toArray := (hr.eval hf).one.2
            have hrun : (execOp a.eval o).run P w = .ok (.enter fn (c.args.toList.map a.eval ++ caps.map fun q => Value.pointer (some ⟨g.ι q.1, q.2, none⟩)).toArray) w := by
              simp only [execOp, hop, resolve, hcal, hfv, Sem.run_bind, Deferred.ofValue, Sem.run_pure, Result.andThen_ok, invoke]
              have he : (c.args.map a.eval ++ (caps.map fun q => Value.pointer (some ⟨g.ι q.1, q.2, none⟩)).toArray : Array Value) = (c.args.toList.map a.eval ++ caps.map fun q => Value.pointer (some ⟨g.ι q.1, q.2, none⟩)).toArray := by apply Array.toList_inj.1; simp
              have := hent (c.args.toList.map a.eval ++ caps.map fun q => Value.pointer (some ⟨g.ι q.1, q.2, none⟩)).toArray w
              rw [← he] at this ⊢
              simpa using this
            refine wpIn_enter (by rw [hop]; simp) hrun ?_
            refine (hok E s _ _ y h2 r a w g _ hr (by simpa using l1) (fun i x v hx hv => ?_)).mono fun e w' he => ?_
            · by_cases hi : i < as.length
              · rw [List.getElem?_append_left hi] at hx
                rw [List.getElem?_append_left (by rw [l1]; exact hi)] at hv
                exact l2 i x v hx hv
              · rw [List.getElem?_append_right (by omega)] at hx
                rw [List.getElem?_append_right (by rw [l1]; omega), l1] at hv
                rw [List.getElem?_map] at hx hv
                cases hq : caps[i - as.length]? with
                | none => rw [hq] at hx; cases hx
                | some q =>
                  rw [hq] at hx hv
                  injection hx with hx; injection hv with hv
                  subst hx; subst hv
                  exact ⟨⟨fun _ => .slot 0 0, SVR.of_one rfl rfl⟩, rfl⟩
            · obtain ⟨u, v, s', g', rfl, hk, hr', ⟨pl, hv⟩, hno⟩ := he
              unfold takeIn at hk
              split at hk
              · rename_i d hd
                split at hk
                · rename_i hdN
                  split at hk
                  · cases hk
                  · rename_i hvr
                    refine ⟨u, rfl, ?_⟩
                    rw [hd]
                    exact hK _ _ _ _ hk (RelF.toRel (hr'.uniq.app d v none) ((appF_put hr'.toF (by rw [← hN]; exact hdN) (hv.place hno) hvr).weak (fun t x hx => app_slots hr'.uniq hx) (fun n q hq => app_boxes hr'.uniq hq)))
                · cases hk
              · cases hk
          · cases h1
        · cases h1
      · cases h1
    · cases h1
  · cases h1

theorem evT_sound {I : Inl ρ} (hT : ∀ e ∈ T, Ent.Ok P e) (hI : InlsOk P I) (hN : N = E.N) {K : St → Option ρ} {y : ρ} : ∀ (l : List Oper) (s : St), evT T P N I ops l s K = some y → Goes P r E ops (fun s' => K s' = some y) l s
  | [], s, h => h
  | o :: l, s, h => by
    have next : ∀ {s1 : St} {ob1 : Prop} {hh : Option Hint}, astep P N ops hh s o = some (s1, ob1) → ob1 → evT T P N I ops l s1 K = some y → Goes P r E ops (fun s' => K s' = some y) (o :: l) s := fun {s1 ob1 hh} h1 hob h2 =>
      Goes.step hN h1 hob (evT_sound hT hI hN l s1 h2)
    simp only [evT] at h
    split at h
    · rename_i hw
      split at h
      · rename_i d hd
        split at h
        · rename_i hdN
          exact next (hh := none) (by simp only [astep, hw, hd, if_pos hdN]) trivial h
        · cases h
      · rename_i hd
        exact next (hh := none) (by simp only [astep, hw, hd]) trivial h
    · rename_i hw
      split at h
      · rename_i f args hin
        intro a w g K' Q hr hK
        rw [wanted_sound hw hr]
        simp only [if_true]
        exact inl_step hI hN hin h hr fun s' a' w' g' hk hr' => hK s' a' w' g' (evT_sound hT hI hN l s' (by rw [shareHead_eq] at hk; exact hk)) hr'
      · rename_i hin
        split at h
        · rename_i ht
          split at h
          · rename_i t q hel
            obtain ⟨e, he, h⟩ := obind_some h
            split at h
            · rename_i s1 c hat
              rw [shareHead_eq] at h
              exact next (hh := some (.elem t e)) (s1 := s1) (ob1 := c.P) (by simp only [astep, hw, ht, if_true, hat, Option.map_some]) (tail_ob hel he hat) h
            · cases h
          · split at h
            · rename_i s1 c hat
              obtain ⟨hc, h⟩ := gd_some h
              refine next (hh := none) (s1 := s1) (ob1 := c.P) (by simp only [astep, hw, ht, if_true, hat, Option.map_some]) hc ?_
              split at h
              · rw [shareHead_eq] at h; exact h
              · exact h
            · cases h
        · rename_i ht
          split at h
          · rename_i d hd
            split at h
            · rename_i hdN
              obtain ⟨hh, v, ob, b, h1, h2, h3⟩ := calm_sound hT h
              split at h3
              · cases h3
              · rename_i hvr
                exact next (hh := hh) (by simp only [astep, hw, ht, hd, if_pos hdN, h1, hvr]; rfl) h2 h3
            · cases h
          · cases h
    · cases h

/-- The writing end grows, by later ones. -/
theorem evC_sound {I : Inl ρ} (hT : ∀ e ∈ T, Ent.Ok P e) {b : List Nat} {K : St → List (Option Res) → Option ρ} {y : ρ} : ∀ (l : List Oper) (i : Nat) (tl : List Nat) (s : St) (acc : List (Option Res)), (∀ j ∈ tl, j < i) → evC T P N I ops b l i tl s acc K = some y →
    ∃ hs tl' rs s' ob, (∀ j, j < i → tl'.contains j = tl.contains j) ∧ (∀ q ∈ hs, i ≤ q.1) ∧ arunC P N ops hs tl' i l s = some (rs, s', ob) ∧ ob ∧ K s' (acc ++ rs) = some y
  | [], i, tl, s, acc, htl, h => ⟨[], tl, [], s, True, fun _ _ => rfl, by simp, rfl, trivial, by simpa [evC] using h⟩
  | o :: l, i, tl, s, acc, htl, h => by
    have hnot : tl.contains i = false := by
      cases hc : tl.contains i with
      | false => rfl
      | true => have := htl i (by simpa using hc); omega
    have stop : evC T P N I ops b l (i + 1) (tl ++ [i]) s (acc ++ [none]) K = some y → ∃ hs tl' rs s' ob, (∀ j, j < i → tl'.contains j = tl.contains j) ∧ (∀ q ∈ hs, i ≤ q.1) ∧ arunC P N ops hs tl' i (o :: l) s = some (rs, s', ob) ∧ ob ∧ K s' (acc ++ rs) = some y := fun h => by
      obtain ⟨hs, tl', rs, s', ob, ht, hk, ha, hob, hK⟩ := evC_sound hT l (i + 1) (tl ++ [i]) s _ (fun j hj => by
        rcases List.mem_append.1 hj with hj | hj
        · have := htl j hj; omega
        · simp at hj; omega) h
      refine ⟨hs, tl', none :: rs, s', ob, fun j hj => ?_, fun q hq => by have := hk q hq; omega, ?_, hob, by rw [List.append_assoc] at hK; exact hK⟩
      · rw [ht j (by omega), Bool.eq_iff_iff]
        simp
        omega
      · have : tl'.contains i = true := by rw [ht i (by omega)]; simp
        simp only [arunC, this, ha]
    have stay : ∀ {tl' : List Nat}, (∀ j, j < i + 1 → tl'.contains j = tl.contains j) → tl'.contains i = false := fun ht => by rw [ht i (by omega), hnot]
    simp only [evC] at h
    split at h
    · exact stop h
    · split at h
      · rename_i hw
        split at h
        · rename_i d hd
          split at h
          · rename_i hdN
            obtain ⟨hs, tl', rs, s', ob, ht, hk, ha, hob, hK⟩ := evC_sound hT l (i + 1) tl _ _ (fun j hj => by have := htl j hj; omega) h
            refine ⟨hs, tl', _ :: rs, s', ob, fun j hj => ht j (by omega), fun q hq => by have := hk q hq; omega, ?_, hob, by rw [List.append_assoc] at hK; exact hK⟩
            simp only [arunC, stay ht, hw, hd, if_pos hdN, ha]
          · cases h
        · cases h
      · rename_i hw
        split at h
        · exact stop h
        · split at h
          · rename_i d hd
            split at h
            · rename_i hdN
              obtain ⟨hh, v, ob1, x, h1, h2, h3⟩ := calm_sound hT h
              split at h3
              · cases h3
              · rename_i hvr
                obtain ⟨hs, tl', rs, s', ob, ht, hk, ha, hob, hK⟩ := evC_sound hT l (i + 1) tl _ _ (fun j hj => by have := htl j hj; omega) h3
                obtain ⟨hs', m1, m2, m3, m4⟩ := lookup_ahead (h := hh) (i := i) (hs := hs) hk
                refine ⟨hs', tl', _ :: rs, s', ob1 ∧ ob, fun j hj => ht j (by omega), m1, ?_, ⟨h2, hob⟩, by rw [List.append_assoc] at hK; exact hK⟩
                simp only [arunC, stay ht, hw, hd, if_pos hdN, m2, h1, hvr]
                rw [arunC_hint (h2 := hs) l (i + 1) _ m3, ha]
                simp
            · cases h
          · cases h
      · cases h
end
end Go.Proofs.Ytaegoofefcidnaa.M
