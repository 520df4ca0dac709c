/- A region that draws its order: the proof. -/
import Derived.Test.YtfejdcdomgeogaaMchP
set_option linter.unusedVariables false
namespace Go.Proofs.Ytfejdcdomgeogaa.M
open Go Go.RowKit

section
variable {P : Program} {E : Env} {ops : Array Oper} {N : Nat} {res : List (Option Res)} {s0 : St} {b : List Nat} {hints : List (Nat × Hint)}

structure DF (ops : Array Oper) (res : List (Option Res)) (s0 : St) (b : List Nat) : Prop where
  nosel : noSel ops = true
  edge : ∀ (i : Nat) o, ops[i]? = some o → ∀ j ∈ edgesOf o, j < i
  dst : ∀ i, i < ops.size → cal res i = true → ∃ d, dstOf ops i = some d
  inj : ∀ i k d, i < ops.size → k < ops.size → cal res i = true → cal res k = true → dstOf ops i = some d → dstOf ops k = some d → i = k
  opd : ∀ (i : Nat) o t k, ops[i]? = some o → cal res i = true → t ∈ opTmps o ++ guardTmp ops o → k < ops.size → cal res k = true → dstOf ops k = some t → (k < i ∧ (b.getD i 0).testBit k = true) ∨ (i < k ∧ (b.getD k 0).testBit i = true)
  hang : ∀ i k q, i < ops.size → k < ops.size → cal res i = true → k ≠ i → resAt res k = some q → (hangs ops res i q.val = true ∨ ∃ y, q.box = some y ∧ boxHangs ops res i y.2 = true) → (b.getD k 0).testBit i = true
  s0sl : ∀ i t x, i < ops.size → cal res i = true → s0.slots.lookup t = some x → hangs ops res i x = false
  s0bx : ∀ i q n y, i < ops.size → resAt res i = some q → q.box.isSome = true → s0.boxes.lookup n = some y → some n ≠ dstOf ops i ∧ boxHangs ops res i y.2 = false
  used : ∀ i q n k p, i < ops.size → resAt res i = some q → n ∈ q.used → k < ops.size → dstOf ops k = some n → resAt res k = some p → p.box.isSome = true → k < i ∧ (b.getD i 0).testBit k = true
  calm : ∀ (i : Nat) o, ops[i]? = some o → cal res i = true → ∀ j ∈ edgesOf o, cal res j = true
  tail : ∀ i k, i < ops.size → cal res i = false → k < ops.size → cal res k = true → (b.getD i 0).testBit k = true ∨ lightAt ops b k = true
  order : ∀ i k, i < ops.size → cal res i = false → k < i → cal res k = false → (b.getD i 0).testBit k = true

theorem DF.of (h : drawOk ops res s0 b = true) : DF ops res s0 b := by
  unfold drawOk at h
  rw [Bool.and_eq_true, List.all_eq_true] at h
  obtain ⟨hns, h⟩ := h
  have get : ∀ i, i < ops.size → ∃ o, ops[i]? = some o := fun i hi => ⟨_, Array.getElem?_eq_getElem hi⟩
  have low : ∀ i, i < ops.size → cal res i = true → ∃ o, ops[i]? = some o ∧ o.dst.isSome = true ∧ (∀ k, k < ops.size → (k == i || !cal res k || dstOf ops k != o.dst) = true) ∧
      (∀ t ∈ opTmps o ++ guardTmp ops o, ∀ k, k < ops.size → (!cal res k || dstOf ops k != some t || (decide (k < i) && (b.getD i 0).testBit k) || (decide (i < k) && (b.getD k 0).testBit i)) = true) ∧
      (∀ k, k < ops.size → (k == i || (match resAt res k with
          | some q => (!(hangs ops res i q.val || (match q.box with | some y => boxHangs ops res i y.2 | none => false))) || (b.getD k 0).testBit i
          | none => true)) = true) ∧
      (∀ q ∈ s0.slots, hangs ops res i q.2 = false) ∧
      ((match resAt res i with
          | some q => !q.box.isSome || s0.boxes.all fun y => some y.1 != o.dst && !boxHangs ops res i y.2.2
          | none => true) = true) ∧
      ((match resAt res i with
          | some q => q.used.all fun n => (List.range ops.size).all fun k => dstOf ops k != some n || (match resAt res k with | some p => !p.box.isSome | none => true) || (k < i && (b.getD i 0).testBit k)
          | none => true) = true) ∧ (∀ j ∈ edgesOf o, cal res j = true) := fun i hi hci => by
    obtain ⟨o, ho⟩ := get i hi
    have := h i (by simp; omega)
    simp only [ho, if_pos hci, Bool.and_eq_true] at this
    obtain ⟨_, ⟨⟨⟨⟨⟨⟨h1, h2⟩, h3⟩, h4⟩, h5⟩, h6⟩, h7⟩, h8⟩ := this
    rw [List.all_eq_true] at h2 h3 h4 h5 h8
    exact ⟨o, ho, h1, fun k hk => h2 k (by simpa using hk), fun t ht k hk => by
        have := h3 t ht
        rw [List.all_eq_true] at this
        exact this k (by simpa using hk), fun k hk => h4 k (by simpa using hk), fun q hq => by simpa using h5 q hq, h6, h7, h8⟩
  have high : ∀ i, i < ops.size → cal res i = false → (∀ k, k < ops.size → (!cal res k || (b.getD i 0).testBit k || lightAt ops b k) = true) ∧ ∀ k, k < i → (cal res k || (b.getD i 0).testBit k) = true := fun i hi hci => by
    obtain ⟨o, ho⟩ := get i hi
    have := h i (by simp; omega)
    simp only [ho, hci, Bool.false_eq_true, if_false, Bool.and_eq_true] at this
    obtain ⟨_, h1, h2⟩ := this
    rw [List.all_eq_true] at h1 h2
    exact ⟨fun k hk => h1 k (by simpa using hk), fun k hk => h2 k (by simpa using hk)⟩
  refine ⟨hns, fun i o ho j hj => ?_, fun i hi hci => ?_, fun i k d hi hk hci hck h1 h2 => ?_, fun i o t k ho hci ht hk hck hd => ?_, fun i k q hi hk hci hne hq hh => ?_, fun i t x hi hci hx => ?_, fun i q n y hi hq hb hn => ?_, fun i q n k p hi hq hn hk hd hp hb => ?_, fun i o ho hci => ?_, fun i k hi hci hk hck => ?_, fun i k hi hci hk hck => ?_⟩
  · have hi : i < ops.size := (Array.getElem?_eq_some_iff.1 ho).1
    have := h i (by simpa using hi)
    simp only [ho, Bool.and_eq_true] at this
    have := this.1
    rw [List.all_eq_true] at this
    simpa using this j hj
  · obtain ⟨o, ho, h1, _⟩ := low i hi hci
    obtain ⟨d, hd⟩ := Option.isSome_iff_exists.1 h1
    exact ⟨d, by simp [dstOf, ho, hd]⟩
  · obtain ⟨o, ho, _, h3, _⟩ := low i hi hci
    have := h3 k hk
    by_cases hki : k = i
    · exact hki.symm
    · have e : o.dst = some d := by simpa [dstOf, ho] using h1
      simp [hki, h2, e, hck] at this
  · have hi : i < ops.size := (Array.getElem?_eq_some_iff.1 ho).1
    obtain ⟨o', ho', _, _, h4, _⟩ := low i hi hci
    have e : o' = o := by rw [ho] at ho'; injection ho' with ho'; exact ho'.symm
    subst e
    have := h4 t ht k hk
    simp [hd, hck] at this
    exact this
  · obtain ⟨o, ho, _, _, _, h5, _⟩ := low i hi hci
    have := h5 k hk
    simp only [hq] at this
    rw [Bool.or_eq_true] at this
    rcases this with h | h
    · exact absurd (by simpa using h) hne
    · rw [Bool.or_eq_true] at h
      rcases h with h | h
      · exfalso
        simp only [Bool.not_eq_true', Bool.or_eq_false_iff] at h
        rcases hh with hh | ⟨y, hy, hh⟩
        · rw [hh] at h; cases h.1
        · rw [hy] at h; simp only at h; rw [hh] at h; cases h.2
      · exact h
  · obtain ⟨o, ho, _, _, _, _, h6, _⟩ := low i hi hci
    exact h6 (t, x) (lookup_mem hx)
  · obtain ⟨o, ho, _, _, _, _, _, h7, _⟩ := low i hi (cal_of hq)
    simp only [hq, hb, Bool.not_true, Bool.false_or] at h7
    rw [List.all_eq_true] at h7
    have := h7 (n, y) (lookup_mem hn)
    simp only [Bool.and_eq_true] at this
    refine ⟨?_, by simpa using this.2⟩
    have e : dstOf ops i = o.dst := by simp [dstOf, ho]
    rw [e]
    simpa using this.1
  · obtain ⟨o, ho, _, _, _, _, _, _, h8, _⟩ := low i hi (cal_of hq)
    simp only [hq] at h8
    rw [List.all_eq_true] at h8
    have := h8 n hn
    rw [List.all_eq_true] at this
    have := this k (by simpa using hk)
    simp [hd, hp, hb] at this
    exact this
  · have hi : i < ops.size := (Array.getElem?_eq_some_iff.1 ho).1
    obtain ⟨o', ho', _, _, _, _, _, _, _, h9⟩ := low i hi hci
    have e : o' = o := by rw [ho] at ho'; injection ho' with ho'; exact ho'.symm
    subst e
    exact h9
  · have := (high i hi hci).1 k hk
    simpa [hck] using this
  · have := (high i hi hci).2 k hk
    simpa [hck] using this

/-- What the text's run says of its states. -/
structure Txt (s0 : St) (ops : Array Oper) (res : List (Option Res)) (i : Nat) (s : St) : Prop where
  ok : s.Ok
  slots : ∀ t x, s.slots.lookup t = some x → (∃ k q, k < i ∧ dstOf ops k = some t ∧ resAt res k = some q ∧ q.val = x) ∨ ((∀ k, k < i → cal res k = true → dstOf ops k ≠ some t) ∧ s0.slots.lookup t = some x)
  boxes : ∀ n y, s.boxes.lookup n = some y → (∃ k q, k < i ∧ dstOf ops k = some n ∧ resAt res k = some q ∧ q.box = some y) ∨ s0.boxes.lookup n = some y

def StepOk (P : Program) (N : Nat) (ops : Array Oper) (hints : List (Nat × Hint)) (s0 : St) (res : List (Option Res)) (i : Nat) : Prop :=
  ∃ o d s, ops[i]? = some o ∧ o.dst = some d ∧ Txt s0 ops res i s ∧
    ((wanted s ops o = some false ∧ d < N ∧ resAt res i = some ⟨undefSV, none, []⟩) ∨
     (wanted s ops o = some true ∧ d < N ∧ ∃ v ob bb, ob ∧ acalm P (wantsOwn ops (some d)) (hints.lookup i) (s.restrict o) o = some (v, ob, bb) ∧ v.refs d = false ∧ resAt res i = some ⟨v, bb, (s.restrict o).boxes.map (·.1)⟩))

theorem arunC_facts {tl : List Nat} : ∀ (l : List Oper) (i : Nat) (s s' : St) (rs : List (Option Res)) (ob : Prop), (∀ j o, l[j]? = some o → ops[i + j]? = some o) → (∀ j, j < l.length → rs[j]? = res[i + j]?) → arunC P N ops hints tl i l s = some (rs, s', ob) → ob → Txt s0 ops res i s →
    (∀ j, j < l.length → tl.contains (i + j) = false → StepOk P N ops hints s0 res (i + j)) ∧ (∀ j, j < l.length → cal res (i + j) = !tl.contains (i + j)) ∧ Txt s0 ops res (i + l.length) s' ∧ rs.length = l.length
  | [], i, s, s', rs, ob, _, _, h, _, ht => by
    simp [arunC] at h
    obtain ⟨rfl, rfl, _⟩ := h
    exact ⟨fun j hj => by simp at hj, fun j hj => by simp at hj, ht, rfl⟩
  | o :: l, i, s, s', rs, ob, hl, hres, h, hob, ht => by
    have ho : ops[i]? = some o := by simpa using hl 0 o rfl
    simp only [arunC] at h
    cases htc : tl.contains i with
    | true =>
      simp only [htc] at h
      split at h
      · rename_i l' s1 ob1 h1
        simp only [Option.some.injEq, Prod.mk.injEq] at h
        obtain ⟨rfl, rfl, rfl⟩ := h
        have hr0 : resAt res i = none := by
          have := hres 0 (by simp)
          simp at this
          simp [resAt, ← this]
        have hcf : cal res i = false := by unfold cal; rw [hr0]; rfl
        have ht1 : Txt s0 ops res (i + 1) s := by
          refine ⟨ht.ok, fun t x hx => ?_, fun n y hy => ?_⟩
          · rcases ht.slots t x hx with ⟨k, q, c1, c2⟩ | ⟨c1, c2⟩
            · exact .inl ⟨k, q, by omega, c2⟩
            · refine .inr ⟨fun k hk hck => ?_, c2⟩
              by_cases hki : k = i
              · subst hki; rw [hcf] at hck; cases hck
              · exact c1 k (by omega) hck
          · rcases ht.boxes n y hy with ⟨k, q, c1, c2⟩ | c
            · exact .inl ⟨k, q, by omega, c2⟩
            · exact .inr c
        obtain ⟨r1, r2, r3, r4⟩ := arunC_facts l (i + 1) s s1 l' ob1 (fun j o' hj => by have := hl (j + 1) o' (by simpa using hj); rwa [show i + 1 + j = i + (j + 1) from by omega]) (fun j hj => by have := hres (j + 1) (by simp; omega); simpa [show i + 1 + j = i + (j + 1) from by omega] using this) h1 hob ht1
        refine ⟨fun j hj hc => ?_, fun j hj => ?_, by rw [List.length_cons, show i + (l.length + 1) = i + 1 + l.length from by omega]; exact r3, by simp [r4]⟩
        · cases j with
          | zero => rw [Nat.add_zero, htc] at hc; cases hc
          | succ j => rw [show i + (j + 1) = i + 1 + j from by omega] at hc ⊢; exact r1 j (by simpa using hj) hc
        · cases j with
          | zero => rw [Nat.add_zero, hcf, htc]; rfl
          | succ j => rw [show i + (j + 1) = i + 1 + j from by omega]; exact r2 j (by simpa using hj)
      · simp at h
    | false =>
      simp only [htc] at h
      split at h
      · rename_i d hw hd
        split at h
        · rename_i hdN
          split at h
          · rename_i l' s1 ob1 h1
            simp only [Option.some.injEq, Prod.mk.injEq] at h
            obtain ⟨rfl, rfl, rfl⟩ := h
            have hr0 : resAt res i = some ⟨undefSV, none, []⟩ := by
              have := hres 0 (by simp)
              simp at this
              simp [resAt, ← this]
            have hdo : dstOf ops i = some d := by simp [dstOf, ho, hd]
            have ht1 : Txt s0 ops res (i + 1) (s.app d undefSV none) := by
              refine ⟨ht.ok.app _ _ _, fun t x hx => ?_, fun n y hy => ?_⟩
              · have hx := app_slots ht.ok hx
                unfold slApp at hx
                by_cases htd : t = d
                · subst htd
                  simp at hx
                  exact .inl ⟨i, _, by omega, hdo, hr0, hx⟩
                · simp only [htd, if_false] at hx
                  cases hs : s.slots.lookup t with
                  | none => simp [hs] at hx
                  | some z =>
                    simp only [hs] at hx
                    split at hx
                    · simp at hx
                    · injection hx with hx
                      subst hx
                      rcases ht.slots t z hs with ⟨k, q, c1, c2⟩ | ⟨c1, c2⟩
                      · exact .inl ⟨k, q, by omega, c2⟩
                      · refine .inr ⟨fun k hk hck => ?_, c2⟩
                        by_cases hki : k = i
                        · subst hki; rw [hdo]; intro e; injection e with e; exact htd e.symm
                        · exact c1 k (by omega) hck
              · have hy := app_boxes ht.ok hy
                unfold bxApp at hy
                rcases ht.boxes n y hy with ⟨k, q, c1, c2⟩ | c
                · exact .inl ⟨k, q, by omega, c2⟩
                · exact .inr c
            obtain ⟨r1, r2, r3, r4⟩ := arunC_facts l (i + 1) _ s1 l' ob1 (fun j o' hj => by have := hl (j + 1) o' (by simpa using hj); rwa [show i + 1 + j = i + (j + 1) from by omega]) (fun j hj => by have := hres (j + 1) (by simp; omega); simpa [show i + 1 + j = i + (j + 1) from by omega] using this) h1 hob ht1
            refine ⟨fun j hj hc => ?_, fun j hj => ?_, by rw [List.length_cons, show i + (l.length + 1) = i + 1 + l.length from by omega]; exact r3, by simp [r4]⟩
            · cases j with
              | zero => exact ⟨o, d, s, ho, hd, ht, .inl ⟨hw, hdN, hr0⟩⟩
              | succ j => rw [show i + (j + 1) = i + 1 + j from by omega] at hc ⊢; exact r1 j (by simpa using hj) hc
            · cases j with
              | zero => rw [Nat.add_zero, cal_of hr0, htc]; rfl
              | succ j => rw [show i + (j + 1) = i + 1 + j from by omega]; exact r2 j (by simpa using hj)
          · simp at h
        · simp at h
      · rename_i d hw hd
        split at h
        · rename_i hdN
          split at h
          · rename_i v obv bb hac
            split at h
            · simp at h
            · rename_i hvr
              split at h
              · rename_i l' s1 ob1 h1
                simp only [Option.some.injEq, Prod.mk.injEq] at h
                obtain ⟨rfl, rfl, rfl⟩ := h
                obtain ⟨o1, o2⟩ := hob
                have hr0 : resAt res i = some ⟨v, bb, (s.restrict o).boxes.map (·.1)⟩ := by
                  have := hres 0 (by simp)
                  simp at this
                  simp [resAt, ← this]
                have hdo : dstOf ops i = some d := by simp [dstOf, ho, hd]
                have ht1 : Txt s0 ops res (i + 1) (s.app d v bb) := by
                  refine ⟨ht.ok.app _ _ _, fun t x hx => ?_, fun n y hy => ?_⟩
                  · have hx := app_slots ht.ok hx
                    unfold slApp at hx
                    by_cases htd : t = d
                    · subst htd
                      simp at hx
                      exact .inl ⟨i, _, by omega, hdo, hr0, hx⟩
                    · simp only [htd, if_false] at hx
                      cases hs : s.slots.lookup t with
                      | none => simp [hs] at hx
                      | some z =>
                        simp only [hs] at hx
                        split at hx
                        · simp at hx
                        · injection hx with hx
                          subst hx
                          rcases ht.slots t z hs with ⟨k, q, c1, c2⟩ | ⟨c1, c2⟩
                          · exact .inl ⟨k, q, by omega, c2⟩
                          · refine .inr ⟨fun k hk hck => ?_, c2⟩
                            by_cases hki : k = i
                            · subst hki; rw [hdo]; intro e; injection e with e; exact htd e.symm
                            · exact c1 k (by omega) hck
                  · have hy := app_boxes ht.ok hy
                    unfold bxApp at hy
                    cases bb with
                    | none =>
                      rcases ht.boxes n y hy with ⟨k, q, c1, c2⟩ | c
                      · exact .inl ⟨k, q, by omega, c2⟩
                      · exact .inr c
                    | some bb =>
                      simp only at hy
                      by_cases htd : n = d
                      · subst htd
                        simp at hy
                        exact .inl ⟨i, _, by omega, hdo, hr0, by simp [hy]⟩
                      · simp only [htd, if_false] at hy
                        cases hs : s.boxes.lookup n with
                        | none => simp [hs] at hy
                        | some z =>
                          simp only [hs] at hy
                          split at hy
                          · simp at hy
                          · injection hy with hy
                            subst hy
                            rcases ht.boxes n z hs with ⟨k, q, c1, c2⟩ | c
                            · exact .inl ⟨k, q, by omega, c2⟩
                            · exact .inr c
                obtain ⟨r1, r2, r3, r4⟩ := arunC_facts l (i + 1) _ s1 l' ob1 (fun j o' hj => by have := hl (j + 1) o' (by simpa using hj); rwa [show i + 1 + j = i + (j + 1) from by omega]) (fun j hj => by have := hres (j + 1) (by simp; omega); simpa [show i + 1 + j = i + (j + 1) from by omega] using this) h1 o2 ht1
                refine ⟨fun j hj hc => ?_, fun j hj => ?_, by rw [List.length_cons, show i + (l.length + 1) = i + 1 + l.length from by omega]; exact r3, by simp [r4]⟩
                · cases j with
                  | zero => exact ⟨o, d, s, ho, hd, ht, .inr ⟨hw, hdN, v, obv, bb, o1, hac, by simpa using hvr, hr0⟩⟩
                  | succ j => rw [show i + (j + 1) = i + 1 + j from by omega] at hc ⊢; exact r1 j (by simpa using hj) hc
                · cases j with
                  | zero => rw [Nat.add_zero, cal_of hr0, htc]; rfl
                  | succ j => rw [show i + (j + 1) = i + 1 + j from by omega]; exact r2 j (by simpa using hj)
              · simp at h
          · simp at h
        · simp at h
      · simp at h

end
end Go.Proofs.Ytfejdcdomgeogaa.M
