/- Names of those who wait: states under other names. -/
import Derived.Test.YtaegoofefcidnaaMchU
set_option linter.unusedVariables false
namespace Go.Proofs.Ytaegoofefcidnaa.M
open Go Go.RowKit

attribute [local irreducible] lim

theorem CV.ren {w : World} {k k' : Nat → Nat → Prop} {perm perm' : Nat → Perm} {ι ι' : Nat → Nat} {conc conc' : Place → Option Value} {f : Nat → Nat} {p : Place} {x : Cell} {u : Value} (h : CV ⟨w, k, perm, ι, conc⟩ p x u)
    (hk : ∀ b i v, k b i → w.cell? ⟨b, i, none⟩ = some v → k' b i)
    (hp : ∀ q b tip, ((x.isOwn = true ∧ q = p) ∨ x.target = some q) → perm b = .row q tip → perm' b = .row (q.ren f) tip)
    (hι : ∀ n, x.mentions n = true → ι' (f n) = ι n)
    (hc : ∀ q v, x.target = some q → conc q = some v → conc' (q.ren f) = some v) : CV ⟨w, k', perm', ι', conc'⟩ (p.ren f) (x.ren f) u := by
  have hk2 : ∀ b i v, k b i → w.cell? ⟨b, i, none⟩ = some v → w.cell? ⟨b, i, none⟩ = some v ∧ k' b i := fun b i v h1 h2 => ⟨h2, hk b i v h1 h2⟩
  cases x with
  | c x => exact h
  | v x => exact h
  | nilS => exact h
  | lst t l => exact DV.mono hk2 h
  | own e t l =>
    obtain ⟨h1, h3, h4⟩ := h
    exact ⟨h1, DV.mono hk2 h3, fun b hb => hp p b _ (.inl ⟨rfl, rfl⟩) (h4 b hb)⟩
  | ali q e t l =>
    obtain ⟨h0, h1, h3, h4⟩ := h
    exact ⟨hc q u rfl h0, h1, DV.mono hk2 h3, fun b hb => hp q b _ (.inr rfl) (h4 b hb)⟩
  | ptr n off =>
    rw [show u = _ from h]
    show Value.pointer (some ⟨ι n, off, none⟩) = .pointer (some ⟨ι' (f n), off, none⟩)
    rw [hι n (by simp [Cell.mentions])]
  | sp n off len cap t =>
    rw [show u = _ from h]
    show Value.slice (some ⟨ι n, off, none⟩) len cap = .slice (some ⟨ι' (f n), off, none⟩) len cap
    rw [hι n (by simp [Cell.mentions])]
  | pe n off t len i fo =>
    refine ⟨?_, h.2⟩
    rw [h.1]
    show Value.pointer (some ⟨ι n, _, none⟩) = .pointer (some ⟨ι' (f n), _, none⟩)
    rw [hι n (by simp [Cell.mentions])]
  | re q t i fo =>
    obtain ⟨b, len, cap, h0, e, h1⟩ := h
    exact ⟨b, len, cap, hc q _ rfl h0, e, h1⟩
  | dp cs =>
    obtain ⟨b, off, e, hd⟩ := h
    exact ⟨b, off, e, hd.mono hk2⟩
  | dclo g dss =>
    obtain ⟨as, e, hl, hd⟩ := h
    exact ⟨as, e, hl, fun i q ds hq hds => (hd i q ds hq hds).mono hk2⟩
  | clo g caps =>
    rw [show u = _ from h]
    show _ = _
    rw [List.map_map]
    congr 2
    apply List.map_congr_left
    intro q hq
    show _ = Value.pointer (some ⟨ι' (f q.1), q.2, none⟩)
    rw [hι q.1 (by simp only [Cell.mentions, List.any_eq_true]; exact ⟨q, hq, by simp⟩)]

theorem SVR.ren {w : World} {k k' : Nat → Nat → Prop} {perm perm' : Nat → Perm} {ι ι' : Nat → Nat} {conc conc' : Place → Option Value} {f : Nat → Nat} {pl pl' : Nat → Place} {x : SV} {u : Value} (h : SVR ⟨w, k, perm, ι, conc⟩ pl x u)
    (hpl : ∀ i, pl' i = (pl i).ren f)
    (hk : ∀ b i v, k b i → w.cell? ⟨b, i, none⟩ = some v → k' b i)
    (hp : ∀ i y q b tip, x.cs[i]? = some y → ((y.isOwn = true ∧ q = pl i) ∨ y.target = some q) → perm b = .row q tip → perm' b = .row (q.ren f) tip)
    (hι : ∀ y n, y ∈ x.cs → y.mentions n = true → ι' (f n) = ι n)
    (hc : ∀ y q v, y ∈ x.cs → y.target = some q → conc q = some v → conc' (q.ren f) = some v) : SVR ⟨w, k', perm', ι', conc'⟩ pl' (x.ren f) u := by
  obtain ⟨us, hu, hf, hl, hcs⟩ := h
  refine ⟨us, hu, hf, by simp [SV.ren, hl], fun i y z hy hz => ?_⟩
  simp only [SV.ren, List.getElem?_map] at hy
  cases hx : x.cs[i]? with
  | none => rw [hx] at hy; cases hy
  | some y0 =>
    rw [hx] at hy
    injection hy with hy
    subst hy
    rw [hpl]
    exact ⟨(hcs i y0 z hx hz).1, (hcs i y0 z hx hz).2.ren hk (fun q b tip => hp i y0 q b tip hx) (fun n => hι y0 n (List.mem_of_getElem? hx)) (fun q v => hc y0 q v (List.mem_of_getElem? hx))⟩

theorem ren_target {x : Cell} {f : Nat → Nat} : (x.ren f).target = x.target.map (Place.ren f) := by
  cases x <;> rfl

theorem lookup_upN {α β : Type} {l : List (Nat × α)} {f : α → β} {t : Nat} {y : β} (h : (l.map fun q => (upN q.1, f q.2)).lookup t = some y) : ∃ t0 x, t = upN t0 ∧ l.lookup t0 = some x ∧ f x = y := by
  induction l with
  | nil => cases h
  | cons q l ih =>
    rw [List.map_cons, List.lookup_cons] at h
    by_cases ht : t = upN q.1
    · subst ht
      rw [show (upN q.1 == upN q.1) = true from beq_self_eq_true _] at h
      injection h with h
      exact ⟨q.1, q.2, rfl, by rw [List.lookup_cons, beq_self_eq_true], h⟩
    · have hb : (t == upN q.1) = false := by simpa using ht
      simp only [hb] at h
      obtain ⟨t0, x, h1, h2, h3⟩ := ih h
      refine ⟨t0, x, h1, ?_, h3⟩
      rw [List.lookup_cons]
      have hb' : (t0 == q.1) = false := by
        simp only [beq_eq_false_iff_ne, ne_eq]
        intro e
        exact ht (by rw [h1, e])
      simp only [hb']
      exact h2

theorem uniq_upN {α β : Type} {l : List (Nat × α)} {f : α → β} (h : Uniq l) : Uniq (l.map fun q => (upN q.1, f q.2)) := by
  unfold Uniq at h ⊢
  rw [List.map_map]
  have : ((fun q : Nat × β => q.1) ∘ fun q : Nat × α => (upN q.1, f q.2)) = upN ∘ (fun q => q.1) := rfl
  rw [this, ← List.map_map]
  exact h.map upN (fun a b hab h => hab (by unfold upN at h; omega))

theorem lookup_downN {α β : Type} {l : List (Nat × α)} {c : α → Bool} {f : α → β} {t : Nat} {y : β} (h : ((l.filter fun q => Nat.ble lim q.1 && c q.2).map fun q => (downN q.1, f q.2)).lookup t = some y) (hu : Uniq l) : ∃ x, l.lookup (t + lim) = some x ∧ c x = true ∧ f x = y := by
  induction l with
  | nil => cases h
  | cons q l ih =>
    have hul : Uniq l := by unfold Uniq at hu ⊢; rw [List.map_cons, List.nodup_cons] at hu; exact hu.2
    rw [List.filter_cons] at h
    split at h
    · rename_i hc
      rw [Bool.and_eq_true] at hc
      have hle := Nat.le_of_ble_eq_true hc.1
      rw [List.map_cons, List.lookup_cons] at h
      by_cases ht : t = downN q.1
      · subst ht
        rw [show (downN q.1 == downN q.1) = true from beq_self_eq_true _] at h
        injection h with h
        refine ⟨q.2, ?_, hc.2, h⟩
        rw [List.lookup_cons, show downN q.1 + lim = q.1 by unfold downN; omega, beq_self_eq_true]
      · have hb : (t == downN q.1) = false := by simpa using ht
        simp only [hb] at h
        obtain ⟨x, h1, h2, h3⟩ := ih h hul
        refine ⟨x, ?_, h2, h3⟩
        rw [List.lookup_cons]
        have hb' : (t + lim == q.1) = false := by
          simp only [beq_eq_false_iff_ne, ne_eq]
          intro e
          exact ht (by unfold downN; omega)
        simp only [hb']
        exact h1
    · obtain ⟨x, h1, h2, h3⟩ := ih h hul
      refine ⟨x, ?_, h2, h3⟩
      rw [List.lookup_cons]
      have hb' : (t + lim == q.1) = false := by
        simp only [beq_eq_false_iff_ne, ne_eq]
        intro e
        unfold Uniq at hu
        rw [List.map_cons, List.nodup_cons] at hu
        exact hu.1 (by rw [← e]; exact List.mem_map.2 ⟨(t + lim, x), lookup_mem h1, rfl⟩)
      simp only [hb']
      exact h1

theorem uniq_downN {α β : Type} {l : List (Nat × α)} {c : α → Bool} {f : α → β} (h : Uniq l) : Uniq ((l.filter fun q => Nat.ble lim q.1 && c q.2).map fun q => (downN q.1, f q.2)) := by
  unfold Uniq at h ⊢
  rw [List.map_map]
  have e : ((fun q : Nat × β => q.1) ∘ fun q : Nat × α => (downN q.1, f q.2)) = downN ∘ (fun q => q.1) := rfl
  rw [e, ← List.map_map]
  have hf : ((l.filter fun q => Nat.ble lim q.1 && c q.2).map (·.1)).Nodup := h.sublist (List.filter_sublist.map _)
  refine List.Pairwise.map downN (R := fun a b => lim ≤ a ∧ lim ≤ b ∧ a ≠ b) (fun a b hab h => hab.2.2 (by unfold downN at h; omega)) ?_
  refine hf.imp_of_mem fun {a b} ha hb hab => ?_
  obtain ⟨qa, hqa, rfl⟩ := List.mem_map.1 ha
  obtain ⟨qb, hqb, rfl⟩ := List.mem_map.1 hb
  rw [List.mem_filter, Bool.and_eq_true] at hqa hqb
  exact ⟨Nat.le_of_ble_eq_true hqa.2.1, Nat.le_of_ble_eq_true hqb.2.1, hab⟩

def Perm.up : Perm → Perm
  | .free => .free
  | .box n => .box (upN n)
  | .row p tip => .row (p.ren upN) tip

def Perm.down : Perm → Perm
  | .free => .free
  | .box n => if lim ≤ n then .box (downN n) else .free
  | .row p tip => if p.far = true then .row (p.ren downN) tip else .free

theorem ok_up {base : Nat} {k0 : Nat → Nat → Prop} {perm : Nat → Perm} {b i : Nat} (h : ok base k0 perm b i) : ok base k0 (fun b => (perm b).up) b i := by
  unfold ok okp at h ⊢
  split
  · rename_i hlt; rw [if_pos hlt] at h; exact h
  · rename_i hlt
    rw [if_neg hlt] at h
    cases hp : perm b with
    | free => simp [Perm.up, hp]
    | box n => rw [hp] at h; exact h.elim
    | row p tip => rw [hp] at h; simpa [Perm.up, hp] using h

theorem ok_down {base : Nat} {k0 : Nat → Nat → Prop} {perm : Nat → Perm} {b i : Nat} (h : ok base k0 perm b i) : ok base k0 (fun b => (perm b).down) b i := by
  unfold ok okp at h ⊢
  split
  · rename_i hlt; rw [if_pos hlt] at h; exact h
  · rename_i hlt
    rw [if_neg hlt] at h
    cases hp : perm b with
    | free => simp [Perm.down, hp]
    | box n => rw [hp] at h; exact h.elim
    | row p tip =>
      rw [hp] at h
      simp only [Perm.down, hp]
      cases p.far <;> simp
      exact h

theorem mentions_target {x : Cell} {n i : Nat} (h : x.target = some (.box n i)) : x.mentions n = true := by
  cases x <;> simp [Cell.target] at h
  all_goals (subst h; simp [Cell.mentions])

theorem up_lo (n : Nat) : ¬ upN n < lim := by unfold upN; omega
theorem up_down (n : Nat) : upN n - lim = n := by unfold upN; omega
theorem down_up {n : Nat} (h : lim ≤ n) : downN n + lim = n := by unfold downN; omega
theorem ren_down_slot {t i : Nat} : (Place.slot t i).far = Nat.ble lim t := rfl
theorem far_ren {q : Place} (h : q.far = true) : ∃ q0 : Place, q = q0.ren upN ∧ q.ren downN = q0 := by
  cases q with
  | slot t i =>
    have := Nat.le_of_ble_eq_true h
    exact ⟨.slot (downN t) i, by show _ = Place.slot _ _; unfold upN; rw [down_up this], rfl⟩
  | box n i =>
    have := Nat.le_of_ble_eq_true h
    exact ⟨.box (downN n) i, by show _ = Place.box _ _; unfold upN; rw [down_up this], rfl⟩

theorem far_target {x : Cell} {q : Place} (h : x.far = true) (ht : x.target = some q) : q.far = true := by
  cases x <;> simp [Cell.target] at ht
  all_goals (subst ht; exact h)

theorem far_mentions {x : Cell} {n : Nat} (h : x.far = true) (hm : x.mentions n = true) : lim ≤ n := by
  cases x <;> simp [Cell.mentions] at hm
  case ali q e t l =>
    cases q with
    | slot => simp [Cell.mentions] at hm
    | box m i => simp [Cell.mentions] at hm; subst hm; exact Nat.le_of_ble_eq_true h
  case re q t i fo =>
    cases q with
    | slot => simp [Cell.mentions] at hm
    | box m i => simp [Cell.mentions] at hm; subst hm; exact Nat.le_of_ble_eq_true h
  case ptr => subst hm; exact Nat.le_of_ble_eq_true h
  case sp => subst hm; exact Nat.le_of_ble_eq_true h
  case pe => subst hm; exact Nat.le_of_ble_eq_true h
  case clo f caps =>
    obtain ⟨x, hx⟩ := hm
    simp only [Cell.far, List.all_eq_true] at h
    exact Nat.le_of_ble_eq_true (h _ hx)

section
variable {E : Env} {s s' : St} {a a' : Act} {w w' : World} {g g' : Gh}

/-- Those who wait, as seen by him who is called. -/
def Env.inner (E : Env) (a : Act) (N : Nat) (hN : N ≤ lim) : Env := ⟨N, E.base, E.w0, E.k0, E.ko, [], fun x => tv E.out a (x - lim), hN⟩

def upG (g : Gh) : Gh := ⟨fun n => g.ι (n - lim), fun b => (g.perm b).up⟩
def downG (g : Gh) : Gh := ⟨fun n => g.ι (n + lim), fun b => (g.perm b).down⟩

theorem conc_up {N : Nat} {hN : N ≤ lim} {q : Place} : concAt (E.inner a N hN).out a' w (upG g).ι (q.ren upN) = concAt E.out a w g.ι q := by
  cases q with
  | slot t i =>
    show (flat (tv (E.inner a N hN).out a' (upN t)))[i]? = (flat (tv E.out a t))[i]?
    unfold tv
    rw [if_neg (up_lo t)]
    show (flat (tv E.out a (upN t - lim)))[i]? = _
    rw [up_down]
    rfl
  | box n i =>
    show w.cell? ⟨g.ι (upN n - lim), i, none⟩ = _
    rw [up_down]
    rfl

theorem ctx_up {N : Nat} {hN : N ≤ lim} : ctx (E.inner a N hN) (upG g) a' w = ⟨w, ok E.base E.k0 (upG g).perm, (upG g).perm, (upG g).ι, concAt (E.inner a N hN).out a' w (upG g).ι⟩ := rfl

/-- What holds of a value holds of it under the names of him who is called. -/
theorem SVR.up {N : Nat} {hN : N ≤ lim} {pl pl' : Nat → Place} {x : SV} {u : Value} (h : SVR (ctx E g a w) pl x u) (hpl : ∀ i, pl' i = (pl i).ren upN) : SVR (ctx (E.inner a N hN) (upG g) a' w) pl' (x.ren upN) u :=
  SVR.ren h hpl (fun _ _ _ h _ => ok_up h) (fun i y q b tip _ _ hp => by show (g.perm b).up = _; rw [hp]; rfl) (fun y n _ _ => by show g.ι (upN n - lim) = _; rw [up_down]) (fun y q v _ _ hv => by rw [conc_up]; exact hv)

theorem notOwn_ren {x : SV} {f : Nat → Nat} (h : x.cs.any Cell.isOwn = false) : (x.ren f).cs.any Cell.isOwn = false := by
  rw [List.any_eq_false] at h ⊢
  intro y hy
  obtain ⟨z, hz, rfl⟩ := List.mem_map.1 hy
  have := h z hz
  cases z <;> simp_all [Cell.ren, Cell.isOwn]

/-- A function begins. -/
theorem Rel.enter {N : Nat} {hN : N ≤ lim} {args : List SV} {vs : List Value} (hr : Rel E s a w g) (hl : vs.length = args.length) (hlen : args.length ≤ N) (hv : ∀ (i : Nat) x v, args[i]? = some x → vs[i]? = some v → (∃ pl, SVR (ctx E g a w) pl x v) ∧ x.cs.any Cell.isOwn = false)
    (hsz : a'.tmps.size = N) (hds : a'.defers = []) (hget : ∀ t, t < vs.length → a'.tmps.getD t undef = vs[t]?.getD undef) : Rel (E.inner a N hN) (s.enter args) a' w (upG g) := by
  have keys : ∀ q ∈ fnSlots 0 (args.map (SV.ren upN)), q.1 < lim := fun q hq => by
    have := (fnSlots_uniq (args.map (SV.ren upN)) 0).2 q hq
    obtain ⟨t, x⟩ := q
    have h2 := lookup_of_mem (fnSlots_uniq (args.map (SV.ren upN)) 0).1 hq
    obtain ⟨_, h3⟩ := fnSlots_look _ 0 t x h2
    have := (List.getElem?_eq_some_iff.1 h3).1
    simp at this
    show t < lim
    omega
  refine ⟨⟨?_, uniq_upN (f := fun q : Nat × List Cell => (q.1, q.2.map (Cell.ren upN))) hr.uniq.boxes⟩, fun t x hx => ?_, fun n e cs hn => ?_, fun n e cs hn => ?_, fun b hb => ?_, hr.below, hr.base, hsz, hds, fun l o hl' => ?_⟩
  · show Uniq (fnSlots 0 (args.map (SV.ren upN)) ++ s.up.slots)
    unfold Uniq
    rw [List.map_append, List.nodup_append]
    refine ⟨(fnSlots_uniq _ 0).1, uniq_upN hr.uniq.slots, fun x hx y hy => ?_⟩
    obtain ⟨q, hq, rfl⟩ := List.mem_map.1 hx
    obtain ⟨q2, hq2, rfl⟩ := List.mem_map.1 hy
    have h1 := keys q hq
    obtain ⟨q3, _, rfl⟩ := List.mem_map.1 hq2
    intro e
    rw [e] at h1
    exact up_lo _ h1
  · have hx : (fnSlots 0 (args.map (SV.ren upN)) ++ s.up.slots).lookup t = some x := hx
    rw [List.lookup_append] at hx
    cases h1 : (fnSlots 0 (args.map (SV.ren upN))).lookup t with
    | some y =>
      rw [h1] at hx
      injection hx with hx
      subst hx
      obtain ⟨_, h2⟩ := fnSlots_look _ 0 t y h1
      simp only [Nat.sub_zero, List.getElem?_map] at h2
      cases h3 : args[t]? with
      | none => rw [h3] at h2; cases h2
      | some x0 =>
        rw [h3] at h2
        injection h2 with h2
        subst h2
        have htl : t < args.length := (List.getElem?_eq_some_iff.1 h3).1
        obtain ⟨⟨pl, k1⟩, k2⟩ := hv t x0 vs[t] h3 (List.getElem?_eq_getElem (by omega))
        rw [tv_own (show t < lim by omega)]
        show SVR _ _ _ (a'.tmps.getD t undef)
        rw [hget t (by omega), List.getElem?_eq_getElem (by omega)]
        exact (SVR.up k1 (pl' := fun i => (pl i).ren upN) fun _ => rfl).place (notOwn_ren k2)
    | none =>
      rw [h1] at hx
      obtain ⟨t0, x0, rfl, h2, rfl⟩ := lookup_upN (f := SV.ren upN) (show s.up.slots.lookup t = some x from hx)
      have h3 := hr.slots t0 x0 h2
      have e : tv (E.inner a N hN).out a' (upN t0) = tv E.out a t0 := by
        conv => lhs; unfold tv
        rw [if_neg (up_lo t0)]
        show tv E.out a (upN t0 - lim) = _
        rw [up_down]
      rw [e]
      exact SVR.up h3 fun _ => rfl
  · obtain ⟨n0, x0, rfl, h2, h3⟩ := lookup_upN (f := fun q : Nat × List Cell => (q.1, q.2.map (Cell.ren upN))) (show s.up.boxes.lookup n = some (e, cs) from hn)
    obtain ⟨e0, cs0⟩ := x0
    simp only [Prod.mk.injEq] at h3
    obtain ⟨rfl, rfl⟩ := h3
    obtain ⟨k1, us, k2, k3, k4⟩ := hr.boxes n0 e0 cs0 h2
    have ei : (upG g).ι (upN n0) = g.ι n0 := by show g.ι (upN n0 - lim) = _; rw [up_down]
    refine ⟨?_, us, by rw [ei]; exact k2, by simp [k3], fun i x y hx hy => ?_⟩
    · rw [ei]
      show (g.perm (g.ι n0)).up = _
      rw [k1]; rfl
    · rw [List.getElem?_map] at hx
      cases h4 : cs0[i]? with
      | none => rw [h4] at hx; cases hx
      | some x0 =>
        rw [h4] at hx
        injection hx with hx
        subst hx
        obtain ⟨m1, m2⟩ := k4 i x0 y h4 hy
        exact ⟨m1, CV.ren m2 (fun _ _ _ h _ => ok_up h) (fun q b tip _ hp => by show (g.perm b).up = _; rw [hp]; rfl) (fun n _ => by show g.ι (upN n - lim) = _; rw [up_down]) (fun q v _ hv => by rw [conc_up]; exact hv)⟩
  · obtain ⟨n0, x0, rfl, h2, h3⟩ := lookup_upN (f := fun q : Nat × List Cell => (q.1, q.2.map (Cell.ren upN))) (show s.up.boxes.lookup n = some (e, cs) from hn)
    obtain ⟨e0, cs0⟩ := x0
    simp only [Prod.mk.injEq] at h3
    obtain ⟨rfl, rfl⟩ := h3
    intro c hc
    obtain ⟨c0, hc0, rfl⟩ := List.mem_map.1 hc
    rw [ren_target, hr.nt n0 e0 cs0 h2 c0 hc0]
    rfl
  · refine hr.lo b fun h => hb ?_
    show (g.perm b).up = _
    rw [h]; rfl
  · obtain ⟨k1, k2⟩ := hr.ko l o hl'
    exact ⟨k1, by show (g.perm l).up = _; rw [k2]; rfl⟩

/-! ### Back -/
theorem conc_down {N : Nat} {hN : N ≤ lim} {q : Place} (h : q.far = true) : concAt E.out a w (downG g).ι (q.ren downN) = concAt (E.inner a N hN).out a' w g.ι q := by
  obtain ⟨q0, rfl, e⟩ := far_ren h
  rw [e]
  cases q0 with
  | slot t i =>
    show (flat (tv E.out a t))[i]? = (flat (tv (E.inner a N hN).out a' (upN t)))[i]?
    conv => rhs; unfold tv
    rw [if_neg (up_lo t)]
    show _ = (flat (tv E.out a (upN t - lim)))[i]?
    rw [up_down]
  | box n i => rfl

theorem SVR.down {N : Nat} {hN : N ≤ lim} {pl pl' : Nat → Place} {x : SV} {u : Value} (h : SVR (ctx (E.inner a N hN) g a' w) pl x u) (hx : x.cs.all Cell.far = true) (hpl : ∀ i, pl' i = (pl i).ren downN) (hown : ∀ i y, x.cs[i]? = some y → y.isOwn = true → (pl i).far = true) : SVR (ctx E (downG g) a w) pl' (x.ren downN) u := by
  rw [List.all_eq_true] at hx
  refine SVR.ren h hpl (fun _ _ _ h _ => ok_down h) (fun i y q b tip hy hq hp => ?_) (fun y n hy hm => ?_) (fun y q v hy hq hv => ?_)
  · have hf : q.far = true := by
      rcases hq with ⟨h1, rfl⟩ | h1
      · exact hown i y hy h1
      · exact far_target (hx y (List.mem_of_getElem? hy)) h1
    show (g.perm b).down = _
    have hp : g.perm b = .row q tip := hp
    rw [hp]
    simp only [Perm.down, hf, if_true]
  · show g.ι (downN n + lim) = g.ι n
    rw [down_up (far_mentions (hx y hy) hm)]
  · rw [conc_down (far_target (hx y hy) hq)]
    exact hv

/-- He who waited goes on. -/
theorem Rel.leave {N : Nat} {hN : N ≤ lim} (hr : Rel (E.inner a N hN) s' a' w' g') (hsz : a.tmps.size = E.N) (hds : a.defers = E.ds) : Rel E s'.down a w' (downG g') := by
  refine ⟨⟨uniq_downN (c := fun v : SV => v.cs.all Cell.far) (f := SV.ren downN) hr.uniq.slots, uniq_downN (c := fun q : Nat × List Cell => q.2.all Cell.far) (f := fun q : Nat × List Cell => (q.1, q.2.map (Cell.ren downN))) hr.uniq.boxes⟩, fun t x hx => ?_, fun n e cs hn => ?_, fun n e cs hn => ?_, fun b hb => ?_, hr.below, hr.base, hsz, hds, fun l o hl' => ?_⟩
  · obtain ⟨x0, h1, h2, rfl⟩ := lookup_downN (c := fun v : SV => v.cs.all Cell.far) (f := SV.ren downN) (show s'.down.slots.lookup t = some x from hx) hr.uniq.slots
    have h3 := hr.slots _ x0 h1
    have e : tv (E.inner a N hN).out a' (t + lim) = tv E.out a t := by
      conv => lhs; unfold tv
      rw [if_neg (by omega)]
      show tv E.out a (t + lim - lim) = _
      rw [Nat.add_sub_cancel]
    rw [e] at h3
    refine SVR.down h3 h2 (fun i => ?_) (fun i y _ _ => ?_)
    · show Place.slot t i = .slot (downN (t + lim)) i
      unfold downN; rw [Nat.add_sub_cancel]
    · show Nat.ble lim (t + lim) = true
      exact Nat.ble_eq_true_of_le (by omega)
  · obtain ⟨x0, h1, h2, h3⟩ := lookup_downN (c := fun q : Nat × List Cell => q.2.all Cell.far) (f := fun q : Nat × List Cell => (q.1, q.2.map (Cell.ren downN))) (show s'.down.boxes.lookup n = some (e, cs) from hn) hr.uniq.boxes
    obtain ⟨e0, cs0⟩ := x0
    simp only [Prod.mk.injEq] at h3
    obtain ⟨rfl, rfl⟩ := h3
    rw [List.all_eq_true] at h2
    obtain ⟨k1, us, k2, k3, k4⟩ := hr.boxes _ e0 cs0 h1
    refine ⟨?_, us, k2, by simp [k3], fun i x y hx hy => ?_⟩
    · show (g'.perm (g'.ι (n + lim))).down = _
      rw [k1]
      simp only [Perm.down]
      rw [if_pos (by omega)]
      unfold downN; rw [Nat.add_sub_cancel]
    · rw [List.getElem?_map] at hx
      cases h4 : cs0[i]? with
      | none => rw [h4] at hx; cases hx
      | some x0 =>
        rw [h4] at hx
        injection hx with hx
        subst hx
        obtain ⟨m1, m2⟩ := k4 i x0 y h4 hy
        have hf := h2 x0 (List.mem_of_getElem? h4)
        have hnt := hr.nt _ e0 cs0 h1 x0 (List.mem_of_getElem? h4)
        refine ⟨m1, ?_⟩
        have := CV.ren (f := downN) (k' := ok E.base E.k0 (downG g').perm) (perm' := (downG g').perm) (ι' := (downG g').ι) (conc' := concAt E.out a w' (downG g').ι) m2 (fun _ _ _ h _ => ok_down h) (fun q b tip hq hp => ?_) (fun m hm => ?_) (fun q v hq _ => by rw [hnt] at hq; cases hq)
        · have e2 : (Place.box (n + lim) i).ren downN = .box n i := by
            show Place.box (downN (n + lim)) i = _
            unfold downN; rw [Nat.add_sub_cancel]
          rw [e2] at this
          exact this
        · have hfar : q.far = true := by
            rcases hq with ⟨_, rfl⟩ | hq
            · exact Nat.ble_eq_true_of_le (by omega)
            · rw [hnt] at hq; cases hq
          show (g'.perm b).down = _
          have hp : g'.perm b = .row q tip := hp
          rw [hp]
          simp only [Perm.down, hfar, if_true]
        · show g'.ι (downN m + lim) = g'.ι m
          rw [down_up (far_mentions hf hm)]
  · obtain ⟨x0, h1, h2, h3⟩ := lookup_downN (c := fun q : Nat × List Cell => q.2.all Cell.far) (f := fun q : Nat × List Cell => (q.1, q.2.map (Cell.ren downN))) (show s'.down.boxes.lookup n = some (e, cs) from hn) hr.uniq.boxes
    obtain ⟨e0, cs0⟩ := x0
    simp only [Prod.mk.injEq] at h3
    obtain ⟨rfl, rfl⟩ := h3
    intro c hc
    obtain ⟨c0, hc0, rfl⟩ := List.mem_map.1 hc
    rw [ren_target, hr.nt _ e0 cs0 h1 c0 hc0]
    rfl
  · refine hr.lo b fun h => hb ?_
    show (g'.perm b).down = _
    rw [h]; rfl
  · obtain ⟨k1, k2⟩ := hr.ko l o hl'
    exact ⟨k1, by show (g'.perm l).down = _; rw [k2]; rfl⟩
end
end Go.Proofs.Ytaegoofefcidnaa.M
