/- Operations one behind the other, in the text's order. -/
import Derived.Test.YtcgkhlccmfbhnaaMchM
set_option linter.unusedVariables false
namespace Go.Proofs.Ytcgkhlccmfbhnaa.M
open Go Go.RowKit

section
variable {P : Program} {E : Env} {s s' : St} {a : Act} {w : World} {g : Gh} {o : Oper} {ob : Cnd} {r : Option Nat} {Q : Exit → Act → World → Prop} {N : Nat}

theorem append_op_run {c : Call} {x y : Operand} {t : TypeId} {u v v' : Value} {w' : World} (hop : o.op = .call c) (hc : c.callee = .builtin .append) (ha : c.args.toList = [x, y]) (ht : c.argTypes.toList = [t, t]) (hx : a.eval x = u) (hy : a.eval y = v)
    (hrun : (Builtin.append_ #[t, t] o.type #[u, v]).run P w = .ok v' w') : (execOp a.eval o).run P w = .ok (.value v') w' := by
  have h1 : c.args = #[x, y] := by cases hh : c.args; simp_all
  have h2 : c.argTypes = #[t, t] := by cases hh : c.argTypes; simp_all
  simp only [execOp, hop, resolve, hc, h1, h2, Sem.run_bind, Sem.run_pure, Result.andThen_ok, invoke, builtin]
  simp [hx, hy, hrun]

theorem slots_put {l : List (Nat × SV)} (hu : Uniq l) {d : Nat} {v : SV} {t : Nat} {x : SV} (h : ((d, v) :: dropRefs d l).lookup t = some x) : upd (fun t => l.lookup t) d v t = some x := by
  simp only [List.lookup_cons] at h
  unfold upd
  by_cases ht : t = d
  · subst ht; simp at h ⊢; exact h
  · have hb : (t == d) = false := by simpa using ht
    simp only [hb] at h
    obtain ⟨k1, k2⟩ := lookup_filter hu h
    simp at k2
    simp only [ht, if_false, k1, k2.2]
    simp

theorem Uniq.put {l : List (Nat × SV)} (hu : Uniq l) (d : Nat) (v : SV) : Uniq ((d, v) :: dropRefs d l) :=
  (hu.filter _).cons fun q hq => by
    have := (List.mem_filter.1 hq).2
    simp at this
    exact this.1

/-- What grows, and what is left of the state. -/
theorem growing_sound {e d : Nat} {ty t : Ty} {cx : Cell} {x : Operand} {s1 : St} {xs : List t.T} (hc : growing s d e ty cx x = some (s1, ⟨t, xs⟩)) (hx : evalO s x = some ⟨.one, [cx]⟩) (hr : Rel E s a w g) :
    t.n = ty.n ∧ s1.Ok ∧ ∃ (q : Place) (us : List Value), RelF E (fun t => s1.slots.lookup t) (fun m => s1.boxes.lookup m) a w g ∧ w.ownsRow 0 e t.n (a.eval x) xs.length us ∧ DV w (ok E.base E.k0 g.perm) (.lst t xs) (a.eval x) ∧
      (∀ b, (a.eval x).ownBlock = some b → g.perm b = .row q (xs.length * t.n)) ∧ (∀ t x, s1.slots.lookup t = some x → ∀ (i : Nat) c, x.cs[i]? = some c → (c.isOwn = true → Place.slot t i ≠ q) ∧ ∀ p, c.target = some p → p ≠ q ∧ c.aliBox = false) ∧
      (∀ m x, s1.boxes.lookup m = some x → ∀ (i : Nat) c, x.2[i]? = some c → c.isOwn = true → Place.box m i ≠ q) := by
  have hX := (hr.eval hx).one.2
  have del : ∀ tx, ∀ t x, (delBoxRefs (delSlot tx s.slots)).lookup t = some x → ∀ (i : Nat) c, x.cs[i]? = some c → ∀ i0, (c.isOwn = true → Place.slot t i ≠ .slot tx i0) ∧ ∀ p, c.target = some p → p ≠ .slot tx i0 ∧ c.aliBox = false := fun tx t x hx i c hc i0 => by
    obtain ⟨l1, l2⟩ := delBoxRefs_look (hr.uniq.slots.filter _) hx
    obtain ⟨l3, l4, l5⟩ := delSlot_look hr.uniq.slots l1
    refine ⟨fun _ he => l4 (by injection he), fun p hp => ⟨fun he => ?_, l2 c (List.mem_of_getElem? hc)⟩⟩
    exact refs_target (l5 c (List.mem_of_getElem? hc)) hp i0 he
  have weak : ∀ tx, RelF E (fun t => (delBoxRefs (delSlot tx s.slots)).lookup t) (fun m => s.boxes.lookup m) a w g := fun tx =>
    hr.toF.weak (fun t x hx => (delSlot_look hr.uniq.slots (delBoxRefs_look (hr.uniq.slots.filter _) hx).1).1) (fun _ _ h => h)
  have uniq : ∀ tx, Uniq (delBoxRefs (delSlot tx s.slots)) := fun tx => (hr.uniq.slots.filter _).filter _
  unfold growing at hc
  split at hc
  · simp only [Option.some.injEq, Prod.mk.injEq, Sigma.mk.injEq] at hc
    obtain ⟨rfl, rfl, hxs⟩ := hc
    have hxs := eq_of_heq hxs
    subst hxs
    have hnil : a.eval x = .slice none 0 0 := hX
    exact ⟨rfl, ⟨uniq d, hr.uniq.boxes⟩, .slot d 0, [], weak d, by rw [hnil]; exact World.ownsRow_nil _ _ _ _, by rw [hnil]; exact .emp _ _ _ (by simp [maxLen]), fun b hb => by rw [hnil] at hb; simp [Value.ownBlock] at hb,
      fun t x hx i c hc => del d t x hx i c hc 0, fun m x _ i c _ _ => by simp⟩
  · rename_i e' t' xs' tx
    split at hc
    · rename_i hcc
      obtain ⟨rfl, htt, htx⟩ := hcc
      simp only [Option.some.injEq, Prod.mk.injEq, Sigma.mk.injEq] at hc
      obtain ⟨rfl, rfl, hxs⟩ := hc
      have hxs := eq_of_heq hxs
      subst hxs
      obtain ⟨⟨us, k1⟩, k3, k4⟩ := hX
      exact ⟨htt, ⟨uniq tx, hr.uniq.boxes⟩, .slot tx 0, us, weak tx, k1, k3, k4, fun t x hx i c hc => del tx t x hx i c hc 0, fun m x _ i c _ _ => by simp⟩
    · cases hc
  · rename_i t0 i0 e' t' xs' 
    split at hc
    · rename_i hcc
      obtain ⟨rfl, htt, ht0⟩ := hcc
      simp only [Option.some.injEq, Prod.mk.injEq, Sigma.mk.injEq] at hc
      obtain ⟨rfl, rfl, hxs⟩ := hc
      have hxs := eq_of_heq hxs
      subst hxs
      obtain ⟨k0, ⟨us, k1⟩, k3, k4⟩ := hX
      exact ⟨htt, ⟨uniq t0, hr.uniq.boxes⟩, .slot t0 i0, us, weak t0, k1, k3, k4, fun t x hx i c hc => del t0 t x hx i c hc i0, fun m x _ i c _ _ => by simp⟩
    · cases hc
  · rename_i n i0 e' t' xs' 
    split at hc
    · rename_i be cs hb
      split at hc
      · rename_i hcc
        obtain ⟨rfl, htt⟩ := hcc
        simp only [Option.some.injEq, Prod.mk.injEq, Sigma.mk.injEq] at hc
        obtain ⟨rfl, rfl, hxs⟩ := hc
        have hxs := eq_of_heq hxs
        subst hxs
        obtain ⟨k0, ⟨us, k1⟩, k3, k4⟩ := hX
        -- the variable no longer owns what grows
        have hbx : RelF E (fun t => (delBoxRefs s.slots).lookup t) (fun m => (setBox n (be, cs.set i0 (.lst t' xs')) s.boxes).lookup m) a w g := by
          have h0 := hr.toF
          refine { h0 with slots := fun t x hx => h0.slots t x (delBoxRefs_look hr.uniq.slots hx).1, boxes := fun m e1 cs1 hm => ?_, nt := fun m e1 cs1 hm => ?_ }
          · rcases lookup_setBox hr.uniq.boxes hm with ⟨rfl, hq⟩ | ⟨_, hm'⟩
            · simp only [Prod.mk.injEq] at hq
              obtain ⟨rfl, rfl⟩ := hq
              obtain ⟨c1, us1, c2, c3, c4⟩ := hr.boxes m _ cs hb
              refine ⟨c1, us1, c2, by simpa using c3, fun i x y hx hy => ?_⟩
              rw [List.getElem?_set] at hx
              split at hx
              · rename_i hi
                subst hi
                split at hx
                · injection hx with hx
                  subst hx
                  have hlt := (List.getElem?_eq_some_iff.1 hy).1
                  have h1 := (c4 i0 _ y (List.getElem?_eq_getElem (by omega)) hy).1
                  refine ⟨h1, ?_⟩
                  have hcell : w.cell? ⟨g.ι m, i0, none⟩ = some y := by simp [World.cell?, c2]; simpa using hy
                  have hk0 : w.cell? ⟨g.ι m, i0, none⟩ = some _ := k0
                  rw [hcell] at hk0
                  injection hk0 with hk0
                  rw [hk0]
                  exact k3
                · simp at hx
              · exact c4 i x y hx hy
            · exact h0.boxes m e1 cs1 hm'
          · rcases lookup_setBox hr.uniq.boxes hm with ⟨rfl, hq⟩ | ⟨_, hm'⟩
            · simp only [Prod.mk.injEq] at hq
              obtain ⟨rfl, rfl⟩ := hq
              intro c hc
              rcases List.mem_or_eq_of_mem_set hc with h | h
              · exact hr.nt m _ cs hb c h
              · rw [h]; rfl
            · exact h0.nt m e1 cs1 hm'
        refine ⟨htt, ⟨hr.uniq.slots.filter _, hr.uniq.boxes.setBox⟩, .box n i0, us, hbx, k1, k3, k4, fun t x hx i c hc => ?_, fun m x hm i c hc ho he => ?_⟩
        · obtain ⟨l1, l2⟩ := delBoxRefs_look hr.uniq.slots hx
          refine ⟨(fun _ he => by cases he), fun p hp => ⟨fun he => ?_, l2 c (List.mem_of_getElem? hc)⟩⟩
          subst he
          have := l2 c (List.mem_of_getElem? hc)
          cases c <;> simp [Cell.target] at hp
          subst hp
          simp [Cell.aliBox] at this
        · injection he with he1 he2
          subst he1; subst he2
          rcases lookup_setBox hr.uniq.boxes hm with ⟨_, hq⟩ | ⟨hne, _⟩
          · subst hq
            simp only at hc
            rw [List.getElem?_set] at hc
            simp at hc
            obtain ⟨_, rfl⟩ := hc
            simp [Cell.isOwn] at ho
          · exact hne rfl
      · cases hc
    · cases hc
  · cases hc

theorem F.appOk_P {n : Nat} {α β : Type} {l : List α} {m : List β} (h : F.appOk n l m = true) : l.length + m.length ≤ maxLen ∧ (l.length + m.length) * n ≤ 140737488355328 := by
  unfold F.appOk at h
  rw [Bool.and_eq_true] at h
  exact ⟨of_decide_eq_true h.1, of_decide_eq_true h.2⟩

theorem append_post {c : Call} (hop : o.op = .call c) (hcal : c.callee = .builtin .append) (hN : N = E.N) (hc : atail P N s o = some (s', ob)) (hob : ob.P) (hr : Rel E s a w g) : o.wpIn (Fr r) 9 P a w (Post E s') Q := by
  unfold atail at hc
  rw [hop] at hc
  simp only [hcal] at hc
  split at hc
  · rename_i x y t t' d _ ha ht hd
    split at hc
    · rename_i hcond
      obtain ⟨rfl, hdN⟩ := hcond
      split at hc
      · rename_i e hu
        split at hc
        · rename_i j ty cx cy hj hty hx hy
          split at hc
          · rename_i z hz
            split at hc
            · simp at hc
            · rename_i hsz
              have hsz0 : j.size ≠ 0 := fun h => hsz (.inl h)
              have hzs : z.cells.size = j.size := by
                by_cases h : z.cells.size = j.size
                · exact h
                · exact absurd (.inr (.inl h)) hsz
              have hjt : j.size = ty.n := by
                by_cases h : j.size = ty.n
                · exact h
                · exact absurd (.inr (.inr h)) hsz
              split at hc
              · rename_i s1 t1 xs hgr
                split at hc
                · rename_i ys hys
                  simp only [Option.some.injEq, Prod.mk.injEq] at hc
                  obtain ⟨rfl, rfl⟩ := hc
                  obtain ⟨b1, b2⟩ := F.appOk_P hob
                  have hyD := (hr.eval hy).one.2.listV hys
                  obtain ⟨g0, g1, q, us, g2, g3, g4, g5, g6, g7⟩ := growing_sound hgr hx hr
                  obtain ⟨v', w', hrun, g', hg⟩ := appended (ty := o.type) (by rw [hjt, g0]) g2 hu hj hz hzs (by omega) g3 g4 g5 hyD b1 b2 (by rw [← hN]; exact hdN) g6 g7
                  refine wpIn_value (by rw [hop]; simp) (append_op_run hop hcal ha ht rfl rfl hrun) ?_
                  rw [hd]
                  exact ⟨g', RelF.toRel ⟨g1.slots.put _ _, g1.boxes⟩ (hg.weak (fun t x hx => slots_put g1.slots hx) (fun m x h => h))⟩
                · simp at hc
              · simp at hc
          · simp at hc
        · simp at hc
      · simp at hc
    · simp at hc
  · simp at hc
end
end Go.Proofs.Ytcgkhlccmfbhnaa.M
