/- Operations one behind the other, in the text's order. -/
import Derived.Test.YtmiffokcdmehhaaEngM
set_option linter.unusedVariables false
namespace Go.Proofs.Ytmiffokcdmehhaa.E
open Go Go.RowKit

section
variable {P : Program} {E : Env} {s s' : St} {a : Act} {w : World} {g : Gh} {o : Oper} {ob : Prop} {r : Option Nat} {Q : Exit → Act → World → Prop} {N : Nat}

theorem append_op_run {c : Call} {x y : Operand} {t : TypeId} {u v v' : Value} {w' : World} (hop : o.op = .call c) (hc : c.callee = .builtin .append) (ha : c.args.toList = [x, y]) (ht : c.argTypes.toList = [t, t]) (hx : a.eval x = u) (hy : a.eval y = v)
    (hrun : (Builtin.append_ #[t, t] o.type #[u, v]).run P w = .ok v' w') : (execOp a.eval o).run P w = .ok (.value v') w' := by
  have h1 : c.args = #[x, y] := by cases hh : c.args; simp_all
  have h2 : c.argTypes = #[t, t] := by cases hh : c.argTypes; simp_all
  simp only [execOp, hop, resolve, hc, h1, h2, Sem.run_bind, Sem.run_pure, Result.andThen_ok, invoke, builtin]
  simp [hx, hy, hrun]

theorem slots_put {l : List (Nat × SV)} (hu : Uniq l) {d : Nat} {v : SV} {t : Nat} {x : SV} (h : ((d, v) :: dropRefs d l).lookup t = some x) : upd (fun t => l.lookup t) d v t = some x := by
  simp only [List.lookup_cons] at h
  unfold upd
  by_cases ht : t = d
  · subst ht; simp at h ⊢; exact h
  · have hb : (t == d) = false := by simpa using ht
    simp only [hb] at h
    obtain ⟨k1, k2⟩ := lookup_filter hu h
    simp at k2
    simp only [ht, if_false, k1, k2.2]
    simp

theorem Uniq.put {l : List (Nat × SV)} (hu : Uniq l) (d : Nat) (v : SV) : Uniq ((d, v) :: dropRefs d l) :=
  (hu.filter _).cons fun q hq => by
    have := (List.mem_filter.1 hq).2
    simp at this
    exact this.1

theorem append_post {c : Call} (hop : o.op = .call c) (hcal : c.callee = .builtin .append) (hN : N = E.N) (hc : atail P N s o = some (s', ob)) (hob : ob) (hr : Rel E s a w g) : o.wpIn (Fr r) 9 P a w (Post E s') Q := by
  unfold atail at hc
  rw [hop] at hc
  simp only [hcal] at hc
  split at hc
  · rename_i x y t t' d _ ha ht hd
    split at hc
    · rename_i hcond
      obtain ⟨rfl, hdN⟩ := hcond
      split at hc
      · rename_i e hu
        split at hc
        · rename_i j cx cy hj hx hy
          split at hc
          · rename_i ys z hys hz
            split at hc
            · simp at hc
            · rename_i hsz
              have hsz0 : j.size ≠ 0 := fun h => hsz (.inl h)
              have hzs : z.cells.size = j.size := by
                by_cases h : z.cells.size = j.size
                · exact h
                · exact absurd (.inr h) hsz
              have hpos : 0 < j.size := by omega
              have hyD := (hr.eval hy).one.2.listV hys
              have hX := (hr.eval hx).one.2
              -- what comes of the law
              have fin : ∀ {sl : Sl} {bx : Bx} {xs : List (List D)} {q : Place} {us : List Value}, RelF E sl bx a w g → w.ownsRow 0 e j.size (a.eval x) xs.length us → (∀ z ∈ xs, z.length = j.size) → DV w (ok E.base E.k0 g.perm) (.lst xs) (a.eval x) →
                  (∀ b, (a.eval x).ownBlock = some b → g.perm b = .row q (xs.length * j.size)) → xs.length + ys.length ≤ maxLen → (xs.length + ys.length) * j.bytes ≤ 140737488355328 → (∀ q ∈ ys, q.length = j.size) →
                  (∀ t x, sl t = some x → ∀ (i : Nat) c, x.cs[i]? = some c → (c.isOwn = true → Place.slot t i ≠ q) ∧ ∀ p, c.target = some p → p ≠ q ∧ c.aliBox = false) →
                  (∀ m x, bx m = some x → ∀ (i : Nat) c, x.2[i]? = some c → c.isOwn = true → Place.box m i ≠ q) → s'.Ok →
                  (∀ t x, s'.slots.lookup t = some x → upd sl d ⟨.one, [.own e j.size (xs ++ ys)]⟩ t = some x) → (∀ m x, s'.boxes.lookup m = some x → bx m = some x) → o.wpIn (Fr r) 9 P a w (Post E s') Q :=
                fun h1 h2 h3 h4 h5 h6 h7 h8 h9 h10 h11 h12 h13 => by
                  obtain ⟨v', w', hrun, g', hg⟩ := appended (ty := o.type) h1 hu hj hz hzs hpos h2 h3 h4 h5 hyD h8 h6 h7 (by rw [← hN]; exact hdN) h9 h10
                  refine wpIn_value (by rw [hop]; simp) (append_op_run hop hcal ha ht rfl rfl hrun) ?_
                  rw [hd]
                  exact ⟨g', RelF.toRel h11 (hg.weak h12 h13)⟩
              split at hc
              · simp only [Option.some.injEq, Prod.mk.injEq] at hc
                obtain ⟨rfl, rfl⟩ := hc
                obtain ⟨b1, b2, b3⟩ := hob
                have hnil : a.eval x = .slice none 0 0 := hX
                refine fin (xs := []) (q := .slot d 0) (us := []) (hr.toF.weak (sl' := fun t => (delBoxRefs (delSlot d s.slots)).lookup t) (fun t x hx => (delSlot_look hr.uniq.slots (delBoxRefs_look (hr.uniq.slots.filter _) hx).1).1) (fun _ _ h => h)) (by rw [hnil]; exact World.ownsRow_nil _ _ _ _) (by simp) (by rw [hnil]; exact .emp _ _ (by simp [maxLen]))
                  (fun b hb => by rw [hnil] at hb; simp [Value.ownBlock] at hb) (by simpa using b1) (by simpa using b2) b3
                  (fun t x hx i c hc => ?_) (fun m x _ i c _ _ => by simp) ⟨((hr.uniq.slots.filter _).filter _).put _ _, hr.uniq.boxes⟩ (fun t x hx => slots_put ((hr.uniq.slots.filter _).filter _) hx) (fun _ _ h => h)
                obtain ⟨l1, l2⟩ := delBoxRefs_look (hr.uniq.slots.filter _) hx
                obtain ⟨l3, l4, l5⟩ := delSlot_look hr.uniq.slots l1
                refine ⟨fun _ he => l4 (by injection he), fun p hp => ⟨fun he => ?_, l2 c (List.mem_of_getElem? hc)⟩⟩
                exact refs_target (l5 c (List.mem_of_getElem? hc)) hp 0 he
              · rename_i e' sz xs tx
                split at hc
                · rename_i hcc
                  obtain ⟨rfl, rfl, htx⟩ := hcc
                  simp only [Option.some.injEq, Prod.mk.injEq] at hc
                  obtain ⟨rfl, rfl⟩ := hc
                  obtain ⟨b1, b2, b3⟩ := hob
                  obtain ⟨⟨us, k1⟩, k2, k3, k4⟩ := hX
                  refine fin (xs := xs) (q := .slot tx 0) (us := us) (hr.toF.weak (sl' := fun t => (delBoxRefs (delSlot tx s.slots)).lookup t) (fun t x hx => (delSlot_look hr.uniq.slots (delBoxRefs_look (hr.uniq.slots.filter _) hx).1).1) (fun _ _ h => h)) k1 k2 k3 k4 b1 b2 b3
                    (fun t x hx i c hc => ?_) (fun m x _ i c _ _ => by simp) ⟨((hr.uniq.slots.filter _).filter _).put _ _, hr.uniq.boxes⟩ (fun t x hx => slots_put ((hr.uniq.slots.filter _).filter _) hx) (fun _ _ h => h)
                  obtain ⟨l1, l2⟩ := delBoxRefs_look (hr.uniq.slots.filter _) hx
                  obtain ⟨l3, l4, l5⟩ := delSlot_look hr.uniq.slots l1
                  refine ⟨fun _ he => l4 (by injection he), fun p hp => ⟨fun he => ?_, l2 c (List.mem_of_getElem? hc)⟩⟩
                  exact refs_target (l5 c (List.mem_of_getElem? hc)) hp 0 he
                · simp at hc
              · rename_i t0 i0 e' sz xs
                split at hc
                · rename_i hcc
                  obtain ⟨rfl, rfl, ht0⟩ := hcc
                  simp only [Option.some.injEq, Prod.mk.injEq] at hc
                  obtain ⟨rfl, rfl⟩ := hc
                  obtain ⟨b1, b2, b3⟩ := hob
                  obtain ⟨k0, ⟨us, k1⟩, k2, k3, k4⟩ := hX
                  refine fin (xs := xs) (q := .slot t0 i0) (us := us) (hr.toF.weak (sl' := fun t => (delBoxRefs (delSlot t0 s.slots)).lookup t) (fun t x hx => (delSlot_look hr.uniq.slots (delBoxRefs_look (hr.uniq.slots.filter _) hx).1).1) (fun _ _ h => h)) k1 k2 k3 k4 b1 b2 b3
                    (fun t x hx i c hc => ?_) (fun m x _ i c _ _ => by simp) ⟨((hr.uniq.slots.filter _).filter _).put _ _, hr.uniq.boxes⟩ (fun t x hx => slots_put ((hr.uniq.slots.filter _).filter _) hx) (fun _ _ h => h)
                  obtain ⟨l1, l2⟩ := delBoxRefs_look (hr.uniq.slots.filter _) hx
                  obtain ⟨l3, l4, l5⟩ := delSlot_look hr.uniq.slots l1
                  refine ⟨fun _ he => l4 (by injection he), fun p hp => ⟨fun he => ?_, l2 c (List.mem_of_getElem? hc)⟩⟩
                  exact refs_target (l5 c (List.mem_of_getElem? hc)) hp i0 he
                · simp at hc
              · rename_i n i0 e' sz xs
                split at hc
                · rename_i be cs hb
                  split at hc
                  · rename_i hcc
                    obtain ⟨rfl, rfl⟩ := hcc
                    simp only [Option.some.injEq, Prod.mk.injEq] at hc
                    obtain ⟨rfl, rfl⟩ := hc
                    obtain ⟨b1, b2, b3⟩ := hob
                    obtain ⟨k0, ⟨us, k1⟩, k2, k3, k4⟩ := hX
                    -- the variable no longer owns what grows
                    have hbx : RelF E (fun t => (delBoxRefs s.slots).lookup t) (fun m => (setBox n (be, cs.set i0 (.lst xs)) s.boxes).lookup m) a w g := by
                      have h0 := hr.toF
                      refine { h0 with slots := fun t x hx => h0.slots t x (delBoxRefs_look hr.uniq.slots hx).1, boxes := fun m e1 cs1 hm => ?_, nt := fun m e1 cs1 hm => ?_ }
                      · rcases lookup_setBox hr.uniq.boxes hm with ⟨rfl, hq⟩ | ⟨_, hm'⟩
                        · simp only [Prod.mk.injEq] at hq
                          obtain ⟨rfl, rfl⟩ := hq
                          obtain ⟨c1, us1, c2, c3, c4⟩ := hr.boxes m _ cs hb
                          refine ⟨c1, us1, c2, by simpa using c3, fun i x y hx hy => ?_⟩
                          rw [List.getElem?_set] at hx
                          split at hx
                          · rename_i hi
                            subst hi
                            split at hx
                            · injection hx with hx
                              subst hx
                              have hlt := (List.getElem?_eq_some_iff.1 hy).1
                              have h1 := (c4 i0 _ y (List.getElem?_eq_getElem (by omega)) hy).1
                              refine ⟨h1, ?_⟩
                              have hcell : w.cell? ⟨g.ι m, i0, none⟩ = some y := by simp [World.cell?, c2]; simpa using hy
                              have hk0 : w.cell? ⟨g.ι m, i0, none⟩ = some _ := k0
                              rw [hcell] at hk0
                              injection hk0 with hk0
                              rw [hk0]
                              exact k3
                            · simp at hx
                          · exact c4 i x y hx hy
                        · exact h0.boxes m e1 cs1 hm'
                      · rcases lookup_setBox hr.uniq.boxes hm with ⟨rfl, hq⟩ | ⟨_, hm'⟩
                        · simp only [Prod.mk.injEq] at hq
                          obtain ⟨rfl, rfl⟩ := hq
                          intro c hc
                          rcases List.mem_or_eq_of_mem_set hc with h | h
                          · exact hr.nt m _ cs hb c h
                          · rw [h]; rfl
                        · exact h0.nt m e1 cs1 hm'
                    refine fin (xs := xs) (q := .box n i0) (us := us) hbx k1 k2 k3 k4 b1 b2 b3
                      (fun t x hx i c hc => ?_) (fun m x hm i c hc ho he => ?_) ⟨(hr.uniq.slots.filter _).put _ _, hr.uniq.boxes.setBox⟩ (fun t x hx => slots_put (hr.uniq.slots.filter _) hx) (fun _ _ h => h)
                    · obtain ⟨l1, l2⟩ := delBoxRefs_look hr.uniq.slots hx
                      refine ⟨(fun _ he => by cases he), fun p hp => ⟨fun he => ?_, l2 c (List.mem_of_getElem? hc)⟩⟩
                      subst he
                      have := l2 c (List.mem_of_getElem? hc)
                      cases c <;> simp [Cell.target] at hp
                      subst hp
                      simp [Cell.aliBox] at this
                    · injection he with he1 he2
                      subst he1; subst he2
                      rcases lookup_setBox hr.uniq.boxes hm with ⟨_, hq⟩ | ⟨hne, _⟩
                      · subst hq
                        simp only at hc
                        rw [List.getElem?_set] at hc
                        simp at hc
                        obtain ⟨_, rfl⟩ := hc
                        simp [Cell.isOwn] at ho
                      · exact hne rfl
                  · simp at hc
                · simp at hc
              · simp at hc
          · simp at hc
        · simp at hc
      · simp at hc
    · simp at hc
  · simp at hc
end
end Go.Proofs.Ytmiffokcdmehhaa.E
