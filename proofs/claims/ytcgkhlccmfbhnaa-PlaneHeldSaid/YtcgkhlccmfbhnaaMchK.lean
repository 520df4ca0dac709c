/- A store, an assignment that hands a slice on: they do what the abstract machine reckons. -/
import Derived.Test.YtcgkhlccmfbhnaaMchJ
set_option linter.unusedVariables false
namespace Go.Proofs.Ytcgkhlccmfbhnaa.M
open Go Go.RowKit

section
variable {P : Program} {E : Env} {s s' : St} {a : Act} {w : World} {g : Gh} {o : Oper} {ob : Cnd} {r : Option Nat} {Q : Exit → Act → World → Prop}

theorem lookup_setBox {n m : Nat} {b : Nat × List Cell} {l : List (Nat × Nat × List Cell)} (hu : Uniq l) {q : Nat × List Cell} (h : (setBox n b l).lookup m = some q) : (m = n ∧ q = b) ∨ (m ≠ n ∧ l.lookup m = some q) := by
  simp only [setBox, List.lookup_cons] at h
  by_cases hm : m = n
  · subst hm; simp at h; exact .inl ⟨rfl, h.symm⟩
  · have hb : (m == n) = false := by simpa using hm
    simp only [hb] at h
    exact .inr ⟨hm, (lookup_filter hu h).1⟩

theorem Uniq.setBox {n : Nat} {b : Nat × List Cell} {l : List (Nat × Nat × List Cell)} (hu : Uniq l) : Uniq (setBox n b l) :=
  (hu.filter _).cons fun q hq => by
    have := (List.mem_filter.1 hq).2
    simpa using this

theorem flat_len {c : Ctx} {pl : Nat → Place} {v : SV} {u : Value} (h : SVR c pl v u) : (flat u).length = v.cs.length := by
  obtain ⟨us, _, hf, hl, _⟩ := h
  rw [hf, hl]

theorem cells_flat {c : Ctx} {pl : Nat → Place} {v : SV} {u : Value} (h : SVR c pl v u) (hs : v.sh.isAgg = true ∨ (v.cs.length = 1 ∧ v.sh = .one)) : u.cells.toList = flat u := by
  obtain ⟨us, hu, hf, hl, hc⟩ := h
  rcases hs with hs | ⟨hs, hsh⟩
  · cases hsh : v.sh with
    | agg => rw [hsh] at hu; subst hu; simp [Shape.mk, Value.cells, flat]
    | one => rw [hsh] at hs; simp [Shape.isAgg] at hs
    | tup l => rw [hsh] at hs; simp [Shape.isAgg] at hs
  · rw [hsh] at hu
    rw [hs] at hl
    match us, hl with
    | [x], _ =>
      have : v.cs[0]? = some (v.cs[0]) := List.getElem?_eq_getElem (by omega)
      have h1 := (hc 0 _ x this rfl).1
      subst hu
      simp [Shape.mk, cells_one h1, flat_one h1]

theorem store_run {t : TypeId} {ad x : Operand} {b off : Nat} {e : TypeId} {us0 us : List Value} {j : TypeInfo} (hop : o.op = .store t ad x) (h1 : a.eval ad = .pointer (some ⟨b, off, none⟩)) (hh : w.heap[b]? = some (.cells us0.toArray e (0, 0)))
    (hj : P.info? t = some j) (hus : (a.eval x).cells.toList = us) (hl : us.length = j.size) (hle : off + us.length ≤ us0.length) (ho : ∀ y ∈ us, y.oneCell' = true) :
    (execOp a.eval o).run P w = .ok .skip (w.setRow b (us0.take off ++ us ++ us0.drop (off + us.length)).toArray) := by
  have hst := run_storeCells_at P b off e us 0 us0.toArray w hh (by simpa using hle) ho
  simp only [Nat.add_zero] at hst
  have hsz : (a.eval x).cells.size = j.size := by rw [← Array.length_toList, hus, hl]
  simp only [execOp, hop, h1, Sem.run_bind, Instr.storeAt, Instr.sureAddr, Sem.run_pure, Result.andThen_ok, storeVar, sizeOf, typeInfo]
  simp [hj, hsz, hus, hst]

theorem storeCell_target {c : Cell} : (storeCell c).target = none := by cases c <;> rfl

theorem storeCell_sound {c : Ctx} {p : Place} {x : Cell} {u : Value} (h : CV c p x u) : CV c p (storeCell x) u := by
  cases x with
  | ali q e t l => exact h.2.2.1
  | _ => exact h

theorem splice_get {α : Type} {l m : List α} {off i : Nat} (h : off + m.length ≤ l.length) : (l.take off ++ m ++ l.drop (off + m.length))[i]? = if i < off then l[i]? else if i < off + m.length then m[i - off]? else l[i]? := by
  rw [List.append_assoc]
  by_cases h1 : i < off
  · rw [if_pos h1, List.getElem?_append_left (by simp; omega), List.getElem?_take, if_pos h1]
  · rw [if_neg h1, List.getElem?_append_right (by simp; omega)]
    have e1 : (l.take off).length = off := by simp; omega
    rw [e1]
    by_cases h2 : i < off + m.length
    · rw [if_pos h2, List.getElem?_append_left (by omega)]
    · rw [if_neg h2, List.getElem?_append_right (by omega), List.getElem?_drop]
      congr 1
      omega

def mvSlot (t0 n off : Nat) : Place → Place
  | .slot t i => if t = t0 then .box n (off + i) else .slot t i
  | p => p

/-- THE STORE, with the names of places renamed. -/
theorem store_core {n off : Nat} {e : TypeId} {cs : List Cell} {us us0 : List Value} {mv : Place → Place} {pl : Nat → Place} {v : SV} {sl' : List (Nat × SV)} (hr : Rel E s a w g) (hb : s.boxes.lookup n = some (e, cs)) (hh : w.heap[g.ι n]? = some (.cells us0.toArray e (0, 0)))
    (hv : ∀ (i : Nat) x y, v.cs[i]? = some x → us[i]? = some y → y.oneCell' = true ∧ CV (ctx E g a w) (pl i) x y) (hl : us.length = v.cs.length) (hle : off + v.cs.length ≤ cs.length)
    (hmp : ∀ (i : Nat) x, v.cs[i]? = some x → x.isOwn = true → mv (pl i) = .box n (off + i)) (hmb : ∀ m i, mv (.box m i) = .box m i)
    (hu : Uniq sl') (hsl : ∀ t x, sl'.lookup t = some x → s.slots.lookup t = some x ∧ ∀ (i : Nat) c, x.cs[i]? = some c → (c.isOwn = true → mv (.slot t i) = .slot t i) ∧ ∀ q, c.target = some q → mv q = q ∧ c.aliBox = false) :
    ∃ g', Rel E ⟨sl', setBox n (e, spliceCells cs off (v.cs.map storeCell)) s.boxes⟩ a (w.setRow (g.ι n) (us0.take off ++ us ++ us0.drop (off + us.length)).toArray) g' := by
  obtain ⟨b1, usx, b2, b3, b4⟩ := hr.boxes n e cs hb
  have hux : usx = us0 := by
    rw [hh] at b2
    injection b2 with b2
    injection b2 with b2
    simpa using b2.symm
  subst hux
  have hnr : ∀ q tip, g.perm (g.ι n) ≠ .row q tip := fun q tip h => by rw [b1] at h; cases h
  have hX : E.base ≤ g.ι n := (hr.lo _ (by rw [b1]; simp)).1
  let w' := w.setRow (g.ι n) (usx.take off ++ us ++ usx.drop (off + us.length)).toArray
  have hheap : w'.heap[g.ι n]? = some (.cells (usx.take off ++ us ++ usx.drop (off + us.length)).toArray e (0, 0)) := setRow_heap w _ _ _ e _ hh
  have hoth : ∀ b, b ≠ g.ι n → w'.heap[b]? = w.heap[b]? := fun b hb => setRow_other w _ b _ hb
  have hsz : w'.heap.size = w.heap.size := by simp [w', World.setRow]
  have hbel : Below E.base w w' := ⟨rfl, rfl, rfl, by omega, fun k hk => hoth k (by omega)⟩
  have h2 : ∀ i v, ok E.base E.k0 g.perm (g.ι n) i → w.cell? ⟨g.ι n, i, none⟩ = some v → w'.cell? ⟨g.ι n, i, none⟩ = some v ∧ okp (fun _ => Perm.box n) (g.ι n) i := fun i v k _ => by
    simp only [ok, if_neg (show ¬ g.ι n < E.base by omega), okp, b1] at k
  have h3 := hr.toF.turn (mv := mv) (X := g.ι n) (px := .box n) (w' := w') (.inl ⟨by rw [b1]; simp, by simp⟩) hbel hsz hoth h2
    (sl' := fun t => sl'.lookup t) (bx' := fun m => if m = n then none else s.boxes.lookup m)
    (fun t x hx => ⟨(hsl t x hx).1, fun i c hc => ⟨fun ho => ⟨((hsl t x hx).2 i c hc).1 ho, hnr _⟩, fun q hq => ⟨⟨(((hsl t x hx).2 i c hc).2 q hq).1, hnr _⟩, (((hsl t x hx).2 i c hc).2 q hq).2⟩⟩⟩)
    (fun m q hm => by
      split at hm
      · simp at hm
      · rename_i hmn
        refine ⟨hm, fun hc => hmn ?_, fun i c _ _ => ⟨hmb m i, hnr _⟩⟩
        have := (hr.boxes m q.1 q.2 hm).1
        rw [hc, b1] at this
        injection this with this
        exact this.symm)
  refine ⟨turned mv g (g.ι n) (.box n), RelF.toRel ⟨hu, hr.uniq.boxes.setBox⟩ { h3 with boxes := fun m e' cs' hm => ?_, nt := fun m e' cs' hm => ?_ }⟩
  · rcases lookup_setBox hr.uniq.boxes hm with ⟨rfl, hq⟩ | ⟨hmn, hm'⟩
    · simp only [Prod.mk.injEq] at hq
      obtain ⟨rfl, rfl⟩ := hq
      refine ⟨by simp [turned], _, hheap, ?_, fun i x y hx hy => ?_⟩
      · simp [spliceCells]; omega
      · rw [show spliceCells cs off (v.cs.map storeCell) = cs.take off ++ v.cs.map storeCell ++ cs.drop (off + (v.cs.map storeCell).length) from rfl, splice_get (by simp; omega)] at hx
        rw [splice_get (by omega)] at hy
        simp only [List.length_map] at hx
        rw [hl] at hy
        by_cases hi : i < off
        · rw [if_pos hi] at hx hy
          obtain ⟨c1, c2⟩ := b4 i x y hx hy
          exact ⟨c1, turn_cell hX hoth h2 c2 (fun _ => ⟨hmb m i, hnr _⟩) (hr.nt m _ cs hb x (List.mem_of_getElem? hx))⟩
        · rw [if_neg hi] at hx hy
          by_cases hi2 : i < off + v.cs.length
          · rw [if_pos hi2] at hx hy
            rw [List.getElem?_map] at hx
            cases hc : v.cs[i - off]? with
            | none => simp [hc] at hx
            | some c0 =>
              simp [hc] at hx
              subst hx
              obtain ⟨c1, c2⟩ := hv (i - off) c0 y hc hy
              refine ⟨c1, turn_cell hX hoth h2 (storeCell_sound c2) (fun ho => ?_) storeCell_target⟩
              have ho' : c0.isOwn = true := by cases c0 <;> first | exact ho | (simp [storeCell, Cell.isOwn] at ho)
              have := hmp (i - off) c0 hc ho'
              refine ⟨?_, hnr _⟩
              rw [this]
              congr 1
              omega
          · rw [if_neg hi2] at hx hy
            obtain ⟨c1, c2⟩ := b4 i x y hx hy
            exact ⟨c1, turn_cell hX hoth h2 c2 (fun _ => ⟨hmb m i, hnr _⟩) (hr.nt m _ cs hb x (List.mem_of_getElem? hx))⟩
    · have hm2 : (if m = n then none else s.boxes.lookup m) = some (e', cs') := by rw [if_neg hmn]; exact hm'
      exact h3.boxes m e' cs' hm2
  · rcases lookup_setBox hr.uniq.boxes hm with ⟨rfl, hq⟩ | ⟨hmn, hm'⟩
    · simp only [Prod.mk.injEq] at hq
      obtain ⟨rfl, rfl⟩ := hq
      intro c hc
      simp only [spliceCells, List.mem_append] at hc
      rcases hc with (hc | hc) | hc
      · exact hr.nt m _ cs hb c (List.mem_of_mem_take hc)
      · obtain ⟨c0, _, rfl⟩ := List.mem_map.1 hc
        exact storeCell_target
      · exact hr.nt m _ cs hb c (List.mem_of_mem_drop hc)
    · exact hr.nt m e' cs' hm'

theorem delBoxRefs_look {l : List (Nat × SV)} (hu : Uniq l) {t : Nat} {x : SV} (h : (delBoxRefs l).lookup t = some x) : l.lookup t = some x ∧ ∀ c ∈ x.cs, c.aliBox = false := by
  obtain ⟨h1, h2⟩ := lookup_filter hu h
  refine ⟨h1, fun c hc => ?_⟩
  simp at h2
  simpa using h2 c hc

theorem delSlot_look {l : List (Nat × SV)} (hu : Uniq l) {d t : Nat} {x : SV} (h : (delSlot d l).lookup t = some x) : l.lookup t = some x ∧ t ≠ d ∧ ∀ c ∈ x.cs, c.refs d = false := by
  obtain ⟨h1, h2⟩ := lookup_filter hu h
  simp at h2
  refine ⟨h1, h2.1, fun c hc => ?_⟩
  have := h2.2
  unfold SV.refs at this
  rw [List.any_eq_false] at this
  simpa using this c hc

theorem store_post {t : TypeId} {ad x : Operand} {N : Nat} (hop : o.op = .store t ad x) (hc : atail P N s o = some (s', ob)) (hr : Rel E s a w g) : o.wpIn (Fr r) 9 P a w (Post E s') Q := by
  unfold atail at hc
  rw [hop] at hc
  simp only at hc
  split at hc
  · rename_i n off v had hx
    split at hc
    · rename_i e cs j hb hj
      split at hc
      · simp at hc
      · rename_i hsh
        split at hc
        · rename_i hcond
          obtain ⟨q1, q2, q3, q4⟩ := hcond
          have h1 : a.eval ad = .pointer (some ⟨g.ι n, off, none⟩) := (hr.eval had).one.2
          have hS := hr.eval hx
          obtain ⟨b1, us0, b2, b3, b4⟩ := hr.boxes n e cs hb
          have hone : v.sh.isAgg = true ∨ (v.cs.length = 1 ∧ v.sh = .one) := by
            rcases q2 with q2 | q2
            · exact .inl q2
            · cases hs : v.sh with
              | one => exact .inr ⟨q2, rfl⟩
              | agg => exact .inl rfl
              | tup l => exact absurd hs (hsh l)
          have hcf := cells_flat hS hone
          have hlf := flat_len hS
          obtain ⟨us, hu1, hu2, hu3, hu4⟩ := hS
          rw [hu2] at hcf
          have h1c : ∀ y ∈ us, y.oneCell' = true := fun y hy => by
            obtain ⟨i, hi⟩ := List.mem_iff_getElem?.1 hy
            have hlt := (List.getElem?_eq_some_iff.1 hi).1
            exact (hu4 i _ y (List.getElem?_eq_getElem (by omega)) hi).1
          have hrun := store_run (P := P) (w := w) hop h1 b2 hj hcf (by omega) (by omega) h1c
          refine wpIn_skip' (by rw [hop]; simp) hrun ?_
          rw [q4]
          show Post E s' a _
          have other : ∀ sl', Uniq sl' → (∀ t x, sl'.lookup t = some x → s.slots.lookup t = some x ∧ ∀ c ∈ x.cs, c.aliBox = false) → v.cs.any Cell.isOwn = false →
              ∃ g', Rel E ⟨sl', setBox n (e, spliceCells cs off (v.cs.map storeCell)) s.boxes⟩ a (w.setRow (g.ι n) (us0.take off ++ us ++ us0.drop (off + us.length)).toArray) g' := fun sl' hu hsl hno =>
            store_core (mv := id) hr hb b2 hu4 hu3 q3 (fun i x hx ho => by
              rw [List.any_eq_false] at hno
              exact absurd ho (by simpa using hno x (List.mem_of_getElem? hx))) (fun _ _ => rfl) hu (fun t x hx => ⟨(hsl t x hx).1, fun i c hc => ⟨fun _ => rfl, fun q _ => ⟨rfl, (hsl t x hx).2 c (List.mem_of_getElem? hc)⟩⟩⟩)
          split at hc
          · rename_i t0
            simp only [Option.some.injEq, Prod.mk.injEq] at hc
            obtain ⟨rfl, _⟩ := hc
            by_cases hno : v.cs.any Cell.isOwn = true
            · simp only [hno, if_true]
              refine store_core (mv := mvSlot t0 n off) hr hb b2 hu4 hu3 q3 (fun i x _ _ => by simp [plOf, mvSlot]) (fun _ _ => rfl) ((hr.uniq.slots.filter _).filter _) (fun t x hx => ?_)
              obtain ⟨k1, k2⟩ := delBoxRefs_look (hr.uniq.slots.filter _) hx
              obtain ⟨k3, k4, k5⟩ := delSlot_look hr.uniq.slots k1
              refine ⟨k3, fun i c hc => ⟨fun _ => by simp only [mvSlot, if_neg k4], fun q hq => ⟨?_, k2 c (List.mem_of_getElem? hc)⟩⟩⟩
              have hrf := k5 c (List.mem_of_getElem? hc)
              cases q with
              | box m i => rfl
              | slot t1 i =>
                have := refs_target hrf hq i
                simp only [mvSlot]
                rw [if_neg (fun e => this (by rw [e]))]
            · have hno' : v.cs.any Cell.isOwn = false := by simpa using hno
              simp only [hno', Bool.false_eq_true, if_false]
              exact other _ (hr.uniq.slots.filter _) (fun t x hx => delBoxRefs_look hr.uniq.slots hx) hno'
          · rename_i hnt
            simp only [Option.some.injEq, Prod.mk.injEq] at hc
            obtain ⟨rfl, _⟩ := hc
            exact other _ (hr.uniq.slots.filter _) (fun t x hx => delBoxRefs_look hr.uniq.slots hx) (evalO_notOwn (fun t => by intro e; exact hnt t e) hx)
        · simp at hc
    · simp at hc
  · simp at hc

theorem assign_post {t : Nat} {N : Nat} (hop : o.op = .assign (.tmp t)) (hN : N = E.N) (hc : atail P N s o = some (s', ob)) (hr : Rel E s a w g) : o.wpIn (Fr r) 9 P a w (Post E s') Q := by
  unfold atail at hc
  rw [hop] at hc
  simp only at hc
  split at hc
  · rename_i d v hd hx
    split at hc
    · rename_i hcond
      obtain ⟨q1, q2, q3⟩ := hcond
      simp only [Option.some.injEq, Prod.mk.injEq] at hc
      obtain ⟨rfl, _⟩ := hc
      have hnt : ∀ c ∈ v.cs, c.target = none := fun c hc => by
        rw [List.all_eq_true] at q3
        simpa using q3 c hc
      refine wpIn_value (u := a.eval (.tmp t)) (w' := w) (by rw [hop]; simp) (by simp [execOp, hop]) ?_
      rw [hd]
      let mv : Place → Place := fun p => match p with
        | .slot t1 i => if t1 = t then .slot d i else .slot t1 i
        | p => p
      have hnr : ∀ q tip, g.perm w.heap.size ≠ .row q tip := fun q tip h => by rw [perm_new hr] at h; cases h
      have h3 := hr.toF.turn (mv := mv) (X := w.heap.size) (px := .free) (w' := w) (.inr ⟨rfl, rfl⟩) (Below.refl _ _) rfl (fun _ _ => rfl) (fun i v _ k => ⟨k, trivial⟩)
        (sl' := fun t1 => (delBoxRefs (delSlot t s.slots)).lookup t1) (bx' := fun m => s.boxes.lookup m)
        (fun t1 x hx => by
          obtain ⟨k0, k00⟩ := delBoxRefs_look (hr.uniq.slots.filter _) hx
          obtain ⟨k1, k2, k3⟩ := delSlot_look hr.uniq.slots k0
          refine ⟨k1, fun i c hc => ⟨fun _ => ⟨by simp only [mv, if_neg k2], hnr _⟩, fun q hq => ⟨⟨?_, hnr _⟩, k00 c (List.mem_of_getElem? hc)⟩⟩⟩
          cases q with
          | box m i => rfl
          | slot t2 i =>
            have := refs_target (k3 c (List.mem_of_getElem? hc)) hq i
            simp only [mv]
            rw [if_neg (fun e => this (by rw [e]))])
        (fun m q hm => ⟨hm, (fun h => by
          have := (hr.boxes m q.1 q.2 hm).1
          rw [h, perm_new hr] at this; cases this), fun i c _ _ => ⟨rfl, hnr _⟩⟩)
      have hvs : SVR (ctx E (turned mv g w.heap.size .free) a w) (.slot d) v (a.eval (.tmp t)) := by
        obtain ⟨us, e1, e2, e3, e4⟩ := hr.slots t v hx
        refine ⟨us, e1, e2, e3, fun i x y hx hy => ⟨(e4 i x y hx hy).1, turn_cell (px := .free) hr.base (fun _ _ => rfl) (fun i v _ k => ⟨k, trivial⟩) (e4 i x y hx hy).2 (fun _ => ⟨by simp [mv], hnr _⟩) (hnt x (List.mem_of_getElem? hx))⟩⟩
      have hrf : v.refs d = false := by
        unfold SV.refs
        rw [List.any_eq_false]
        intro c hc
        have := hnt c hc
        cases c <;> first | (simp [Cell.refs]; done) | simp [Cell.target] at this
      have h4 := h3.put (by rw [← hN]; exact q1) hvs hrf
      refine ⟨_, RelF.toRel ⟨((hr.uniq.slots.filter _).filter _ |>.filter _).cons fun q hq => ?_, hr.uniq.boxes⟩ (h4.weak (fun t1 x hx => ?_) (fun _ _ h => h))⟩
      · have := (List.mem_filter.1 hq).2
        simp at this
        exact this.1
      · simp only [List.lookup_cons] at hx
        unfold upd
        by_cases ht : t1 = d
        · subst ht; simp at hx ⊢; exact hx
        · have hb : (t1 == d) = false := by simpa using ht
          simp only [hb] at hx
          obtain ⟨k1, k2⟩ := lookup_filter ((hr.uniq.slots.filter _).filter _) hx
          simp at k2
          have k1' : (delBoxRefs (delSlot t s.slots)).lookup t1 = some x := k1
          simp only [ht, if_false, k1', k2.2]
          simp
    · simp at hc
  · simp at hc
end
end Go.Proofs.Ytcgkhlccmfbhnaa.M
