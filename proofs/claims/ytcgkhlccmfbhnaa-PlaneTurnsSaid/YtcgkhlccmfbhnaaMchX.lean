/- A function of the table, out of its body. -/
import Derived.Test.YtcgkhlccmfbhnaaMchW
set_option linter.unusedVariables false
namespace Go.Proofs.Ytcgkhlccmfbhnaa.M
open Go Go.RowKit

section
variable {P : Program} {E : Env} {s s' : St} {a : Act} {w : World} {g : Gh} {N U : Nat} {T : List Ent}

theorem joinRes_sound {c : Ctx} {l : List SV} {v : SV} {vs : List Value} (h : joinRes l = some v) (hl : vs.length = l.length) (hc : ∀ (i : Nat) x y, l[i]? = some x → vs[i]? = some y → ∃ pl, SVR c pl x y) (hpl : l.all (fun v => v.cs.all Cell.plain) = true) :
    v.cs.all Cell.plain = true ∧ ∃ pl, SVR c pl v (if h : vs.length = 1 then vs[0] else .tuple vs.toArray) := by
  have other : ∀ sh, shapesOf l = some sh → l.length ≠ 1 → v = ⟨.tup sh, l.flatMap (·.cs)⟩ → v.cs.all Cell.plain = true ∧ ∃ pl, SVR c pl v (if h : vs.length = 1 then vs[0] else .tuple vs.toArray) := fun sh hsh hne hv => by
    subst hv
    obtain ⟨i1, i2, i3, i4⟩ := shapesOf_sound l sh vs hsh hl hc
    rw [dif_neg (by omega)]
    have hplain : (l.flatMap (·.cs)).all Cell.plain = true := by
      rw [List.all_eq_true] at hpl ⊢
      intro x hx
      obtain ⟨v, hv, hxv⟩ := List.mem_flatMap.1 hx
      have := hpl v hv
      rw [List.all_eq_true] at this
      exact this x hxv
    refine ⟨hplain, .slot 0, vs.flatMap flat, by simp [Shape.mk, i1], by simp [flat, i2], i3, fun i x z hx hz => ?_⟩
    obtain ⟨j1, p, j2⟩ := i4 i x z hx hz
    refine ⟨j1, plain_mono ?_ j2 (fun _ _ _ h1 h2 => ⟨h2, h1⟩)⟩
    rw [List.all_eq_true] at hplain
    exact hplain x (List.mem_of_getElem? hx)
  unfold joinRes at h
  split at h
  · rename_i x
    injection h with h; subst h
    match vs, hl, hc with
    | [u], _, hc =>
      simp only [List.all_cons, List.all_nil, Bool.and_true] at hpl
      exact ⟨hpl, by simpa using hc 0 x u rfl rfl⟩
  · rename_i l' hne
    cases hsh : shapesOf l with
    | none => rw [hsh] at h; cases h
    | some sh =>
      rw [hsh] at h
      injection h with h
      exact other sh hsh (fun h1 => by
        match l, h1 with
        | [x], _ => exact hne x rfl) h.symm

theorem lendSVs_sound {K : Nat → Nat → Prop} (hr : Rel E s a w g) (hK : ∀ b i, ok E.base E.k0 g.perm b i → K b i) (hB : ∀ n e cs, s.boxes.lookup n = some (e, cs) → ∀ i, K (g.ι n) i) : ∀ {l l' : List SV} {vs : List Value}, lendSVs s l = some l' → l'.all (fun v => v.cs.all Cell.plain) = true → vs.length = l.length →
    (∀ (i : Nat) x y, l[i]? = some x → vs[i]? = some y → ∃ pl, SVR (ctx E g a w) pl x y) → vs.length = l'.length ∧ ∀ (i : Nat) x y, l'[i]? = some x → vs[i]? = some y → ∃ pl, SVR (lentCtx w K) pl x y
  | [], l', vs, h, hp, hl, hc => by simp [lendSVs] at h; subst h; simpa using hl
  | v :: r, l', vs, h, hp, hl, hc => by
    simp only [lendSVs] at h
    split at h
    · rename_i cs b l2 h1 h2
      injection h with h
      subst h
      simp only [List.all_cons, Bool.and_eq_true] at hp
      match vs, hl with
      | u :: us, hl =>
        obtain ⟨a1, a2⟩ := lendSVs_sound hr hK hB (vs := us) h2 hp.2 (by simpa using hl) (fun i x y hx hy => hc (i + 1) x y (by simpa using hx) (by simpa using hy))
        refine ⟨by simp [a1], fun i x y hx hy => ?_⟩
        cases i with
        | zero =>
          simp at hx hy; subst hx hy
          obtain ⟨pl, us', e1, e2, e3, e4⟩ := hc 0 v u rfl rfl
          obtain ⟨k1, k2⟩ := lends_sound hr hK h1 (fun _ => hB) e4 hp.1 e3
          exact ⟨_, us', e1, e2, k1, k2⟩
        | succ i => exact a2 i x y (by simpa using hx) (by simpa using hy)
    · cases h

theorem svs_length {a : AT} : ∀ (x y : a.T), (a.svs x).length = (a.svs y).length := by
  induction a with
  | cons a b iha ihb => intro x y; simp only [AT.svs, List.length_append]; rw [iha x.1 y.1, ihb x.2 y.2]
  | _ => intro x y; rfl

def unbox : Perm → Perm
  | .box _ => .free
  | p => p

/-- A FUNCTION OF THE TABLE, OUT OF ITS BODY. -/
theorem Ent.of (hT : ∀ e ∈ T, Ent.Ok P e) (hmo : P.follows .mixedOrders = true) {f : Nat} {fn : Func} {c : Code} {A R : AT} {F : A.T → Option R.T} {G : List (Nat × Seg)} (hf : P.funcs[f]? = some fn) (hn : (fn.name == "runtime.NumGoroutine") = false) (hb : fn.body = some c) (hNN : fn.ntmps = N)
    (hlen : ∀ y, Nat.ble (A.svs y).length N = true) {rs : List ResultVar} (hrs : fn.results.toList = rs) (hG : SegsOk P none N c G) (h : ∀ y, F y = ev T P N U G c 1 ⟨fnSlots 0 (A.svs y), []⟩ (fin P rs R)) : Ent.Ok P ⟨f, A, R, F⟩ := by
  subst hNN
  intro y x v hy hv
  have hy : F y = some x := hy
  rw [h y] at hy
  have hlen : (A.svs y).length ≤ fn.ntmps := Nat.le_of_ble_eq_true (hlen y)
  refine ⟨fun as w => ?_, fun rd w k vs hvl hvs => ?_⟩
  · have h1 : fn.name ≠ "runtime.NumGoroutine" := by simpa using hn
    simp [callFunc, hf, h1, hb, mark]
  · let E : Env := ⟨fn.ntmps, w.heap.size, w, k, [], []⟩
    have hvl : vs.length = (A.svs y).length := hvl
    have hsz : (vs.toArray ++ Array.replicate (fn.ntmps - vs.toArray.size) undef).size = fn.ntmps := by simp; omega
    have hget : ∀ t, t < vs.length → (vs.toArray ++ Array.replicate (fn.ntmps - vs.toArray.size) undef).getD t undef = vs[t]?.getD undef := fun t ht => by
      rw [Array.getD_eq_getD_getElem?, Array.getElem?_append_left (by simpa using ht)]
      simp
    have hR : Rel E ⟨fnSlots 0 (A.svs y), []⟩ { tmps := vs.toArray ++ Array.replicate (fn.ntmps - vs.toArray.size) undef, defers := [] } w ⟨fun _ => 0, fun _ => .free⟩ := by
      refine ⟨⟨(fnSlots_uniq (A.svs y) 0).1, by simp [Uniq]⟩, fun t x hx => ?_, fun n e cs hn => by simp at hn, fun n e cs hn => by simp at hn, fun b hb => absurd rfl hb, Below.refl _ _, Nat.le_refl _, hsz, rfl, fun l o hl => by cases hl⟩
      obtain ⟨_, hx⟩ := fnSlots_look (A.svs y) 0 t x hx
      simp only [Nat.sub_zero] at hx
      have ht : t < vs.length := by have := (List.getElem?_eq_some_iff.1 hx).1; omega
      rw [hget t ht, List.getElem?_eq_getElem ht]
      obtain ⟨us, e1, e2, e3, e4⟩ := hvs t x _ hx (List.getElem?_eq_getElem ht)
      refine ⟨us, e1, e2, e3, fun i q z hq hz => ⟨(e4 i q z hq hz).1, ?_⟩⟩
      have hqp : q.plain = true := by
        have hpl := svs_plain (a := A) (x := y)
        rw [List.all_eq_true] at hpl
        have := hpl x (List.mem_of_getElem? hx)
        rw [List.all_eq_true] at this
        exact this q (List.mem_of_getElem? hq)
      refine plain_mono hqp (e4 i q z hq hz).2 (fun b j z k1 k2 => ⟨k2, ?_⟩)
      have hbl : b < w.heap.size := World.block_lt_of_cell? w ⟨b, j, none⟩ k2
      simp only [ctx, ok, E, if_pos hbl]
      exact k1
    have hw := ev_sound (E := E) hT hmo rfl hG c 1 _ _ x .root hy _ w _ hR
    have hc : CallsIn (Fr none) 9 P f vs.toArray w fun e w' => ∃ u perm, e = .returned u ∧ Below w.heap.size w w' ∧ (∀ b, perm b ≠ .free → w.heap.size ≤ b ∧ b < w'.heap.size) ∧
        SVR ⟨w', ok w.heap.size k perm, perm, fun _ => 0, fun _ => none⟩ (.slot 0) v u := by
      refine callsIn_of_wp hf hb trivial (wpIn_mono hw fun e a' w' hq => ?_)
      obtain ⟨s', g', hq, hR'⟩ := hq
      have go : (match resOf P s' rs with
        | some l => match lendSVs s' l with
          | some l' => match l'.all (fun v => v.cs.all Cell.plain) with
            | true => match R.dec l' with
              | some (x, []) => some x
              | _ => none
            | false => none
          | none => none
        | none => none) = some x → bodyPost P fn (fun e w' => ∃ u perm, e = .returned u ∧ Below w.heap.size w w' ∧ (∀ b, perm b ≠ .free → w.heap.size ≤ b ∧ b < w'.heap.size) ∧
        SVR ⟨w', ok w.heap.size k perm, perm, fun _ => 0, fun _ => none⟩ (.slot 0) v u) .normal a' w' := fun hgo => by
        split at hgo
        · rename_i l hl
          split at hgo
          · rename_i l' hl'
            split at hgo
            · rename_i hpl
              split at hgo
              · rename_i x' hd
                injection hgo with hgo
                subst hgo
                rw [← hrs] at hl
                obtain ⟨vs', er, hlv, hcv⟩ := resOf_sound _ l hl hR'
                have hrun := results_run er
                let perm : Nat → Perm := fun b => unbox (g'.perm b)
                have hK : ∀ b i, ok E.base E.k0 g'.perm b i → ok w.heap.size k perm b i := fun b i h1 => by
                  simp only [ok, E] at h1 ⊢
                  split
                  · rename_i hlt; rw [if_pos hlt] at h1; exact h1
                  · rename_i hlt
                    rw [if_neg hlt] at h1
                    simp only [okp, perm] at h1 ⊢
                    cases hp : g'.perm b with
                    | free => simp [unbox]
                    | box n => simp [unbox]
                    | row p tip => rw [hp] at h1; exact h1
                obtain ⟨b1, b2⟩ := lendSVs_sound (K := ok w.heap.size k perm) hR' hK (fun n e cs hn i => by
                  have hp := (hR'.boxes n e cs hn).1
                  have hlo := (hR'.lo (g'.ι n) (by rw [hp]; simp)).1
                  have hlo : w.heap.size ≤ g'.ι n := hlo
                  simp only [ok, if_neg (show ¬ g'.ι n < w.heap.size by omega), okp, perm, hp, unbox]) hl' hpl hlv hcv
                obtain ⟨d1, d2, d3⟩ := dec_weak hd
                have hlr : l'.length = (R.svs x').length := by simpa using d1
                obtain ⟨v1, pl, v2⟩ := joinRes_sound (c := lentCtx w' (ok w.heap.size k perm)) hv (by rw [b1, hlr]) (fun i z u hz hu => by
                  have hi : i < l'.length := by rw [hlr]; exact (List.getElem?_eq_some_iff.1 hz).1
                  obtain ⟨pl, hs⟩ := b2 i _ u (List.getElem?_eq_getElem hi) hu
                  exact d3 i _ z (List.getElem?_eq_getElem hi) hz _ pl u hs) svs_plain
                refine ⟨hR'.defers, _, hrun, _, perm, rfl, hR'.below, fun b hb => hR'.lo b fun h0 => hb (by simp only [perm, h0, unbox]), ?_⟩
                obtain ⟨us, e1, e2, e3, e4⟩ := v2
                refine ⟨us, e1, e2, e3, fun i q z hq hz => ⟨(e4 i q z hq hz).1, plain_mono ?_ (e4 i q z hq hz).2 (fun b j z k1 k2 => ⟨k2, k1⟩)⟩⟩
                rw [List.all_eq_true] at v1
                exact v1 q (List.mem_of_getElem? hq)
              · cases hgo
            · cases hgo
          · cases hgo
        · cases hgo
      cases e with
      | normal => exact go hq
      | ret => exact go hq
      | _ => cases hq
    exact ⟨trivial, hc.2⟩
theorem allE_nil : ∀ e ∈ ([] : List Ent), Ent.Ok P e := fun e he => by cases he
theorem allE_cons {e : Ent} (h : Ent.Ok P e) (ht : ∀ e ∈ T, Ent.Ok P e) : ∀ x ∈ e :: T, Ent.Ok P x := fun x hx => by
  rcases List.mem_cons.1 hx with rfl | hx
  · exact h
  · exact ht x hx
end
end Go.Proofs.Ytcgkhlccmfbhnaa.M
