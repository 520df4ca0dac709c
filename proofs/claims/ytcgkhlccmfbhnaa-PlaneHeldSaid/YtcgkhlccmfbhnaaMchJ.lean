/- The operations that write do what the abstract machine reckons. -/
import Derived.Test.YtcgkhlccmfbhnaaMchI
set_option linter.unusedVariables false
namespace Go.Proofs.Ytcgkhlccmfbhnaa.M
open Go Go.RowKit

def Perm.map (mv : Place → Place) : Perm → Perm
  | .row p tip => .row (mv p) tip
  | q => q

theorem Perm.map_free {mv : Place → Place} {p : Perm} : p.map mv = .free ↔ p = .free := by cases p <;> simp [Perm.map]

section
variable {P : Program} {E : Env} {sl : Sl} {bx : Bx} {a : Act} {w w' : World} {g : Gh} {mv : Place → Place} {X : Nat} {px : Perm}

/-- A place that is left alone. -/
def Kept (mv : Place → Place) (g : Gh) (X : Nat) (q : Place) : Prop := mv q = q ∧ ∀ tip, g.perm X ≠ .row q tip

def turned (mv : Place → Place) (g : Gh) (X : Nat) (px : Perm) : Gh := ⟨g.ι, fun b => if b = X then px else (g.perm b).map mv⟩

/-- ONE BLOCK MAY HAVE BEEN WRITTEN, and places have got other names. -/
theorem RelF.turn (h : RelF E sl bx a w g) (hX : (g.perm X ≠ .free ∧ px ≠ .free) ∨ (X = w.heap.size ∧ px = .free)) (hbel : Below E.base w w') (hsz : w'.heap.size = w.heap.size) (h1 : ∀ b, b ≠ X → w'.heap[b]? = w.heap[b]?)
    (h2 : ∀ i v, ok E.base E.k0 g.perm X i → w.cell? ⟨X, i, none⟩ = some v → w'.cell? ⟨X, i, none⟩ = some v ∧ okp (fun _ => px) X i)
    {sl' : Sl} {bx' : Bx} (hsl : ∀ t x, sl' t = some x → sl t = some x ∧ ∀ (i : Nat) c, x.cs[i]? = some c → (c.isOwn = true → Kept mv g X (.slot t i)) ∧ ∀ q, c.target = some q → Kept mv g X q ∧ c.aliBox = false)
    (hbx : ∀ n q, bx' n = some q → bx n = some q ∧ g.ι n ≠ X ∧ ∀ (i : Nat) c, q.2[i]? = some c → c.isOwn = true → Kept mv g X (.box n i)) :
    RelF E sl' bx' a w' (turned mv g X px) := by
  have hXb : E.base ≤ X := by
    rcases hX with hX | hX
    · exact (h.lo X hX.1).1
    · rw [hX.1]; exact h.base
  have hk : ∀ b i v, (ctx E g a w).k b i → w.cell? ⟨b, i, none⟩ = some v → w'.cell? ⟨b, i, none⟩ = some v ∧ (ctx E (turned mv g X px) a w').k b i := fun b i v k1 k2 => by
    by_cases hb : b = X
    · subst hb
      obtain ⟨k3, k4⟩ := h2 i v k1 k2
      refine ⟨k3, ?_⟩
      simp only [ctx, ok, if_neg (show ¬ b < E.base by omega), okp, turned, if_true]
      exact k4
    · refine ⟨(World.cell?_of_block (w := w) (h1 b hb)).trans k2, ?_⟩
      simp only [ctx, ok] at k1 ⊢
      by_cases hbb : b < E.base
      · simp only [if_pos hbb] at k1 ⊢; exact k1
      · simp only [if_neg hbb, okp, turned, if_neg hb] at k1 ⊢
        cases hp : g.perm b with
        | free => simp [Perm.map]
        | box n => rw [hp] at k1; exact k1.elim
        | row p tip => rw [hp] at k1; exact k1
  have hown : ∀ q b tip, Kept mv g X q → g.perm b = .row q tip → (turned mv g X px).perm b = .row q tip ∧ w'.heap[b]? = w.heap[b]? := fun q b tip hq hp => by
    have hb : b ≠ X := fun e => hq.2 tip (by rw [← e]; exact hp)
    refine ⟨?_, h1 b hb⟩
    simp only [turned, if_neg hb, hp, Perm.map, hq.1]
  refine ⟨fun t x hx => ?_, fun n e cs hn => ?_, fun n e cs hn => h.nt n e cs (hbx n _ hn).1, fun b hb => ?_, h.below.trans hbel, by rw [hsz]; exact h.base, h.size, h.defers, fun l o hl => ?_⟩
  · obtain ⟨k1, k2⟩ := hsl t x hx
    refine (h.slots t x k1).mono hk (fun i y q b tip hy hq hp => ?_) (fun _ _ _ _ => rfl) (fun y q v hy hq hv => ?_)
    · rcases hq with ⟨ho, rfl⟩ | hq
      · exact hown _ b tip ((k2 i y hy).1 ho) hp
      · exact hown q b tip ((k2 i y hy).2 q hq).1 hp
    · obtain ⟨i, hi⟩ := List.mem_iff_getElem?.1 hy
      have := ((k2 i y hi).2 q hq).2
      cases y <;> simp [Cell.target] at hq
      subst hq
      rename_i p e t' l
      cases p with
      | slot t j => exact hv
      | box n j => simp [Cell.aliBox] at this
  · obtain ⟨k1, k2, k3⟩ := hbx n _ hn
    obtain ⟨b1, us, b2, b3, b4⟩ := h.boxes n e cs k1
    refine ⟨?_, us, by rw [show (turned mv g X px).ι n = g.ι n from rfl, h1 _ k2]; exact b2, b3, fun i x y hx hy => ⟨(b4 i x y hx hy).1, (b4 i x y hx hy).2.mono hk (fun q b tip hq hp => ?_) (fun _ _ => rfl) (fun q v hq hv => ?_)⟩⟩
    · show (turned mv g X px).perm (g.ι n) = .box n
      simp only [turned, if_neg k2, b1, Perm.map]
    · rcases hq with ⟨ho, rfl⟩ | hq
      · exact hown _ b tip (k3 i x hx ho) hp
      · rw [h.nt n e cs k1 x (List.mem_of_getElem? hx)] at hq; cases hq
    · rw [h.nt n e cs k1 x (List.mem_of_getElem? hx)] at hq; cases hq
  · simp only [turned] at hb
    rw [hsz]
    split at hb
    · rename_i hbX
      subst hbX
      rcases hX with hX | hX
      · exact h.lo b hX.1
      · exact absurd hX.2 hb
    · exact h.lo b (fun hf => hb (by rw [hf]; rfl))
  · obtain ⟨k1, k2⟩ := h.ko l o hl
    have hlX : l ≠ X := by
      rintro rfl
      rcases hX with hX | hX
      · exact hX.1 k2
      · have := (Array.getElem?_eq_some_iff.1 k1).1; omega
    refine ⟨by rw [h1 l hlX]; exact k1, ?_⟩
    simp only [turned, if_neg hlX, k2, Perm.map]

theorem turn_k (hXb : E.base ≤ X) (h1 : ∀ b, b ≠ X → w'.heap[b]? = w.heap[b]?)
    (h2 : ∀ i v, ok E.base E.k0 g.perm X i → w.cell? ⟨X, i, none⟩ = some v → w'.cell? ⟨X, i, none⟩ = some v ∧ okp (fun _ => px) X i) :
    ∀ b i v, (ctx E g a w).k b i → w.cell? ⟨b, i, none⟩ = some v → w'.cell? ⟨b, i, none⟩ = some v ∧ (ctx E (turned mv g X px) a w').k b i := fun b i v k1 k2 => by
  by_cases hb : b = X
  · subst hb
    obtain ⟨k3, k4⟩ := h2 i v k1 k2
    refine ⟨k3, ?_⟩
    simp only [ctx, ok, if_neg (show ¬ b < E.base by omega), okp, turned, if_true]
    exact k4
  · refine ⟨(World.cell?_of_block (w := w) (h1 b hb)).trans k2, ?_⟩
    simp only [ctx, ok] at k1 ⊢
    by_cases hbb : b < E.base
    · simp only [if_pos hbb] at k1 ⊢; exact k1
    · simp only [if_neg hbb, okp, turned, if_neg hb] at k1 ⊢
      cases hp : g.perm b with
      | free => simp [Perm.map]
      | box n => rw [hp] at k1; exact k1.elim
      | row p tip => rw [hp] at k1; exact k1

/-- A cell with its place renamed. -/
theorem turn_cell (hXb : E.base ≤ X) (h1 : ∀ b, b ≠ X → w'.heap[b]? = w.heap[b]?)
    (h2 : ∀ i v, ok E.base E.k0 g.perm X i → w.cell? ⟨X, i, none⟩ = some v → w'.cell? ⟨X, i, none⟩ = some v ∧ okp (fun _ => px) X i)
    {c : Cell} {p q : Place} {u : Value} (h : CV (ctx E g a w) p c u) (hpq : c.isOwn = true → mv p = q ∧ ∀ tip, g.perm X ≠ .row p tip) (ht : c.target = none) : CV (ctx E (turned mv g X px) a w') q c u := by
  have hk := turn_k (a := a) (mv := mv) hXb h1 h2
  cases c with
  | c x => exact h
  | v x => exact h
  | nilS => exact h
  | lst t l => exact DV.mono hk h
  | own e t l =>
    obtain ⟨⟨us, ho⟩, k3, k4⟩ := h
    obtain ⟨hm, hX⟩ := hpq rfl
    refine ⟨⟨us, ho.1, ?_⟩, DV.mono hk k3, fun b hb => ?_⟩
    · rcases ho.2 with hn | ⟨gb, cap, cur, e1, e2, e3, e4⟩
      · exact .inl hn
      · refine .inr ⟨gb, cap, cur, e1, e2, ?_, e4⟩
        have hbb : u.ownBlock = some gb := by rw [e1]; rfl
        have hne : gb ≠ X := fun e => hX _ (by rw [← e]; exact k4 gb hbb)
        show w'.heap[gb]? = _
        rw [h1 gb hne]
        exact e3
    · have hp := k4 b hb
      have hne : b ≠ X := fun e => hX _ (by rw [← e]; exact hp)
      simp only [ctx, turned, if_neg hne]
      have hp' : g.perm b = .row p (l.length * t.n) := hp
      rw [hp', Perm.map, hm]
  | ali => simp [Cell.target] at ht
  | ptr n off => exact h
  | sp n off len cap => exact h
  | dp cs =>
    obtain ⟨b, off, e, hc⟩ := h
    exact ⟨b, off, e, hc.mono hk⟩
  | dclo f dss =>
    obtain ⟨as, e, hl, hc⟩ := h
    exact ⟨as, e, hl, fun i q ds hq hd => (hc i q ds hq hd).mono hk⟩
  | clo f caps => exact h

end
end Go.Proofs.Ytcgkhlccmfbhnaa.M
