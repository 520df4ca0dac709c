/- From a function's contract to a row. -/
import Derived.Test.YtmiffokcdmehhaaEngV
import Derived.WalkKit
import Derived.ProofKit
set_option linter.unusedVariables false
namespace Go.Proofs.Ytmiffokcdmehhaa.E
open Go Go.RowKit

/-- The context of arguments: nothing is one's own yet. -/
def argCtx (w : World) : Ctx := ⟨w, any2, fun _ => .free, fun _ => 0, fun _ => none⟩

theorem toC_svr {w : World} {p : Place} {d : D} {u : Value} (h : DV w any2 d u) : CV (argCtx w) p d.toC u := by
  cases d with
  | v x => cases h; rfl
  | lst xs => exact h

section
variable {H : Type} {enc : TypeId × Value → H} {P : Program} {w : World} {sp : Nat → Bool} {hd : Bool} {b0 : Nat} {t : TypeId} {v : Value} {d : DataW H} {ps : List MemPlace} {ls : List Lf} {n : Nat}

theorem arg_agg {α : Type} {f : α → List D} {ok : α → Prop} (ht : isAggT P t = some true) (hval : Value.okWide P w .any b0 t v) (h : DataW.Trod enc P w 0 sp hd t v d ps) (hl : leavesOf P n t = some ls) (hf : ∀ ds, all2 LfOk ls ds → ∃ x, ds = f x ∧ ok x) :
    ∃ x, (∀ pl, SVR (argCtx w) pl (agg ((f x).map D.toC)) v) ∧ ok x := by
  obtain ⟨fuel, hfu⟩ := h
  obtain ⟨ds, hc, ha⟩ := readD _ _ _ _ _ _ hfu hl
  obtain ⟨x, rfl, hx⟩ := hf ds ha
  refine ⟨x, fun pl => ?_, hx⟩
  have : ∃ cs, v = .agg cs := by
    unfold Value.okWide at hval
    unfold isAggT at ht
    split at hval
    · obtain ⟨cs, h, _⟩ := hval; exact ⟨cs, h⟩
    · obtain ⟨cs, h, _⟩ := hval; exact ⟨cs, h⟩
    · split at ht <;> simp_all
  obtain ⟨cs, rfl⟩ := this
  refine ⟨cs.toList, by simp [Shape.mk, agg], by simp [flat], by simp [agg]; rw [← hc.1]; simp [Value.cells], fun i y z hy hz => ?_⟩
  simp only [agg, List.getElem?_map] at hy
  cases hq : (f x)[i]? with
  | none => rw [hq] at hy; cases hy
  | some q =>
    rw [hq] at hy; injection hy with hy; subst hy
    obtain ⟨h1, h2⟩ := hc.2 i z q (by simpa [Value.cells] using hz) hq
    exact ⟨h1, toC_svr h2⟩

theorem arg_one {α : Type} {f : α → D} {ok : α → Prop} (ht : isAggT P t = some false) (hval : Value.okWide P w .any b0 t v) (h : DataW.Trod enc P w 0 sp hd t v d ps) (hl : leavesOf P n t = some ls) (hf : ∀ ds, all2 LfOk ls ds → ∃ x, ds = [f x] ∧ ok x) :
    ∃ x, (∀ pl, SVR (argCtx w) pl (one (f x).toC) v) ∧ ok x := by
  obtain ⟨fuel, hfu⟩ := h
  obtain ⟨ds, hc, ha⟩ := readD _ _ _ _ _ _ hfu hl
  obtain ⟨x, rfl, hx⟩ := hf ds ha
  refine ⟨x, fun pl => ?_, hx⟩
  have hv : v.cells.toList = [v] := by
    unfold isAggT at ht
    unfold Value.okWide at hval
    split at hval
    · simp_all
    · simp_all
    · unfold Cell.okWide at hval
      cases v <;> first | rfl | (exfalso; revert hval; split <;> simp_all [Cell.ok])
  rw [hv] at hc
  obtain ⟨h1, h2⟩ := hc.2 0 v (f x) rfl rfl
  exact SVR.of_one h1 (toC_svr h2)
end

theorem encI_of {k : IntKind} {ds : List D} (h : all2 LfOk [.i k] ds) : ∃ x, ds = encI k x ∧ inR k x := by
  obtain ⟨d, r, rfl, h0, h⟩ := all2_cons h
  obtain rfl := all2_nil h
  obtain ⟨x, rfl, k0⟩ := h0.int
  exact ⟨x, rfl, k0⟩

theorem encB_of {ds : List D} (h : all2 LfOk [.b] ds) : ∃ x, ds = encB x ∧ True := by
  obtain ⟨d, r, rfl, h0, h⟩ := all2_cons h
  obtain rfl := all2_nil h
  obtain ⟨x, rfl⟩ := h0.bool
  exact ⟨x, rfl, trivial⟩

theorem encS_of {ds : List D} (h : all2 LfOk [.s] ds) : ∃ x, ds = encS x ∧ x.size ≤ maxLen := by
  obtain ⟨d, r, rfl, h0, h⟩ := all2_cons h
  obtain rfl := all2_nil h
  obtain ⟨x, rfl, k0⟩ := h0.str
  exact ⟨x, rfl, k0⟩

theorem encL_of {α : Type} {f : α → List D} {ok : α → Prop} {ls : List Lf} (hR : ∀ {x : List D}, all2 LfOk ls x → ∃ y, x = f y ∧ ok y) {ds : List D} (h : all2 LfOk [.l ls] ds) : ∃ x, ds = encL f x ∧ (x.length ≤ maxLen ∧ ∀ y ∈ x, ok y) := by
  obtain ⟨d, r, rfl, h0, h⟩ := all2_cons h
  obtain rfl := all2_nil h
  obtain ⟨xs, rfl, l0, a0⟩ := h0.lst
  obtain ⟨x, rfl, k0⟩ := map_of (R := fun y => all2 LfOk ls y) (fun x hx => hR hx) a0
  exact ⟨x, rfl, by simpa using l0, k0⟩

/-- A law's call comes to its answer, and nothing that was there has turned. -/
theorem PureC.calls {P : Program} {f : Nat} {args : List SV} {b : Bool} (h : PureC P f args (one (cb b))) {w : World} {vs : List Value} (hl : vs.length = args.length)
    (hvs : all2 (fun x y => ∀ pl, SVR (argCtx w) pl x y) args vs) : Calls P f vs.toArray w fun e w' => e = .returned (.bool b) ∧ Below w.heap.size w w' := by
  have hc := h.2 none w any2 vs hl (fun i x y hx hy => all2_get hvs i x y hx hy _)
  have hw : CallsIn Fence.wide 9 P f vs.toArray w _ := hc
  refine (callsIn_wide.1 hw).mono fun e w' ⟨u, perm, he, hb, _, hs⟩ => ⟨?_, hb⟩
  have : u = .bool b := hs.one.2
  rw [he, this]

end Go.Proofs.Ytmiffokcdmehhaa.E
