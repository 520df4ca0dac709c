/- Two aggregates compared; rows appended to, and cut, whose elements are told by a function. -/
import Derived.Test.YtmiffokcdmehhaaEngT
import Derived.DeepKeys
set_option linter.unusedVariables false
namespace Go.Proofs.Ytmiffokcdmehhaa.E
open Go Go.RowKit

def andO : Option Bool → Option Bool → Option Bool
  | some a, some b => some (a && b)
  | _, _ => none

def eqFs (f : Field → Option Bool) : List Field → Option Bool
  | [] => some true
  | g :: r => if (g.name == "_") = true then none else andO (f g) (eqFs f r)

def eqIs (f : Nat → Option Bool) : List Nat → Option Bool
  | [] => some true
  | g :: r => andO (f g) (eqIs f r)

/-- Two values compared, leaf by leaf. -/
def eqAt (P : Program) : Nat → TypeId → Value → Value → Option Bool
  | 0, _, _, _ => none
  | d + 1, t, x, y => match P.underlying t, x, y with
    | some .bool, .bool a, .bool b => some (a == b)
    | some (.int _), .int k a, .int k' b => if k = k' then some (a == b) else none
    | some .string, .string a, .string b => some (a.toList == b.toList)
    | some (.struct fs), .agg xs, .agg ys => if P.stoodInHeld t = true then none else
        eqFs (fun f => match evalP P (part f.type xs f.offset), evalP P (part f.type ys f.offset) with
          | some a, some b => eqAt P d f.type a b
          | _, _ => none) fs.toList
    | some (.array n e), .agg xs, .agg ys => match P.info? e with
      | some j => eqIs (fun i => match evalP P (part e xs (i * j.size)), evalP P (part e ys (i * j.size)) with
          | some a, some b => eqAt P d e a b
          | _, _ => none) (List.range n)
      | none => none
    | _, _, _ => none

section
variable {P : Program} {w : World}

theorem andO_some {a b : Option Bool} {r : Bool} (h : andO a b = some r) : ∃ x y, a = some x ∧ b = some y ∧ r = (x && y) := by
  unfold andO at h
  split at h
  · injection h with h; exact ⟨_, _, rfl, rfl, h.symm⟩
  · cases h

theorem eqAt_sound : ∀ (m k : Nat) (t : TypeId) (x y : Value) (r : Bool) (w : World), eqAt P m t x y = some r → (Op.equalIn (m + k) t x y).run P w = .ok r w
  | 0, _, _, _, _, _, _, h => by simp [eqAt] at h
  | m + 1, k, t, x, y, r, w, h => by
    rw [show m + 1 + k = (m + k) + 1 from by omega]
    unfold eqAt at h
    split at h
    · rename_i hu
      injection h with h; subst h
      exact run_equalIn_bool' w (m + k) t _ _ hu
    · rename_i hu
      split at h
      · rename_i hk; subst hk
        injection h with h; subst h
        exact run_equalIn_int w (m + k) t _ _ _ _ hu
      · cases h
    · rename_i hu
      injection h with h; subst h
      exact run_equalIn_string w (m + k) t _ _ hu
    · rename_i fs xs ys hu
      split at h
      · cases h
      · rename_i hs
        have hf : P.fieldsOf t = fs := by simp [Program.fieldsOf, hu]
        rw [run_equalIn_struct w (m + k) t xs ys (by rw [hf]; exact hu) (by simpa using hs), hf]
        generalize fs.toList = l at h ⊢
        induction l generalizing r with
        | nil => simp [eqFs] at h; subst h; simp [Op.eqFields]
        | cons f l ih =>
          simp only [eqFs] at h
          split at h
          · cases h
          · rename_i hn
            obtain ⟨p, q, h1, h2, rfl⟩ := andO_some h
            split at h1
            · rename_i a b ha hb
              have hn' : f.name ≠ "_" := by simpa using hn
              rw [Op.eqFields]
              simp only [if_pos hn', Sem.run_bind, evalP_run ha w, evalP_run hb w, eqAt_sound m k f.type a b p w h1, Result.andThen_ok]
              cases p
              · simp
              · simpa using ih q h2
            · cases h1
    · rename_i n e xs ys hu
      split at h
      · rename_i j hj
        rw [run_equalIn_array w (m + k) xs ys hu hj]
        generalize List.range n = l at h ⊢
        induction l generalizing r with
        | nil => simp [eqIs] at h; subst h; simp [Op.eqItems]
        | cons i l ih =>
          simp only [eqIs] at h
          obtain ⟨p, q, h1, h2, rfl⟩ := andO_some h
          have hsz : P.cellsOf e = j.size := by simp [Program.cellsOf, hj]
          split at h1
          · rename_i a b ha hb
            simp only [Op.eqItems, hsz, Sem.run_bind, evalP_run ha w, evalP_run hb w, eqAt_sound m k e a b p w h1, Result.andThen_ok]
            cases p
            · simp
            · have := ih q h2
              rw [hsz] at this
              simpa using this
          · cases h1
      · cases h
    · cases h

/-- Two aggregates compare so, in whatever world. -/
def EqOb (P : Program) (op : BinOp) (t : TypeId) (x y : Operand) (xs ys : List Value) (v : Value) : Prop :=
  ∀ w : World, (do eqGuard op t x y (.agg xs.toArray) (.agg ys.toArray); binOp op t (.agg xs.toArray) (.agg ys.toArray) : Sem Value).run P w = .ok v w

theorem eql_ob {t : TypeId} {x y : Operand} {xs ys : List Value} {r b : Bool} (h : eqAt P 8 t (.agg xs.toArray) (.agg ys.toArray) = some r) (hg : P.eqGuardType P.depth t = false) (hr : r = b) :
    EqOb P .eql t x y xs ys (.bool b) := fun w => by
  subst hr
  have := eqAt_sound 8 9992 t _ _ r w h
  simp only [Sem.run_bind, run_eqGuard_agg w .eql t x y _ _ hg, Result.andThen_ok, run_eql_struct]
  rw [show (10000 : Nat) = 8 + 9992 from rfl, this]
  rfl

theorem neq_ob {t : TypeId} {x y : Operand} {xs ys : List Value} {r b : Bool} (h : eqAt P 8 t (.agg xs.toArray) (.agg ys.toArray) = some r) (hg : P.eqGuardType P.depth t = false) (hr : r = b) :
    EqOb P .neq t x y xs ys (.bool (!b)) := fun w => by
  subst hr
  have := eqAt_sound 8 9992 t _ _ r w h
  simp only [Sem.run_bind, run_eqGuard_agg w .neq t x y _ _ hg, Result.andThen_ok, run_neq_struct]
  rw [show (10000 : Nat) = 8 + 9992 from rfl, this]
  rfl
end

theorem EqOb.to {P : Program} {op : BinOp} {t : TypeId} {x y : Operand} {xs ys : List Value} {b c : Bool} (h : EqOb P op t x y xs ys (.bool b)) (hb : b = c) : EqOb P op t x y xs ys (.bool c) := hb ▸ h

theorem app_ob {α : Type} {f : α → List D} {xs ys : List α} {b sz : Nat} (hf : ∀ y, (f y).length = sz) (h : xs.length + ys.length ≤ maxLen ∧ (xs.length + ys.length) * b ≤ 140737488355328) :
    (xs.map f).length + (ys.map f).length ≤ maxLen ∧ ((xs.map f).length + (ys.map f).length) * b ≤ 140737488355328 ∧ ∀ q ∈ ys.map f, q.length = sz := by
  simp only [List.length_map]
  refine ⟨h.1, h.2, fun q hq => ?_⟩
  obtain ⟨y, _, rfl⟩ := List.mem_map.1 hq
  exact hf y

theorem app_ob0 {α : Type} {f : α → List D} {ys : List α} {b sz : Nat} (hf : ∀ y, (f y).length = sz) (h : ys.length ≤ maxLen ∧ ys.length * b ≤ 140737488355328) :
    (ys.map f).length ≤ maxLen ∧ (ys.map f).length * b ≤ 140737488355328 ∧ ∀ q ∈ ys.map f, q.length = sz := by
  simp only [List.length_map]
  refine ⟨h.1, h.2, fun q hq => ?_⟩
  obtain ⟨y, _, rfl⟩ := List.mem_map.1 hq
  exact hf y

theorem slice_ob {α : Type} {f : α → List D} {xs : List α} {sz : Nat} {lo hi : Int} (hf : ∀ y, (f y).length = sz) (h : 0 ≤ lo ∧ lo ≤ hi ∧ hi ≤ (xs.length : Int)) :
    0 ≤ lo ∧ lo ≤ hi ∧ hi ≤ ((xs.map f).length : Int) ∧ ∀ q ∈ xs.map f, q.length = sz := by
  rw [List.length_map]
  refine ⟨h.1, h.2.1, h.2.2, fun q hq => ?_⟩
  obtain ⟨y, _, rfl⟩ := List.mem_map.1 hq
  exact hf y

theorem slice_obE {α : Type} {f : α → List D} {xs : List α} {sz : Nat} {lo : Int} (hf : ∀ y, (f y).length = sz) (h : 0 ≤ lo ∧ lo ≤ (xs.length : Int)) :
    0 ≤ lo ∧ lo ≤ ((xs.map f).length : Int) ∧ ((xs.map f).length : Int) ≤ ((xs.map f).length : Int) ∧ ∀ q ∈ xs.map f, q.length = sz := by
  refine ⟨h.1, by rw [List.length_map]; exact h.2, Int.le_refl _, fun q hq => ?_⟩
  obtain ⟨y, _, rfl⟩ := List.mem_map.1 hq
  exact hf y

theorem slice_map {α : Type} {f : α → List D} {xs : List α} {lo hi : Nat} : one (.lst (List.drop lo (List.take hi (xs.map f)))) = one (.lst ((List.drop lo (List.take hi xs)).map f)) := by
  rw [List.map_drop, List.map_take]

theorem slice_mapE {α : Type} {f : α → List D} {xs : List α} {lo : Nat} : one (.lst (List.drop lo (List.take (Int.toNat ((xs.map f).length : Int)) (xs.map f)))) = one (.lst ((List.drop lo xs).map f)) := by
  rw [Int.toNat_natCast, List.take_of_length_le (Nat.le_refl _), List.map_drop]

end Go.Proofs.Ytmiffokcdmehhaa.E
