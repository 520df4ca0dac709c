/- Runs of pixels. -/
import Derived.Test.YtepifmbnajpgeaaLawList
import Derived.Test.YtepifmbnajpgeaaGen
set_option linter.unusedVariables false
namespace Go.Proofs.Ytepifmbnajpgeaa.G
open Go Go.RowKit Go.Proofs.Ytepifmbnajpgeaa.M

abbrev Px := Int × Int × Int × Int

/-- How many of the first are of one colour. -/
def grp (c : Px) : List Px → Nat
  | [] => 0
  | x :: l => if x = c then grp c l + 1 else 0

def runs : Nat → List Px → List (Nat × Px)
  | 0, _ => []
  | _ + 1, [] => []
  | k + 1, c :: l => (grp c l + 1, c) :: runs k (l.drop (grp c l))

theorem grp_cons (c x : Px) (l : List Px) : grp c (x :: l) = if x = c then grp c l + 1 else 0 := rfl
theorem runs_cons (k : Nat) (c : Px) (l : List Px) : runs (k + 1) (c :: l) = (grp c l + 1, c) :: runs k (l.drop (grp c l)) := rfl

theorem grp_le (c : Px) : ∀ l : List Px, grp c l ≤ l.length
  | [] => Nat.le_refl _
  | x :: l => by
    unfold grp
    split
    · have := grp_le c l; simp; omega
    · simp

theorem grp_split (c : Px) : ∀ l : List Px, l = List.replicate (grp c l) c ++ l.drop (grp c l)
  | [] => rfl
  | x :: l => by
    unfold grp
    split
    · rename_i h
      subst h
      rw [List.replicate_succ, List.cons_append, List.drop_succ_cons, ← grp_split x l]
    · rfl

theorem grp_next (c : Px) : ∀ (l : List Px) (x : Px) (r : List Px), l.drop (grp c l) = x :: r → x ≠ c
  | [], x, r, h => by simp [grp] at h
  | y :: l, x, r, h => by
    unfold grp at h
    split at h
    · rw [List.drop_succ_cons] at h
      exact grp_next c l x r h
    · rename_i hy
      simp at h
      rw [← h.1]
      exact hy

theorem runs_len : ∀ (k : Nat) (l : List Px), (runs k l).length ≤ l.length
  | 0, l => by simp [runs]
  | k + 1, [] => by simp [runs]
  | k + 1, c :: l => by
    have := runs_len k (l.drop (grp c l))
    have h := grp_le c l
    simp [runs] at this ⊢
    omega

theorem runs_in : ∀ (k : Nat) (l : List Px), ∀ q ∈ runs k l, 1 ≤ q.1 ∧ q.1 ≤ l.length ∧ q.2 ∈ l
  | 0, l, q, h => by simp [runs] at h
  | k + 1, [], q, h => by simp [runs] at h
  | k + 1, c :: l, q, h => by
    have hg := grp_le c l
    rcases List.mem_cons.1 h with rfl | h
    · exact ⟨by simp, by simp; omega, by simp⟩
    · obtain ⟨h1, h2, h3⟩ := runs_in k _ q h
      exact ⟨h1, by simp at h2 ⊢; omega, List.mem_cons_of_mem _ (List.mem_of_mem_drop h3)⟩

/-- A row of pixels, by its runs. -/
def spread (q : List (Nat × Px)) : List Px := q.flatMap fun q => List.replicate q.1 q.2

theorem runs_spread : ∀ (k : Nat) (l : List Px), l.length ≤ k → spread (runs k l) = l
  | 0, l, h => by
    have : l = [] := List.length_eq_zero_iff.1 (by omega)
    subst this; rfl
  | k + 1, [], h => rfl
  | k + 1, c :: l, h => by
    have hg := grp_le c l
    have ih := runs_spread k (l.drop (grp c l)) (by simp at h ⊢; omega)
    unfold spread at ih ⊢
    unfold runs
    rw [List.flatMap_cons, ih, List.replicate_succ, List.cons_append, ← grp_split c l]

/-- No two that follow each other have one colour. -/
def apart : List (Nat × Px) → Prop
  | [] => True
  | [_] => True
  | a :: b :: r => a.2 ≠ b.2 ∧ apart (b :: r)

theorem apart_cons {a : Nat × Px} : ∀ {l : List (Nat × Px)}, apart l → (∀ b ∈ l.head?, a.2 ≠ b.2) → apart (a :: l)
  | [], _, _ => trivial
  | b :: r, h, h2 => ⟨h2 b (by simp), h⟩

theorem runs_apart : ∀ (k : Nat) (l : List Px), apart (runs k l)
  | 0, l => trivial
  | k + 1, [] => trivial
  | k + 1, c :: l => by
    refine apart_cons (runs_apart k _) fun b hb => ?_
    cases hl : l.drop (grp c l) with
    | nil => rw [hl] at hb; cases k <;> simp [runs] at hb
    | cons x r =>
      rw [hl] at hb
      cases k with
      | zero => simp [runs] at hb
      | succ k =>
        simp [runs] at hb
        subst hb
        exact fun e => grp_next c l x r hl e.symm

theorem apart_at : ∀ {l : List (Nat × Px)}, apart l → ∀ (i : Nat) (h : i + 1 < l.length), (l[i + 1]).2 ≠ (l[i]'(by omega)).2
  | [], _, i, h => by simp at h
  | [_], _, i, h => by simp at h
  | a :: b :: r, hl, 0, h => fun e => hl.1 e.symm
  | a :: b :: r, hl, i + 1, h => apart_at hl.2 i (by simpa using h)

theorem eqPx (a b : Px) : F.both (F.eq a.1 b.1) (F.both (F.eq a.2.1 b.2.1) (F.both (F.eq a.2.2.1 b.2.2.1) (F.eq a.2.2.2 b.2.2.2))) = decide (a = b) := by
  obtain ⟨a1, a2, a3, a4⟩ := a
  obtain ⟨b1, b2, b3, b4⟩ := b
  unfold F.both
  simp only [f_eq]
  rw [Bool.eq_iff_iff]
  simp

theorem same02 (fl : Nat) (l : List Px) : ∀ (k n i : Nat), i + k = l.length → k + 1 ≤ n → l.length ≤ 100000 → glazierref02_Same_l1 fl n l l i = some (.inr ())
  | 0, n, i, h, hn, hl => by
    obtain ⟨n, rfl⟩ : ∃ m, n = m + 1 := ⟨n - 1, by omega⟩
    rw [glazierref02_Same_l1, bnd_eq, bnd_eq, lenK, lt_f (by omega), bite_f]
  | k + 1, n, i, h, hn, hl => by
    obtain ⟨n, rfl⟩ : ∃ m, n = m + 1 := ⟨n - 1, by omega⟩
    rw [glazierref02_Same_l1]
    simp only [bnd_eq]
    rw [lenK, lt_t (by omega), bite_t, lgetK (by omega), ob_some, ob_some, eqPx, decide_eq_true rfl, not_t, bite_f, addI (by omega)]
    have := same02 fl l k n (i + 1) (by omega) (by omega) hl
    rw [Int.natCast_add] at this
    exact this

theorem same02_spec {fl : Nat} {l : List Px} (h : l.length + 1 ≤ fl) (hl : l.length ≤ 100000) : glazierref02_Same fl l l = some true := by
  unfold glazierref02_Same
  simp only [bnd_eq]
  rw [ne_f rfl, bite_f]
  have := same02 fl l l.length fl 0 (by omega) (by omega) hl
  rw [show ((0 : Nat) : Int) = 0 from rfl] at this
  rw [this, ob_some]
  rfl
end Go.Proofs.Ytepifmbnajpgeaa.G
