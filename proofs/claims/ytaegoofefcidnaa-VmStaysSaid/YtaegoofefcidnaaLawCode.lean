/- Programs: which may be. -/
import Derived.Test.YtaegoofefcidnaaLawPix
set_option linter.unusedVariables false
namespace Go.Proofs.Ytaegoofefcidnaa.G
open Go Go.RowKit Go.Proofs.Ytaegoofefcidnaa.M

abbrev Ins := Int × Int × Int × Int × Int

def insB (x : Ins) : Prop := byte x.1 ∧ byte x.2.1 ∧ byte x.2.2.1 ∧ byte x.2.2.2.1 ∧ (-9223372036854775808 ≤ x.2.2.2.2 ∧ x.2.2.2.2 ≤ 9223372036854775807)

def three (o : Int) : Prop := (2 ≤ o ∧ o ≤ 8) ∨ o = 11 ∨ o = 13 ∨ o = 14
instance (o : Int) : Decidable (three o) := by unfold three; infer_instance

def iok (x : Ins) (i n : Int) : Prop :=
  (x.2.1 ≤ 7 ∧ x.2.2.1 ≤ 7 ∧ x.2.2.2.1 ≤ 7) ∧
  ((three x.1 ∧ x.2.2.2.2 = 0 ∧ (x.1 < 13 ∨ x.2.1 ≤ 4)) ∨
   (x.1 = 0 ∧ x.2.2.1 = 0 ∧ x.2.2.2.1 = 0 ∧ -2147483648 ≤ x.2.2.2.2 ∧ x.2.2.2.2 ≤ 2147483647) ∨
   (x.1 = 1 ∧ x.2.2.2.1 = 0 ∧ x.2.2.2.2 = 0) ∨
   ((x.1 = 9 ∨ x.1 = 10) ∧ x.2.2.2.1 = 0 ∧ 0 ≤ x.2.2.2.2 ∧ x.2.2.2.2 ≤ 31) ∨
   (x.1 = 12 ∧ x.2.1 = 0 ∧ x.2.2.2.1 = 0 ∧ 0 ≤ x.2.2.2.2 ∧ x.2.2.2.2 ≤ n - i - 1))
instance (x : Ins) (i n : Int) : Decidable (iok x i n) := by unfold iok; infer_instance

theorem dec_of {p q : Prop} [Decidable p] [Decidable q] (h : p ↔ q) : some (decide p) = some (decide q) := congrArg some (decide_eq_decide.2 h)
theorem dec_t {p : Prop} [Decidable p] (h : p) : some true = some (decide p) := congrArg some (decide_eq_true h).symm
theorem dec_f {p : Prop} [Decidable p] (h : ¬ p) : some false = some (decide p) := congrArg some (decide_eq_false h).symm

theorem bite_and (p q : Prop) [Decidable p] [Decidable q] : bite (decide p) (some (decide q)) (some false) = some (decide (p ∧ q)) := by
  by_cases h : p
  · rw [decide_eq_true h, bite_t]; congr 1; rw [decide_eq_decide]; exact ⟨fun k => ⟨h, k⟩, fun k => k.2⟩
  · rw [decide_eq_false h, bite_f, decide_eq_false (fun k => h k.1)]

theorem fits_spec (x lo hi : Int) (b : Bool) : code_fits x lo hi b = some (decide ((lo ≤ x ∧ x ≤ hi) ∧ (b = true ∨ x = 0))) := by
  unfold code_fits
  rw [bnd_eq, bnd_eq]
  by_cases h1 : lo ≤ x
  · rw [ge_t h1, bite_t]
    by_cases h2 : x ≤ hi
    · rw [le_t h2, bite_t]
      cases b
      · rw [bite_f, bnd_eq, f_eq]; congr 1; rw [decide_eq_decide]; exact ⟨fun k => ⟨⟨h1, h2⟩, .inr k⟩, fun k => k.2.resolve_left (by decide)⟩
      · rw [bite_t, decide_eq_true ⟨⟨h1, h2⟩, .inl rfl⟩]
    · rw [le_f (by omega), bite_f, decide_eq_false (fun k => h2 k.1.2)]
  · rw [ge_f (by omega), bite_f, decide_eq_false (fun k => h1 k.1.1)]

/-- What all of them are asked. -/
noncomputable def ask4 (i n D hd : Int) (bd : Bool) (A : Int) (ba : Bool) (B : Int) (bb : Bool) (N lo hi : Int) (bn : Bool) : Option Bool :=
  bite (F.ge i 0) (bite (F.lt i n) (
    obind (code_fits (F.conv .i64 D) 0 hd bd) fun q => bite q (
    obind (code_fits (F.conv .i64 A) 0 7 ba) fun q => bite q (
    obind (code_fits (F.conv .i64 B) 0 7 bb) fun q => bite q (
    obind (code_fits N lo hi bn) fun q => some q) (some false)) (some false)) (some false)) (some false)) (some false)

theorem ask4_spec {i n D hd A B N lo hi : Int} {bd ba bb bn : Bool} (hi0 : 0 ≤ i) (hin : i < n) (hD : byte D) (hA : byte A) (hB : byte B) :
    ask4 i n D hd bd A ba B bb N lo hi bn = some (decide ((D ≤ hd ∧ (bd = true ∨ D = 0)) ∧ (A ≤ 7 ∧ (ba = true ∨ A = 0)) ∧ (B ≤ 7 ∧ (bb = true ∨ B = 0)) ∧ (lo ≤ N ∧ N ≤ hi) ∧ (bn = true ∨ N = 0))) := by
  unfold byte at hD hA hB
  unfold ask4
  rw [ge_t hi0, bite_t, lt_t hin, bite_t, convI (by omega), convI (by omega), convI (by omega)]
  simp only [fits_spec, ob_some]
  rw [bite_and, bite_and, bite_and]
  congr 1
  rw [decide_eq_decide]
  constructor
  · intro h; exact ⟨⟨h.1.1.2, h.1.2⟩, ⟨h.2.1.1.2, h.2.1.2⟩, ⟨h.2.2.1.1.2, h.2.2.1.2⟩, h.2.2.2⟩
  · intro h; exact ⟨⟨⟨hD.1, h.1.1⟩, h.1.2⟩, ⟨⟨hA.1, h.2.1.1⟩, h.2.1.2⟩, ⟨⟨hB.1, h.2.2.1.1⟩, h.2.2.1.2⟩, h.2.2.2⟩

theorem op_cases {o : Int} (h : byte o) : o = 0 ∨ o = 1 ∨ o = 2 ∨ o = 3 ∨ o = 4 ∨ o = 5 ∨ o = 6 ∨ o = 7 ∨ o = 8 ∨ o = 9 ∨ o = 10 ∨ o = 11 ∨ o = 12 ∨ o = 13 ∨ o = 14 ∨ 15 ≤ o := by
  unfold byte at h; omega

section
variable (D A B N i n : Int)
theorem one_0 : code_One (0, (D, (A, (B, N)))) i n = ask4 i n D 7 true A false B false N (-2147483648) 2147483647 true := rfl
theorem one_1 : code_One (1, (D, (A, (B, N)))) i n = ask4 i n D 7 true A true B false N 0 0 false := rfl
theorem one_2 : code_One (2, (D, (A, (B, N)))) i n = ask4 i n D 7 true A true B true N 0 0 false := rfl
theorem one_3 : code_One (3, (D, (A, (B, N)))) i n = ask4 i n D 7 true A true B true N 0 0 false := rfl
theorem one_4 : code_One (4, (D, (A, (B, N)))) i n = ask4 i n D 7 true A true B true N 0 0 false := rfl
theorem one_5 : code_One (5, (D, (A, (B, N)))) i n = ask4 i n D 7 true A true B true N 0 0 false := rfl
theorem one_6 : code_One (6, (D, (A, (B, N)))) i n = ask4 i n D 7 true A true B true N 0 0 false := rfl
theorem one_7 : code_One (7, (D, (A, (B, N)))) i n = ask4 i n D 7 true A true B true N 0 0 false := rfl
theorem one_8 : code_One (8, (D, (A, (B, N)))) i n = ask4 i n D 7 true A true B true N 0 0 false := rfl
theorem one_9 : code_One (9, (D, (A, (B, N)))) i n = ask4 i n D 7 true A true B false N 0 31 true := rfl
theorem one_10 : code_One (10, (D, (A, (B, N)))) i n = ask4 i n D 7 true A true B false N 0 31 true := rfl
theorem one_11 : code_One (11, (D, (A, (B, N)))) i n = ask4 i n D 7 true A true B true N 0 0 false := rfl
theorem one_12 : code_One (12, (D, (A, (B, N)))) i n = ask4 i n D 7 false A true B false N 0 (F.sub .i64 (F.sub .i64 n i) 1) true := rfl
theorem one_13 : code_One (13, (D, (A, (B, N)))) i n = ask4 i n D 4 true A true B true N 0 0 false := rfl
theorem one_14 : code_One (14, (D, (A, (B, N)))) i n = ask4 i n D 4 true A true B true N 0 0 false := rfl
end

theorem one_more {x : Ins} {i n : Int} (h : 15 ≤ x.1) : code_One x i n = some false := by
  have e : ∀ k : Int, k < 15 → F.eq x.1 k = false := fun k hk => eq_f (by omega)
  have u : code_uses x.1 = some 0 := by
    unfold code_uses
    simp only [bnd_eq, e 0 (by decide), e 1 (by decide), e 2 (by decide), e 3 (by decide), e 4 (by decide), e 5 (by decide), e 6 (by decide), e 7 (by decide), e 8 (by decide), e 9 (by decide), e 10 (by decide), e 11 (by decide), e 12 (by decide), e 13 (by decide), e 14 (by decide), bite_f]
  have a : code_asks x = some false := by
    unfold code_asks
    simp only [bnd_eq, e 13 (by decide), e 14 (by decide), bite_f]
  unfold code_One
  rw [u, ob_some, a]
  simp only [bnd_eq, ob_some, e 0 (by decide), e 9 (by decide), e 10 (by decide), e 12 (by decide), bite_f, show F.gt (0 : Int) 0 = false from rfl]

theorem one_spec {x : Ins} {i n : Int} (hx : insB x) (hi0 : 0 ≤ i) (hin : i < n) (hn : n ≤ 100) : code_One x i n = some (decide (iok x i n)) := by
  obtain ⟨o, D, A, B, N⟩ := x
  obtain ⟨ho, hD, hA, hB, hN⟩ := hx
  simp only at ho hD hA hB hN
  have hD' := hD; have hA' := hA; have hB' := hB
  unfold byte at hD' hA' hB'
  rcases op_cases ho with rfl | rfl | rfl | rfl | rfl | rfl | rfl | rfl | rfl | rfl | rfl | rfl | rfl | rfl | rfl | hk
  case' inr.inr.inr.inr.inr.inr.inr.inr.inr.inr.inr.inr.inr.inr.inr =>
    rw [one_more hk]
    refine dec_f ?_
    unfold iok three
    simp only
    omega
  case' inr.inr.inr.inr.inr.inr.inr.inr.inr.inr.inr.inr.inl => rw [one_12, subI (a := n) (b := i) (by omega), subI (by omega)]
  all_goals
    first | rw [one_0] | rw [one_1] | rw [one_2] | rw [one_3] | rw [one_4] | rw [one_5] | rw [one_6] | rw [one_7] | rw [one_8] | rw [one_9] | rw [one_10] | rw [one_11] | rw [one_13] | rw [one_14] | skip
    rw [ask4_spec hi0 hin hD hA hB]
    refine dec_of ?_
    unfold iok three
    simp only [true_or, or_true, and_true, true_and, reduceCtorEq, false_or]
    omega

theorem three_spec (o : Int) : glazierref12_three o = some (decide (three o)) := by
  unfold glazierref12_three
  have e : ∀ b : Bool, (bnd (F.eq o 11) fun v3 => bite v3 (some true) (bnd (F.eq o 13) fun v4 => bite v4 (some true) (bnd (F.eq o 14) fun v5 => some v5))) = some (decide (o = 11 ∨ o = 13 ∨ o = 14)) := fun b => by
    rw [bnd_eq, bnd_eq, bnd_eq]
    by_cases h1 : o = 11
    · rw [eq_t h1, bite_t, decide_eq_true (.inl h1)]
    rw [eq_f h1, bite_f]
    by_cases h2 : o = 13
    · rw [eq_t h2, bite_t, decide_eq_true (.inr (.inl h2))]
    rw [eq_f h2, bite_f, f_eq]
    congr 1
    rw [decide_eq_decide]
    omega
  rw [e false, bnd_eq, bnd_eq]
  by_cases h1 : 2 ≤ o
  · rw [ge_t h1, bite_t]
    by_cases h2 : o ≤ 8
    · rw [le_t h2, bite_t]; exact dec_t (.inl ⟨h1, h2⟩)
    · rw [le_f (by omega), bite_f]; refine dec_of ?_; unfold three; omega
  · rw [ge_f (by omega), bite_f]; refine dec_of ?_; unfold three; omega

theorem ref_one {x : Ins} {i n : Int} (hx : insB x) (hi0 : 0 ≤ i) (hin : i < n) (hn : n ≤ 100) : glazierref12_One x i n = some (decide (iok x i n)) := by
  obtain ⟨o, D, A, B, N⟩ := x
  obtain ⟨ho, hD, hA, hB, hN⟩ := hx
  simp only at ho hD hA hB hN
  unfold byte at ho hD hA hB
  unfold glazierref12_One
  simp only
  rw [three_spec]
  by_cases h1 : 7 < D
  · rw [bnd_eq, gt_t h1, bite_t]; refine dec_f ?_; unfold iok; simp only; omega
  rw [bnd_eq, gt_f (by omega), bite_f]
  by_cases h2 : 7 < A
  · rw [bnd_eq, gt_t h2, bite_t]; refine dec_f ?_; unfold iok; simp only; omega
  rw [bnd_eq, gt_f (by omega), bite_f]
  by_cases h3 : 7 < B
  · rw [bnd_eq, gt_t h3, bite_t]; refine dec_f ?_; unfold iok; simp only; omega
  rw [bnd_eq, gt_f (by omega), bite_f, bnd_eq, lt_f hi0, bite_f, bnd_eq, ge_f hin, bite_f, ob_some]
  by_cases h4 : three o
  · rw [decide_eq_true h4, bite_t, bnd_eq]
    unfold three at h4
    by_cases h5 : N = 0
    · rw [eq_t h5, bite_t, bnd_eq]
      by_cases h6 : o < 13
      · rw [lt_t h6, bite_t]; refine dec_t ?_; unfold iok three; simp only; omega
      · rw [lt_f (by omega), bite_f, bnd_eq, F.le]; refine dec_of ?_; unfold iok three; simp only; omega
    · rw [eq_f h5, bite_f]; refine dec_f ?_; unfold iok three; simp only; omega
  rw [decide_eq_false h4, bite_f, bnd_eq]
  unfold three at h4
  by_cases h5 : B = 0
  case neg => rw [ne_t h5, bite_t]; refine dec_f ?_; unfold iok three; simp only; omega
  rw [ne_f h5, bite_f]
  simp only [bnd_eq, F.le, F.ge, f_eq, bite_and, ge_iff_le]
  by_cases h6 : o = 0
  · rw [decide_eq_true h6, bite_t]; refine dec_of ?_; unfold iok three; simp only; omega
  rw [decide_eq_false h6, bite_f]
  by_cases h7 : o = 1
  · rw [decide_eq_true h7, bite_t]; refine dec_of ?_; unfold iok three; simp only; omega
  rw [decide_eq_false h7, bite_f]
  by_cases h8 : o = 9
  · rw [decide_eq_true h8, bite_t, bite_t]; refine dec_of ?_; unfold iok three; simp only; omega
  rw [decide_eq_false h8, bite_f]
  by_cases h9 : o = 10
  · rw [decide_eq_true h9, bite_t]; refine dec_of ?_; unfold iok three; simp only; omega
  rw [decide_eq_false h9, bite_f]
  rw [subI (a := n) (b := i) (by omega), subI (by omega)]; refine dec_of ?_; unfold iok three; simp only; omega

/-! ### Whole programs -/
def progs (l : List Ins) : Prop := ∀ x ∈ l, insB x
def prog (l : List Ins) : Prop := 1 ≤ l.length ∧ l.length ≤ 32 ∧ ∀ (j : Nat) (h : j < l.length), iok l[j] j l.length
noncomputable instance (l : List Ins) : Decidable (prog l) := Classical.propDecidable _

theorem check_loop (fl : Nat) {l : List Ins} (hl : progs l) (hs : l.length ≤ 32) : ∀ (k n i : Nat), i + k = l.length → k + 1 ≤ n → (∀ (j : Nat) (h : j < l.length), j < i → iok l[j] j l.length) →
    ∃ s, code_Check_l1 fl n l l l.length i = some s ∧ glazierref12_Check_l1 fl n l i = some s ∧ ((∃ u, s = .inr u) ↔ ∀ (j : Nat) (h : j < l.length), iok l[j] j l.length)
  | 0, n, i, hk, hn, hj => by
    obtain ⟨n, rfl⟩ : ∃ m, n = m + 1 := ⟨n - 1, by omega⟩
    simp only [code_Check_l1, glazierref12_Check_l1, lenK, bnd_eq]
    rw [lt_f (by omega), bite_f, bite_f]
    exact ⟨_, rfl, rfl, fun _ j h => hj j h (by omega), fun _ => ⟨_, rfl⟩⟩
  | k + 1, n, i, hk, hn, hj => by
    obtain ⟨n, rfl⟩ : ∃ m, n = m + 1 := ⟨n - 1, by omega⟩
    have hx := hl _ (List.getElem_mem (show i < l.length by omega))
    simp only [code_Check_l1, glazierref12_Check_l1, lenK, bnd_eq]
    rw [lt_t (by omega), bite_t, bite_t, lgetK (show i < l.length by omega), ob_some, ob_some,
      one_spec hx (by omega) (by omega) (by omega), ref_one hx (by omega) (by omega) (by omega), ob_some, ob_some]
    by_cases h : iok l[i] i l.length
    · rw [decide_eq_true h, not_t, bite_f, bite_f, addI (by omega)]
      exact check_loop fl hl hs k n (i + 1) (by omega) (by omega) (fun j h' hji => by
        rcases Nat.lt_or_eq_of_le (show j ≤ i by omega) with q | q
        · exact hj j h' q
        · subst q; exact h)
    · rw [decide_eq_false h, not_f, bite_t, bite_t]
      exact ⟨_, rfl, rfl, fun ⟨u, hu⟩ => (nomatch hu), fun hall => absurd (hall i (by omega)) h⟩

theorem check_spec {fl : Nat} (hfl : 40 ≤ fl) {l : List Ins} (hl : progs l) :
    code_Check fl l = some (if prog l then 0 else 23) ∧ glazierref12_Check fl l = some (if prog l then 0 else 23) := by
  unfold code_Check glazierref12_Check
  simp only [bnd_eq, lenK]
  by_cases h1 : l.length = 0
  · rw [eq_t (by omega), bite_t, lt_t (by omega), bite_t, if_neg (fun k => by have := k.1; omega)]
    exact ⟨rfl, rfl⟩
  rw [eq_f (by omega), bite_f, lt_f (by omega), bite_f]
  by_cases h2 : 32 < l.length
  · rw [gt_t (by omega), bite_t, bite_t, if_neg (fun k => by have := k.2.1; omega)]
    exact ⟨rfl, rfl⟩
  rw [gt_f (by omega), bite_f, bite_f]
  obtain ⟨s, e1, e2, hs⟩ := check_loop fl hl (by omega) l.length fl 0 (by omega) (by omega) (fun j _ h => by omega)
  rw [show ((0 : Nat) : Int) = 0 from rfl] at e1 e2
  rw [e1, e2, ob_some]
  cases s with
  | inl u => rw [if_neg (fun k => by obtain ⟨u, hu⟩ := hs.2 k.2.2; cases hu)]; exact ⟨rfl, rfl⟩
  | inr u => rw [if_pos ⟨by omega, by omega, hs.1 ⟨_, rfl⟩⟩]; exact ⟨rfl, rfl⟩

def asks (l : List Ins) : Prop := ∃ x ∈ l, x.1 = 13 ∨ x.1 = 14
instance (l : List Ins) : Decidable (asks l) := by unfold asks; infer_instance

theorem asks_one (x : Ins) : code_asks x = some (decide (x.1 = 13 ∨ x.1 = 14)) := by
  unfold code_asks
  rw [bnd_eq, bnd_eq]
  by_cases h : x.1 = 13
  · rw [eq_t h, bite_t, decide_eq_true (.inl h)]
  · rw [eq_f h, bite_f, f_eq]; congr 1; rw [decide_eq_decide]; omega

theorem asks_loop (fl : Nat) {l : List Ins} (hs : l.length ≤ 100) : ∀ (k n i : Nat), i + k = l.length → k + 1 ≤ n → (∀ (j : Nat) (h : j < l.length), j < i → ¬ (l[j].1 = 13 ∨ l[j].1 = 14)) →
    (∃ s, slices_IndexFunc_l1 fl n l () l.length i = some s ∧ ((∃ u, s = .inr u) ∧ ¬ asks l ∨ (∃ z, s = .inl z ∧ 0 ≤ z.1) ∧ asks l)) ∧
    (∃ s, glazierref12_Samples_l1 fl n l i = some s ∧ ((∃ u, s = .inr u) ∧ ¬ asks l ∨ (∃ z, s = .inl z) ∧ asks l))
  | 0, n, i, hk, hn, hj => by
    obtain ⟨n, rfl⟩ : ∃ m, n = m + 1 := ⟨n - 1, by omega⟩
    simp only [slices_IndexFunc_l1, glazierref12_Samples_l1, lenK, bnd_eq]
    rw [lt_f (by omega), bite_f, bite_f]
    have no : ¬ asks l := fun ⟨x, hx, h⟩ => by
      obtain ⟨j, hjl, rfl⟩ := List.getElem_of_mem hx
      exact hj j hjl (by omega) h
    exact ⟨⟨_, rfl, .inl ⟨⟨_, rfl⟩, no⟩⟩, ⟨_, rfl, .inl ⟨⟨_, rfl⟩, no⟩⟩⟩
  | k + 1, n, i, hk, hn, hj => by
    obtain ⟨n, rfl⟩ : ∃ m, n = m + 1 := ⟨n - 1, by omega⟩
    have hm := List.getElem_mem (show i < l.length by omega)
    simp only [slices_IndexFunc_l1, glazierref12_Samples_l1, lenK, bnd_eq]
    rw [lt_t (by omega), bite_t, bite_t, lgetK (show i < l.length by omega), ob_some, ob_some, asks_one, ob_some]
    by_cases h : l[i].1 = 13 ∨ l[i].1 = 14
    · have yes : asks l := ⟨_, hm, h⟩
      rw [decide_eq_true h, bite_t]
      refine ⟨⟨_, rfl, .inr ⟨⟨_, rfl, by simp only; omega⟩, yes⟩⟩, ?_⟩
      by_cases h1 : l[i].1 = 13
      · rw [eq_t h1, bite_t]; exact ⟨_, rfl, .inr ⟨⟨_, rfl⟩, yes⟩⟩
      · rw [eq_f h1, bite_f, ob_some, eq_t (h.resolve_left h1), bite_t]; exact ⟨_, rfl, .inr ⟨⟨_, rfl⟩, yes⟩⟩
    · have := asks_loop fl hs k n (i + 1) (by omega) (by omega) (fun j h' hji => by
        rcases Nat.lt_or_eq_of_le (show j ≤ i by omega) with q | q
        · exact hj j h' q
        · subst q; exact h)
      rw [decide_eq_false h, bite_f, addI (by omega), eq_f (by omega), bite_f, ob_some, eq_f (by omega), bite_f]
      exact this

theorem asks_spec {fl : Nat} (hfl : 101 ≤ fl) {l : List Ins} (hl : l.length ≤ 100) : code_Samples fl l = some (decide (asks l)) ∧ glazierref12_Samples fl l = some (decide (asks l)) := by
  obtain ⟨⟨s, e1, hs⟩, ⟨s', e2, hs'⟩⟩ := asks_loop fl hl l.length fl 0 (by omega) (by omega) (fun j _ h => by omega)
  rw [show ((0 : Nat) : Int) = 0 from rfl] at e1 e2
  constructor
  · unfold code_Samples slices_ContainsFunc slices_IndexFunc
    rw [bnd_eq, lenK, e1, ob_some]
    rcases hs with ⟨⟨u, rfl⟩, h⟩ | ⟨⟨z, rfl, hz⟩, h⟩
    · rw [decide_eq_false h]; rfl
    · rw [decide_eq_true h, osum, ob_some, bnd_eq, ge_t hz, ob_some]
  · unfold glazierref12_Samples
    rw [e2, ob_some]
    rcases hs' with ⟨⟨u, rfl⟩, h⟩ | ⟨⟨z, rfl⟩, h⟩
    · rw [decide_eq_false h]; rfl
    · rw [decide_eq_true h]; rfl
end Go.Proofs.Ytaegoofefcidnaa.G
