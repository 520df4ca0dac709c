/- Programs without jumps. -/
import Derived.Test.YtaegoofefcidnaaLawVmOne
set_option linter.unusedVariables false
namespace Go.Proofs.Ytaegoofefcidnaa.G
open Go Go.RowKit Go.Proofs.Ytaegoofefcidnaa.M

/-- A straight instruction: it may be anywhere. -/
def sok (x : Ins) : Prop := insB x ∧ x.1 ≤ 11 ∧ ∀ i n : Int, iok x i n

theorem sok_of {x : Ins} {i n : Int} (hb : insB x) (h : iok x i n) (h11 : x.1 ≤ 11) : sok x := ⟨hb, h11, fun i n => by
  obtain ⟨h1, h2⟩ := h
  refine ⟨h1, ?_⟩
  rcases h2 with h2 | h2 | h2 | h2 | h2
  · exact .inl h2
  · exact .inr (.inl h2)
  · exact .inr (.inr (.inl h2))
  · exact .inr (.inr (.inr (.inl h2)))
  · omega⟩

/-- What a row of straight ones does. -/
def srun (l : List Ins) (r : R8) : R8 := l.foldl (fun r x => put r x.2.1 (vval x (reg r x.2.2.1) (reg r x.2.2.2.1))) r

theorem stp_plain {t : Tx} {x : Ins} (h : x.1 ≤ 11) (pc : Int) (r : R8) : stp t x pc r = (pc + 1, put r x.2.1 (vval x (reg r x.2.2.1) (reg r x.2.2.2.1))) := by
  unfold stp
  rw [if_neg (by omega), if_neg (by omega), if_neg (by omega)]

theorem nopx : pxs (0, (0, [])) := fun c hc => by simp at hc

theorem srun_32 {l : List Ins} (h : ∀ x ∈ l, sok x) {r : R8} (hr : regs32 r) : regs32 (srun l r) := by
  induction l generalizing r with
  | nil => exact hr
  | cons x l ih =>
    have hx := h x (by simp)
    have := (stp_in (t := (0, (0, []))) nopx hx.1 (hx.2.2 0 1) (by decide) hr).2
    rw [stp_plain hx.2.1] at this
    exact ih (fun y hy => h y (by simp [hy])) this

theorem sprog {l : List Ins} (h : ∀ x ∈ l, sok x) (h1 : 1 ≤ l.length) (h2 : l.length ≤ 32) : progs l ∧ prog l ∧ ¬ asks l :=
  ⟨fun x hx => (h x hx).1, ⟨h1, h2, fun j hj => (h _ (List.getElem_mem hj)).2.2 _ _⟩, fun ⟨x, hx, h3⟩ => by have := (h x hx).2.1; omega⟩

theorem srun_loop {fl : Nat} (hfl : 200 ≤ fl) {l : List Ins} (h : ∀ x ∈ l, sok x) (h2 : l.length ≤ 32) : ∀ (k n i : Nat) (r : R8), i + k = l.length → k + 1 ≤ n → regs32 r →
    vmL fl n l i i (0, (0, [])) r = lout l.length (srun (l.drop i) r)
  | 0, n, i, r, hk, hn, hr => by
    obtain ⟨n, rfl⟩ : ∃ m, n = m + 1 := ⟨n - 1, by omega⟩
    rw [vm_end (by omega), List.drop_eq_nil_of_le (by omega), show i = l.length by omega]
    rfl
  | k + 1, n, i, r, hk, hn, hr => by
    obtain ⟨n, rfl⟩ : ∃ m, n = m + 1 := ⟨n - 1, by omega⟩
    have hi : i < l.length := by omega
    have hx := h _ (List.getElem_mem hi)
    have hstp := (stp_in (t := (0, (0, []))) nopx hx.1 (hx.2.2 0 1) (by decide) hr).2
    rw [vm_step hfl hi (by omega) hx.1 (hx.2.2 _ _) nopx hr (by omega)]
    rw [stp_plain hx.2.1] at hstp ⊢
    have := srun_loop hfl h h2 k n (i + 1) _ (by omega) (by omega) hstp
    rw [Int.natCast_add] at this
    simp only at this ⊢
    rw [show ((1 : Nat) : Int) = 1 from rfl] at this
    rw [this, List.drop_eq_getElem_cons hi]
    rfl

theorem srun_run {fl : Nat} (hfl : 200 ≤ fl) {l : List Ins} (h : ∀ x ∈ l, sok x) (h1 : 1 ≤ l.length) (h2 : l.length ≤ 32) (r : R8) : vm_Run fl l (0, (0, [])) r = some (srun l (W8 r), ((l.length : Int), 0)) := by
  obtain ⟨a1, a2, a3⟩ := sprog h h1 h2
  refine vm_run hfl a1 a2 _ (fun h => absurd h a3) r ?_
  have := srun_loop hfl h h2 l.length fl 0 (W8 r) (by omega) (by omega) (W8_32 r)
  rw [List.drop_zero] at this
  exact this

theorem W8_id {r : R8} (h : regs32 r) : W8 r = r := by
  obtain ⟨h1, h2, h3, h4, h5, h6, h7, h8⟩ := h
  unfold W8
  rw [W_id h1, W_id h2, W_id h3, W_id h4, W_id h5, W_id h6, W_id h7, W_id h8]

theorem srun_app (l m : List Ins) (r : R8) : srun (l ++ m) r = srun m (srun l r) := by unfold srun; rw [List.foldl_append]

/-- What is not told stays. -/
theorem srun_stays : ∀ (l : List Ins) (r : R8) (i : Int), (0 ≤ i ∧ i ≤ 7) → (∀ x ∈ l, byte x.2.1 ∧ x.2.1 ≠ i) → reg (srun l r) i = reg r i
  | [], r, i, hi, h => rfl
  | x :: l, r, i, hi, h => by
    have hx := (h x (by simp)).2
    have ih := srun_stays l (put r x.2.1 (vval x (reg r x.2.2.1) (reg r x.2.2.2.1))) i hi (fun y hy => h y (by simp [hy]))
    show reg (srun l _) i = _
    rw [ih]
    rcases reg_in hi.1 hi.2 with rfl | rfl | rfl | rfl | rfl | rfl | rfl | rfl <;> simp [reg, put, F.pick, hx]

theorem sfit_one {x : Ins} {i n : Int} (hx : insB x) (hi : 0 ≤ i) (hin : i < n) (hn : n ≤ 32) : ∃ y, glazierref12_fit x i n true = some y ∧ insB y ∧ iok y i n ∧ y.1 ≤ 12 := by
  obtain ⟨o, D, A, B, N⟩ := x
  obtain ⟨ho, hD, hA, hB, hN⟩ := hx
  unfold byte at ho hD hA hB
  simp only at ho hD hA hB hN
  unfold glazierref12_fit
  simp only [bnd_eq]
  rw [remB ho.1, remB hD.1, remB hA.1, remB hB.1, remB (x := D) (m := 5) hD.1, bite_t]
  have o1 : 0 ≤ o % 15 ∧ o % 15 < 15 := by omega
  have d1 : 0 ≤ D % 8 ∧ D % 8 < 8 := by omega
  have d2 : 0 ≤ D % 5 ∧ D % 5 < 5 := by omega
  have a1 : 0 ≤ A % 8 ∧ A % 8 < 8 := by omega
  have b1 : 0 ≤ B % 8 ∧ B % 8 < 8 := by omega
  generalize o % 15 = o at *
  generalize D % 8 = d at *
  generalize D % 5 = d5 at *
  generalize A % 8 = a at *
  generalize B % 8 = b at *
  have fin : ∀ o' d' a' b' N' : Int, (0 ≤ o' ∧ o' ≤ 12) → byte d' → byte a' → byte b' → (-9223372036854775808 ≤ N' ∧ N' ≤ 9223372036854775807) → iok (o', (d', (a', (b', N')))) i n → ∃ y, some (o', (d', (a', (b', N')))) = some y ∧ insB y ∧ iok y i n ∧ y.1 ≤ 12 := fun o' d' a' b' N' h0 h1 h2 h3 h4 h5 =>
    ⟨_, rfl, ⟨by unfold byte; simp only; omega, h1, h2, h3, h4⟩, h5, h0.2⟩
  by_cases e : 13 ≤ o
  · rw [ge_t e, bite_t]
    exact fin _ _ _ _ _ (by omega) (by unfold byte; omega) (by unfold byte; omega) (by unfold byte; omega) (by omega) (by unfold iok three; simp only [true_and, and_true]; omega)
  rw [ge_f (by omega), bite_f]
  by_cases e0 : o = 0
  · have m := mod_in (x := N) (w := 4294967296) (by decide)
    rw [eq_t e0, bite_t, mod_spec (by decide), ob_some, subI (by omega)]
    exact fin _ _ _ _ _ (by omega) (by unfold byte; omega) (by unfold byte; omega) (by unfold byte; omega) (by omega) (by unfold iok three; simp only [true_and, and_true]; omega)
  rw [eq_f e0, bite_f]
  by_cases e1 : o = 1
  · rw [eq_t e1, bite_t]
    exact fin _ _ _ _ _ (by omega) (by unfold byte; omega) (by unfold byte; omega) (by unfold byte; omega) (by omega) (by unfold iok three; simp only [true_and, and_true]; omega)
  rw [eq_f e1, bite_f]
  by_cases e9 : o = 9
  · have m := mod_in (x := N) (w := 32) (by decide)
    rw [eq_t e9, bite_t, bite_t, mod_spec (by decide), ob_some]
    exact fin _ _ _ _ _ (by omega) (by unfold byte; omega) (by unfold byte; omega) (by unfold byte; omega) (by omega) (by unfold iok three; simp only [true_and, and_true]; omega)
  rw [eq_f e9, bite_f]
  by_cases e10 : o = 10
  · have m := mod_in (x := N) (w := 32) (by decide)
    rw [eq_t e10, bite_t, mod_spec (by decide), ob_some]
    exact fin _ _ _ _ _ (by omega) (by unfold byte; omega) (by unfold byte; omega) (by unfold byte; omega) (by omega) (by unfold iok three; simp only [true_and, and_true]; omega)
  rw [eq_f e10, bite_f]
  by_cases e12 : o = 12
  · have m := mod_in (x := N) (w := n - i) (by omega)
    rw [eq_t e12, bite_t, subI (a := n) (by omega), mod_spec (by omega), ob_some]
    exact fin _ _ _ _ _ (by omega) (by unfold byte; omega) (by unfold byte; omega) (by unfold byte; omega) (by omega) (by unfold iok three; simp only [true_and, and_true]; omega)
  rw [eq_f e12, bite_f, eq_f (show o ≠ 13 by omega), bite_f, eq_f (show o ≠ 14 by omega), bite_f]
  exact fin _ _ _ _ _ (by omega) (by unfold byte; omega) (by unfold byte; omega) (by unfold byte; omega) (by omega) (by unfold iok three; simp only [true_and, and_true]; omega)

theorem sfit_loop (fl : Nat) {l : List Ins} (hp : progs l) {m : Nat} (hm : m ≤ 32) (hml : m ≤ l.length) : ∀ (k n : Nat) (acc : List Ins), acc.length + k = m → k + 1 ≤ n → (∀ (j : Nat) (h : j < acc.length), insB acc[j] ∧ iok acc[j] j m ∧ acc[j].1 ≤ 12) →
    ∃ p, glazierref12_Fit_l1 fl n l true m acc (acc.length : Int) = some (p, ()) ∧ p.length = m ∧ ∀ (j : Nat) (h : j < p.length), insB p[j] ∧ iok p[j] j m ∧ p[j].1 ≤ 12
  | 0, n, acc, hl, hn, ha => by
    obtain ⟨n, rfl⟩ : ∃ m, n = m + 1 := ⟨n - 1, by omega⟩
    rw [glazierref12_Fit_l1, bnd_eq, lt_f (by omega), bite_f]
    exact ⟨acc, rfl, by omega, ha⟩
  | k + 1, n, acc, hl, hn, ha => by
    obtain ⟨n, rfl⟩ : ∃ m, n = m + 1 := ⟨n - 1, by omega⟩
    obtain ⟨y, ey, hy⟩ := sfit_one (i := acc.length) (n := m) (hp _ (List.getElem_mem (show acc.length < l.length by omega))) (by omega) (by omega) (by omega)
    have := sfit_loop fl hp hm hml k n (acc ++ [y]) (by simp; omega) (by omega) (fun j h => by
      by_cases hj : j < acc.length
      · rw [List.getElem_append_left hj]; exact ha j hj
      · have : j = acc.length := by simp at h; omega
        subst this
        rw [List.getElem_append_right (by omega)]
        simpa using hy)
    rw [show ((acc ++ [y]).length : Int) = (acc.length : Int) + 1 by simp] at this
    rw [glazierref12_Fit_l1]
    simp only [bnd_eq]
    rw [lt_t (by omega), bite_t, lgetK (show acc.length < l.length by omega), ob_some, ey, ob_some, appOk_t (by simp; omega) (by decide), bgd_t, appK, addI (by omega)]
    exact this

theorem sfit_spec {fl : Nat} (hfl : 40 ≤ fl) {l : List Ins} (hp : progs l) (h16 : l.length ≤ 16) : ∃ p, glazierref12_Fit fl l true = some p ∧ 1 ≤ p.length ∧ p.length ≤ 16 ∧ ∀ (j : Nat) (h : j < p.length), insB p[j] ∧ iok p[j] j p.length ∧ p[j].1 ≤ 12 := by
  unfold glazierref12_Fit
  simp only [bnd_eq]
  rw [lenK]
  by_cases h0 : l.length = 0
  · rw [eq_t (by omega), bite_t]
    refine ⟨_, rfl, by decide, by decide, fun j h => ?_⟩
    have : j = 0 := by simp at h; omega
    subst this
    simp only [List.getElem_cons_zero]
    unfold insB byte iok three; decide
  rw [eq_f (by omega), bite_f, f_min]
  obtain ⟨p, e, h1, h2⟩ := sfit_loop fl hp (m := min l.length 32) (by omega) (by omega) (min l.length 32) fl [] (by simp) (by omega) (fun j h => by simp at h)
  rw [show (([] : List Ins).length : Int) = 0 from rfl] at e
  rw [show (min (l.length : Int) 32) = ((min l.length 32 : Nat) : Int) by omega, e, ob_some]
  exact ⟨p, rfl, by omega, by omega, fun j h => by rw [h1]; exact h2 j h⟩
end Go.Proofs.Ytaegoofefcidnaa.G
