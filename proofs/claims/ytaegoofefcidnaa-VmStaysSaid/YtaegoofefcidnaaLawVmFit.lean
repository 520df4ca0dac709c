/- Programs made right; what came in. -/
import Derived.Test.YtaegoofefcidnaaLawVmRun
set_option linter.unusedVariables false
namespace Go.Proofs.Ytaegoofefcidnaa.G
open Go Go.RowKit Go.Proofs.Ytaegoofefcidnaa.M

theorem mod_spec {x m : Int} (hm : 1 ≤ m ∧ m ≤ 4294967296) : glazierref12_mod x m = some (x % m) := by
  have h := mod_in (x := x) (w := m) (by omega)
  have h1 := tmod_lt (a := x) (m := m) (by omega)
  unfold glazierref12_mod
  rw [nz_t (by omega), bgd_t, bnd_eq, bnd_eq]
  unfold F.rem
  rw [tmod_as (by omega)]
  split
  · rw [lt_f (by omega), bite_f]
  · rw [lt_t (by omega), bite_t, bnd_eq, addI (by omega), Int.sub_add_cancel]

theorem remB {x m : Int} (h : 0 ≤ x) : F.rem x m = x % m := Int.tmod_eq_emod_of_nonneg h

theorem fit_one {x : Ins} {i n : Int} (hx : insB x) (hi : 0 ≤ i) (hin : i < n) (hn : n ≤ 32) : ∃ y, glazierref12_fit x i n false = some y ∧ insB y ∧ iok y i n := by
  obtain ⟨o, D, A, B, N⟩ := x
  obtain ⟨ho, hD, hA, hB, hN⟩ := hx
  unfold byte at ho hD hA hB
  simp only at ho hD hA hB hN
  unfold glazierref12_fit
  simp only [bnd_eq]
  rw [remB ho.1, remB hD.1, remB hA.1, remB hB.1, remB (x := D) (m := 5) hD.1, bite_f]
  have o1 : 0 ≤ o % 15 ∧ o % 15 < 15 := by omega
  have d1 : 0 ≤ D % 8 ∧ D % 8 < 8 := by omega
  have d2 : 0 ≤ D % 5 ∧ D % 5 < 5 := by omega
  have a1 : 0 ≤ A % 8 ∧ A % 8 < 8 := by omega
  have b1 : 0 ≤ B % 8 ∧ B % 8 < 8 := by omega
  generalize o % 15 = o at *
  generalize D % 8 = d at *
  generalize D % 5 = d5 at *
  generalize A % 8 = a at *
  generalize B % 8 = b at *
  have fin : ∀ d' a' b' N' : Int, byte d' → byte a' → byte b' → (-9223372036854775808 ≤ N' ∧ N' ≤ 9223372036854775807) → iok (o, (d', (a', (b', N')))) i n → ∃ y, some (o, (d', (a', (b', N')))) = some y ∧ insB y ∧ iok y i n := fun d' a' b' N' h1 h2 h3 h4 h5 =>
    ⟨_, rfl, ⟨by unfold byte; simp only; omega, h1, h2, h3, h4⟩, h5⟩
  by_cases e0 : o = 0
  · have m := mod_in (x := N) (w := 4294967296) (by decide)
    rw [eq_t e0, bite_t, mod_spec (by decide), ob_some, subI (by omega)]
    exact fin _ _ _ _ (by unfold byte; omega) (by unfold byte; omega) (by unfold byte; omega) (by omega) (by unfold iok three; simp only [true_and, and_true]; omega)
  rw [eq_f e0, bite_f]
  by_cases e1 : o = 1
  · rw [eq_t e1, bite_t]
    exact fin _ _ _ _ (by unfold byte; omega) (by unfold byte; omega) (by unfold byte; omega) (by omega) (by unfold iok three; simp only [true_and, and_true]; omega)
  rw [eq_f e1, bite_f]
  by_cases e9 : o = 9
  · have m := mod_in (x := N) (w := 32) (by decide)
    rw [eq_t e9, bite_t, bite_t, mod_spec (by decide), ob_some]
    exact fin _ _ _ _ (by unfold byte; omega) (by unfold byte; omega) (by unfold byte; omega) (by omega) (by unfold iok three; simp only [true_and, and_true]; omega)
  rw [eq_f e9, bite_f]
  by_cases e10 : o = 10
  · have m := mod_in (x := N) (w := 32) (by decide)
    rw [eq_t e10, bite_t, mod_spec (by decide), ob_some]
    exact fin _ _ _ _ (by unfold byte; omega) (by unfold byte; omega) (by unfold byte; omega) (by omega) (by unfold iok three; simp only [true_and, and_true]; omega)
  rw [eq_f e10, bite_f]
  by_cases e12 : o = 12
  · have m := mod_in (x := N) (w := n - i) (by omega)
    rw [eq_t e12, bite_t, subI (a := n) (by omega), mod_spec (by omega), ob_some]
    exact fin _ _ _ _ (by unfold byte; omega) (by unfold byte; omega) (by unfold byte; omega) (by omega) (by unfold iok three; simp only [true_and, and_true]; omega)
  rw [eq_f e12, bite_f]
  by_cases e13 : o = 13
  · rw [eq_t e13, bite_t, bite_t]
    exact fin _ _ _ _ (by unfold byte; omega) (by unfold byte; omega) (by unfold byte; omega) (by omega) (by unfold iok three; simp only [true_and, and_true]; omega)
  rw [eq_f e13, bite_f]
  by_cases e14 : o = 14
  · rw [eq_t e14, bite_t]
    exact fin _ _ _ _ (by unfold byte; omega) (by unfold byte; omega) (by unfold byte; omega) (by omega) (by unfold iok three; simp only [true_and, and_true]; omega)
  rw [eq_f e14, bite_f]
  exact fin _ _ _ _ (by unfold byte; omega) (by unfold byte; omega) (by unfold byte; omega) (by omega) (by unfold iok three; simp only [true_and, and_true]; omega)

theorem pfit_loop (fl : Nat) {l : List Ins} (hp : progs l) {m : Nat} (hm : m ≤ 32) (hml : m ≤ l.length) : ∀ (k n : Nat) (acc : List Ins), acc.length + k = m → k + 1 ≤ n → progs acc → (∀ (j : Nat) (h : j < acc.length), iok acc[j] j m) →
    ∃ p, glazierref12_Fit_l1 fl n l false m acc (acc.length : Int) = some (p, ()) ∧ p.length = m ∧ progs p ∧ ∀ (j : Nat) (h : j < p.length), iok p[j] j m
  | 0, n, acc, hl, hn, hb, ha => by
    obtain ⟨n, rfl⟩ : ∃ m, n = m + 1 := ⟨n - 1, by omega⟩
    rw [glazierref12_Fit_l1, bnd_eq, lt_f (by omega), bite_f]
    exact ⟨acc, rfl, by omega, hb, ha⟩
  | k + 1, n, acc, hl, hn, hb, ha => by
    obtain ⟨n, rfl⟩ : ∃ m, n = m + 1 := ⟨n - 1, by omega⟩
    obtain ⟨y, ey, by', hy⟩ := fit_one (i := acc.length) (n := m) (hp _ (List.getElem_mem (show acc.length < l.length by omega))) (by omega) (by omega) (by omega)
    have := pfit_loop fl hp hm hml k n (acc ++ [y]) (by simp; omega) (by omega) (fun x hx => by
      rcases List.mem_append.1 hx with hx | hx
      · exact hb x hx
      · rw [List.mem_singleton.1 hx]; exact by') (fun j h => by
      by_cases hj : j < acc.length
      · rw [List.getElem_append_left hj]; exact ha j hj
      · have : j = acc.length := by simp at h; omega
        subst this
        rw [List.getElem_append_right (by omega)]
        simpa using hy)
    rw [show ((acc ++ [y]).length : Int) = (acc.length : Int) + 1 by simp] at this
    rw [glazierref12_Fit_l1]
    simp only [bnd_eq]
    rw [lt_t (by omega), bite_t, lgetK (show acc.length < l.length by omega), ob_some, ey, ob_some, appOk_t (by simp; omega) (by decide), bgd_t, appK, addI (by omega)]
    exact this

theorem pfit_spec {fl : Nat} (hfl : 40 ≤ fl) {l : List Ins} (hp : progs l) : ∃ p, glazierref12_Fit fl l false = some p ∧ progs p ∧ prog p := by
  unfold glazierref12_Fit
  simp only [bnd_eq]
  rw [lenK]
  by_cases h0 : l.length = 0
  · rw [eq_t (by omega), bite_t]
    refine ⟨_, rfl, fun x hx => ?_, by decide, by decide, fun j h => ?_⟩
    · rw [List.mem_singleton.1 hx]; unfold insB byte; decide
    · have : j = 0 := by simp at h; omega
      subst this
      simp only [List.getElem_cons_zero]
      unfold iok three; decide
  rw [eq_f (by omega), bite_f, f_min]
  obtain ⟨p, e, h1, h2, h3⟩ := pfit_loop fl hp (m := min l.length 32) (by omega) (by omega) (min l.length 32) fl [] (by simp) (by omega) (fun x hx => by simp at hx) (fun j h => by simp at h)
  rw [show (([] : List Ins).length : Int) = 0 from rfl] at e
  rw [show (min (l.length : Int) 32) = ((min l.length 32 : Nat) : Int) by omega, e, ob_some]
  exact ⟨p, rfl, h2, by omega, by omega, fun j h => by rw [h1]; exact h3 j h⟩

/-! ### What came in -/
theorem progs_in {l : List Ins} (h : okT (Ty.list (.pair (.int .u8) (.pair (.int .u8) (.pair (.int .u8) (.pair (.int .u8) (.int .i64)))))) l) : progs l := fun x hx => by
  have := h.2 x hx
  exact ⟨inR_u8.1 this.1, inR_u8.1 this.2.1, inR_u8.1 this.2.2.1, inR_u8.1 this.2.2.2.1, inR_i64.1 this.2.2.2.2⟩

theorem progs_take {l : List Ins} (h : progs l) (n : Nat) : progs (l.take n) := fun x hx => h x (List.mem_of_mem_take hx)

theorem few13 (l : List Ins) : glazierlaw13_few l = some (l.take 40) := by
  unfold glazierlaw13_few
  rw [bnd_eq, bnd_eq, lenK]
  by_cases h : 40 < (l.length : Int)
  · rw [gt_t h, bite_t]
    have : F.cutOk l 0 40 = true := by unfold F.cutOk; rw [decide_eq_true (by decide), decide_eq_true (by decide), decide_eq_true (by omega)]; rfl
    rw [this, bgd_t]
    rfl
  · rw [gt_f (by omega), bite_f, List.take_of_length_le (by omega)]

theorem cutOk3 {α : Type} {l : List α} (h : 300 < (l.length : Int)) : F.cutOk l 0 300 = true := by
  unfold F.cutOk; rw [decide_eq_true (by decide), decide_eq_true (by decide), decide_eq_true (by omega)]; rfl

theorem cut3 {α : Type} (l : List α) : F.cut l 0 300 = l.take 300 := rfl

theorem both8 (r : R8) : F.both (F.eq r.1 r.1) (F.both (F.eq r.2.1 r.2.1) (F.both (F.eq r.2.2.1 r.2.2.1) (F.both (F.eq r.2.2.2.1 r.2.2.2.1) (F.both (F.eq r.2.2.2.2.1 r.2.2.2.2.1) (F.both (F.eq r.2.2.2.2.2.1 r.2.2.2.2.2.1) (F.both (F.eq r.2.2.2.2.2.2.1 r.2.2.2.2.2.2.1) (F.eq r.2.2.2.2.2.2.2 r.2.2.2.2.2.2.2))))))) = true := by
  simp only [eq_t]; rfl

theorem shown13 : glazierlaw13_shown 400 = some true := by decide +kernel
end Go.Proofs.Ytaegoofefcidnaa.G
