/- VmReckons holds. -/
import Derived.Test.YtaegoofefcidnaaLawVmOne
set_option linter.unusedVariables false
namespace Go.Proofs.Ytaegoofefcidnaa.vmReckons
open Go Go.RowKit Go.Proofs.Ytaegoofefcidnaa.M Go.Proofs.Ytaegoofefcidnaa.G

def ins (i k : Int) : Ins := if i = 7 ∨ i = 8 then (i + 2, (2, (0, (0, k)))) else (i + 2, (2, (0, (1, 0))))

theorem ins_run {x y k i : Int} (hx : r32 x) (hy : r32 y) (hk : 0 ≤ k ∧ k ≤ 31) (hi : 0 ≤ i ∧ i ≤ 9) :
    ∃ q, vm_Run 400 [ins i k] (0, (0, [])) (x, (y, (0, (0, (0, (0, (0, 0))))))) = some q ∧ q.2.2 = 0 ∧ q.2.1 = 1 ∧ q.1.2.2.1 = vval (ins i k) x y ∧ q.1.1 = x ∧ q.1.2.1 = y := by
  have hb : insB (ins i k) := by
    unfold ins insB byte
    split <;> simp only <;> omega
  have hk' : iok (ins i k) 0 1 := by
    unfold ins iok three
    split <;> simp only [true_and, and_true] <;> omega
  have hn : ¬ (ins i k).1 = 12 ∧ ¬ (ins i k).1 = 13 ∧ ¬ (ins i k).1 = 14 := by
    unfold ins; split <;> simp only <;> omega
  have hA : (ins i k).2.2.1 = 0 := by unfold ins; split <;> rfl
  have hD : (ins i k).2.1 = 2 := by unfold ins; split <;> rfl
  refine ⟨_, one_run (fl := 400) (by omega) hb hk' (fun ⟨z, hz, h⟩ => by rw [List.mem_singleton.1 hz] at h; omega) (fun c hc => by simp at hc), rfl, rfl, ?_⟩
  unfold stp
  rw [if_neg hn.1, if_neg hn.2.1, if_neg hn.2.2, hA, hD]
  have e0 : reg (W8 (x, (y, (0, (0, (0, (0, (0, 0)))))))) 0 = x := W_id hx
  rw [e0]
  refine ⟨?_, W_id hx, W_id hy⟩
  by_cases h : i = 7 ∨ i = 8
  · have e1 : ∀ b c, vval (ins i k) x b = vval (ins i k) x c := fun b c => by
      unfold ins vval
      rw [if_pos h]
      simp only
      rcases h with rfl | rfl
      · rw [if_neg (by decide), if_neg (by decide), if_neg (by decide), if_neg (by decide), if_neg (by decide), if_neg (by decide), if_neg (by decide), if_neg (by decide), if_neg (by decide), if_pos (by decide), if_neg (by decide), if_neg (by decide), if_neg (by decide), if_neg (by decide), if_neg (by decide), if_neg (by decide), if_neg (by decide), if_neg (by decide), if_neg (by decide), if_pos (by decide)]
      · rw [if_neg (by decide), if_neg (by decide), if_neg (by decide), if_neg (by decide), if_neg (by decide), if_neg (by decide), if_neg (by decide), if_neg (by decide), if_neg (by decide), if_neg (by decide), if_pos (by decide), if_neg (by decide), if_neg (by decide), if_neg (by decide), if_neg (by decide), if_neg (by decide), if_neg (by decide), if_neg (by decide), if_neg (by decide), if_neg (by decide), if_neg (by decide), if_pos (by decide)]
    exact e1 _ _
  · have e1 : reg (W8 (x, (y, (0, (0, (0, (0, (0, 0)))))))) (ins i k).2.2.2.1 = y := by unfold ins; rw [if_neg h]; exact W_id hy
    rw [e1]
    rfl

theorem ops_get {i : Int} (hi : 0 ≤ i ∧ i ≤ 9) : F.get [(2 : Int), 3, 4, 5, 6, 7, 8, 9, 10, 11] i = some (i + 2) := by
  obtain rfl | rfl | rfl | rfl | rfl | rfl | rfl | rfl | rfl | rfl : i = 0 ∨ i = 1 ∨ i = 2 ∨ i = 3 ∨ i = 4 ∨ i = 5 ∨ i = 6 ∨ i = 7 ∨ i = 8 ∨ i = 9 := by omega
  all_goals rfl

theorem in10 {i : Int} (hi : 0 ≤ i ∧ i ≤ 9) : F.within i 10 = true := by
  unfold F.within; rw [decide_eq_true hi.1, decide_eq_true (by omega)]; rfl

section
variable {q : Bool} {x y k : Int} (hx : r32 x) (hy : r32 y) (hk : 0 ≤ k ∧ k ≤ 31) {w0 w1 w2 w3 w4 w5 w6 w7 w8 : Int}
include hx hy hk

theorem loop1 (hw : ∀ i, 0 ≤ i ∧ i ≤ 9 → F.get [w0, w1, w2, w3, w4, w5, w6, w7, w8, 1] i = some (vval (ins i k) x y)) : ∀ (m n : Nat) (i : Int), 0 ≤ i → i + m = 10 → m + 1 ≤ n →
    glazierlaw13_VmReckons_l1 400 n q x y k i w0 w1 w2 w3 w4 w5 w6 w7 w8 = some (.inr (q, ()))
  | 0, n, i, h0, hi, hn => by
    obtain ⟨n, rfl⟩ : ∃ m, n = m + 1 := ⟨n - 1, by omega⟩
    rw [glazierlaw13_VmReckons_l1, bnd_eq, lt_f (by omega), bite_f]
  | m + 1, n, i, h0, hi, hn => by
    obtain ⟨n, rfl⟩ : ∃ m, n = m + 1 := ⟨n - 1, by omega⟩
    have hi9 : 0 ≤ i ∧ i ≤ 9 := by omega
    have ih := loop1 hw m n (i + 1) (by omega) (by omega) (by omega)
    obtain ⟨z, e, h1, h2, h3, h4, h5⟩ := ins_run hx hy hk hi9
    rw [glazierlaw13_VmReckons_l1]
    simp only [bnd_eq]
    rw [lt_t (by omega), bite_t, in10 hi9, bgd_t, ops_get hi9, ob_some, bgd_t, ob_some]
    have rest : ∀ (e' : vm_Run 400 [ins i k] (0, (0, [])) (x, (y, (0, (0, (0, (0, (0, 0))))))) = some z), F.ne z.2.2 0 = false ∧ F.ne z.2.1 1 = false ∧ F.ne z.1.2.2.1 (vval (ins i k) x y) = false ∧ F.ne z.1.1 x = false ∧ F.ne z.1.2.1 y = false := fun _ => ⟨ne_f h1, ne_f h2, ne_f h3, ne_f h4, ne_f h5⟩
    obtain ⟨g1, g2, g3, g4, g5⟩ := rest e
    unfold ins at e
    by_cases c7 : i + 2 = 9
    · rw [if_pos (.inl (by omega))] at e
      rw [eq_t c7, bite_t, e, ob_some, g1, bite_f, g2, bite_f, bgd_t, hw i hi9, ob_some, g3, bite_f, g4, bite_f, g5, bite_f, addI (by omega)]
      exact ih
    rw [eq_f c7, bite_f, bgd_t, ob_some]
    by_cases c8 : i + 2 = 10
    · rw [if_pos (.inr (by omega))] at e
      rw [eq_t c8, bite_t, e, ob_some, g1, bite_f, g2, bite_f, bgd_t, hw i hi9, ob_some, g3, bite_f, g4, bite_f, g5, bite_f, addI (by omega)]
      exact ih
    rw [if_neg (by omega)] at e
    rw [eq_f c8, bite_f, e, ob_some, g1, bite_f, g2, bite_f, bgd_t, hw i hi9, ob_some, g3, bite_f, g4, bite_f, g5, bite_f, addI (by omega)]
    exact ih

theorem loop2 (hw : ∀ i, 0 ≤ i ∧ i ≤ 9 → F.get [w0, w1, w2, w3, w4, w5, w6, w7, w8, 0] i = some (vval (ins i k) x y)) : ∀ (m n : Nat) (i : Int), 0 ≤ i → i + m = 10 → m + 1 ≤ n →
    glazierlaw13_VmReckons_l2 400 n q x y k i w0 w1 w2 w3 w4 w5 w6 w7 w8 = some (.inr (q, ()))
  | 0, n, i, h0, hi, hn => by
    obtain ⟨n, rfl⟩ : ∃ m, n = m + 1 := ⟨n - 1, by omega⟩
    rw [glazierlaw13_VmReckons_l2, bnd_eq, lt_f (by omega), bite_f]
  | m + 1, n, i, h0, hi, hn => by
    obtain ⟨n, rfl⟩ : ∃ m, n = m + 1 := ⟨n - 1, by omega⟩
    have hi9 : 0 ≤ i ∧ i ≤ 9 := by omega
    have ih := loop2 hw m n (i + 1) (by omega) (by omega) (by omega)
    obtain ⟨z, e, h1, h2, h3, h4, h5⟩ := ins_run hx hy hk hi9
    rw [glazierlaw13_VmReckons_l2]
    simp only [bnd_eq]
    rw [lt_t (by omega), bite_t, in10 hi9, bgd_t, ops_get hi9, ob_some, bgd_t, ob_some]
    have rest : ∀ (e' : vm_Run 400 [ins i k] (0, (0, [])) (x, (y, (0, (0, (0, (0, (0, 0))))))) = some z), F.ne z.2.2 0 = false ∧ F.ne z.2.1 1 = false ∧ F.ne z.1.2.2.1 (vval (ins i k) x y) = false ∧ F.ne z.1.1 x = false ∧ F.ne z.1.2.1 y = false := fun _ => ⟨ne_f h1, ne_f h2, ne_f h3, ne_f h4, ne_f h5⟩
    obtain ⟨g1, g2, g3, g4, g5⟩ := rest e
    unfold ins at e
    by_cases c7 : i + 2 = 9
    · rw [if_pos (.inl (by omega))] at e
      rw [eq_t c7, bite_t, e, ob_some, g1, bite_f, g2, bite_f, bgd_t, hw i hi9, ob_some, g3, bite_f, g4, bite_f, g5, bite_f, addI (by omega)]
      exact ih
    rw [eq_f c7, bite_f, bgd_t, ob_some]
    by_cases c8 : i + 2 = 10
    · rw [if_pos (.inr (by omega))] at e
      rw [eq_t c8, bite_t, e, ob_some, g1, bite_f, g2, bite_f, bgd_t, hw i hi9, ob_some, g3, bite_f, g4, bite_f, g5, bite_f, addI (by omega)]
      exact ih
    rw [if_neg (by omega)] at e
    rw [eq_f c8, bite_f, e, ob_some, g1, bite_f, g2, bite_f, bgd_t, hw i hi9, ob_some, g3, bite_f, g4, bite_f, g5, bite_f, addI (by omega)]
    exact ih
end

theorem wants {x y k last : Int} (hl : last = if x < y then 1 else 0) : ∀ i, 0 ≤ i ∧ i ≤ 9 →
    F.get [W (x + y), W (x - y), W (Int.fdiv (x * y) 256), min x y, max x y, W ((bitop true (x % 4294967296).toNat (y % 4294967296).toNat : Nat) : Int), W ((bitop false (x % 4294967296).toNat (y % 4294967296).toNat : Nat) : Int), W (x * 2 ^ k.toNat), Int.fdiv x (2 ^ k.toNat), last] i = some (vval (ins i k) x y) := by
  intro i hi
  obtain rfl | rfl | rfl | rfl | rfl | rfl | rfl | rfl | rfl | rfl : i = 0 ∨ i = 1 ∨ i = 2 ∨ i = 3 ∨ i = 4 ∨ i = 5 ∨ i = 6 ∨ i = 7 ∨ i = 8 ∨ i = 9 := by omega
  · rfl
  · rfl
  · rfl
  · rfl
  · rfl
  · rfl
  · rfl
  · rfl
  · rfl
  · rw [hl]; rfl

theorem law0 (x0 x1 x2 : Int) (hx : -2147483648 ≤ x0 ∧ x0 ≤ 2147483647) (hy : -2147483648 ≤ x1 ∧ x1 ≤ 2147483647) (hk : 0 ≤ x2 ∧ x2 ≤ 255) : ∃ fl, glazierlaw13_VmReckons fl x0 x1 x2 = some true := by
  refine ⟨400, ?_⟩
  have hx' : r32 x0 := hx
  have hy' : r32 x1 := hy
  have m := Int.emod_lt_of_pos x2 (show (0 : Int) < 32 by decide)
  have m0 := Int.emod_nonneg x2 (show (32 : Int) ≠ 0 by decide)
  have pr := prod32 hx' hy'
  have sh := shl_in (n := (x2 % 32).toNat) hx' (by omega)
  have p2 := pow32 (n := (x2 % 32).toNat) (by omega)
  unfold glazierlaw13_VmReckons
  simp only [bnd_eq]
  rw [shown13, ob_some, convI (a := x0) (by omega), convI (a := x1) (by omega), convI (a := x2) (by omega), remB hk.1, ref_mulDiv (by omega) (by omega) (by omega) (by omega) (by decide) (by decide), ob_some, nn_t m0, bgd_t, vshl1 (by omega),
    ref_mulDiv (by omega) (by omega) (by omega) (by omega) (by decide) (by decide), ob_some, bgd_t, vshr (by omega), f_min, f_max, and32, or32]
  have c : ∀ n, F.conv .i64 (W n) = W n := fun n => by have := W_64 n; unfold i64 at this; exact convI this
  have d1 : Int.fdiv (x0 * 2 ^ (x2 % 32).toNat) 1 = x0 * 2 ^ (x2 % 32).toNat := Int.fdiv_one _
  rw [c, c, d1]
  have a1 : F.conv .i64 (F.add .i32 x0 x1) = W (x0 + x1) := c _
  have a2 : F.conv .i64 (F.sub .i32 x0 x1) = W (x0 - x1) := c _
  have a3 : ∀ z, F.conv .i64 (F.conv .i32 z) = W z := fun z => c _
  rw [a1, a2]
  simp only [a3]
  by_cases h : x0 < x1
  · rw [lt_t h, bite_t, loop1 hx' hy' (by omega) (wants (by rw [if_pos h])) 10 400 0 (by omega) (by omega) (by omega), ob_some]
    rfl
  · rw [lt_f (by omega), bite_f, loop2 hx' hy' (by omega) (wants (by rw [if_neg h])) 10 400 0 (by omega) (by omega) (by omega), ob_some]
    rfl
theorem law (x0 : (Ty.int .i32).T) (x1 : (Ty.int .i32).T) (x2 : (Ty.int .u8).T) (h0 : okT (.int .i32) x0) (h1 : okT (.int .i32) x1) (h2 : okT (.int .u8) x2) : ∃ fl, glazierlaw13_VmReckons fl x0 x1 x2 = some true :=
  law0 x0 x1 x2 (inR_i32.1 h0) (inR_i32.1 h1) (inR_u8.1 h2)
end Go.Proofs.Ytaegoofefcidnaa.vmReckons
