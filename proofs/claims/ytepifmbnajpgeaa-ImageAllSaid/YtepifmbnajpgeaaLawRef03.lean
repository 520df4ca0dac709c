/- The document's numbers as bytes. -/
import Derived.Test.YtepifmbnajpgeaaLawPut
set_option linter.unusedVariables false
namespace Go.Proofs.Ytepifmbnajpgeaa.G
open Go Go.RowKit Go.Proofs.Ytepifmbnajpgeaa.M

theorem vbn_bytes : ∀ (k x : Nat), ∀ y ∈ vbn k x, 0 ≤ y ∧ y ≤ 255
  | 0, x, y, h => by simp [vbn] at h
  | k + 1, x, y, h => by
    unfold vbn at h
    split at h
    · rw [List.mem_singleton.1 h]; omega
    · rcases List.mem_cons.1 h with rfl | h
      · omega
      · exact vbn_bytes k _ y h

theorem nb_bytes (n : Int) : ∀ y ∈ nb n, 0 ≤ y ∧ y ≤ 255 := vbn_bytes 10 _

theorem rone_in (fl : Nat) : ∀ (k n x : Nat) (acc : List Int), x < 128 ^ k → k + 1 ≤ n → 1 ≤ k → x < 18446744073709551616 → acc.length + k ≤ 90000 →
    ∃ y : Nat, y < 128 ∧ ∃ l, glazierref03_one_l1 fl n x acc = some ((y : Int), (acc ++ l, ())) ∧ l ++ [(y : Int)] = vbn k x
  | 0, n, x, acc, h, hn, h1, h64, ha => by omega
  | k + 1, n, x, acc, h, hn, h1, h64, ha => by
    obtain ⟨n, rfl⟩ : ∃ m, n = m + 1 := ⟨n - 1, by omega⟩
    rw [glazierref03_one_l1, bnd_eq]
    by_cases hx : x < 128
    · rw [ge_f (by omega), bite_f]
      refine ⟨x, hx, [], by rw [List.append_nil], ?_⟩
      unfold vbn
      rw [if_pos hx]
      rfl
    · have h7 : x / 128 < 128 ^ k := Nat.div_lt_of_lt_mul (by rw [← Nat.pow_succ']; exact h)
      have hk : 1 ≤ k := by
        cases k with
        | zero => simp at h; omega
        | succ k => omega
      obtain ⟨y, hy, l, e, hl⟩ := rone_in fl k n (x / 128) (acc ++ [((x % 128 + 128 : Nat) : Int)]) h7 (by omega) hk (by omega) (by simp; omega)
      have er : F.rem (x : Int) 128 = ((x % 128 : Nat) : Int) := by unfold F.rem; rw [Int.tmod_eq_emod_of_nonneg (by omega)]; omega
      have ec : F.conv .u8 ((x % 128 : Nat) : Int) = ((x % 128 : Nat) : Int) := byte_last (Nat.mod_lt _ (by decide))
      have ea : F.add .u8 ((x % 128 : Nat) : Int) 128 = ((x % 128 + 128 : Nat) : Int) := by
        unfold F.add
        simp [IntKind.wrap, IntKind.bits, IntKind.signed]
        omega
      have eq : F.quo .u64 (x : Int) 128 = ((x / 128 : Nat) : Int) := by
        unfold F.quo
        rw [Int.tdiv_eq_ediv_of_nonneg (by omega)]
        rw [wrapU (by omega) (by omega)]
        omega
      rw [ge_t (by omega), bite_t, bnd_eq, er, bnd_eq, ec, bnd_eq, ea, appOk_t (by simp; omega) (by decide), bgd_t, bnd_eq, bnd_eq, appK, eq]
      refine ⟨y, hy, ((x % 128 + 128 : Nat) : Int) :: l, by rw [e, List.append_assoc]; rfl, ?_⟩
      unfold vbn
      rw [if_neg hx, ← hl]
      rfl

theorem rone_spec {fl : Nat} (hfl : 12 ≤ fl) {n : Int} (h : w64 n) : glazierref03_one fl n = some (nb n) := by
  have hz := zig_lt h
  obtain ⟨y, hy, l, e, hl⟩ := rone_in fl 10 fl (zig n) [] (by omega) (by omega) (by decide) hz (by simp)
  rw [List.nil_append] at e
  have hlen := nb_len n
  have htl : l.length + 1 = (nb n).length := by rw [show nb n = l ++ [(y : Int)] from hl.symm]; simp
  have fin : (obind (glazierref03_one_l1 fl fl (zig n) []) fun q => bnd (F.conv .u8 q.1) fun v => bgd (F.appOk 1 q.2.1 [v]) (bnd (F.app q.2.1 [v]) fun v => some v)) = some (nb n) := by
    rw [e, ob_some]
    dsimp only
    rw [bnd_eq, byte_last hy, appOk_t (by simp; omega) (by decide), bgd_t, bnd_eq, appK, hl]
    rfl
  unfold w64 at h
  unfold glazierref03_one
  simp only [bnd_eq] at fin ⊢
  by_cases h0 : n < 0
  · have e1 : zig n = (-2 * n - 1).toNat := by unfold zig; rw [if_neg (by omega)]
    rw [lt_t h0, bite_t, addI (by omega), negI (by omega), convU (by omega), mulU (by omega), addU (by omega), show -(n + 1) * 2 + 1 = (zig n : Int) by omega]
    exact fin
  · have e1 : zig n = (2 * n).toNat := by unfold zig; rw [if_pos (by omega)]
    rw [lt_f (by omega), bite_f, convU (by omega), mulU (by omega), show n * 2 = (zig n : Int) by omega]
    exact fin

theorem rput_loop {fl : Nat} (hfl : 12 ≤ fl) {l : List Int} (hl : ∀ x ∈ l, w64 x) (hs : l.length ≤ 8000) : ∀ (k n i : Nat) (acc : List Int), i + k = l.length → k + 1 ≤ n → acc.length + 10 * k ≤ 85000 →
    glazierref03_Put_l1 fl n l acc i = some (acc ++ (l.drop i).flatMap nb, ())
  | 0, n, i, acc, hi, hn, ha => by
    obtain ⟨n, rfl⟩ : ∃ m, n = m + 1 := ⟨n - 1, by omega⟩
    rw [glazierref03_Put_l1, bnd_eq, bnd_eq, lenK, lt_f (by omega), bite_f, List.drop_eq_nil_of_le (by omega), List.flatMap_nil, List.append_nil]
  | k + 1, n, i, acc, hi, hn, ha => by
    obtain ⟨n, rfl⟩ : ∃ m, n = m + 1 := ⟨n - 1, by omega⟩
    have h : i < l.length := by omega
    have hlen := nb_len l[i]
    rw [glazierref03_Put_l1]
    simp only [bnd_eq]
    rw [lenK, lt_t (by omega), bite_t, lgetK h, ob_some, rone_spec hfl (hl _ (List.getElem_mem h)), ob_some, appOk_t (by omega) (by decide), bgd_t, appK, addI (by omega)]
    have := rput_loop hfl hl hs k n (i + 1) (acc ++ nb l[i]) (by omega) (by omega) (by simp; omega)
    rw [Int.natCast_add] at this
    refine this.trans ?_
    rw [ldrop h, List.flatMap_cons, List.append_assoc]

theorem rput_spec {fl : Nat} (hfl : 12 ≤ fl) {l : List Int} (hfl2 : l.length + 1 ≤ fl) (hl : ∀ x ∈ l, w64 x) (hs : l.length ≤ 8000) : glazierref03_Put fl l = some (l.flatMap nb) := by
  unfold glazierref03_Put
  have := rput_loop hfl hl hs l.length fl 0 [] (by omega) (by omega) (by simp; omega)
  rw [show ((0 : Nat) : Int) = 0 from rfl] at this
  rw [this, ob_some]
  rfl

theorem flat_nb_len : ∀ l : List Int, (l.flatMap nb).length ≤ 10 * l.length
  | [] => by simp
  | x :: l => by
    have := flat_nb_len l
    have h := nb_len x
    rw [List.flatMap_cons, List.length_append, List.length_cons]
    omega

theorem flat_nb_bytes (l : List Int) : ∀ x ∈ l.flatMap nb, 0 ≤ x ∧ x ≤ 255 := fun x hx => by
  obtain ⟨n, _, h⟩ := List.mem_flatMap.1 hx
  exact nb_bytes n x h
end Go.Proofs.Ytepifmbnajpgeaa.G
