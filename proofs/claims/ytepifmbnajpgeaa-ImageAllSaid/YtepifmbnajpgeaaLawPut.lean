/- Numbers as bytes; images as bytes. -/
import Derived.Test.YtepifmbnajpgeaaLawRuns
set_option linter.unusedVariables false
namespace Go.Proofs.Ytepifmbnajpgeaa.G
open Go Go.RowKit Go.Proofs.Ytepifmbnajpgeaa.M

/-- A number without sign, of one with. -/
def zig (n : Int) : Nat := if 0 ≤ n then (2 * n).toNat else (-2 * n - 1).toNat

def vbn : Nat → Nat → List Int
  | 0, _ => []
  | k + 1, x => if x < 128 then [(x : Int)] else ((x % 128 + 128 : Nat) : Int) :: vbn k (x / 128)

/-- The bytes of a number. -/
def nb (n : Int) : List Int := vbn 10 (zig n)

def w64 (n : Int) : Prop := -9223372036854775808 ≤ n ∧ n ≤ 9223372036854775807

theorem xor0 {a : Int} (h : 0 ≤ a ∧ a < 18446744073709551616) : F.xor .u64 a 0 = a := by
  unfold F.xor
  rw [show BitVec.ofInt IntKind.u64.bits 0 = 0#(IntKind.u64.bits) from rfl, BitVec.xor_zero, BitVec.toNat_ofInt]
  simp only [IntKind.wrap, IntKind.bits, IntKind.signed]
  simp
  omega

theorem xor1 {a : Int} (h : 0 ≤ a ∧ a < 18446744073709551616) : F.xor .u64 a 18446744073709551615 = 18446744073709551615 - a := by
  unfold F.xor
  rw [show BitVec.ofInt IntKind.u64.bits 18446744073709551615 = BitVec.allOnes IntKind.u64.bits by decide, BitVec.xor_allOnes, BitVec.toNat_not, BitVec.toNat_ofInt]
  simp only [IntKind.wrap, IntKind.bits, IntKind.signed]
  simp
  omega

theorem zig_spec {n : Int} (h : w64 n) : F.xor .u64 (F.shl .u64 (F.conv .u64 n) 1) (F.conv .u64 (F.shr .i64 n 63)) = (zig n : Int) := by
  unfold w64 at h
  have hs : F.shr .i64 n 63 = if 0 ≤ n then 0 else -1 := by
    have e : F.shr .i64 n 63 = Int.fdiv n 9223372036854775808 := by
      unfold F.shr
      simp [IntKind.bits]
    rw [e]
    split
    · exact fdiv_at (by decide) (by omega) (by omega)
    · exact fdiv_at (by decide) (by omega) (by omega)
  have hl : ∀ a : Int, F.shl .u64 a 1 = (a * 2) % 18446744073709551616 := fun a => by
    unfold F.shl
    simp [IntKind.wrap, IntKind.bits, IntKind.signed]
  have hc : ∀ a : Int, F.conv .u64 a = a % 18446744073709551616 := fun a => by
    unfold F.conv
    simp [IntKind.wrap, IntKind.bits, IntKind.signed]
  rw [hs, hl, hc, hc]
  unfold zig
  by_cases h0 : 0 ≤ n
  · rw [if_pos h0, if_pos h0, show (0 : Int) % 18446744073709551616 = 0 from rfl, xor0 (by omega)]
    omega
  · rw [if_neg h0, if_neg h0, show (-1 : Int) % 18446744073709551616 = 18446744073709551615 from rfl, xor1 (by omega)]
    omega

theorem zig_lt {n : Int} (h : w64 n) : zig n < 18446744073709551616 := by
  unfold w64 at h
  unfold zig
  split <;> omega

theorem or128 : ∀ y : Fin 256, F.or .u8 (y.val : Int) 128 = ((y.val % 128 + 128 : Nat) : Int) := by decide +kernel

theorem byte_or (x : Nat) : F.or .u8 (F.conv .u8 (x : Int)) 128 = ((x % 128 + 128 : Nat) : Int) := by
  have h := or128 ⟨x % 256, Nat.mod_lt _ (by decide)⟩
  simp only at h
  have e : F.conv .u8 (x : Int) = ((x % 256 : Nat) : Int) := by
    unfold F.conv
    simp [IntKind.wrap, IntKind.bits, IntKind.signed]
  rw [e, h]
  omega

theorem byte_last {x : Nat} (h : x < 128) : F.conv .u8 (x : Int) = (x : Int) := by
  unfold F.conv
  simp [IntKind.wrap, IntKind.bits, IntKind.signed]
  omega

theorem shr7 (x : Nat) : F.shr .u64 (x : Int) 7 = ((x / 128 : Nat) : Int) := by
  have e : F.shr .u64 (x : Int) 7 = Int.fdiv (x : Int) 128 := by unfold F.shr; simp [IntKind.bits]
  rw [e]
  exact fdiv_at (by decide) (by omega) (by omega)

theorem vbn_len : ∀ (k x : Nat), (vbn k x).length ≤ k
  | 0, x => Nat.le_refl _
  | k + 1, x => by
    unfold vbn
    split
    · simp
    · have := vbn_len k (x / 128); simp; omega

theorem nb_len (n : Int) : (nb n).length ≤ 10 := vbn_len 10 _

theorem put_in (fl : Nat) (a : List Int) (b : Int) (c : Int) : ∀ (k n x : Nat) (acc : List Int), x < 128 ^ k → k + 1 ≤ n → 1 ≤ k → acc.length + k ≤ 90000 →
    ∃ y : Nat, y < 128 ∧ ∃ l, wire_Put_l1 fl n acc x a b c = some (acc ++ l, ((y : Int), (a, (b, (c, ()))))) ∧ l ++ [(y : Int)] = vbn k x
  | 0, n, x, acc, h, hn, h1, ha => by omega
  | k + 1, n, x, acc, h, hn, h1, ha => by
    obtain ⟨n, rfl⟩ : ∃ m, n = m + 1 := ⟨n - 1, by omega⟩
    rw [wire_Put_l1, bnd_eq]
    by_cases hx : x < 128
    · rw [ge_f (by omega), bite_f]
      refine ⟨x, hx, [], by rw [List.append_nil], ?_⟩
      unfold vbn
      rw [if_pos hx]
      rfl
    · have h7 : x / 128 < 128 ^ k := Nat.div_lt_of_lt_mul (by rw [← Nat.pow_succ']; exact h)
      have hk : 1 ≤ k := by
        cases k with
        | zero => simp at h; omega
        | succ k => omega
      obtain ⟨y, hy, l, e, hl⟩ := put_in fl a b c k n (x / 128) (acc ++ [((x % 128 + 128 : Nat) : Int)]) h7 (by omega) hk (by simp; omega)
      rw [ge_t (by omega), bite_t, bnd_eq, bnd_eq, byte_or, appOk_t (by simp; omega) (by decide), bgd_t, bnd_eq, bnd_eq, appK, shr7]
      refine ⟨y, hy, ((x % 128 + 128 : Nat) : Int) :: l, by rw [e, List.append_assoc]; rfl, ?_⟩
      unfold vbn
      rw [if_neg hx, ← hl]
      rfl

theorem put_loop {fl : Nat} (hfl : 12 ≤ fl) {l : List Int} (hl : ∀ x ∈ l, w64 x) (hs : l.length ≤ 8000) : ∀ (k n i : Nat) (acc : List Int), i + k = l.length → k + 1 ≤ n → acc.length + 10 * k ≤ 85000 →
    wire_Put_l2 fl n acc l l.length i = some (acc ++ (l.drop i).flatMap nb, ())
  | 0, n, i, acc, hi, hn, ha => by
    obtain ⟨n, rfl⟩ : ∃ m, n = m + 1 := ⟨n - 1, by omega⟩
    rw [wire_Put_l2, bnd_eq, lt_f (by omega), bite_f, List.drop_eq_nil_of_le (by omega), List.flatMap_nil, List.append_nil]
  | k + 1, n, i, acc, hi, hn, ha => by
    obtain ⟨n, rfl⟩ : ∃ m, n = m + 1 := ⟨n - 1, by omega⟩
    have h : i < l.length := by omega
    have hx := hl _ (List.getElem_mem h)
    obtain ⟨y, hy, t, e, ht⟩ := put_in fl l l.length i 10 fl (zig l[i]) acc (by have := zig_lt hx; omega) (by omega) (by decide) (by omega)
    have hlen := nb_len l[i]
    have htl : t.length + 1 = (nb l[i]).length := by rw [show nb l[i] = t ++ [(y : Int)] from ht.symm]; simp
    rw [wire_Put_l2, bnd_eq, lt_t (by omega), bite_t, lgetK h, ob_some]
    simp only [bnd_eq]
    rw [zig_spec hx, e, ob_some]
    dsimp only
    rw [byte_last hy, appOk_t (by simp; omega) (by decide), bgd_t, appK, List.append_assoc, ht, addI (by omega)]
    have := put_loop hfl hl hs k n (i + 1) (acc ++ vbn 10 (zig l[i])) (by omega) (by omega) (by have : (vbn 10 (zig l[i])).length = (nb l[i]).length := rfl; simp; omega)
    rw [Int.natCast_add] at this
    refine this.trans ?_
    rw [ldrop h, List.flatMap_cons, List.append_assoc]
    rfl

theorem put_spec {fl : Nat} (hfl : 12 ≤ fl) {l : List Int} (hfl2 : l.length + 1 ≤ fl) (hl : ∀ x ∈ l, w64 x) (hs : l.length ≤ 8000) : wire_Put fl l = some (l.flatMap nb) := by
  unfold wire_Put
  rw [bnd_eq, lenK]
  have := put_loop hfl hl hs l.length fl 0 [] (by omega) (by omega) (by simp; omega)
  rw [show ((0 : Nat) : Int) = 0 from rfl] at this
  rw [this, ob_some]
  rfl

/-! ### Images -/
def byteP (x : Int) : Prop := 0 ≤ x ∧ x ≤ 255
def pxB (c : Px) : Prop := byteP c.1 ∧ byteP c.2.1 ∧ byteP c.2.2.1 ∧ byteP c.2.2.2

/-- The bytes of a run. -/
def runB (q : Nat × Px) : List Int := nb q.1 ++ (nb q.2.1 ++ (nb q.2.2.1 ++ (nb q.2.2.2.1 ++ nb q.2.2.2.2)))

theorem nb_one {n : Int} (h : 0 ≤ n ∧ n < 64) : (nb n).length = 1 := by
  have : zig n < 128 := by unfold zig; rw [if_pos h.1]; omega
  unfold nb vbn
  rw [if_pos this]
  rfl

theorem nb_two {n : Int} (h : 0 ≤ n ∧ n < 8192) : (nb n).length ≤ 2 := by
  have : zig n < 16384 := by unfold zig; rw [if_pos h.1]; omega
  unfold nb vbn
  split
  · simp
  · unfold vbn
    rw [if_pos (by omega)]
    simp

theorem runB_len {q : Nat × Px} (hk : 1 ≤ q.1 ∧ q.1 < 8192) (hc : pxB q.2) : (runB q).length ≤ 10 ∧ (runB q).length ≤ 9 * q.1 := by
  obtain ⟨p1, p2, p3, p4⟩ := hc
  unfold byteP at p1 p2 p3 p4
  have h1 := nb_two (n := q.1) (by omega)
  have h2 := nb_two (n := q.2.1) (by omega); have h3 := nb_two (n := q.2.2.1) (by omega); have h4 := nb_two (n := q.2.2.2.1) (by omega); have h5 := nb_two (n := q.2.2.2.2) (by omega)
  refine ⟨by simp [runB]; omega, ?_⟩
  by_cases h : q.1 < 64
  · have := nb_one (n := q.1) (by omega)
    simp [runB]; omega
  · simp [runB]; omega

theorem iput_in (fl : Nat) (l a b : List Px) (w h : Int) (acc : List Int) (from_ : Nat) (c : Px) (hc : ∃ h : from_ < l.length, l[from_] = c) (hl : l.length ≤ 100000) : ∀ (n e : Nat), e ≤ l.length → l.length - e + 1 ≤ n →
    image_Put_i25_l1 fl n l from_ e a w h b acc = some (l, ((from_ : Int), (((e + grp c (l.drop e) : Nat) : Int), (a, (w, (h, (b, (acc, ()))))))))
  | 0, e, he, hn => by omega
  | n + 1, e, he, hn => by
    rw [image_Put_i25_l1]
    simp only [bnd_eq]
    rw [lenK]
    by_cases hh : e < l.length
    · obtain ⟨hf, hc'⟩ := hc
      rw [lt_t (by omega), bite_t, lgetK hh, ob_some, lgetK hf, ob_some, eqPx, hc', ldrop hh]
      by_cases hx : l[e] = c
      · rw [decide_eq_true hx, bite_t, addI (by omega)]
        have := iput_in fl l a b w h acc from_ c ⟨hf, hc'⟩ hl n (e + 1) (by omega) (by omega)
        rw [Int.natCast_add] at this
        refine this.trans ?_
        rw [grp_cons, if_pos hx, show e + 1 + grp c (l.drop (e + 1)) = e + (grp c (l.drop (e + 1)) + 1) by omega]
      · rw [decide_eq_false hx, bite_f]
        rw [grp_cons, if_neg hx]
        rfl
    · rw [lt_f (by omega), bite_f, List.drop_eq_nil_of_le (by omega)]
      rfl

theorem iput_loop {fl : Nat} (h12 : 12 ≤ fl) {l a b : List Px} {w h : Int} (hfl : l.length + 2 ≤ fl) (hl : l.length ≤ 8000) (hb : ∀ c ∈ l, pxB c) : ∀ (k n i : Nat) (acc : List Int), i ≤ l.length → l.length - i ≤ k → k + 1 ≤ n → acc.length + 10 * (l.length - i) ≤ 81000 →
    image_Put_i25_l2 fl n l i i a w h b acc = some (a, (w, (h, (b, (acc ++ (runs k (l.drop i)).flatMap runB, ())))))
  | k, 0, i, acc, hi, hk, hn, ha => by omega
  | k, n + 1, i, acc, hi, hk, hn, ha => by
    rw [image_Put_i25_l2]
    simp only [bnd_eq]
    rw [lenK]
    by_cases hh : i < l.length
    · obtain ⟨k, rfl⟩ : ∃ j, k = j + 1 := ⟨k - 1, by omega⟩
      have hg := grp_le l[i] (l.drop (i + 1))
      rw [List.length_drop] at hg
      obtain ⟨p1, p2, p3, p4⟩ := hb _ (List.getElem_mem hh)
      unfold byteP at p1 p2 p3 p4
      rw [lt_t (by omega), bite_t, iput_in fl l a b w h _ i l[i] ⟨hh, rfl⟩ (by omega) fl i hi (by omega), ob_some]
      dsimp only
      have hgi : grp l[i] (l.drop i) = grp l[i] (l.drop (i + 1)) + 1 := by rw [ldrop hh, grp_cons, if_pos rfl]
      have hr : runs (k + 1) (l.drop i) = (grp l[i] (l.drop (i + 1)) + 1, l[i]) :: runs k (l.drop (i + (grp l[i] (l.drop (i + 1)) + 1))) := by
        rw [ldrop hh, runs_cons, List.drop_drop, show i + 1 + grp l[i] (l.drop (i + 1)) = i + (grp l[i] (l.drop (i + 1)) + 1) by omega]
      rw [hgi, hr]
      have hg0 : 1 ≤ grp l[i] (l.drop (i + 1)) + 1 ∧ i + (grp l[i] (l.drop (i + 1)) + 1) ≤ l.length := by omega
      clear hg hgi hr
      generalize grp l[i] (l.drop (i + 1)) + 1 = g at *
      rw [subI (by omega), lgetK hh, ob_some, show ((i + g : Nat) : Int) - (i : Int) = (g : Int) by omega, convI (by omega), convI (by omega), convI (by omega), convI (by omega), put_spec h12 (by simp; omega) (fun x hx => by
        simp only [List.mem_cons, List.not_mem_nil, or_false] at hx
        unfold w64
        rcases hx with rfl | rfl | rfl | rfl | rfl <;> omega) (by simp), ob_some]
      have e : ([(g : Int), l[i].1, l[i].2.1, l[i].2.2.1, l[i].2.2.2] : List Int).flatMap nb = runB (g, l[i]) := by simp [runB]
      have el := (runB_len (q := (g, l[i])) ⟨hg0.1, by simp only; omega⟩ (hb _ (List.getElem_mem hh))).1
      rw [e, appOk_t (by omega) (by decide), bgd_t, appK, iput_loop h12 hfl hl hb k n (i + g) (acc ++ runB (g, l[i])) (by omega) (by omega) (by omega) (by rw [List.length_append]; omega), List.flatMap_cons, List.append_assoc]
    · rw [lt_f (by omega), bite_f, List.drop_eq_nil_of_le (by omega)]
      have : runs k ([] : List Px) = [] := by cases k <;> rfl
      rw [this, List.flatMap_nil, List.append_nil]

/-- The bytes of an image. -/
def imB (w h : Int) (l : List Px) : List Int := nb w ++ (nb h ++ (runs l.length l).flatMap runB)

theorem iput_ok {fl : Nat} (h12 : 12 ≤ fl) {w h : Int} {l : List Px} (hw : 1 ≤ w ∧ w ≤ 64) (hh : 1 ≤ h ∧ h ≤ 64) (hl : (l.length : Int) = w * h) (h16 : l.length ≤ 8000) (hfl : l.length + 2 ≤ fl) (hb : ∀ c ∈ l, pxB c) : image_Put fl (w, (h, l)) = some (imB w h l, 0) := by
  unfold image_Put
  simp only [bnd_eq]
  have hp : w * h ≤ 9223372036854775807 := by omega
  rw [f_min, lt_f (by omega), bite_f, f_max, gt_f (by omega), bite_f, lenK, mulI (by omega), ne_f hl, bite_f, put_spec h12 (by simp; omega) (fun x hx => by
    simp only [List.mem_cons, List.not_mem_nil, or_false] at hx
    unfold w64
    rcases hx with rfl | rfl <;> omega) (by simp), ob_some]
  unfold image_Runs
  rw [ob_some]
  have h1 := nb_len w
  have h2 := nb_len h
  have := iput_loop (fl := fl) h12 (l := l) (a := l) (b := l) (w := w) (h := h) hfl h16 hb l.length fl 0 ([w, h].flatMap nb) (by omega) (by omega) (by omega) (by simp; omega)
  rw [show ((0 : Nat) : Int) = 0 from rfl] at this
  rw [this, ob_some]
  dsimp only
  rw [List.drop_zero]
  unfold imB
  simp

theorem iput_no {fl : Nat} {w h : Int} {l : List Px} (hl : l.length ≤ 100000) (hw : w64 w) (hh : w64 h) (hn : ¬ ((1 ≤ w ∧ w ≤ 64) ∧ (1 ≤ h ∧ h ≤ 64) ∧ (l.length : Int) = w * h)) : image_Put fl (w, (h, l)) = some ([], 1) := by
  unfold image_Put
  simp only [bnd_eq]
  rw [f_min]
  by_cases c1 : min w h < 1
  · rw [lt_t c1, bite_t]
  · rw [lt_f (by omega), bite_f, f_max]
    by_cases c2 : 64 < max w h
    · rw [gt_t c2, bite_t]
    · have a1 : 1 ≤ w ∧ w ≤ 64 := by omega
      have a2 : 1 ≤ h ∧ h ≤ 64 := by omega
      have b1 : 0 ≤ w * h := Int.mul_nonneg (by omega) (by omega)
      have b2 : w * h ≤ 64 * 64 := Int.mul_le_mul (by omega) (by omega) (by omega) (by decide)
      rw [gt_f (by omega), bite_f, lenK, mulI (by omega), ne_t (fun e => hn ⟨a1, a2, e⟩), bite_t]
end Go.Proofs.Ytepifmbnajpgeaa.G
