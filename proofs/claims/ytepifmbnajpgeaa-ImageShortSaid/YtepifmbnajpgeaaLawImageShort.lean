/- ImageShort holds. Printed by law_short.py. -/
import Derived.Test.YtepifmbnajpgeaaLawPut
import Derived.KernelRfl
set_option linter.unusedVariables false
namespace Go.Proofs.Ytepifmbnajpgeaa.imageShort
open Go Go.RowKit Go.Proofs.Ytepifmbnajpgeaa.M Go.Proofs.Ytepifmbnajpgeaa.G Go.Proofs

/-- One colour and the other. -/
def alt (c d : Px) : Nat → Nat → List Px
  | _, 0 => []
  | i, k + 1 => (if i % 2 = 0 then c else d) :: alt c d (i + 1) k

theorem alt_len (c d : Px) : ∀ (k i : Nat), (alt c d i k).length = k
  | 0, i => rfl
  | k + 1, i => by unfold alt; simp [alt_len c d k]

theorem alt_in (c d : Px) : ∀ (k i : Nat), ∀ x ∈ alt c d i k, x = c ∨ x = d
  | 0, i, x, h => by simp [alt] at h
  | k + 1, i, x, h => by
    unfold alt at h
    rcases List.mem_cons.1 h with rfl | h
    · split
      · exact .inl rfl
      · exact .inr rfl
    · exact alt_in c d k _ x h

theorem alt_same (c : Px) : ∀ (k i : Nat), alt c c i k = List.replicate k c
  | 0, i => rfl
  | k + 1, i => by unfold alt; rw [alt_same c k, List.replicate_succ]; simp

theorem and1 (i : Nat) (h : i < 100000) : F.and .i64 (i : Int) 1 = ((i % 2 : Nat) : Int) := by
  unfold F.and
  rw [BitVec.toNat_and, BitVec.toNat_ofInt, BitVec.toNat_ofInt]
  have e1 : ((i : Int) % ((2 ^ IntKind.i64.bits : Nat) : Int)).toNat = i := by simp only [IntKind.bits]; omega
  have e2 : ((1 : Int) % ((2 ^ IntKind.i64.bits : Nat) : Int)).toNat = 1 := by decide
  rw [e1, e2, Nat.and_one_is_mod]
  exact wrapI (by omega) (by omega)

theorem grp_rep (c : Px) : ∀ k : Nat, grp c (List.replicate k c) = k
  | 0 => rfl
  | k + 1 => by rw [List.replicate_succ, grp_cons, if_pos rfl, grp_rep c k]

theorem runs_rep (c : Px) {k : Nat} (h : 1 ≤ k) : runs k (List.replicate k c) = [(k, c)] := by
  obtain ⟨k, rfl⟩ : ∃ m, k = m + 1 := ⟨k - 1, by omega⟩
  rw [List.replicate_succ, runs_cons, grp_rep, List.drop_eq_nil_of_le (by simp)]
  cases k <;> rfl

theorem flat_len : ∀ R : List (Nat × Px), (∀ q ∈ R, (1 ≤ q.1 ∧ q.1 < 8192) ∧ pxB q.2) → (R.flatMap runB).length ≤ 9 * (spread R).length
  | [], h => by simp [spread]
  | q :: R, h => by
    have ih := flat_len R fun x hx => h x (List.mem_cons_of_mem _ hx)
    obtain ⟨h1, h2⟩ := h q (by simp)
    have := (runB_len h1 h2).2
    unfold spread at ih ⊢
    rw [List.flatMap_cons, List.flatMap_cons, List.length_append, List.length_append, List.length_replicate]
    omega

theorem im_len {w h : Int} {l : List Px} (hw : 1 ≤ w ∧ w ≤ 64) (hh : 1 ≤ h ∧ h ≤ 64) (hl : l.length ≤ 4096) (hb : ∀ c ∈ l, pxB c) : (imB w h l).length ≤ 4 + 9 * l.length := by
  have h1 := nb_two (n := w) (by omega)
  have h2 := nb_two (n := h) (by omega)
  have h3 := flat_len (runs l.length l) fun q hq => by
    obtain ⟨a1, a2, a3⟩ := runs_in l.length l q hq
    exact ⟨⟨a1, by omega⟩, hb _ a3⟩
  rw [runs_spread _ _ (Nat.le_refl _)] at h3
  unfold imB
  rw [List.length_append, List.length_append]
  omega

theorem im_one {w h : Int} {c : Px} {k : Nat} (hw : 1 ≤ w ∧ w ≤ 64) (hh : 1 ≤ h ∧ h ≤ 64) (hk : 1 ≤ k ∧ k ≤ 4096) (hb : pxB c) : (imB w h (List.replicate k c)).length ≤ 14 := by
  have h1 := nb_two (n := w) (by omega)
  have h2 := nb_two (n := h) (by omega)
  have h3 := (runB_len (q := (k, c)) ⟨hk.1, by simp only; omega⟩ hb).1
  unfold imB
  rw [List.length_replicate, runs_rep c hk.1, List.length_append, List.length_append, List.flatMap_cons, List.flatMap_nil, List.append_nil]
  omega

theorem l1 (fl : Nat) (h : Bool) (c d : Px) {w hh : Int} {m : Nat} (hm : w * hh = (m : Int)) (hs : m ≤ 4096) : ∀ (k n i : Nat) (P Q : List Px), i + k = m → k + 1 ≤ n → P.length = i → Q.length = i →
    glazierlaw24_ImageShort_l1 fl n h w hh i c.1 c.2.1 c.2.2.1 c.2.2.2 d.1 d.2.1 d.2.2.1 d.2.2.2 w hh P w hh Q = some (h, (w, (hh, (c.1, (c.2.1, (c.2.2.1, (c.2.2.2, (d.1, (d.2.1, (d.2.2.1, (d.2.2.2, (w, (hh, (P ++ List.replicate k c, (w, (hh, (Q ++ alt c d i k, ())))))))))))))))))
  | 0, n, i, P, Q, hi, hn, hP, hQ => by
    obtain ⟨n, rfl⟩ : ∃ m, n = m + 1 := ⟨n - 1, by omega⟩
    rw [glazierlaw24_ImageShort_l1, bnd_eq, bnd_eq, mulI (by omega), hm, lt_f (by omega), bite_f]
    simp only [List.replicate_zero, alt, List.append_nil]
  | k + 1, n, i, P, Q, hi, hn, hP, hQ => by
    obtain ⟨n, rfl⟩ : ∃ m, n = m + 1 := ⟨n - 1, by omega⟩
    rw [glazierlaw24_ImageShort_l1]
    simp only [bnd_eq]
    rw [mulI (by omega), hm, lt_t (by omega), bite_t, appOk_t (by simp; omega) (by decide), bgd_t, appK, and1 i (by omega)]
    have hg : F.get [c, d] ((i % 2 : Nat) : Int) = some (if i % 2 = 0 then c else d) := by
      rcases Nat.mod_two_eq_zero_or_one i with e | e <;> rw [e] <;> rfl
    rw [show F.within ((i % 2 : Nat) : Int) 2 = true by unfold F.within; rw [decide_eq_true (by omega), decide_eq_true (by omega)]; rfl, bgd_t, show (F.get [(c.1, (c.2.1, (c.2.2.1, c.2.2.2))), (d.1, (d.2.1, (d.2.2.1, d.2.2.2)))] ((i % 2 : Nat) : Int)) = some (if i % 2 = 0 then c else d) from hg, ob_some, appOk_t (by simp; omega) (by decide), bgd_t, appK, addI (by omega)]
    have := l1 fl h c d hm hs k n (i + 1) (P ++ [c]) (Q ++ [if i % 2 = 0 then c else d]) (by omega) (by omega) (by simp; omega) (by simp; omega)
    rw [Int.natCast_add] at this
    refine this.trans ?_
    rw [List.append_assoc, List.append_assoc, List.replicate_succ]
    rfl

theorem l2 (fl : Nat) (z : Int) (h : Bool) (c d : Px) {w hh : Int} {m : Nat} (hm : w * hh = (m : Int)) (hs : m ≤ 4096) : ∀ (k n i : Nat) (P Q : List Px), i + k = m → k + 1 ≤ n → P.length = i → Q.length = i →
    glazierlaw24_ImageShort_l2 fl n z h w hh i c.1 c.2.1 c.2.2.1 c.2.2.2 d.1 d.2.1 d.2.2.1 d.2.2.2 w hh P w hh Q = some (z, (h, (w, (hh, (c.1, (c.2.1, (c.2.2.1, (c.2.2.2, (d.1, (d.2.1, (d.2.2.1, (d.2.2.2, (w, (hh, (P ++ List.replicate k c, (w, (hh, (Q ++ alt c d i k, ()))))))))))))))))))
  | 0, n, i, P, Q, hi, hn, hP, hQ => by
    obtain ⟨n, rfl⟩ : ∃ m, n = m + 1 := ⟨n - 1, by omega⟩
    rw [glazierlaw24_ImageShort_l2, bnd_eq, bnd_eq, mulI (by omega), hm, lt_f (by omega), bite_f]
    simp only [List.replicate_zero, alt, List.append_nil]
  | k + 1, n, i, P, Q, hi, hn, hP, hQ => by
    obtain ⟨n, rfl⟩ : ∃ m, n = m + 1 := ⟨n - 1, by omega⟩
    rw [glazierlaw24_ImageShort_l2]
    simp only [bnd_eq]
    rw [mulI (by omega), hm, lt_t (by omega), bite_t, appOk_t (by simp; omega) (by decide), bgd_t, appK, and1 i (by omega)]
    have hg : F.get [c, d] ((i % 2 : Nat) : Int) = some (if i % 2 = 0 then c else d) := by
      rcases Nat.mod_two_eq_zero_or_one i with e | e <;> rw [e] <;> rfl
    rw [show F.within ((i % 2 : Nat) : Int) 2 = true by unfold F.within; rw [decide_eq_true (by omega), decide_eq_true (by omega)]; rfl, bgd_t, show (F.get [(c.1, (c.2.1, (c.2.2.1, c.2.2.2))), (d.1, (d.2.1, (d.2.2.1, d.2.2.2)))] ((i % 2 : Nat) : Int)) = some (if i % 2 = 0 then c else d) from hg, ob_some, appOk_t (by simp; omega) (by decide), bgd_t, appK, addI (by omega)]
    have := l2 fl z h c d hm hs k n (i + 1) (P ++ [c]) (Q ++ [if i % 2 = 0 then c else d]) (by omega) (by omega) (by simp; omega) (by simp; omega)
    rw [Int.natCast_add] at this
    refine this.trans ?_
    rw [List.append_assoc, List.append_assoc, List.replicate_succ]
    rfl

theorem cutOk1 {l : List Px} (h : 1 ≤ l.length) : F.cutOk l 1 (F.len l) = true := by
  unfold F.cutOk; rw [lenK, decide_eq_true (by decide), decide_eq_true (by omega), decide_eq_true (by omega)]; rfl

theorem cut1 (l : List Px) : (F.cut l 1 (F.len l)).length = l.length - 1 := by
  unfold F.cut
  rw [lenK, Int.toNat_natCast, List.take_length, List.length_drop]
  rfl

theorem shown : glazierlaw24_shown 5000 = some true := by decide +kernel


abbrev Tp := Bool × Int × Int × Int × Int × Int × Int × Int × Int × Int × Int × Int × Int × (List (Int × Int × Int × Int)) × Int × Int × (List (Int × Int × Int × Int)) × Unit

noncomputable def tl (fl : Nat) (t : Tp) (odd : Int) : Option Bool :=
  obind (image_Put fl (t.2.2.2.2.2.2.2.2.2.2.2.1, (t.2.2.2.2.2.2.2.2.2.2.2.2.1, t.2.2.2.2.2.2.2.2.2.2.2.2.2.1))) fun q13 =>
  obind (image_Put fl (t.2.2.2.2.2.2.2.2.2.2.2.2.2.2.1, (t.2.2.2.2.2.2.2.2.2.2.2.2.2.2.2.1, t.2.2.2.2.2.2.2.2.2.2.2.2.2.2.2.2.1))) fun q14 =>
  bgd (F.cutOk t.2.2.2.2.2.2.2.2.2.2.2.2.2.1 1 (F.len t.2.2.2.2.2.2.2.2.2.2.2.2.2.1)) (
    bnd (F.cut t.2.2.2.2.2.2.2.2.2.2.2.2.2.1 1 (F.len t.2.2.2.2.2.2.2.2.2.2.2.2.2.1)) fun v15 =>
    obind (image_Put fl (t.2.2.2.2.2.2.2.2.2.2.2.1, (t.2.2.2.2.2.2.2.2.2.2.2.2.1, v15))) fun q16 =>
    obind (image_Put fl (t.2.2.2.2.2.2.2.2.2.2.2.1, (odd, t.2.2.2.2.2.2.2.2.2.2.2.2.2.1))) fun q17 =>
    bgd (F.appOk (α := Unit) 4 [] t.2.2.2.2.2.2.2.2.2.2.2.2.2.1) (
      bgd (F.appOk 4 (F.app [] t.2.2.2.2.2.2.2.2.2.2.2.2.2.1) [(t.2.2.2.2.2.2.2.1, (t.2.2.2.2.2.2.2.2.1, (t.2.2.2.2.2.2.2.2.2.1, t.2.2.2.2.2.2.2.2.2.2.1)))]) (
        obind (image_Put fl (t.2.2.2.2.2.2.2.2.2.2.2.1, (t.2.2.2.2.2.2.2.2.2.2.2.2.1, (F.app (F.app [] t.2.2.2.2.2.2.2.2.2.2.2.2.2.1) [(t.2.2.2.2.2.2.2.1, (t.2.2.2.2.2.2.2.2.1, (t.2.2.2.2.2.2.2.2.2.1, t.2.2.2.2.2.2.2.2.2.2.1)))])))) fun q18 =>
        bite t.1 (
          bnd (F.eq q13.2 0) fun v19 =>
          bite v19 (
            bnd (F.eq q14.2 0) fun v20 =>
            bite v20 (
              bnd (F.len q13.1) fun v21 =>
              bnd (F.le v21 14) fun v22 =>
              bite v22 (
                bnd (F.len q14.1) fun v23 =>
                bnd (F.mul .i64 9 t.2.1) fun v24 =>
                bnd (F.mul .i64 v24 t.2.2.1) fun v25 =>
                bnd (F.add .i64 4 v25) fun v26 =>
                bnd (F.le v23 v26) fun v27 =>
                bite v27 (
                  bnd (F.eq q16.2 1) fun v28 =>
                  bite v28 (
                    bnd (F.eq q17.2 1) fun v29 =>
                    bite v29 (
                      bnd (F.eq q18.2 1) fun v30 =>
                      bite v30 (
                        bnd (F.not (F.both (F.eq t.2.2.2.1 t.2.2.2.2.2.2.2.1) (F.both (F.eq t.2.2.2.2.1 t.2.2.2.2.2.2.2.2.1) (F.both (F.eq t.2.2.2.2.2.1 t.2.2.2.2.2.2.2.2.2.1) (F.eq t.2.2.2.2.2.2.1 t.2.2.2.2.2.2.2.2.2.2.1))))) fun v31 =>
                        bite v31 (
                          some true) (
                          bnd (F.str q13.1) fun v32 =>
                          bnd (F.str q14.1) fun v33 =>
                          bnd (F.seq v32 v33) fun v34 =>
                          some v34)) (
                        some false)) (
                      some false)) (
                    some false)) (
                  some false)) (
                some false)) (
              some false)) (
            some false)) (
          some false))))

theorem short_eq (fl : Nat) (x0 : Int × Int) (x1 : Px × Px) (x2 : Int) : glazierlaw24_ImageShort fl x0 x1 x2 =
    obind (glazierlaw24_shown fl) fun h => bnd (F.add .i64 1 (F.rem (F.conv .i64 x0.1) 64)) fun w => bnd (F.add .i64 1 (F.rem (F.conv .i64 x0.2) 64)) fun hh => bnd (F.ge x2 1) fun g => bite g (
      bnd (F.le x2 64) fun g => bite g (
        obind (glazierlaw24_ImageShort_l1 fl fl h w hh 0 x1.1.1 x1.1.2.1 x1.1.2.2.1 x1.1.2.2.2 x1.2.1 x1.2.2.1 x1.2.2.2.1 x1.2.2.2.2 w hh [] w hh []) fun q => tl fl q 65) (
        obind (glazierlaw24_ImageShort_l2 fl fl x2 h w hh 0 x1.1.1 x1.1.2.1 x1.1.2.2.1 x1.1.2.2.2 x1.2.1 x1.2.2.1 x1.2.2.2.1 x1.2.2.2.2 w hh [] w hh []) fun q => tl fl q.2 q.1)) (
      obind (glazierlaw24_ImageShort_l2 fl fl x2 h w hh 0 x1.1.1 x1.1.2.1 x1.1.2.2.1 x1.1.2.2.2 x1.2.1 x1.2.2.1 x1.2.2.2.1 x1.2.2.2.2 w hh [] w hh []) fun q => tl fl q.2 q.1) := rfl

theorem tl_spec {c d : Px} (hc : pxB c) (hd : pxB d) {w hh odd : Int} {m : Nat} (hw : 1 ≤ w ∧ w ≤ 64) (hh' : 1 ≤ hh ∧ hh ≤ 64) (hm : w * hh = (m : Int)) (hm1 : 1 ≤ m) (hs : m ≤ 4096) (ho : w64 odd) (hod : ¬ (1 ≤ odd ∧ odd ≤ 64)) :
    tl 5000 (true, (w, (hh, (c.1, (c.2.1, (c.2.2.1, (c.2.2.2, (d.1, (d.2.1, (d.2.2.1, (d.2.2.2, (w, (hh, (List.replicate m c, (w, (hh, (alt c d 0 m, ()))))))))))))))))) odd = some true := by
  unfold tl
  simp only [bnd_eq]
  have p1 : ((List.replicate m c).length : Int) = w * hh := by rw [List.length_replicate, hm]
  have p2 : ((alt c d 0 m).length : Int) = w * hh := by rw [alt_len, hm]
  have p3 : ∀ x ∈ List.replicate m c, pxB x := fun x hx => by rw [List.eq_of_mem_replicate hx]; exact hc
  have p4 : ∀ x ∈ alt c d 0 m, pxB x := fun x hx => by
    rcases alt_in c d m 0 x hx with rfl | rfl
    · exact hc
    · exact hd
  rw [iput_ok (by decide) hw hh' p1 (by rw [List.length_replicate]; omega) (by rw [List.length_replicate]; omega) p3, ob_some, iput_ok (by decide) hw hh' p2 (by rw [alt_len]; omega) (by rw [alt_len]; omega) p4, ob_some]
  have n1 := im_one (w := w) (h := hh) (c := c) (k := m) hw hh' ⟨hm1, by omega⟩ hc
  have n2 := im_len (w := w) (h := hh) (l := alt c d 0 m) hw hh' (by rw [alt_len]; omega) p4
  rw [alt_len] at n2
  have lw : w64 w := by unfold w64; omega
  have lh : w64 hh := by unfold w64; omega
  have c1 := cut1 (List.replicate m c)
  rw [List.length_replicate] at c1
  rw [cutOk1 (by rw [List.length_replicate]; omega), bgd_t, iput_no (w := w) (h := hh) (by rw [c1]; omega) lw lh (fun k => by have := k.2.2; rw [c1] at this; omega), ob_some,
    iput_no (w := w) (h := odd) (by rw [List.length_replicate]; omega) lw ho (fun k => hod k.2.1), ob_some,
    appOk_t (by rw [List.length_replicate]; simp; omega) (by decide), bgd_t, appK, List.nil_append, appOk_t (by rw [List.length_replicate]; simp; omega) (by decide), bgd_t, appK,
    iput_no (w := w) (h := hh) (by simp; omega) lw lh (fun k => by have := k.2.2; simp at this; omega), ob_some, bite_t]
  dsimp only
  have b9 : 9 * w * hh = 9 * (m : Int) := by rw [Int.mul_assoc, hm]
  rw [eq_t rfl, bite_t, bite_t, lenK, le_t (by omega), bite_t, lenK, mulI (a := 9) (by omega), mulI (by omega), b9, addI (by omega), le_t (by omega), bite_t, eq_t rfl, bite_t, bite_t, bite_t, eqPx]
  by_cases e : c = d
  · subst e
    rw [decide_eq_true rfl, not_t, bite_f, alt_same]
    congr 1
    unfold F.seq
    exact beq_self_eq_true _
  · rw [decide_eq_false (fun k => e (by obtain ⟨c1, c2, c3, c4⟩ := c; obtain ⟨d1, d2, d3, d4⟩ := d; simpa using k)), not_f, bite_t]

theorem law0 (a b : Int) (c d : Px) (x2 : Int) (ha : 0 ≤ a ∧ a ≤ 255) (hb : 0 ≤ b ∧ b ≤ 255) (hc : pxB c) (hd : pxB d) (h64 : -9223372036854775808 ≤ x2 ∧ x2 ≤ 9223372036854775807) : ∃ fl, glazierlaw24_ImageShort fl (a, b) (c, d) x2 = some true := by
  refine ⟨5000, ?_⟩
  have side : ∀ x : Int, 0 ≤ x ∧ x ≤ 255 → F.add .i64 1 (F.rem (F.conv .i64 x) 64) = 1 + x % 64 := fun x hx => by
    rw [convI (by omega), show F.rem x 64 = x % 64 from Int.tmod_eq_emod_of_nonneg hx.1, addI (by omega)]
  rw [short_eq, shown, ob_some]
  simp only [bnd_eq]
  rw [side a ha, side b hb]
  have hw : 1 ≤ 1 + a % 64 ∧ 1 + a % 64 ≤ 64 := by omega
  have hh : 1 ≤ 1 + b % 64 ∧ 1 + b % 64 ≤ 64 := by omega
  generalize 1 + a % 64 = w at *
  generalize 1 + b % 64 = hh' at *
  have m0 : 1 * 1 ≤ w * hh' := Int.mul_le_mul hw.1 hh.1 (by decide) (by omega)
  have m1 : w * hh' ≤ 64 * 64 := Int.mul_le_mul hw.2 hh.2 (by omega) (by decide)
  obtain ⟨m, hm⟩ : ∃ m : Nat, w * hh' = (m : Int) := ⟨(w * hh').toNat, by omega⟩
  have z : (0 : Int) = ((0 : Nat) : Int) := rfl
  have k1 := l1 5000 true c d hm (by omega) m 5000 0 [] [] (by omega) (by omega) rfl rfl
  have k2 := l2 5000 x2 true c d hm (by omega) m 5000 0 [] [] (by omega) (by omega) rfl rfl
  rw [← z, List.nil_append, List.nil_append] at k1 k2
  have t1 := tl_spec hc hd (odd := 65) hw hh hm (by omega) (by omega) (by unfold w64; decide) (by decide)
  by_cases g1 : 1 ≤ x2
  · rw [ge_t g1, bite_t]
    by_cases g2 : x2 ≤ 64
    · rw [le_t g2, bite_t, k1, ob_some]
      exact t1
    · rw [le_f (by omega), bite_f, k2, ob_some]
      exact tl_spec hc hd hw hh hm (by omega) (by omega) h64 (by omega)
  · rw [ge_f (by omega), bite_f, k2, ob_some]
    exact tl_spec hc hd hw hh hm (by omega) (by omega) h64 (by omega)

theorem law (x0 : (Ty.pair (.int .u8) (.int .u8)).T) (x1 : (Ty.pair (.pair (.int .u8) (.pair (.int .u8) (.pair (.int .u8) (.int .u8)))) (.pair (.int .u8) (.pair (.int .u8) (.pair (.int .u8) (.int .u8))))).T) (x2 : (Ty.int .i64).T)
    (h0 : okT (.pair (.int .u8) (.int .u8)) x0) (h1 : okT (.pair (.pair (.int .u8) (.pair (.int .u8) (.pair (.int .u8) (.int .u8)))) (.pair (.int .u8) (.pair (.int .u8) (.pair (.int .u8) (.int .u8))))) x1) (h2 : okT (.int .i64) x2) : ∃ fl, glazierlaw24_ImageShort fl x0 x1 x2 = some true :=
  law0 x0.1 x0.2 x1.1 x1.2 x2 (inR_u8.1 h0.1) (inR_u8.1 h0.2) ⟨inR_u8.1 h1.1.1, inR_u8.1 h1.1.2.1, inR_u8.1 h1.1.2.2.1, inR_u8.1 h1.1.2.2.2⟩ ⟨inR_u8.1 h1.2.1, inR_u8.1 h1.2.2.1, inR_u8.1 h1.2.2.2.1, inR_u8.1 h1.2.2.2.2⟩ (inR_i64.1 h2)
end Go.Proofs.Ytepifmbnajpgeaa.imageShort
