/- ImageBack holds. -/
import Derived.Test.YtepifmbnajpgeaaLawBack
import Derived.KernelRfl
set_option linter.unusedVariables false
namespace Go.Proofs.Ytepifmbnajpgeaa.imageBack
open Go Go.RowKit Go.Proofs.Ytepifmbnajpgeaa.M Go.Proofs.Ytepifmbnajpgeaa.G Go.Proofs

theorem fit_loop (fl : Nat) {l : List Px} (hl : ∀ c ∈ l, pxB c) (hll : (l.length : Int) ≤ 9223372036854775807) {w h : Int} {m : Nat} (hm : w * h = (m : Int)) (hs : m ≤ 144) : ∀ (k n i : Nat) (acc : List Px), i + k = m → k + 1 ≤ n → acc.length = i → (∀ c ∈ acc, pxB c) →
    ∃ px, glazierlaw24_fit_l1 fl n l i w h acc = some (w, (h, (px, ()))) ∧ px.length = m ∧ ∀ c ∈ px, pxB c
  | 0, n, i, acc, hi, hn, ha, hc => by
    obtain ⟨n, rfl⟩ : ∃ m, n = m + 1 := ⟨n - 1, by omega⟩
    rw [glazierlaw24_fit_l1, bnd_eq, bnd_eq, mulI (by omega), hm, lt_f (by omega), bite_f]
    exact ⟨acc, rfl, by omega, hc⟩
  | k + 1, n, i, acc, hi, hn, ha, hc => by
    obtain ⟨n, rfl⟩ : ∃ m, n = m + 1 := ⟨n - 1, by omega⟩
    rw [glazierlaw24_fit_l1]
    simp only [bnd_eq]
    rw [mulI (by omega), hm, lt_t (by omega), bite_t, lenK]
    have next : ∀ c, pxB c → ∃ px, glazierlaw24_fit_l1 fl n l ((i + 1 : Nat) : Int) w h (acc ++ [c]) = some (w, (h, (px, ()))) ∧ px.length = m ∧ ∀ c ∈ px, pxB c := fun c hcc => fit_loop fl hl hll hm hs k n (i + 1) (acc ++ [c]) (by omega) (by omega) (by simp; omega) fun x hx => by
      rcases List.mem_append.1 hx with hx | hx
      · exact hc x hx
      · rw [List.mem_singleton.1 hx]; exact hcc
    by_cases h0 : 0 < (l.length : Int)
    · have eq : F.quo .i64 ((i : Int) * 7) 5 = ((i * 7 / 5 : Nat) : Int) := by
        unfold F.quo
        rw [Int.tdiv_eq_ediv_of_nonneg (by omega), wrapI (by omega) (by omega)]
        omega
      have hlt : i * 7 / 5 % l.length < l.length := Nat.mod_lt _ (by omega)
      have er : F.rem ((i * 7 / 5 : Nat) : Int) (l.length : Int) = ((i * 7 / 5 % l.length : Nat) : Int) := by
        unfold F.rem
        rw [Int.tmod_eq_emod_of_nonneg (by omega)]
        exact (Int.natCast_emod _ _).symm
      rw [gt_t h0, bite_t, mulI (by omega), eq, nz_t (by omega), bgd_t, er, lgetK hlt, ob_some, appOk_t (by simp; omega) (by decide), bgd_t, appK, addI (by omega)]
      exact next _ (hl _ (List.getElem_mem hlt))
    · rw [gt_f (by omega), bite_f, appOk_t (by simp; omega) (by decide), bgd_t, appK, addI (by omega)]
      exact next _ (by unfold pxB byteP; decide)

theorem fit_spec {fl : Nat} (hfl : 200 ≤ fl) {l : List Px} (hl : ∀ c ∈ l, pxB c) (hll : (l.length : Int) ≤ 9223372036854775807) {a b : Int} (ha : 0 ≤ a ∧ a ≤ 255) (hb : 0 ≤ b ∧ b ≤ 255) : ∃ w h px, glazierlaw24_fit fl a b l = some (w, (h, px)) ∧ imOk w h px ∧ px.length ≤ 144 ∧ ∀ c ∈ px, pxB c := by
  have side : ∀ x : Int, 0 ≤ x ∧ x ≤ 255 → F.add .i64 1 (F.rem (F.conv .i64 x) 12) = 1 + x % 12 := fun x hx => by
    rw [convI (by omega), show F.rem x 12 = x % 12 from Int.tmod_eq_emod_of_nonneg hx.1, addI (by omega)]
  unfold glazierlaw24_fit
  simp only [bnd_eq]
  rw [side a ha, side b hb]
  have hw : 1 ≤ 1 + a % 12 ∧ 1 + a % 12 ≤ 12 := by omega
  have hh : 1 ≤ 1 + b % 12 ∧ 1 + b % 12 ≤ 12 := by omega
  generalize 1 + a % 12 = w at *
  generalize 1 + b % 12 = h at *
  have m0 : 1 * 1 ≤ w * h := Int.mul_le_mul hw.1 hh.1 (by decide) (by omega)
  have m1 : w * h ≤ 12 * 12 := Int.mul_le_mul hw.2 hh.2 (by omega) (by decide)
  obtain ⟨m, hm⟩ : ∃ m : Nat, w * h = (m : Int) := ⟨(w * h).toNat, by omega⟩
  obtain ⟨px, e, h1, h2⟩ := fit_loop fl hl hll hm (by omega) m fl 0 [] (by omega) (by omega) rfl (fun c hc => by simp at hc)
  rw [show ((0 : Nat) : Int) = 0 from rfl] at e
  rw [e, ob_some]
  exact ⟨w, h, px, rfl, ⟨by omega, by omega, by omega⟩, by omega, h2⟩

theorem inR_u16 {x : Int} (h : inR .u16 x) : 0 ≤ x ∧ x ≤ 65535 := by
  unfold inR at h
  simp [Lit.wf, IntKind.min, IntKind.max, IntKind.signed, IntKind.bits] at h
  exact h

theorem shown : glazierlaw24_shown 10000 = some true := by decide +kernel

theorem law0 {a b at_ : Int} {l : List Px} (ha : 0 ≤ a ∧ a ≤ 255) (hb : 0 ≤ b ∧ b ≤ 255) (hat : 0 ≤ at_ ∧ at_ ≤ 65535) (hl : ∀ c ∈ l, pxB c) (hll : (l.length : Int) ≤ 9223372036854775807) : ∃ fl, glazierlaw24_ImageBack fl a b (l, at_) = some true := by
  refine ⟨10000, ?_⟩
  unfold glazierlaw24_ImageBack
  obtain ⟨w, h, px, e, hok, hlen, hc⟩ := fit_spec (fl := 10000) (by decide) hl hll ha hb
  rw [shown, ob_some, e, ob_some, iput_ok (by decide) hok.1 hok.2.1 hok.2.2 (by omega) (by omega) hc, ob_some]
  dsimp only
  simp only [bnd_eq]
  have hbl : bytesL (imB w h px) := by rw [imB_N]; exact flat_nb_bytes _
  have hN := imN_len w h px
  have hub : (imB w h px).length ≤ 9000 := by rw [imB_N]; have := flat_nb_len (imN w h px); omega
  have hlb : 7 ≤ (imB w h px).length := by
    rw [imB_N]
    have h1 := flat_nb_ge (imN w h px)
    have h2 : 7 ≤ (imN w h px).length := by
      have hs := runs_spread px.length px (Nat.le_refl _)
      have h0 : 1 * 1 ≤ w * h := Int.mul_le_mul hok.1.1 hok.2.1.1 (by decide) (by have := hok.1.1; omega)
      have hpx := hok.2.2
      unfold imN
      cases hr : runs px.length px with
      | nil => rw [hr] at hs; have := congrArg List.length hs; simp [spread] at this; omega
      | cons q R => simp [five]
    omega
  rw [not_t, bite_f, ne_f rfl, bite_f, lenK, lt_f (by omega), bite_f, take_put (by decide) hok hlen hc, ob_some]
  dsimp only
  rw [same02_spec (by omega) (by omega), ob_some, convI (by omega), nz_t (by omega), bgd_t]
  have hmod : F.rem at_ ((imB w h px).length : Int) = ((at_.toNat % (imB w h px).length : Nat) : Int) := by
    unfold F.rem
    rw [Int.tmod_eq_emod_of_nonneg hat.1, Int.natCast_emod]
    congr 1
    omega
  have hlt : at_.toNat % (imB w h px).length < (imB w h px).length := Nat.mod_lt _ (by omega)
  have hcut : F.cutOk (imB w h px) 0 ((at_.toNat % (imB w h px).length : Nat) : Int) = true := by
    unfold F.cutOk; rw [decide_eq_true (by decide), decide_eq_true (by omega), decide_eq_true (by omega)]; rfl
  have hcut2 : F.cut (imB w h px) 0 ((at_.toNat % (imB w h px).length : Nat) : Int) = (imB w h px).take (at_.toNat % (imB w h px).length) := by
    unfold F.cut; rw [Int.toNat_natCast]; rfl
  rw [hmod, hcut, bgd_t, hcut2]
  generalize at_.toNat % (imB w h px).length = j at *
  have hu8 : 0 ≤ u8 at_ ∧ u8 at_ ≤ 255 := by unfold u8; omega
  rw [take_no (by decide) hok hlen hc (b := (imB w h px).take j) (t := (imB w h px).drop j) (fun x hx => hbl x (List.mem_of_mem_take hx)) (by rw [List.length_take]; omega) (fun e => by
      have := congrArg List.length e
      rw [List.length_drop] at this
      simp at this
      omega) (.inl (List.take_append_drop _ _)), ob_some, appOk_t (by simp; omega) (by decide), bgd_t, conv_u8, appK, List.nil_append, appOk_t (by simp; omega) (by decide), bgd_t, appK,
    take_no (by decide) hok hlen hc (b := imB w h px ++ [u8 at_]) (t := [u8 at_]) (fun x hx => by
      rcases List.mem_append.1 hx with hx | hx
      · exact hbl x hx
      · rw [List.mem_singleton.1 hx]; exact hu8) (by simp; omega) (by simp) (.inr rfl), ob_some]
  dsimp only
  rw [eq_t rfl, bite_t, bite_t, eq_t rfl, bite_t, eq_t rfl, bite_t, eq_t rfl, bite_t]

theorem law (x0 x1 : (Ty.int .u8).T) (x2 : (Ty.pair (.list (.pair (.int .u8) (.pair (.int .u8) (.pair (.int .u8) (.int .u8))))) (.int .u16)).T) (h0 : okT (.int .u8) x0) (h1 : okT (.int .u8) x1) (h2 : okT (.pair (.list (.pair (.int .u8) (.pair (.int .u8) (.pair (.int .u8) (.int .u8))))) (.int .u16)) x2) : ∃ fl, glazierlaw24_ImageBack fl x0 x1 x2 = some true :=
  law0 (inR_u8.1 h0) (inR_u8.1 h1) (inR_u16 h2.2) (fun c hc => by
    have := h2.1.2 c hc
    exact ⟨inR_u8.1 this.1, inR_u8.1 this.2.1, inR_u8.1 this.2.2.1, inR_u8.1 this.2.2.2⟩) (by have := h2.1.1; unfold maxLen at this; omega)
end Go.Proofs.Ytepifmbnajpgeaa.imageBack
