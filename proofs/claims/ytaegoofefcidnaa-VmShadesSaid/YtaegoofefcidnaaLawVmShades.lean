/- VmShades holds. -/
import Derived.Test.YtaegoofefcidnaaLawVmFit
set_option linter.unusedVariables false
namespace Go.Proofs.Ytaegoofefcidnaa.vmShades
open Go Go.RowKit Go.Proofs.Ytaegoofefcidnaa.M Go.Proofs.Ytaegoofefcidnaa.G

def sat (x : Int) : Int := if x < 0 then 0 else if 255 < x then 255 else x
theorem sat_byte (x : Int) : byte (sat x) := by unfold sat byte; split <;> (try split) <;> omega

theorem fsat (x : Int) : fixed_Sat x = some (sat x) := by
  unfold fixed_Sat sat
  simp only [bnd_eq, f_min, f_max]
  rw [conv8 (by unfold byte; omega)]
  congr 1
  split
  · omega
  split <;> omega

theorem rsat (x : Int) : glazierref01_Sat x = some (sat x) := by
  unfold glazierref01_Sat sat
  simp only [bnd_eq]
  by_cases h1 : x < 0
  · rw [lt_t h1, bite_t, if_pos h1]
  rw [lt_f (by omega), bite_f, if_neg h1]
  by_cases h2 : 255 < x
  · rw [gt_t h2, bite_t, if_pos h2]
  · rw [gt_f (by omega), bite_f, if_neg h2, conv8 (by unfold byte; omega)]

theorem prodB {a b : Int} (ha : byte a) (hb : byte b) : 0 ≤ a * b ∧ a * b ≤ 255 * b ∧ a * b ≤ 65025 := by
  unfold byte at ha hb
  have h1 := Int.mul_nonneg ha.1 hb.1
  have h2 : a * b ≤ 255 * b := Int.mul_le_mul_of_nonneg_right ha.2 hb.1
  omega

def prt (a b : Int) : Int := (a * b + 127) / 255

theorem prt_in {a b : Int} (ha : byte a) (hb : byte b) : 0 ≤ prt a b ∧ prt a b ≤ b := by
  have := prodB ha hb
  unfold prt
  omega

theorem fpart {a b : Int} {c : Pix} (ha : byte a) (hc : byte c.2.2.2) : colour_each_1__2 a b c = some (prt a c.2.2.2) := by
  have h := prodB ha hc
  have hp := prt_in ha hc
  have hcc := hc
  unfold byte at ha hcc
  unfold colour_each_1__2 colour_Pre_1 fixed_Div255
  simp only [bnd_eq, f_min, f_max]
  rw [convI (a := a) (by omega), convI (by omega), mulI (by omega), show min (max (a * c.2.2.2) 0) 65025 = a * c.2.2.2 by omega, addI (by omega), quoI (by omega) (by decide), ob_some, ob_some, fsat, ob_some]
  show some (sat (prt a c.2.2.2)) = some (prt a c.2.2.2)
  unfold sat
  rw [if_neg (by omega), if_neg (by omega)]

theorem rpart {a b : Int} (ha : byte a) (hb : byte b) : glazierref02_part a b = some (prt a b) := by
  have h := prodB ha hb
  have hp := prt_in ha hb
  have ha' := ha; have hb' := hb
  unfold byte at ha' hb'
  unfold glazierref02_part glazierref01_Div255
  simp only [bnd_eq]
  rw [convI (a := a) (by omega), convI (by omega), mulI (a := a) (by omega), lt_f (by omega), bite_f, gt_f (by omega), bite_f, mulI (a := 2) (by omega), addI (by omega), quoI (by omega) (by decide), ob_some]
  have e : (2 * (a * b) + 255) / 510 = prt a b := by unfold prt; omega
  rw [e, conv8 (by unfold byte; omega)]

theorem fpre {c : Pix} (hc : pix c) : colour_Pre c = some (prt c.1 c.2.2.2, (prt c.2.1 c.2.2.2, (prt c.2.2.1 c.2.2.2, c.2.2.2))) := by
  unfold colour_Pre colour_each__2
  rw [fpart hc.1 hc.2.2.2, ob_some, fpart hc.2.1 hc.2.2.2, ob_some, fpart hc.2.2.1 hc.2.2.2, ob_some, fpart hc.2.2.2 hc.2.2.2, ob_some, ob_some]

theorem rpre {c : Pix} (hc : pix c) : glazierref02_Pre c = some (prt c.1 c.2.2.2, (prt c.2.1 c.2.2.2, (prt c.2.2.1 c.2.2.2, c.2.2.2))) := by
  unfold glazierref02_Pre
  rw [rpart hc.1 hc.2.2.2, ob_some, rpart hc.2.1 hc.2.2.2, ob_some, rpart hc.2.2.1 hc.2.2.2, ob_some]

theorem right_of {c : Pix} (h1 : c.1 ≤ c.2.2.2) (h2 : c.2.1 ≤ c.2.2.2) (h3 : c.2.2.1 ≤ c.2.2.2) : glazierref02_Right c = some true := by
  unfold glazierref02_Right
  rw [bnd_eq, le_t h1, bite_t, bnd_eq, le_t h2, bite_t, bnd_eq, le_t h3]

theorem shade_spec {fl : Nat} (hfl : 200 ≤ fl) {l : List Ins} (hp : progs l) {t : Tx} (ht : pxs t) {a : Pix} {x y : Int} (ha : i64 a.1 ∧ i64 a.2.1 ∧ i64 a.2.2.1 ∧ i64 a.2.2.2) (hx : i64 x) (hy : i64 y) :
    ∃ o, vm_Shade fl l t a x y = some o ∧ glazierref13_Shade fl l t a x y = some o ∧ glazierref02_Right o.1 = some true ∧ (prog l → (asks l → tok t) → o.2.2 = 0 ∧ 1 ≤ o.2.1 ∧ o.2.1 ≤ l.length) := by
  obtain ⟨o, e1, e2, h1, h2⟩ := run_spec hfl hp ht (r := (a.1, (a.2.1, (a.2.2.1, (a.2.2.2, (x, (y, (0, 0)))))))) ⟨ha.1, ha.2.1, ha.2.2.1, ha.2.2.2, hx, hy, by unfold i64; simp only; omega, by unfold i64; simp only; omega⟩
  unfold vm_Shade glazierref13_Shade
  rw [e1, e2, ob_some, ob_some, bnd_eq, bnd_eq]
  by_cases h : o.2.2 = 0
  · have hc : pix (sat o.1.1, (sat o.1.2.1, (sat o.1.2.2.1, sat o.1.2.2.2.1))) := ⟨sat_byte _, sat_byte _, sat_byte _, sat_byte _⟩
    rw [ne_f h, bite_f, bite_f, fsat, ob_some, fsat, ob_some, fsat, ob_some, fsat, ob_some, fpre hc, ob_some, rsat, ob_some, rsat, ob_some, rsat, ob_some, rsat, ob_some, rpre hc, ob_some]
    exact ⟨_, rfl, rfl, right_of (prt_in hc.1 hc.2.2.2).2 (prt_in hc.2.1 hc.2.2.2).2 (prt_in hc.2.2.1 hc.2.2.2).2, fun k1 k2 => ⟨rfl, (h2 k1 k2).2⟩⟩
  · rw [ne_t h, bite_t, bite_t]
    exact ⟨_, rfl, rfl, right_of (Int.le_refl _) (Int.le_refl _) (Int.le_refl _), fun k1 k2 => absurd (h2 k1 k2).1 h⟩

theorem law (x0 : (Ty.list (.pair (.int .u8) (.pair (.int .u8) (.pair (.int .u8) (.pair (.int .u8) (.int .i64)))))).T) (x1 : (Ty.pair (.int .i64) (.pair (.int .i64) (.list (.pair (.int .u8) (.pair (.int .u8) (.pair (.int .u8) (.int .u8))))))).T)
    (x2 : (Ty.pair (.int .i64) (.pair (.int .i64) (.pair (.int .i64) (.pair (.int .i64) (.pair (.int .i64) (.int .i64)))))).T)
    (h0 : okT (Ty.list (.pair (.int .u8) (.pair (.int .u8) (.pair (.int .u8) (.pair (.int .u8) (.int .i64)))))) x0)
    (h1 : okT (Ty.pair (.int .i64) (.pair (.int .i64) (.list (.pair (.int .u8) (.pair (.int .u8) (.pair (.int .u8) (.int .u8))))))) x1)
    (h2 : okT (Ty.pair (.int .i64) (.pair (.int .i64) (.pair (.int .i64) (.pair (.int .i64) (.pair (.int .i64) (.int .i64)))))) x2) : ∃ fl, glazierlaw13_VmShades fl x0 x1 x2 = some true := by
  refine ⟨400, ?_⟩
  have hr : i64 x2.1 ∧ i64 x2.2.1 ∧ i64 x2.2.2.1 ∧ i64 x2.2.2.2.1 ∧ i64 x2.2.2.2.2.1 ∧ i64 x2.2.2.2.2.2 := ⟨inR_i64.1 h2.1, inR_i64.1 h2.2.1, inR_i64.1 h2.2.2.1, inR_i64.1 h2.2.2.2.1, inR_i64.1 h2.2.2.2.2.1, inR_i64.1 h2.2.2.2.2.2⟩
  have hp := progs_in h0
  have ht := tex_in h1
  have ha : i64 x2.1 ∧ i64 x2.2.1 ∧ i64 x2.2.2.1 ∧ i64 x2.2.2.2.1 := ⟨hr.1, hr.2.1, hr.2.2.1, hr.2.2.2.1⟩
  obtain ⟨p, e3, pp, ok⟩ := pfit_spec (fl := 400) (by omega) hp
  obtain ⟨b, e7, e8, -, -⟩ := shade_spec (fl := 400) (by omega) hp (t := (0, (0, []))) (fun c hc => by simp at hc) (a := (x2.1, (x2.2.1, (x2.2.2.1, x2.2.2.2.1)))) ha hr.2.2.2.2.1 hr.2.2.2.2.2
  have main : ∀ t : Tx, pxs t → ∃ u o, glazierref11_Fit 400 t = some u ∧ vm_Shade 400 p u (x2.1, (x2.2.1, (x2.2.2.1, x2.2.2.2.1))) x2.2.2.2.2.1 x2.2.2.2.2.2 = some o ∧ glazierref13_Shade 400 p u (x2.1, (x2.2.1, (x2.2.2.1, x2.2.2.2.1))) x2.2.2.2.2.1 x2.2.2.2.2.2 = some o ∧
      glazierref02_Right o.1 = some true ∧ o.2.2 = 0 ∧ 1 ≤ o.2.1 ∧ o.2.1 ≤ p.length := fun t ht => by
    obtain ⟨u, e4, tu, pu⟩ := fit_spec (fl := 400) (by omega) t ht
    obtain ⟨o, e5, e6, hR, h⟩ := shade_spec (fl := 400) (by omega) pp pu (a := (x2.1, (x2.2.1, (x2.2.2.1, x2.2.2.2.1)))) ha hr.2.2.2.2.1 hr.2.2.2.2.2
    have := h ok (fun _ => tu)
    exact ⟨u, o, e4, e5, e6, hR, this.1, this.2.1, this.2.2⟩
  unfold glazierlaw13_VmShades
  simp only [bnd_eq]
  rw [shown13, ob_some, e3, ob_some, lenK, lenK]
  by_cases h : 300 < (x1.2.2.length : Int)
  · obtain ⟨u, o, e4, e5, e6, hR, k1, k2, k3⟩ := main (x1.1, (x1.2.1, x1.2.2.take 300)) (pxs_few ht)
    rw [gt_t h, bite_t, cutOk3 h, bgd_t, cut3, e4, ob_some, e5, ob_some, e6, ob_some, e7, ob_some, e8, ob_some, hR, ob_some, bite_t, eqC rfl, bite_t, eq_t rfl, bite_t, eq_t rfl, bite_t, eq_t k1, bite_t, ge_t k2, bite_t, le_t k3, bite_t, bite_t, eqC rfl, bite_t, eq_t rfl]
  · obtain ⟨u, o, e4, e5, e6, hR, k1, k2, k3⟩ := main x1 ht
    rw [gt_f (by omega), bite_f, e4, ob_some, e5, ob_some, e6, ob_some, e7, ob_some, e8, ob_some, hR, ob_some, bite_t, eqC rfl, bite_t, eq_t rfl, bite_t, eq_t rfl, bite_t, eq_t k1, bite_t, ge_t k2, bite_t, le_t k3, bite_t, bite_t, eqC rfl, bite_t, eq_t rfl]
end Go.Proofs.Ytaegoofefcidnaa.vmShades
