/- VmSamples holds. -/
import Derived.Test.YtaegoofefcidnaaLawVmOne
set_option linter.unusedVariables false
namespace Go.Proofs.Ytaegoofefcidnaa.vmSamples
open Go Go.RowKit Go.Proofs.Ytaegoofefcidnaa.M Go.Proofs.Ytaegoofefcidnaa.G

def regs9 (a b : Int) : R8 := (9, (9, (9, (9, (9, (9, (a, b)))))))

theorem W9 {a b : Int} (ha : r32 a) (hb : r32 b) : W8 (regs9 a b) = regs9 a b := by
  show (W 9, (W 9, (W 9, (W 9, (W 9, (W 9, (W a, W b))))))) = _
  rw [W_id ha, W_id hb]; rfl

theorem put4_at {r : R8} {d : Int} (h : 0 ≤ d ∧ d ≤ 4) (c : Pix) : reg (put4 r d c) d = c.1 ∧ reg (put4 r d c) (d + 1) = c.2.1 ∧ reg (put4 r d c) (d + 2) = c.2.2.1 ∧ reg (put4 r d c) (d + 3) = c.2.2.2 := by
  obtain rfl | rfl | rfl | rfl | rfl : d = 0 ∨ d = 1 ∨ d = 2 ∨ d = 3 ∨ d = 4 := by omega
  all_goals exact ⟨rfl, rfl, rfl, rfl⟩

theorem put4_first {r : R8} {d : Int} (h : 1 ≤ d ∧ d ≤ 4) (c : Pix) : (put4 r d c).1 = r.1 := by
  obtain rfl | rfl | rfl | rfl : d = 1 ∨ d = 2 ∨ d = 3 ∨ d = 4 := by omega
  all_goals rfl

theorem pic_run {o d a b : Int} (ho : o = 13 ∨ o = 14) (hd : 0 ≤ d ∧ d ≤ 4) (ha : r32 a) (hb : r32 b) {t : Tx} (ht : tok t) (hp : pxs t) :
    ∃ q, vm_Run 400 [(o, (d, (6, (7, 0))))] t (regs9 a b) = some (q, (1, 0)) ∧ q = put4 (regs9 a b) d (if o = 13 then tnear t a b else tsm t a b) := by
  have hB : insB (o, (d, (6, (7, 0)))) := by unfold insB byte; simp only; omega
  have hk : iok (o, (d, (6, (7, 0)))) 0 1 := by unfold iok three; simp only [true_and, and_true]; omega
  refine ⟨_, one_run (by omega) hB hk (fun _ => ht) hp, ?_⟩
  rw [W9 ha hb]
  unfold stp
  simp only
  rw [if_neg (by omega)]
  by_cases h : o = 13
  · rw [if_pos h, if_pos h]; rfl
  · rw [if_neg h, if_pos (ho.resolve_left h), if_neg h]; rfl

theorem bare {o d : Int} (ho : o = 13 ∨ o = 14) (hd : 0 ≤ d ∧ d ≤ 4) : vm_Run 400 [(o, (d, (6, (7, 0))))] (0, (0, [])) (0, (0, (0, (0, (0, (0, (0, 0))))))) = some (z8, (0, 22)) := by
  have hB : insB (o, (d, (6, (7, 0)))) := by unfold insB byte; simp only; omega
  have hk : iok (o, (d, (6, (7, 0)))) 0 1 := by unfold iok three; simp only [true_and, and_true]; omega
  exact (run_tex (by omega) (fun y hy => by rw [List.mem_singleton.1 hy]; exact hB) (prog_one hk) _ ⟨_, List.mem_singleton.2 rfl, ho⟩ (by unfold G.tok; decide) _).1

theorem law0 (x0 : Tx) (x1 : Int × Int) (x2 : Int × Bool) (ht : pxs x0) (ha : r32 x1.1) (hb : r32 x1.2) (hc : byte x2.1) : ∃ fl, glazierlaw13_VmSamples fl x0 x1 x2 = some true := by
  refine ⟨400, ?_⟩
  have ha' := ha; have hb' := hb
  unfold r32 at ha' hb'
  unfold byte at hc
  have u8 : ∀ d k : Int, 0 ≤ k → k ≤ 3 → 0 ≤ d ∧ d ≤ 4 → F.add .u8 d k = d + k := fun d k k0 k3 hd => by
    unfold F.add
    simp only [IntKind.wrap, IntKind.bits, IntKind.signed]
    simp
    omega
  unfold glazierlaw13_VmSamples
  simp only [bnd_eq]
  rw [shown13, ob_some, lenK, remB hc.1, convI (a := x1.1) (by omega), convI (a := x1.2) (by omega)]
  have hd0 := Int.emod_nonneg x2.1 (show (5 : Int) ≠ 0 by decide)
  have hd1 := Int.emod_lt_of_pos x2.1 (show (0 : Int) < 5 by decide)
  generalize x2.1 % 5 = d at hd0 hd1 ⊢
  have hd : 0 ≤ d ∧ d ≤ 4 := by omega
  have main : ∀ t : Tx, pxs t → ∃ u, glazierref11_Fit 400 t = some u ∧ tok u ∧ pxs u := fun t ht => fit_spec (fl := 400) (by omega) t ht
  by_cases h : 300 < (x0.2.2.length : Int)
  · obtain ⟨u, e1, tu, pu⟩ := main (x0.1, (x0.2.1, x0.2.2.take 300)) (pxs_few ht)
    rw [gt_t h, bite_t, cutOk3 h, bgd_t, cut3, e1, ob_some, ref_near (by omega) (mid32 ha) (mid32 hb), ob_some]
    cases x2.2
    · obtain ⟨q, e2, e3⟩ := pic_run (.inl rfl) hd ha hb tu pu
      rw [if_pos rfl] at e3
      have hpix := near_pix pu x1.1 x1.2
      rw [bite_f, show (9, (9, (9, (9, (9, (9, (x1.1, x1.2))))))) = regs9 x1.1 x1.2 from rfl, e2, ob_some, bare (.inl rfl) hd, ob_some, within8 hd.1 (by omega), bgd_t, get_reg hd.1 (by omega), ob_some,
        u8 d 1 (by decide) (by decide) hd, within8 (d := d + 1) (by omega) (by omega), bgd_t, get_reg (i := d + 1) (by omega) (by omega), ob_some,
        u8 d 2 (by decide) (by decide) hd, within8 (d := d + 2) (by omega) (by omega), bgd_t, get_reg (i := d + 2) (by omega) (by omega), ob_some,
        u8 d 3 (by decide) (by decide) hd, within8 (d := d + 3) (by omega) (by omega), bgd_t, get_reg (i := d + 3) (by omega) (by omega), ob_some, bite_t, eq_t rfl, bite_t, eq_t rfl, bite_t,
        convB hpix.1, convB hpix.2.1, convB hpix.2.2.1, convB hpix.2.2.2, e3, (put4_at hd _).1, (put4_at hd _).2.1, (put4_at hd _).2.2.1, (put4_at hd _).2.2.2, eqC rfl, bite_t]
      by_cases h0 : d = 0
      · rw [eq_t h0, bite_t]
      · rw [eq_f h0, bite_f, put4_first (by omega)]; rfl
    · obtain ⟨q, e2, e3⟩ := pic_run (.inr rfl) hd ha hb tu pu
      rw [if_neg (by decide)] at e3
      have hpix := sm_pix pu x1.1 x1.2
      rw [bite_t, ref_smooth (by omega) pu (mid32 ha) (mid32 hb), ob_some, show (9, (9, (9, (9, (9, (9, (x1.1, x1.2))))))) = regs9 x1.1 x1.2 from rfl, e2, ob_some, bare (.inr rfl) hd, ob_some, within8 hd.1 (by omega), bgd_t, get_reg hd.1 (by omega), ob_some,
        u8 d 1 (by decide) (by decide) hd, within8 (d := d + 1) (by omega) (by omega), bgd_t, get_reg (i := d + 1) (by omega) (by omega), ob_some,
        u8 d 2 (by decide) (by decide) hd, within8 (d := d + 2) (by omega) (by omega), bgd_t, get_reg (i := d + 2) (by omega) (by omega), ob_some,
        u8 d 3 (by decide) (by decide) hd, within8 (d := d + 3) (by omega) (by omega), bgd_t, get_reg (i := d + 3) (by omega) (by omega), ob_some, bite_t, eq_t rfl, bite_t, eq_t rfl, bite_t,
        convB hpix.1, convB hpix.2.1, convB hpix.2.2.1, convB hpix.2.2.2, e3, (put4_at hd _).1, (put4_at hd _).2.1, (put4_at hd _).2.2.1, (put4_at hd _).2.2.2, eqC rfl, bite_t]
      by_cases h0 : d = 0
      · rw [eq_t h0, bite_t]
      · rw [eq_f h0, bite_f, put4_first (by omega)]; rfl
  · obtain ⟨u, e1, tu, pu⟩ := main x0 ht
    rw [gt_f (by omega), bite_f, e1, ob_some, ref_near (by omega) (mid32 ha) (mid32 hb), ob_some]
    cases x2.2
    · obtain ⟨q, e2, e3⟩ := pic_run (.inl rfl) hd ha hb tu pu
      rw [if_pos rfl] at e3
      have hpix := near_pix pu x1.1 x1.2
      rw [bite_f, show (9, (9, (9, (9, (9, (9, (x1.1, x1.2))))))) = regs9 x1.1 x1.2 from rfl, e2, ob_some, bare (.inl rfl) hd, ob_some, within8 hd.1 (by omega), bgd_t, get_reg hd.1 (by omega), ob_some,
        u8 d 1 (by decide) (by decide) hd, within8 (d := d + 1) (by omega) (by omega), bgd_t, get_reg (i := d + 1) (by omega) (by omega), ob_some,
        u8 d 2 (by decide) (by decide) hd, within8 (d := d + 2) (by omega) (by omega), bgd_t, get_reg (i := d + 2) (by omega) (by omega), ob_some,
        u8 d 3 (by decide) (by decide) hd, within8 (d := d + 3) (by omega) (by omega), bgd_t, get_reg (i := d + 3) (by omega) (by omega), ob_some, bite_t, eq_t rfl, bite_t, eq_t rfl, bite_t,
        convB hpix.1, convB hpix.2.1, convB hpix.2.2.1, convB hpix.2.2.2, e3, (put4_at hd _).1, (put4_at hd _).2.1, (put4_at hd _).2.2.1, (put4_at hd _).2.2.2, eqC rfl, bite_t]
      by_cases h0 : d = 0
      · rw [eq_t h0, bite_t]
      · rw [eq_f h0, bite_f, put4_first (by omega)]; rfl
    · obtain ⟨q, e2, e3⟩ := pic_run (.inr rfl) hd ha hb tu pu
      rw [if_neg (by decide)] at e3
      have hpix := sm_pix pu x1.1 x1.2
      rw [bite_t, ref_smooth (by omega) pu (mid32 ha) (mid32 hb), ob_some, show (9, (9, (9, (9, (9, (9, (x1.1, x1.2))))))) = regs9 x1.1 x1.2 from rfl, e2, ob_some, bare (.inr rfl) hd, ob_some, within8 hd.1 (by omega), bgd_t, get_reg hd.1 (by omega), ob_some,
        u8 d 1 (by decide) (by decide) hd, within8 (d := d + 1) (by omega) (by omega), bgd_t, get_reg (i := d + 1) (by omega) (by omega), ob_some,
        u8 d 2 (by decide) (by decide) hd, within8 (d := d + 2) (by omega) (by omega), bgd_t, get_reg (i := d + 2) (by omega) (by omega), ob_some,
        u8 d 3 (by decide) (by decide) hd, within8 (d := d + 3) (by omega) (by omega), bgd_t, get_reg (i := d + 3) (by omega) (by omega), ob_some, bite_t, eq_t rfl, bite_t, eq_t rfl, bite_t,
        convB hpix.1, convB hpix.2.1, convB hpix.2.2.1, convB hpix.2.2.2, e3, (put4_at hd _).1, (put4_at hd _).2.1, (put4_at hd _).2.2.1, (put4_at hd _).2.2.2, eqC rfl, bite_t]
      by_cases h0 : d = 0
      · rw [eq_t h0, bite_t]
      · rw [eq_f h0, bite_f, put4_first (by omega)]; rfl
theorem law (x0 : (Ty.pair (.int .i64) (.pair (.int .i64) (.list (.pair (.int .u8) (.pair (.int .u8) (.pair (.int .u8) (.int .u8))))))).T) (x1 : (Ty.pair (.int .i32) (.int .i32)).T) (x2 : (Ty.pair (.int .u8) .bool).T)
    (h0 : okT (Ty.pair (.int .i64) (.pair (.int .i64) (.list (.pair (.int .u8) (.pair (.int .u8) (.pair (.int .u8) (.int .u8))))))) x0)
    (h1 : okT (Ty.pair (.int .i32) (.int .i32)) x1) (h2 : okT (Ty.pair (.int .u8) .bool) x2) : ∃ fl, glazierlaw13_VmSamples fl x0 x1 x2 = some true :=
  law0 x0 x1 x2 (tex_in h0) (inR_i32.1 h1.1) (inR_i32.1 h1.2) (inR_u8.1 h2.1)
end Go.Proofs.Ytaegoofefcidnaa.vmSamples
