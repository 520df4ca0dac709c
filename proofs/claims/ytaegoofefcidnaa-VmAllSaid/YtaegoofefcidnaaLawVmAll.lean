/- VmAll holds. -/
import Derived.Test.YtaegoofefcidnaaLawVmFit
set_option linter.unusedVariables false
namespace Go.Proofs.Ytaegoofefcidnaa.vmAll
open Go Go.RowKit Go.Proofs.Ytaegoofefcidnaa.M Go.Proofs.Ytaegoofefcidnaa.G

theorem law (x0 : (Ty.list (.pair (.int .u8) (.pair (.int .u8) (.pair (.int .u8) (.pair (.int .u8) (.int .i64)))))).T) (x1 : (Ty.pair (.int .i64) (.pair (.int .i64) (.list (.pair (.int .u8) (.pair (.int .u8) (.pair (.int .u8) (.int .u8))))))).T)
    (x2 : (Ty.pair (.int .i64) (.pair (.int .i64) (.pair (.int .i64) (.pair (.int .i64) (.pair (.int .i64) (.pair (.int .i64) (.pair (.int .i64) (.int .i64)))))))).T)
    (h0 : okT (Ty.list (.pair (.int .u8) (.pair (.int .u8) (.pair (.int .u8) (.pair (.int .u8) (.int .i64)))))) x0)
    (h1 : okT (Ty.pair (.int .i64) (.pair (.int .i64) (.list (.pair (.int .u8) (.pair (.int .u8) (.pair (.int .u8) (.int .u8))))))) x1)
    (h2 : okT (Ty.pair (.int .i64) (.pair (.int .i64) (.pair (.int .i64) (.pair (.int .i64) (.pair (.int .i64) (.pair (.int .i64) (.pair (.int .i64) (.int .i64)))))))) x2) : ∃ fl, glazierlaw13_VmAll fl x0 x1 x2 = some true := by
  refine ⟨400, ?_⟩
  have hr : in8 x2 := ⟨inR_i64.1 h2.1, inR_i64.1 h2.2.1, inR_i64.1 h2.2.2.1, inR_i64.1 h2.2.2.2.1, inR_i64.1 h2.2.2.2.2.1, inR_i64.1 h2.2.2.2.2.2.1, inR_i64.1 h2.2.2.2.2.2.2.1, inR_i64.1 h2.2.2.2.2.2.2.2⟩
  have hp := progs_take (progs_in h0) 40
  have ht := tex_in h1
  have main : ∀ t : Tx, pxs t → ∃ o p u o', vm_Run 400 (x0.take 40) t x2 = some o ∧ glazierref13_Run 400 (x0.take 40) t x2 = some o ∧ glazierref12_Fit 400 (x0.take 40) false = some p ∧ glazierref11_Fit 400 t = some u ∧
      vm_Run 400 p u x2 = some o' ∧ glazierref13_Run 400 p u x2 = some o' ∧ o'.2.2 = 0 := fun t ht => by
    obtain ⟨o, e1, e2, -⟩ := run_spec (fl := 400) (by omega) hp ht hr
    obtain ⟨p, e3, pp, ok⟩ := pfit_spec (fl := 400) (by omega) hp
    obtain ⟨u, e4, tu, pu⟩ := fit_spec (fl := 400) (by omega) t ht
    obtain ⟨o', e5, e6, -, h⟩ := run_spec (fl := 400) (by omega) pp pu hr
    exact ⟨o, p, u, o', e1, e2, e3, e4, e5, e6, (h ok (fun _ => tu)).1⟩
  unfold glazierlaw13_VmAll
  simp only [bnd_eq]
  rw [shown13, ob_some, few13, ob_some, lenK]
  by_cases h : 300 < (x1.2.2.length : Int)
  · obtain ⟨o, p, u, o', e1, e2, e3, e4, e5, e6, e7⟩ := main (x1.1, (x1.2.1, x1.2.2.take 300)) (pxs_few ht)
    rw [gt_t h, bite_t, cutOk3 h, bgd_t, cut3, e1, ob_some, e2, ob_some, e3, ob_some, e4, ob_some, e5, ob_some, e6, ob_some, bite_t, both8, bite_t, eq_t rfl, bite_t, eq_t rfl, bite_t, both8, bite_t, eq_t rfl, bite_t, eq_t rfl, bite_t, eq_t e7]
  · obtain ⟨o, p, u, o', e1, e2, e3, e4, e5, e6, e7⟩ := main x1 ht
    rw [gt_f (by omega), bite_f, e1, ob_some, e2, ob_some, e3, ob_some, e4, ob_some, e5, ob_some, e6, ob_some, bite_t, both8, bite_t, eq_t rfl, bite_t, eq_t rfl, bite_t, both8, bite_t, eq_t rfl, bite_t, eq_t rfl, bite_t, eq_t e7]
end Go.Proofs.Ytaegoofefcidnaa.vmAll
