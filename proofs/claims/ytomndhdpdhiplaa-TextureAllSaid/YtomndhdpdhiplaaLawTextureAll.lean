/- TextureAll holds. -/
import Derived.Test.YtomndhdpdhiplaaLawTex
set_option linter.unusedVariables false
namespace Go.Proofs.Ytomndhdpdhiplaa.textureAll
open Go Go.RowKit Go.Proofs.Ytomndhdpdhiplaa.M Go.Proofs.Ytomndhdpdhiplaa.G

theorem bne_same (b : Bool) : F.bne b b = false := by cases b <;> rfl

theorem law (x0 : (Ty.pair (.int .i64) (.pair (.int .i64) (.list (.pair (.int .u8) (.pair (.int .u8) (.pair (.int .u8) (.int .u8))))))).T) (x1 : (Ty.int .i64).T) (x2 : (Ty.int .i64).T)
    (h0 : okT (Ty.pair (.int .i64) (.pair (.int .i64) (.list (.pair (.int .u8) (.pair (.int .u8) (.pair (.int .u8) (.int .u8))))))) x0) (h1 : okT (.int .i64) x1) (h2 : okT (.int .i64) x2) : ∃ fl, glazierlaw11_TextureAll fl x0 x1 x2 = some true := by
  refine ⟨400, ?_⟩
  have hp := pxs_few (tex_in h0)
  obtain ⟨f, ef, hf, pf⟩ := fit_spec (fl := 400) (by omega) _ hp
  obtain ⟨a, ea, ma⟩ := small_spec x1
  obtain ⟨b, eb, mb⟩ := small_spec x2
  unfold glazierlaw11_TextureAll
  rw [tshown (by omega), ob_some, few_spec, ob_some, ef, ob_some, ea, ob_some, eb, ob_some, right_spec (by omega), ob_some, ref_right, ob_some, bnd_eq, bne_same, bite_f,
    texel_spec (by omega), ob_some, ref_texel, ob_some, bnd_eq, eqC rfl, not_t, bite_f, near_spec (by omega) ma mb, ob_some, ref_near (by omega) ma mb, ob_some, bnd_eq, eqC rfl, not_t, bite_f,
    smooth_spec (by omega) hp ma mb, ob_some, ref_smooth (by omega) hp ma mb, ob_some, bnd_eq, eqC rfl, not_t, bite_f, bite_t,
    right_spec (by omega), ob_some, decide_eq_true hf, bite_t, texel_spec (by omega), ob_some, ref_texel, ob_some, bnd_eq, eqC rfl, bite_t, near_spec (by omega) ma mb, ob_some, ref_near (by omega) ma mb, ob_some, bnd_eq, eqC rfl, bite_t,
    smooth_spec (by omega) pf ma mb, ob_some, ref_smooth (by omega) pf ma mb, ob_some, bnd_eq, eqC rfl]
end Go.Proofs.Ytomndhdpdhiplaa.textureAll
