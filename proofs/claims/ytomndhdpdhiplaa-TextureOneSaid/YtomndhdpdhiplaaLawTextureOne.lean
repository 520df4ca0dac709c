/- TextureOne holds. -/
import Derived.Test.YtomndhdpdhiplaaLawTex
set_option linter.unusedVariables false
namespace Go.Proofs.Ytomndhdpdhiplaa.textureOne
open Go Go.RowKit Go.Proofs.Ytomndhdpdhiplaa.M Go.Proofs.Ytomndhdpdhiplaa.G

theorem tat_mem {t : Tx} (ht : tok t) (x y : Int) : tat t x y ∈ t.2.2 := by
  have g := tat_get ht x y
  unfold F.get at g
  split at g
  · exact List.mem_of_getElem? g
  · cases g

theorem tsm_const {t : Tx} {c : Pix} (h : ∀ x y, tat t x y = c) (u v : Int) : tsm t u v = c := by
  unfold tsm trow
  rw [h, h, h, h, mixC_self, mixC_self]

theorem eqZ {a : Pix} (h : a = pz) : F.both (F.eq a.1 0) (F.both (F.eq a.2.1 0) (F.both (F.eq a.2.2.1 0) (F.eq a.2.2.2 0))) = true := by
  rw [h]; rfl

theorem loop1 (fl : Nat) {b : Bool} {u v : Int} {c : Pix} {w h : Int} {px : List Pix} (hw : 1 ≤ w ∧ w ≤ 16) (hh : 1 ≤ h ∧ h ≤ 16) : ∀ (k n i : Nat), (i : Int) + k = w * h → k + 1 ≤ n →
    glazierlaw11_TextureOne_l1 fl n b u v (i : Int) c.1 c.2.1 c.2.2.1 c.2.2.2 w h px w h (List.replicate i c) = some (b, (u, (v, (c.1, (c.2.1, (c.2.2.1, (c.2.2.2, (w, (h, (px, (w, (h, (List.replicate (w * h).toNat c, ())))))))))))))
  | 0, n, i, hi, hn => by
    have ar := area_in hw hh
    obtain ⟨n, rfl⟩ : ∃ m, n = m + 1 := ⟨n - 1, by omega⟩
    rw [glazierlaw11_TextureOne_l1, bnd_eq, mulI (by omega), bnd_eq, lt_f (by omega), bite_f, show i = (w * h).toNat by omega]
  | k + 1, n, i, hi, hn => by
    have ar := area_in hw hh
    obtain ⟨n, rfl⟩ : ∃ m, n = m + 1 := ⟨n - 1, by omega⟩
    rw [glazierlaw11_TextureOne_l1, bnd_eq, mulI (by omega), bnd_eq, lt_t (by omega), bite_t, appOk_t (by simp; omega) (by decide), bgd_t, bnd_eq, appK, bnd_eq, addI (by omega)]
    have := loop1 fl (b := b) (u := u) (v := v) (c := c) (px := px) hw hh k n (i + 1) (by omega) (by omega)
    rw [List.replicate_succ'] at this
    exact this

theorem loop2 (fl : Nat) {b : Bool} {u v : Int} {c : Pix} {w h : Int} {px one : List Pix} {W H : Int} (hlen : px.length ≤ 10000) : ∀ (k n i : Nat) (lo hi : Int), i + k = px.length → k + 1 ≤ n → (∀ (j : Nat) (hj : j < px.length), j < i → lo ≤ px[j].2.1 ∧ px[j].2.1 ≤ hi) →
    ∃ lo' hi', glazierlaw11_TextureOne_l2 fl n b u v lo hi (i : Int) c.1 c.2.1 c.2.2.1 c.2.2.2 w h px W H one = some (b, (u, (v, (lo', (hi', (c.1, (c.2.1, (c.2.2.1, (c.2.2.2, (w, (h, (px, (W, (H, (one, ()))))))))))))))) ∧ ∀ p ∈ px, lo' ≤ p.2.1 ∧ p.2.1 ≤ hi'
  | 0, n, i, lo, hi, hi0, hn, hj => by
    obtain ⟨n, rfl⟩ : ∃ m, n = m + 1 := ⟨n - 1, by omega⟩
    refine ⟨lo, hi, ?_, fun p hp => ?_⟩
    · rw [glazierlaw11_TextureOne_l2, bnd_eq, lenK, bnd_eq, lt_f (by omega), bite_f]
    · obtain ⟨j, hjl, rfl⟩ := List.mem_iff_getElem.1 hp
      exact hj j hjl (by omega)
  | k + 1, n, i, lo, hi, hi0, hn, hj => by
    obtain ⟨n, rfl⟩ : ∃ m, n = m + 1 := ⟨n - 1, by omega⟩
    have hil : i < px.length := by omega
    obtain ⟨lo', hi', e, r⟩ := loop2 fl (b := b) (u := u) (v := v) (c := c) (w := w) (h := h) (px := px) (one := one) (W := W) (H := H) hlen k n (i + 1) (min lo px[i].2.1) (max hi px[i].2.1) (by omega) (by omega) (fun j hjl hji => by
      by_cases hjj : j = i
      · subst hjj; omega
      · have := hj j hjl (by omega); omega)
    refine ⟨lo', hi', ?_, r⟩
    rw [glazierlaw11_TextureOne_l2, bnd_eq, lenK, bnd_eq, lt_t (by omega), bite_t, lgetK hil, ob_some, bnd_eq, ob_some, bnd_eq, bnd_eq, addI (by omega), f_min, f_max]
    exact e

theorem law (x0 : (Ty.pair (.int .i64) (.pair (.int .i64) (.list (.pair (.int .u8) (.pair (.int .u8) (.pair (.int .u8) (.int .u8))))))).T) (x1 : (Ty.pair (.int .u8) (.pair (.int .u8) (.pair (.int .u8) (.int .u8)))).T) (x2 : (Ty.pair (.int .i64) (.int .i64)).T)
    (h0 : okT (Ty.pair (.int .i64) (.pair (.int .i64) (.list (.pair (.int .u8) (.pair (.int .u8) (.pair (.int .u8) (.int .u8))))))) x0) (h1 : okT (Ty.pair (.int .u8) (.pair (.int .u8) (.pair (.int .u8) (.int .u8)))) x1) (h2 : okT (.pair (.int .i64) (.int .i64)) x2) : ∃ fl, glazierlaw11_TextureOne fl x0 x1 x2 = some true := by
  refine ⟨400, ?_⟩
  have hp := pxs_few (tex_in h0)
  obtain ⟨f, ef, hf, pf⟩ := fit_spec (fl := 400) (by omega) _ hp
  obtain ⟨u, eu, mu⟩ := small_spec x2.1
  obtain ⟨v, ev, mv⟩ := small_spec x2.2
  obtain ⟨c, rfl⟩ : ∃ c : Pix, c = x1 := ⟨_, rfl⟩
  have hc : pix c := ⟨inR_u8.1 h1.1, inR_u8.1 h1.2.1, inR_u8.1 h1.2.2.1, inR_u8.1 h1.2.2.2⟩
  have f1 := hf.1; have f2 := hf.2.1; have f3 := hf.2.2
  have ar := area_in f1 f2
  have e1 := loop1 400 (b := true) (u := u) (v := v) (c := c) (px := f.2.2) f1 f2 f.2.2.length 400 0 (by omega) (by omega)
  obtain ⟨lo, hi, e2, r⟩ := loop2 400 (b := true) (u := u) (v := v) (c := c) (w := f.1) (h := f.2.1) (px := f.2.2) (one := List.replicate (f.1 * f.2.1).toNat c) (W := f.1) (H := f.2.1) (by omega) f.2.2.length 400 0 255 0 (by omega) (by omega) (fun j hj h => by omega)
  rw [show ((0 : Nat) : Int) = 0 from rfl] at e1 e2
  obtain ⟨one, hone⟩ : ∃ one : Tx, one = (f.1, (f.2.1, List.replicate (f.1 * f.2.1).toNat c)) := ⟨_, rfl⟩
  have ho : tok one := by rw [hone]; exact ⟨f1, f2, by simp; omega⟩
  have po : pxs one := by
    rw [hone]
    intro d hd
    rw [List.eq_of_mem_replicate hd]
    exact hc
  have oc : ∀ x y, tat one x y = c := fun x y => by
    have := tat_mem ho x y
    rw [hone] at this
    have := List.eq_of_mem_replicate this
    rw [hone]
    exact this
  obtain ⟨bad, hbad⟩ : ∃ bad : Tx, bad = (f.1 + 1, (f.2.1, f.2.2)) := ⟨_, rfl⟩
  have hb : ¬ tok bad := by
    rw [hbad]
    rintro ⟨_, _, k3⟩
    simp only at k3
    rw [Int.add_mul] at k3
    omega
  have bc : ∀ x y, tat bad x y = pz := fun x y => tat_none hb x y
  have pb : pxs bad := by rw [hbad]; exact pf
  have g1 : ∀ x y, lo ≤ (tat f x y).2.1 ∧ (tat f x y).2.1 ≤ hi := fun x y => r _ (tat_mem hf x y)
  have g2 : lo ≤ (tsm f u v).2.1 ∧ (tsm f u v).2.1 ≤ hi := mixI_in (mixI_in (g1 _ _) (g1 _ _) (frac_in _)) (mixI_in (g1 _ _) (g1 _ _) (frac_in _)) (frac_in _)
  unfold glazierlaw11_TextureOne
  rw [tshown (by omega), ob_some, few_spec, ob_some, ef, ob_some, eu, ob_some, ev, ob_some]
  rw [show glazierlaw11_TextureOne_l1 400 400 true u v 0 c.1 c.2.1 c.2.2.1 c.2.2.2 f.1 f.2.1 f.2.2 f.1 f.2.1 [] = _ from e1, ob_some]
  dsimp only
  rw [e2, ob_some]
  dsimp only
  rw [smooth_spec (by omega) pf mu mv, ob_some, bnd_eq, addI (by omega), bite_t, ← hone, ← hbad, smooth_spec (by omega) po mu mv, ob_some, bnd_eq, eqC (tsm_const oc u v), bite_t, near_spec (by omega) mu mv, ob_some, bnd_eq, eqC (show tnear one u v = c from oc _ _), bite_t,
    bnd_eq, ge_t g2.1, bite_t, bnd_eq, le_t g2.2, bite_t, smooth_spec (by omega) pb mu mv, ob_some, bnd_eq, eqZ (a := tsm bad u v) (tsm_const bc u v), bite_t, near_spec (by omega) mu mv, ob_some, bnd_eq, eqZ (a := tnear bad u v) (bc _ _), bite_t,
    texel_spec (by omega), ob_some, bnd_eq, eqZ (a := tat bad u v) (bc _ _), bite_t, right_spec (by omega), ob_some, decide_eq_false hb]
  rfl
end Go.Proofs.Ytomndhdpdhiplaa.textureOne
