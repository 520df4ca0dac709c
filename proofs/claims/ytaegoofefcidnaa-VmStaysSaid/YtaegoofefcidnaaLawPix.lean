/- Pictures: what texels are, and what is smooth. -/
import Derived.Test.YtaegoofefcidnaaLawList
import Derived.Test.YtaegoofefcidnaaLawFixed
import Derived.Test.YtaegoofefcidnaaLawRef01
set_option linter.unusedVariables false
namespace Go.Proofs.Ytaegoofefcidnaa.G
open Go Go.RowKit Go.Proofs.Ytaegoofefcidnaa.M

abbrev Pix := Int × Int × Int × Int
abbrev Tx := Int × Int × List (Int × Int × Int × Int)

def pz : Pix := (0, (0, (0, 0)))

def byte (x : Int) : Prop := 0 ≤ x ∧ x ≤ 255
def pix (c : Pix) : Prop := byte c.1 ∧ byte c.2.1 ∧ byte c.2.2.1 ∧ byte c.2.2.2
def pxs (t : Tx) : Prop := ∀ c ∈ t.2.2, pix c

def tok (t : Tx) : Prop := (1 ≤ t.1 ∧ t.1 ≤ 16) ∧ (1 ≤ t.2.1 ∧ t.2.1 ≤ 16) ∧ (t.2.2.length : Int) = t.1 * t.2.1
instance (t : Tx) : Decidable (tok t) := by unfold tok; infer_instance

def tat (t : Tx) (x y : Int) : Pix := if tok t then t.2.2.getD (y % t.2.1 * t.1 + x % t.1).toNat pz else pz

theorem pix_pz : pix pz := by unfold pix byte pz; decide

theorem tat_pix {t : Tx} (h : pxs t) (x y : Int) : pix (tat t x y) := by
  unfold tat
  split
  · rw [List.getD_eq_getElem?_getD]
    cases he : t.2.2[(y % t.2.1 * t.1 + x % t.1).toNat]? with
    | none => exact pix_pz
    | some c => exact h c (List.mem_of_getElem? he)
  · exact pix_pz

theorem tmod_as {x w : Int} (hw : 0 < w) : Int.tmod x w = if 0 ≤ x ∨ x % w = 0 then x % w else x % w - w := by
  rw [Int.tmod_eq_emod]
  have e : (w.natAbs : Int) = w := by omega
  have d : (w ∣ x) ↔ x % w = 0 := ⟨Int.emod_eq_zero_of_dvd, Int.dvd_of_emod_eq_zero⟩
  by_cases h0 : 0 ≤ x
  · rw [if_pos (.inl h0), if_pos (.inl h0)]; simp
  · by_cases h1 : x % w = 0
    · rw [if_pos (.inr (d.2 h1)), if_pos (.inr h1)]; simp
    · rw [if_neg (by rw [d]; omega), if_neg (by omega), e]

theorem mod_in {x w : Int} (hw : 0 < w) : 0 ≤ x % w ∧ x % w < w := ⟨Int.emod_nonneg x (by omega), Int.emod_lt_of_pos x hw⟩

theorem wrap_two {x w : Int} (hw : 1 ≤ w ∧ w ≤ 16) : F.rem (F.add .i64 (F.rem x w) w) w = x % w := by
  have h := mod_in (x := x) (w := w) (by omega)
  have h1 := tmod_lt (a := x) (m := w) (by omega)
  unfold F.rem
  rw [addI (by omega), Int.tmod_eq_emod_of_nonneg (by omega), tmod_as (by omega)]
  split
  · rw [Int.add_emod_right, Int.emod_emod]
  · rw [Int.sub_add_cancel, Int.emod_emod]

theorem ref_wrap {x w : Int} (hw : 1 ≤ w ∧ w ≤ 16) : glazierref11_wrap x w = some (x % w) := by
  have h := mod_in (x := x) (w := w) (by omega)
  have h1 := tmod_lt (a := x) (m := w) (by omega)
  unfold glazierref11_wrap
  rw [nz_t (by omega), bgd_t, bnd_eq, bnd_eq]
  unfold F.rem
  rw [tmod_as (by omega)]
  split
  · rw [lt_f (by omega), bite_f]
  · rw [lt_t (by omega), bite_t, bnd_eq, addI (by omega), Int.sub_add_cancel]

theorem sides_spec {fl : Nat} (hfl : 3 ≤ fl) (a b : Int) : texture_sides fl [a, b] = some (decide ((1 ≤ a ∧ a ≤ 16) ∧ (1 ≤ b ∧ b ≤ 16))) := by
  obtain ⟨n, rfl⟩ : ∃ n, fl = n + 3 := ⟨fl - 3, by omega⟩
  unfold texture_sides
  have l0 : F.len [a, b] = 2 := rfl
  have g0 : F.get [a, b] 0 = some a := rfl
  have g1 : F.get [a, b] 1 = some b := rfl
  rw [bnd_eq, l0]
  rw [texture_sides_l1, bnd_eq, lt_t (by decide), bite_t, g0, ob_some, bnd_eq]
  by_cases h1 : a < 1
  · rw [lt_t h1, bite_t, ob_some, decide_eq_false (by omega)]; rfl
  rw [lt_f (by omega), bite_f, bnd_eq]
  by_cases h2 : 16 < a
  · rw [gt_t h2, bite_t, ob_some, decide_eq_false (by omega)]; rfl
  rw [gt_f (by omega), bite_f, bnd_eq, show F.add .i64 0 1 = 1 from rfl]
  rw [texture_sides_l1, bnd_eq, lt_t (by decide), bite_t, g1, ob_some, bnd_eq]
  by_cases h3 : b < 1
  · rw [lt_t h3, bite_t, ob_some, decide_eq_false (by omega)]; rfl
  rw [lt_f (by omega), bite_f, bnd_eq]
  by_cases h4 : 16 < b
  · rw [gt_t h4, bite_t, ob_some, decide_eq_false (by omega)]; rfl
  rw [gt_f (by omega), bite_f, bnd_eq, show F.add .i64 1 1 = 2 from rfl]
  rw [texture_sides_l1, bnd_eq, lt_f (by decide), bite_f, ob_some, decide_eq_true (by omega)]; rfl

theorem area_in {a b : Int} (ha : 1 ≤ a ∧ a ≤ 16) (hb : 1 ≤ b ∧ b ≤ 16) : 1 ≤ a * b ∧ a * b ≤ 256 := by
  have h1 : a * b ≤ 16 * 16 := Int.mul_le_mul ha.2 hb.2 (by omega) (by decide)
  have h2 : 1 * 1 ≤ a * b := Int.mul_le_mul ha.1 hb.1 (by decide) (by omega)
  omega

theorem right_spec {fl : Nat} (hfl : 3 ≤ fl) (t : Tx) : texture_Right fl t = some (decide (tok t)) := by
  unfold texture_Right
  rw [sides_spec hfl, ob_some]
  by_cases h : (1 ≤ t.1 ∧ t.1 ≤ 16) ∧ (1 ≤ t.2.1 ∧ t.2.1 ≤ 16)
  · have := area_in h.1 h.2
    rw [decide_eq_true h, bite_t, bnd_eq, bnd_eq, mulI (by omega), bnd_eq, lenK, f_eq]
    congr 1
    rw [decide_eq_decide]
    exact ⟨fun e => ⟨h.1, h.2, e⟩, fun e => e.2.2⟩
  · rw [decide_eq_false h, bite_f, decide_eq_false (fun k => h ⟨k.1, k.2.1⟩)]

theorem ref_right (t : Tx) : glazierref11_Right t = some (decide (tok t)) := by
  unfold glazierref11_Right
  by_cases h1 : 1 ≤ t.1
  · rw [bnd_eq, ge_t h1, bite_t, bnd_eq]
    by_cases h2 : t.1 ≤ 16
    · rw [le_t h2, bite_t, bnd_eq]
      by_cases h3 : 1 ≤ t.2.1
      · rw [ge_t h3, bite_t, bnd_eq]
        by_cases h4 : t.2.1 ≤ 16
        · have := area_in ⟨h1, h2⟩ ⟨h3, h4⟩
          rw [le_t h4, bite_t, bnd_eq, bnd_eq, mulI (by omega), bnd_eq, lenK, f_eq]
          congr 1
          rw [decide_eq_decide]
          exact ⟨fun e => ⟨⟨h1, h2⟩, ⟨h3, h4⟩, e⟩, fun e => e.2.2⟩
        · rw [le_f (by omega), bite_f, decide_eq_false (fun k => h4 k.2.1.2)]
      · rw [ge_f (by omega), bite_f, decide_eq_false (fun k => h3 k.2.1.1)]
    · rw [le_f (by omega), bite_f, decide_eq_false (fun k => h2 k.1.2)]
  · rw [bnd_eq, ge_f (by omega), bite_f, decide_eq_false (fun k => h1 k.1.1)]

/-- A place in the row. -/
theorem place {w h a b : Int} (hb : 0 ≤ b ∧ b < h) (ha : 0 ≤ a ∧ a < w) : 0 ≤ b * w + a ∧ b * w + a < w * h := by
  have h1 : 0 ≤ b * w := Int.mul_nonneg hb.1 (by omega)
  have h2 : (b + 1) * w ≤ h * w := Int.mul_le_mul_of_nonneg_right (by omega) (by omega)
  rw [Int.add_mul, Int.mul_comm h w] at h2
  omega

theorem tat_get {t : Tx} (ht : tok t) (x y : Int) : F.get t.2.2 (y % t.2.1 * t.1 + x % t.1) = some (tat t x y) := by
  obtain ⟨h1, h2, h3⟩ := ht
  have p := place (mod_in (x := y) (w := t.2.1) (by omega)) (mod_in (x := x) (w := t.1) (by omega))
  unfold tat
  rw [if_pos ⟨h1, h2, h3⟩]
  unfold F.get
  rw [if_pos p.1, List.getD_eq_getElem?_getD, List.getElem?_eq_getElem (show (y % t.2.1 * t.1 + x % t.1).toNat < t.2.2.length by omega)]
  rfl

theorem tat_none {t : Tx} (ht : ¬ tok t) (x y : Int) : tat t x y = pz := if_neg ht

theorem texel_spec {fl : Nat} (hfl : 3 ≤ fl) (t : Tx) (x y : Int) : texture_Texel fl t x y = some (tat t x y) := by
  unfold texture_Texel
  rw [right_spec hfl, ob_some, bnd_eq]
  by_cases ht : tok t
  · have g := tat_get ht x y
    obtain ⟨h1, h2, h3⟩ := ht
    have m1 := mod_in (x := y) (w := t.2.1) (by omega)
    have m2 := mod_in (x := x) (w := t.1) (by omega)
    have p := place m1 m2
    have p0 : 0 ≤ y % t.2.1 * t.1 := Int.mul_nonneg m1.1 (by omega)
    have ar := area_in h1 h2
    rw [decide_eq_true (show tok t from ⟨h1, h2, h3⟩), not_t, bite_f, nz_t (by omega), bgd_t, bnd_eq, bnd_eq, bgd_t, bnd_eq, wrap_two h1, nz_t (by omega), bgd_t, bnd_eq, bnd_eq, bgd_t, bnd_eq, wrap_two h2, bnd_eq, mulI (by omega), bnd_eq, addI (by omega), g, ob_some]
  · rw [decide_eq_false ht, not_f, bite_t, tat_none ht]; rfl

theorem ref_texel (t : Tx) (x y : Int) : glazierref11_Texel t x y = some (tat t x y) := by
  unfold glazierref11_Texel
  rw [ref_right, ob_some, bnd_eq]
  by_cases ht : tok t
  · have g := tat_get ht x y
    obtain ⟨h1, h2, h3⟩ := ht
    have m1 := mod_in (x := y) (w := t.2.1) (by omega)
    have m2 := mod_in (x := x) (w := t.1) (by omega)
    have p := place m1 m2
    have p0 : 0 ≤ y % t.2.1 * t.1 := Int.mul_nonneg m1.1 (by omega)
    have ar := area_in h1 h2
    rw [decide_eq_true (show tok t from ⟨h1, h2, h3⟩), not_t, bite_f, ref_wrap h2, ob_some, bnd_eq, mulI (by omega), ref_wrap h1, ob_some, bnd_eq, addI (by omega), g, ob_some]
  · rw [decide_eq_false ht, not_f, bite_t, tat_none ht]; rfl

/-! ### Floors -/
theorem cut_spec (fl : Nat) {x : Int} (h : -4611686018427387904 ≤ x ∧ x ≤ 4611686018427387904) : texture_cut fl x = some (x / 16, x % 16) := by
  unfold texture_cut fixed_Floor
  rw [mulDiv_spec fl (by omega) (by decide) (by omega) (by decide) (by decide), ob_some, ob_some, Int.mul_one, Int.fdiv_eq_ediv_of_nonneg _ (by decide), bnd_eq, mulI (by simp only; omega), bnd_eq, subI (by simp only; omega)]
  simp only
  rw [show x - 16 * (x / 16) = x % 16 by omega]

theorem down_spec {fl : Nat} (hfl : 130 ≤ fl) {x : Int} (h : -4611686018427387904 ≤ x ∧ x ≤ 4611686018427387904) : glazierref01_Down fl x 16 = some (x / 16) := by
  rw [ref_down hfl (by omega) (by decide) (by decide), Int.fdiv_eq_ediv_of_nonneg _ (by decide)]

/-! ### Mixing -/
def mixI (a b k : Int) : Int := (a * (256 - k) + b * k + 128) / 256
def mixC (a b : Pix) (k : Int) : Pix := (mixI a.1 b.1 k, (mixI a.2.1 b.2.1 k, (mixI a.2.2.1 b.2.2.1 k, mixI a.2.2.2 b.2.2.2 k)))

theorem mixI_in {a b k lo hi : Int} (ha : lo ≤ a ∧ a ≤ hi) (hb : lo ≤ b ∧ b ≤ hi) (hk : 0 ≤ k ∧ k ≤ 256) : lo ≤ mixI a b k ∧ mixI a b k ≤ hi := by
  have h1 : lo * (256 - k) ≤ a * (256 - k) := Int.mul_le_mul_of_nonneg_right ha.1 (by omega)
  have h2 : a * (256 - k) ≤ hi * (256 - k) := Int.mul_le_mul_of_nonneg_right ha.2 (by omega)
  have h3 : lo * k ≤ b * k := Int.mul_le_mul_of_nonneg_right hb.1 hk.1
  have h4 : b * k ≤ hi * k := Int.mul_le_mul_of_nonneg_right hb.2 hk.1
  have e1 : lo * (256 - k) = lo * 256 - lo * k := Int.mul_sub ..
  have e2 : hi * (256 - k) = hi * 256 - hi * k := Int.mul_sub ..
  unfold mixI
  omega

theorem mixI_num {a b k : Int} (ha : byte a) (hb : byte b) (hk : 0 ≤ k ∧ k ≤ 256) : (0 ≤ a * (256 - k) ∧ a * (256 - k) ≤ 65280) ∧ (0 ≤ b * k ∧ b * k ≤ 65280) := by
  have h1 : 0 ≤ a * (256 - k) := Int.mul_nonneg ha.1 (by omega)
  have h2 : a * (256 - k) ≤ 255 * 256 := Int.mul_le_mul ha.2 (by omega) (by omega) (by decide)
  have h3 : 0 ≤ b * k := Int.mul_nonneg hb.1 hk.1
  have h4 : b * k ≤ 255 * 256 := Int.mul_le_mul hb.2 (by omega) (by omega) (by decide)
  omega

theorem wrap8 {n : Int} (h : byte n) : IntKind.wrap .u8 n = n := by
  obtain ⟨h1, h2⟩ := h
  simp only [IntKind.wrap, IntKind.bits, IntKind.signed]
  simp
  omega

theorem conv8 {n : Int} (h : byte n) : F.conv .u8 n = n := wrap8 h

theorem quoI {a b : Int} (ha : 0 ≤ a ∧ a ≤ 9223372036854775807) (hb : 0 < b) : F.quo .i64 a b = a / b := by
  have h1 : 0 ≤ a / b := Int.ediv_nonneg ha.1 (by omega)
  have h2 : a / b ≤ a := Int.ediv_le_self b ha.1
  unfold F.quo
  rw [Int.tdiv_eq_ediv_of_nonneg ha.1, wrapI (by omega) (by omega)]

theorem sat_spec {x : Int} (h : byte x) : fixed_Sat x = some x := by
  unfold fixed_Sat
  have h1 := h.1; have h2 := h.2
  rw [bnd_eq, f_max, bnd_eq, f_min, show min (max x 0) 255 = x by omega, bnd_eq, conv8 h]

theorem each_spec {a b k : Int} (ha : byte a) (hb : byte b) (hk : 0 ≤ k ∧ k ≤ 256) : colour_each_1 a b k = some (mixI a b k) := by
  obtain ⟨h1, h2⟩ := mixI_num ha hb hk
  have hm : byte (mixI a b k) := mixI_in ha hb hk
  have a1 := ha.1; have a2 := ha.2; have b1 := hb.1; have b2 := hb.2
  unfold colour_each_1 colour_Mix_1
  rw [bnd_eq, convI (by omega), bnd_eq, convI (by omega), bnd_eq, subI (by omega), bnd_eq, mulI (a := a) (by omega), bnd_eq, mulI (a := b) (by omega), bnd_eq, addI (a := a * (256 - k)) (by omega), bnd_eq, addI (a := a * (256 - k) + b * k) (by omega), bnd_eq, quoI (by omega) (by decide), ob_some]
  show obind (fixed_Sat (mixI a b k)) _ = _
  rw [sat_spec hm, ob_some]

theorem mix_spec {a b : Pix} {k : Int} (ha : pix a) (hb : pix b) (hk : 0 ≤ k ∧ k ≤ 256) : colour_Mix a b k = some (mixC a b k) := by
  obtain ⟨a1, a2, a3, a4⟩ := ha
  obtain ⟨b1, b2, b3, b4⟩ := hb
  unfold colour_Mix colour_each
  rw [bnd_eq, f_max, bnd_eq, f_min, show min (max k 0) 256 = k by omega, each_spec a1 b1 hk, ob_some, each_spec a2 b2 hk, ob_some, each_spec a3 b3 hk, ob_some, each_spec a4 b4 hk, ob_some, ob_some]
  rfl

theorem rmix_spec {a b k : Int} (ha : byte a) (hb : byte b) (hk : 0 ≤ k ∧ k ≤ 256) : glazierref02_mix a b k = some (mixI a b k) := by
  obtain ⟨h1, h2⟩ := mixI_num ha hb hk
  have hm : byte (mixI a b k) := mixI_in ha hb hk
  have a1 := ha.1; have a2 := ha.2; have b1 := hb.1; have b2 := hb.2
  unfold glazierref02_mix
  rw [bnd_eq, convI (by omega), bnd_eq, subI (by omega), bnd_eq, mulI (a := a) (by omega), bnd_eq, convI (by omega), bnd_eq, mulI (a := b) (by omega), bnd_eq, addI (a := a * (256 - k)) (by omega), bnd_eq, addI (a := a * (256 - k) + b * k) (by omega), bnd_eq, quoI (by omega) (by decide), bnd_eq]
  show some (F.conv .u8 (mixI a b k)) = _
  rw [conv8 hm]

theorem ref_mix {a b : Pix} {k : Int} (ha : pix a) (hb : pix b) (hk : 0 ≤ k ∧ k ≤ 256) : glazierref02_Mix a b k = some (mixC a b k) := by
  obtain ⟨a1, a2, a3, a4⟩ := ha
  obtain ⟨b1, b2, b3, b4⟩ := hb
  unfold glazierref02_Mix
  rw [bnd_eq, lt_f hk.1, bite_f, bnd_eq, gt_f hk.2, bite_f, rmix_spec a1 b1 hk, ob_some, rmix_spec a2 b2 hk, ob_some, rmix_spec a3 b3 hk, ob_some, rmix_spec a4 b4 hk, ob_some]
  rfl

theorem mixC_pix {a b : Pix} {k : Int} (ha : pix a) (hb : pix b) (hk : 0 ≤ k ∧ k ≤ 256) : pix (mixC a b k) := by
  obtain ⟨a1, a2, a3, a4⟩ := ha
  obtain ⟨b1, b2, b3, b4⟩ := hb
  exact ⟨mixI_in a1 b1 hk, mixI_in a2 b2 hk, mixI_in a3 b3 hk, mixI_in a4 b4 hk⟩

theorem mixI_none (a b : Int) : mixI a b 0 = a := by unfold mixI; omega
theorem mixI_self (a : Int) {k : Int} : mixI a a k = a := by
  have e : a * (256 - k) = a * 256 - a * k := Int.mul_sub ..
  unfold mixI
  rw [e]
  omega
theorem mixC_none (a b : Pix) : mixC a b 0 = a := by unfold mixC; simp only [mixI_none]
theorem mixC_self (a : Pix) (k : Int) : mixC a a k = a := by unfold mixC; simp only [mixI_self]

/-! ### What is smooth -/
def trow (t : Tx) (u V : Int) : Pix := mixC (tat t ((u - 8) / 16) V) (tat t ((u - 8) / 16 + 1) V) (16 * ((u - 8) % 16))
def tsm (t : Tx) (u v : Int) : Pix := mixC (trow t u ((v - 8) / 16)) (trow t u ((v - 8) / 16 + 1)) (16 * ((v - 8) % 16))
def tnear (t : Tx) (u v : Int) : Pix := tat t (u / 16) (v / 16)

def mid (x : Int) : Prop := -2305843009213693952 ≤ x ∧ x ≤ 2305843009213693952

theorem frac_in (x : Int) : 0 ≤ 16 * (x % 16) ∧ 16 * (x % 16) ≤ 256 := by omega

theorem smooth_spec {fl : Nat} (hfl : 3 ≤ fl) {t : Tx} (ht : pxs t) {u v : Int} (hu : mid u) (hv : mid v) : texture_Smooth fl t u v = some (tsm t u v) := by
  unfold mid at hu hv
  have row : ∀ V, texture_Smooth_1 fl V t ((u - 8) / 16) ((u - 8) % 16) = some (trow t u V) := fun V => by
    unfold texture_Smooth_1
    rw [texel_spec hfl, ob_some, bnd_eq, addI (by omega), texel_spec hfl, ob_some, bnd_eq, mulI (by omega), mix_spec (tat_pix ht _ _) (tat_pix ht _ _) (frac_in _), ob_some]
    rfl
  have p : ∀ V, pix (trow t u V) := fun V => mixC_pix (tat_pix ht _ _) (tat_pix ht _ _) (frac_in _)
  unfold texture_Smooth
  rw [bnd_eq, subI (by omega), cut_spec fl (by omega), ob_some, bnd_eq, subI (by omega), cut_spec fl (by omega), ob_some, row, ob_some, bnd_eq, addI (by simp only; omega), row, ob_some, bnd_eq, mulI (by simp only; omega),
    mix_spec (p _) (p _) (frac_in _), ob_some]
  rfl

theorem ref_smooth {fl : Nat} (hfl : 130 ≤ fl) {t : Tx} (ht : pxs t) {u v : Int} (hu : mid u) (hv : mid v) : glazierref11_Smooth fl t u v = some (tsm t u v) := by
  unfold mid at hu hv
  have p : ∀ V, pix (mixC (tat t ((u - 8) / 16) V) (tat t ((u - 8) / 16 + 1) V) (16 * ((u - 8) % 16))) := fun V => mixC_pix (tat_pix ht _ _) (tat_pix ht _ _) (frac_in _)
  unfold glazierref11_Smooth
  rw [bnd_eq, subI (a := u) (by omega), down_spec hfl (by omega), ob_some, bnd_eq, subI (a := v) (by omega), down_spec hfl (by omega), ob_some, bnd_eq, ref_wrap (by decide), ob_some, bnd_eq, mulI (by omega), bnd_eq, ref_wrap (by decide), ob_some, bnd_eq, mulI (by omega),
    ref_texel, ob_some, bnd_eq, addI (by omega), ref_texel, ob_some, ref_mix (tat_pix ht _ _) (tat_pix ht _ _) (frac_in _), ob_some, bnd_eq, addI (by omega), ref_texel, ob_some, bnd_eq, bnd_eq, ref_texel, ob_some, ref_mix (tat_pix ht _ _) (tat_pix ht _ _) (frac_in _), ob_some, ref_mix (p _) (p _) (frac_in _), ob_some]
  rfl

theorem near_spec {fl : Nat} (hfl : 3 ≤ fl) {t : Tx} {u v : Int} (hu : mid u) (hv : mid v) : texture_Nearest fl t u v = some (tnear t u v) := by
  unfold mid at hu hv
  unfold texture_Nearest
  rw [cut_spec fl (by omega), ob_some, cut_spec fl (by omega), ob_some, texel_spec hfl, ob_some]
  rfl

theorem ref_near {fl : Nat} (hfl : 130 ≤ fl) {t : Tx} {u v : Int} (hu : mid u) (hv : mid v) : glazierref11_Nearest fl t u v = some (tnear t u v) := by
  unfold mid at hu hv
  unfold glazierref11_Nearest
  rw [down_spec hfl (by omega), ob_some, down_spec hfl (by omega), ob_some, ref_texel, ob_some]
  rfl

theorem eqC {a b : Pix} (h : a = b) : F.both (F.eq a.1 b.1) (F.both (F.eq a.2.1 b.2.1) (F.both (F.eq a.2.2.1 b.2.2.1) (F.eq a.2.2.2 b.2.2.2))) = true := by
  subst h
  rw [eq_t rfl, eq_t rfl, eq_t rfl, eq_t rfl]; rfl

/-! ### Pictures made right -/
theorem byte_wrap (n : Int) : byte (F.conv .u8 n) := by
  unfold F.conv byte
  simp only [IntKind.wrap, IntKind.bits, IntKind.signed]
  simp
  omega

theorem fit_loop (fl : Nat) {X Y w h : Int} {px : List Pix} (hw : 1 ≤ w ∧ w ≤ 16) (hh : 1 ≤ h ∧ h ≤ 16) (hpx : ∀ c ∈ px, pix c) : ∀ (k n : Nat) (acc : List Pix), (acc.length : Int) + k = w * h → k + 1 ≤ n → (∀ c ∈ acc, pix c) →
    ∃ l, glazierref11_Fit_l1 fl n (acc.length : Int) X Y px w h acc = some (w, (h, (l, ()))) ∧ (l.length : Int) = w * h ∧ ∀ c ∈ l, pix c
  | 0, n, acc, hl, hn, ha => by
    have ar := area_in hw hh
    obtain ⟨n, rfl⟩ : ∃ m, n = m + 1 := ⟨n - 1, by omega⟩
    rw [glazierref11_Fit_l1, bnd_eq, mulI (by omega), bnd_eq, lt_f (by omega), bite_f]
    exact ⟨acc, rfl, by omega, ha⟩
  | k + 1, n, acc, hl, hn, ha => by
    have ar := area_in hw hh
    obtain ⟨n, rfl⟩ : ∃ m, n = m + 1 := ⟨n - 1, by omega⟩
    have step : ∀ c, pix c → ∃ l, glazierref11_Fit_l1 fl n ((acc.length : Int) + 1) X Y px w h (acc ++ [c]) = some (w, (h, (l, ()))) ∧ (l.length : Int) = w * h ∧ ∀ c ∈ l, pix c := fun c hc => by
      have := fit_loop fl (X := X) (Y := Y) hw hh hpx k n (acc ++ [c]) (by simp; omega) (by omega) (fun d hd => by
        rcases List.mem_append.1 hd with hd | hd
        · exact ha d hd
        · have : d = c := by simpa using hd
          rw [this]; exact hc)
      rw [show ((acc ++ [c]).length : Int) = (acc.length : Int) + 1 by simp] at this
      exact this
    rw [glazierref11_Fit_l1, bnd_eq, mulI (by omega), bnd_eq, lt_t (by omega), bite_t, bnd_eq, bnd_eq, bnd_eq, bnd_eq, bnd_eq, lenK]
    by_cases hin : (acc.length : Int) < (px.length : Int)
    · rw [lt_t hin, bite_t, lgetK (show acc.length < px.length by omega), ob_some, appOk_t (by simp; omega) (by decide), bgd_t, bnd_eq, appK, bnd_eq, addI (by omega)]
      exact step _ (hpx _ (List.getElem_mem _))
    · rw [lt_f (by omega), bite_f, appOk_t (by simp; omega) (by decide), bgd_t, bnd_eq, appK, bnd_eq, addI (by omega)]
      exact step _ ⟨byte_wrap _, byte_wrap _, show byte 7 from (by unfold byte; decide), show byte 255 from (by unfold byte; decide)⟩

theorem fit_spec {fl : Nat} (hfl : 300 ≤ fl) (t : Tx) (ht : pxs t) : ∃ f, glazierref11_Fit fl t = some f ∧ tok f ∧ pxs f := by
  have w1 := mod_in (x := t.1) (w := 16) (by decide)
  have w2 := mod_in (x := t.2.1) (w := 16) (by decide)
  have ar := area_in (a := 1 + t.1 % 16) (b := 1 + t.2.1 % 16) (by omega) (by omega)
  obtain ⟨l, e, h1, h2⟩ := fit_loop fl (X := t.1) (Y := t.2.1) (w := 1 + t.1 % 16) (h := 1 + t.2.1 % 16) (px := t.2.2) (by omega) (by omega) ht ((1 + t.1 % 16) * (1 + t.2.1 % 16)).toNat fl [] (by simp; omega) (by omega) (by simp)
  refine ⟨(1 + t.1 % 16, (1 + t.2.1 % 16, l)), ?_, ⟨by simp only; omega, by simp only; omega, h1⟩, h2⟩
  unfold glazierref11_Fit
  rw [show (([] : List Pix).length : Int) = 0 from rfl] at e
  rw [ref_wrap (by decide), ob_some, bnd_eq, addI (by omega), ref_wrap (by decide), ob_some, bnd_eq, addI (by omega), e, ob_some]

/-- What came in. -/
theorem tex_in {t : Tx} (h : okT (Ty.pair (.int .i64) (.pair (.int .i64) (.list (.pair (.int .u8) (.pair (.int .u8) (.pair (.int .u8) (.int .u8))))))) t) : pxs t := fun c hc => by
  have := h.2.2.2 c hc
  exact ⟨inR_u8.1 this.1, inR_u8.1 this.2.1, inR_u8.1 this.2.2.1, inR_u8.1 this.2.2.2⟩

theorem pxs_few {t : Tx} (h : pxs t) : pxs (t.1, (t.2.1, t.2.2.take 300)) := fun c hc => h c (List.mem_of_mem_take hc)

end Go.Proofs.Ytaegoofefcidnaa.G
