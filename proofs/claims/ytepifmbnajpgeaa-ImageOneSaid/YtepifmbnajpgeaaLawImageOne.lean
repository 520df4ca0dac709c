/- ImageOne holds. Printed by law_one.py. -/
import Derived.Test.YtepifmbnajpgeaaLawTake
import Derived.Test.YtepifmbnajpgeaaLawRef03
import Derived.KernelRfl
set_option linter.unusedVariables false
namespace Go.Proofs.Ytepifmbnajpgeaa.imageOne
open Go Go.RowKit Go.Proofs.Ytepifmbnajpgeaa.M Go.Proofs.Ytepifmbnajpgeaa.G Go.Proofs

noncomputable def tl (fl : Nat) (h : Bool) (b : List Int) : Option Bool :=
  obind (image_Take fl b) fun q22 =>
  bnd (F.ne q22.2 0) fun v23 =>
  bite v23 (
    bite h (
      bnd (F.eq q22.2 10) fun v24 =>
      bite v24 (
        bnd (F.len q22.1.2.2) fun v25 =>
        bnd (F.eq v25 0) fun v26 =>
        bite v26 (
          bnd (F.eq q22.1.1 0) fun v27 =>
          bite v27 (
            bnd (F.eq q22.1.2.1 0) fun v28 =>
            some v28) (
            some false)) (
          some false)) (
        some false)) (
      some false)) (
    obind (image_Put fl q22.1) fun q29 =>
    bite h (
      bnd (F.eq q29.2 0) fun v30 =>
      bite v30 (
        bnd (F.str q29.1) fun v31 =>
        bnd (F.str b) fun v32 =>
        bnd (F.seq v31 v32) fun v33 =>
        bite v33 (
          bnd (F.len q22.1.2.2) fun v34 =>
          bnd (F.mul .i64 q22.1.1 q22.1.2.1) fun v35 =>
          bnd (F.eq v34 v35) fun v36 =>
          some v36) (
          some false)) (
        some false)) (
      some false))

theorem one_eq (fl : Nat) (x0 : List Int) : glazierlaw24_ImageOne fl x0 = obind (glazierlaw24_shown fl) fun h => bnd (F.len x0) fun v => bnd (F.gt v 200) fun c => bite c (
  bgd (F.cutOk x0 0 200) (bnd (F.cut x0 0 200) fun l => obind (glazierref03_Put fl l) fun b => tl fl h b)) (obind (glazierref03_Put fl x0) fun b => tl fl h b) := rfl

theorem shown : glazierlaw24_shown 6000 = some true := by decide +kernel

theorem tl_spec {b : List Int} (hb : bytesL b) (hs : b.length ≤ 2000) : tl 6000 true b = some true := by
  unfold tl
  rcases take_spec (fl := 6000) (by decide) (by omega) hb (by omega) with ⟨e, _⟩ | ⟨w, h, rest, hn, e, hok, hq, hc, hl⟩
  · rw [e]
    rfl
  · rw [e, ob_some]
    dsimp only
    simp only [bnd_eq]
    rw [ne_f rfl, bite_f, iput_ok (by decide) hok.1 hok.2.1 hok.2.2 (by omega) (by omega) hc, ob_some]
    dsimp only
    have m := hok.2.2
    rw [bite_t, eq_t rfl, bite_t, hq, bite_t, lenK, mulI (by omega), eq_t m]

theorem all_spec {l : List Int} (hl : ∀ x ∈ l, w64 x) (hs : l.length ≤ 200) : (obind (glazierref03_Put 6000 l) fun b => tl 6000 true b) = some true := by
  rw [rput_spec (by decide) (by omega) hl (by omega), ob_some]
  have := flat_nb_len l
  exact tl_spec (flat_nb_bytes l) (by omega)

theorem law0 {l : List Int} (hl : ∀ x ∈ l, w64 x) : ∃ fl, glazierlaw24_ImageOne fl l = some true := by
  refine ⟨6000, ?_⟩
  rw [one_eq, shown, ob_some]
  simp only [bnd_eq]
  rw [lenK]
  by_cases h : 200 < (l.length : Int)
  · have hc : F.cutOk l 0 200 = true := by unfold F.cutOk; rw [decide_eq_true (by decide), decide_eq_true (by omega), decide_eq_true (by omega)]; rfl
    rw [gt_t h, bite_t, hc, bgd_t]
    exact all_spec (l := l.take 200) (fun x hx => hl x (List.mem_of_mem_take hx)) (by rw [List.length_take]; omega)
  · rw [gt_f (by omega), bite_f]
    exact all_spec hl (by omega)

theorem law (x0 : (Ty.list (.int .i64)).T) (h0 : okT (.list (.int .i64)) x0) : ∃ fl, glazierlaw24_ImageOne fl x0 = some true :=
  law0 fun x hx => inR_i64.1 (h0.2 x hx)
end Go.Proofs.Ytepifmbnajpgeaa.imageOne
