/- ImageAll holds. Printed by law_all.py. -/
import Derived.Test.YtepifmbnajpgeaaLawRefTake
import Derived.Test.YtepifmbnajpgeaaLawSame
import Derived.Test.YtepifmbnajpgeaaLawGone
import Derived.KernelRfl
set_option linter.unusedVariables false
namespace Go.Proofs.Ytepifmbnajpgeaa.imageAll
open Go Go.RowKit Go.Proofs.Ytepifmbnajpgeaa.M Go.Proofs.Ytepifmbnajpgeaa.G Go.Proofs

noncomputable def tl (fl : Nat) (h : Bool) (w hh : Int) (l : List Px) (b : List Int) : Option Bool :=
  obind (image_Put fl (w, (hh, l))) fun q60 =>
  obind (glazierref24_Put fl (w, (hh, l))) fun q61 =>
  obind (image_Take fl b) fun q62 =>
  obind (glazierref24_Take fl b) fun q63 =>
  obind (glazierref02_Same fl q62.1.2.2 q63.1.2.2) fun q64 =>
  obind (glazierlaw24_gone fl l 10000) fun q65 =>
  obind (glazierref24_Runs fl l) fun q66 =>
  obind (glazierref03_Same fl q65.1 q66.1) fun q67 =>
  obind (glazierref02_Same fl q65.2.1 q66.2) fun q68 =>
  bite h (
    bnd (F.str q60.1) fun v69 =>
    bnd (F.str q61.1) fun v70 =>
    bnd (F.seq v69 v70) fun v71 =>
    bite v71 (
      bnd (F.eq q60.2 q61.2) fun v72 =>
      bite v72 (
        bite q64 (
          bnd (F.eq q62.1.1 q63.1.1) fun v73 =>
          bite v73 (
            bnd (F.eq q62.1.2.1 q63.1.2.1) fun v74 =>
            bite v74 (
              bnd (F.eq q62.2 q63.2) fun v75 =>
              bite v75 (
                bite q65.2.2 (
                  bite q67 (
                    some q68) (
                    some false)) (
                  some false)) (
                some false)) (
              some false)) (
            some false)) (
          some false)) (
        some false)) (
      some false)) (
    some false)

theorem all_eq (fl : Nat) (x0 : Int × Int × List Px) (x1 : List Int) : glazierlaw24_ImageAll fl x0 x1 = obind (glazierlaw24_shown fl) fun h => bnd (F.len x0.2.2) fun v => bnd (F.gt v 400) fun c => bite c (
  bgd (F.cutOk x0.2.2 0 400) (bnd (F.cut x0.2.2 0 400) fun l => bnd (F.len x1) fun v => bnd (F.gt v 600) fun c => bite c (
    bgd (F.cutOk x1 0 600) (bnd (F.cut x1 0 600) fun b => tl fl h x0.1 x0.2.1 l b)) (tl fl h x0.1 x0.2.1 l x1))) (
  bnd (F.len x1) fun v => bnd (F.gt v 600) fun c => bite c (
    bgd (F.cutOk x1 0 600) (bnd (F.cut x1 0 600) fun b => tl fl h x0.1 x0.2.1 x0.2.2 b)) (tl fl h x0.1 x0.2.1 x0.2.2 x1)) := rfl

theorem shown : glazierlaw24_shown 14000 = some true := by decide +kernel

theorem put_both {w h : Int} {l : List Px} (hw : w64 w) (hh : w64 h) (hl : l.length ≤ 400) (hc : ∀ c ∈ l, pxB c) : ∃ a e, image_Put 14000 (w, (h, l)) = some (a, e) ∧ glazierref24_Put 14000 (w, (h, l)) = some (a, e) := by
  by_cases hok : imOk w h l
  · have hr := runs_len l.length l
    exact ⟨_, _, iput_ok (by decide) hok.1 hok.2.1 hok.2.2 (by omega) (by omega) hc, riput_ok (by decide) hok (by omega) (by omega) (by omega) hc⟩
  · exact ⟨_, _, iput_no (by omega) hw hh hok, riput_no (by omega) hok⟩

theorem gone_all {l : List Px} (hl : l.length ≤ 400) : glazierlaw24_gone 14000 l 10000 = some (manyI (runs l.length l), (colI (runs l.length l), true)) := by
  have hr := runs_len l.length l
  have g := gone_spec (fl := 14000) (l := l) (m := 10000) (by omega) (by omega) (by decide)
  rw [List.take_of_length_le (by omega)] at g
  exact g

theorem tl_spec {w h : Int} {l : List Px} {b : List Int} (hw : w64 w) (hh : w64 h) (hl : l.length ≤ 400) (hc : ∀ c ∈ l, pxB c) (hb : bytesL b) (hs : b.length ≤ 600) : tl 14000 true w h l b = some true := by
  obtain ⟨a, e, p1, p2⟩ := put_both hw hh hl hc
  obtain ⟨w', h', px, e', t1, t2, t3⟩ := both_take (fl := 14000) (by decide) hb (by omega)
  have hr := runs_len l.length l
  unfold tl
  rw [p1, ob_some, p2, ob_some, t1, ob_some, t2, ob_some]
  dsimp only
  rw [same02_spec (by omega) (by omega), ob_some, gone_all hl, ob_some, rruns_spec (by omega) (by omega), ob_some]
  dsimp only
  rw [same03_spec (by unfold manyI; rw [List.length_map]; omega) (by unfold manyI; rw [List.length_map]; omega), ob_some, same02_spec (by unfold colI; rw [List.length_map]; omega) (by unfold colI; rw [List.length_map]; omega), ob_some]
  simp only [bnd_eq]
  rw [bite_t, seq_refl, bite_t, eq_t rfl, bite_t, bite_t, eq_t rfl, bite_t, eq_t rfl, bite_t, eq_t rfl, bite_t, bite_t, bite_t]

theorem law0 {w h : Int} {l : List Px} {b : List Int} (hw : w64 w) (hh : w64 h) (hc : ∀ c ∈ l, pxB c) (hb : bytesL b) : ∃ fl, glazierlaw24_ImageAll fl (w, (h, l)) b = some true := by
  refine ⟨14000, ?_⟩
  have c1 : ∀ {α : Type} (l : List α) {n : Nat}, n < l.length → F.cutOk l 0 (n : Int) = true := fun l n h => by
    unfold F.cutOk; rw [decide_eq_true (by decide), decide_eq_true (by omega), decide_eq_true (by omega)]; rfl
  have d : ∀ {l : List Px}, l.length ≤ 400 → (∀ c ∈ l, pxB c) → bnd (F.len b) (fun v => bnd (F.gt v 600) fun c => bite c (
    bgd (F.cutOk b 0 600) (bnd (F.cut b 0 600) fun b => tl 14000 true w h l b)) (tl 14000 true w h l b)) = some true := fun {l} hl hc => by
    rw [bnd_eq, bnd_eq, lenK]
    by_cases g : 600 < (b.length : Int)
    · rw [gt_t g, bite_t, show F.cutOk b 0 600 = true from c1 b (n := 600) (by omega), bgd_t, bnd_eq]
      exact tl_spec (b := b.take 600) hw hh hl hc (fun x hx => hb x (List.mem_of_mem_take hx)) (by rw [List.length_take]; omega)
    · rw [gt_f (by omega), bite_f]
      exact tl_spec hw hh hl hc hb (by omega)
  rw [all_eq, shown, ob_some]
  dsimp only
  rw [bnd_eq, bnd_eq, lenK]
  by_cases g : 400 < (l.length : Int)
  · rw [gt_t g, bite_t, show F.cutOk l 0 400 = true from c1 l (n := 400) (by omega), bgd_t, bnd_eq]
    exact d (l := l.take 400) (by rw [List.length_take]; omega) (fun c h => hc c (List.mem_of_mem_take h))
  · rw [gt_f (by omega), bite_f]
    exact d (by omega) hc

theorem law (x0 : (Ty.pair (.int .i64) (.pair (.int .i64) (.list (.pair (.int .u8) (.pair (.int .u8) (.pair (.int .u8) (.int .u8))))))).T) (x1 : (Ty.list (.int .u8)).T)
    (h0 : okT (.pair (.int .i64) (.pair (.int .i64) (.list (.pair (.int .u8) (.pair (.int .u8) (.pair (.int .u8) (.int .u8))))))) x0) (h1 : okT (.list (.int .u8)) x1) : ∃ fl, glazierlaw24_ImageAll fl x0 x1 = some true :=
  law0 (inR_i64.1 h0.1) (inR_i64.1 h0.2.1) (fun c hx => ⟨inR_u8.1 (h0.2.2.2 c hx).1, inR_u8.1 (h0.2.2.2 c hx).2.1, inR_u8.1 (h0.2.2.2 c hx).2.2.1, inR_u8.1 (h0.2.2.2 c hx).2.2.2⟩) fun x hx => inR_u8.1 (h1.2 x hx)
end Go.Proofs.Ytepifmbnajpgeaa.imageAll
