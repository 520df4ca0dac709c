/- SetupAll holds. -/
import Derived.Test.YtfejdcdomgeogaaLawPixels
import Derived.Test.YtfejdcdomgeogaaLawSetup
set_option linter.unusedVariables false
namespace Go.Proofs.Ytfejdcdomgeogaa.setupAll
open Go Go.RowKit Go.Proofs.Ytfejdcdomgeogaa.M Go.Proofs.Ytfejdcdomgeogaa.G

theorem piece_ok {pts : List Px} (hp : ∀ p ∈ pts, okG p) {k : Nat} {e : Int × Tri} (h : e ∈ piece pts k) : okG3 e.2 := by
  unfold piece at h
  split at h
  · rename_i ht
    rw [List.mem_singleton] at h
    subst h
    exact (turn_pos (tri3_ok hp k) ht).2
  · cases h

theorem fan_ok {pts : List Px} (hp : ∀ p ∈ pts, okG p) {e : Int × Tri} (h : e ∈ fan pts) : okG3 e.2 := by
  unfold fan at h
  obtain ⟨k, _, he⟩ := List.mem_flatMap.1 h
  exact piece_ok hp he

theorem rfan_loop (fl : Nat) {pts : List Px} (hp : ∀ p ∈ pts, okG p) (hlen : pts.length ≤ 10000) : ∀ (m k n : Nat) (acc : List (Int × Tri)), m = pts.length - k → 2 ≤ k → k ≤ 20000 → m + 1 ≤ n → acc.length ≤ k →
    glazierref10_Parts_l1 fl n pts acc ((k : Int) - 1) = some (acc ++ (List.range' k m).flatMap (piece pts), ())
  | m, k, 0, acc, _, _, _, h, _ => by omega
  | 0, k, n + 1, acc, hm, hk, hk2, hn, ha => by
    rw [glazierref10_Parts_l1, bnd_eq, addI (by omega), bnd_eq, lenK, bnd_eq, lt_f (by omega), bite_f]
    simp
  | m + 1, k, n + 1, acc, hm, hk, hk2, hn, ha => by
    have h0 : 0 < pts.length := by omega
    have h1 : k - 1 < pts.length := by omega
    have h2 : k < pts.length := by omega
    have ht := tri3_ok hp k
    have et : ((pts[0], (pts[k - 1], pts[k])) : Tri) = tri3 pts k := by
      unfold tri3
      rw [ptAt_get h0, ptAt_get h1, ptAt_get h2]
    have g0 : F.get pts 0 = some pts[0] := lgetI (k := 0) rfl h0
    have ea : F.add .i64 ((k : Int) - 1) 1 = (k : Int) := by rw [addI (by omega)]; omega
    rw [glazierref10_Parts_l1, bnd_eq, ea, bnd_eq, lenK, bnd_eq, lt_t (by omega), bite_t, g0, ob_some, lgetI (k := k - 1) (by omega) h1, ob_some, bnd_eq, lgetK h2, ob_some, et, rturned_g ht, ob_some, List.range'_succ, List.flatMap_cons]
    by_cases hb : (turn (tri3 pts k)).2 = true
    · have ep : piece pts k = [((k : Int) - 2, (turn (tri3 pts k)).1)] := if_pos hb
      have ih := rfan_loop fl hp hlen m (k + 1) n (acc ++ [((k : Int) - 2, (turn (tri3 pts k)).1)]) (by omega) (by omega) (by omega) (by omega) (by simp; omega)
      rw [hb, bite_t, bnd_eq, subI (by omega), show (k : Int) - 1 - 1 = (k : Int) - 2 by omega, appOk_t (by simp; omega) (by decide), bgd_t, bnd_eq, appK, bnd_eq, ep]
      rw [show ((k + 1 : Nat) : Int) - 1 = (k : Int) by omega] at ih
      rw [ih, List.append_assoc]
    · have ep : piece pts k = [] := if_neg hb
      have hb0 : (turn (tri3 pts k)).2 = false := by simpa using hb
      have ih := rfan_loop fl hp hlen m (k + 1) n acc (by omega) (by omega) (by omega) (by omega) (by omega)
      rw [hb0, bite_f, bnd_eq, ep]
      rw [show ((k + 1 : Nat) : Int) - 1 = (k : Int) by omega] at ih
      rw [ih]
      rfl

theorem rparts_of {fl : Nat} (hfl : 5000 ≤ fl) {w h : Int} (hw : 1 ≤ w ∧ w ≤ 64) (hh : 1 ≤ h ∧ h ≤ 64) {u : Vtx × Vtx × Vtx} {l : List Vtx} (hp : ∀ v ∈ l, okB v) (hn : l.length ≤ 19) (e : glazierref05_Poly fl [u.1, u.2.1, u.2.2] = some l) : glazierref10_Parts fl w h u = some (fan (ptsL w h l)) := by
  have hpts := ptsL_ok hw hh hp
  have hpl := ptsL_length w h l
  have lp := rfan_loop fl hpts (by omega) ((ptsL w h l).length - 2) 2 fl [] rfl (by omega) (by omega) (by omega) (by simp)
  rw [show ((2 : Nat) : Int) - 1 = 1 from rfl, List.nil_append] at lp
  unfold glazierref10_Parts
  rw [e, ob_some, rpoints_S (fun v hv => okV_of (hp v hv)) (by omega) (by omega), ob_some, pts_fst, lp, ob_some]
  rfl

theorem rparts_spec {fl : Nat} (hfl : 5000 ≤ fl) {w h : Int} (hw : 1 ≤ w ∧ w ≤ 64) (hh : 1 ≤ h ∧ h ≤ 64) {a b c : Vtx} (ha : okB a) (hb : okB b) (hc : okB c) : glazierref10_Parts fl w h (a, (b, c)) = some (fan (ptsL w h (polyL [a, b, c]))) := by
  have hl : ∀ v ∈ [a, b, c], okB v := fun v hv => by
    simp only [List.mem_cons, List.not_mem_nil, or_false] at hv
    rcases hv with rfl | rfl | rfl <;> assumption
  exact rparts_of hfl hw hh (poly_okB hl (by simp)) (poly_len rfl) (rpoly_spec hl (by simp) hfl)

theorem fan_len (pts : List Px) : (fan pts).length ≤ pts.length := by
  unfold fan
  have := pieces_len pts (pts.length - 2) 2
  omega

theorem eqS (x : Int) : F.eq x x = true := eq_t rfl

theorem same_loop (fl : Nat) {l : List (Int × Tri)} (hlen : l.length ≤ 1000) : ∀ (m k n : Nat), k + m = l.length → m + 1 ≤ n → glazierref10_Same_l1 fl n l l (k : Int) = some (.inr ())
  | m, k, 0, _, h => by omega
  | 0, k, n + 1, hk, hn => by rw [glazierref10_Same_l1, bnd_eq, lenK, bnd_eq, lt_f (by omega), bite_f]
  | m + 1, k, n + 1, hk, hn => by
    have ih := same_loop fl hlen m (k + 1) n (by omega) (by omega)
    rw [show ((k + 1 : Nat) : Int) = (k : Int) + 1 by omega] at ih
    rw [glazierref10_Same_l1, bnd_eq, lenK, bnd_eq, lt_t (by omega), bite_t, lgetK (by omega), ob_some, ob_some, bnd_eq]
    simp only [eqS, both_t, not_t]
    rw [bite_f, bnd_eq, addI (by omega)]
    exact ih

theorem same_S {fl : Nat} {l : List (Int × Tri)} (hlen : l.length ≤ 1000) (hfl : l.length + 1 ≤ fl) : glazierref10_Same fl l l = some true := by
  have lp := same_loop fl hlen l.length 0 fl (by omega) (by omega)
  rw [show ((0 : Nat) : Int) = 0 from rfl] at lp
  unfold glazierref10_Same
  rw [bnd_eq, bnd_eq, bnd_eq, ne_f rfl, bite_f, lp, ob_some, os_inr]

theorem rpixel {fl : Nat} (hfl : 130 ≤ fl) {x : Int} (h : big x) : glazierref06_Pixel fl x = some (x / 16) := by
  unfold big at h
  unfold glazierref06_Pixel
  rw [ref_down hfl (by omega) (by decide) (by decide), ob_some, Int.fdiv_eq_ediv_of_nonneg _ (by decide)]

theorem rbox_is {fl : Nat} (hfl : 130 ≤ fl) {w h : Int} {u : Tri} (hu : okG3 u) : glazierref10_Box fl w h u = some (sideLo u.1.1 u.2.1.1 u.2.2.1, (sideLo u.1.2.1 u.2.1.2.1 u.2.2.2.1, (sideHi w u.1.1 u.2.1.1 u.2.2.1, sideHi h u.1.2.1 u.2.1.2.1 u.2.2.2.1))) := by
  obtain ⟨⟨a1, a2⟩, ⟨b1, b2⟩, c1, c2⟩ := hu
  unfold glazierref10_Box
  rw [rpixel hfl a1, ob_some, rpixel hfl a2, ob_some, rpixel hfl b1, ob_some, rpixel hfl b2, ob_some]
  simp only [bnd_eq, f_min, f_max]
  rw [rpixel hfl c1, ob_some, rpixel hfl c2, ob_some]
  unfold big at a1 a2 b1 b2 c1 c2
  rw [addI (by omega), addI (by omega)]
  unfold sideLo sideHi
  refine congrArg some ?_
  simp only [Prod.mk.injEq]
  refine ⟨?_, ?_, ?_, ?_⟩ <;> omega

theorem boxes (fl : Nat) (hfl : 130 ≤ fl) {w h p q r t : Int} {l : List (Int × Tri)} (hlen : l.length ≤ 1000) (hl : ∀ e ∈ l, okG3 e.2) : ∀ (m k n : Nat), k + m = l.length → m + 1 ≤ n → glazierlaw10_SetupAll_l1 fl n w h l (k : Int) p q r t = some (.inr (p, (q, (r, (t, ())))))
  | m, k, 0, _, h => by omega
  | 0, k, n + 1, hk, hn => by rw [glazierlaw10_SetupAll_l1, bnd_eq, lenK, bnd_eq, lt_f (by omega), bite_f]
  | m + 1, k, n + 1, hk, hn => by
    have ih := boxes fl hfl (w := w) (h := h) (p := p) (q := q) (r := r) (t := t) hlen hl m (k + 1) n (by omega) (by omega)
    rw [show ((k + 1 : Nat) : Int) = (k : Int) + 1 by omega] at ih
    have hu := hl _ (List.getElem_mem (show k < l.length by omega))
    rw [glazierlaw10_SetupAll_l1, bnd_eq, lenK, bnd_eq, lt_t (by omega), bite_t, lgetK (by omega), ob_some, box_is fl hu, ob_some, ob_some, rbox_is hfl hu, ob_some]
    simp only [bnd_eq, ne_f rfl, bite_f]
    rw [addI (by omega)]
    exact ih

theorem rpix_row (fl : Nat) {a b c d : Int} {w r : Nat} (ha : -1000 ≤ a ∧ a ≤ 1000) (hb : -1000 ≤ b ∧ b ≤ 1000) (hw : (c - a).toNat = w) (hw2 : w ≤ 141) (hr : r ≤ 141) : ∀ (m n j : Nat), j + m = w → m + 1 ≤ n →
    glazierref10_Pixels_l1 fl n a c d 30000 (pixN a b w (r * w + j)) (b + (r : Int)) (a + (j : Int)) = some (a, (c, (d, (30000, (pixN a b w (r * w + w), (b + (r : Int), ()))))))
  | m, 0, j, _, h => by omega
  | 0, n + 1, j, hj, hn => by
    have hj : j = w := by omega
    subst hj
    rw [glazierref10_Pixels_l1, bnd_eq, lt_f (by omega), bite_f]
  | m + 1, n + 1, j, hj, hn => by
    have hjw : j < w := by omega
    have h1 : r * w ≤ 141 * 141 := Nat.mul_le_mul hr hw2
    have ih := rpix_row fl (d := d) ha hb hw hw2 hr m n (j + 1) (by omega) (by omega)
    rw [glazierref10_Pixels_l1, bnd_eq, lt_t (by omega), bite_t, bnd_eq, lenK, pixN_length, bnd_eq, lt_t (by omega), bite_t, appOk_t (by rw [pixN_length]; simp; omega) (by decide), bgd_t, bnd_eq, appK, ← pixAt_row a b hjw, pixN_succ, bnd_eq, addI (by omega)]
    rw [show ((j + 1 : Nat) : Int) = (j : Int) + 1 by omega, ← Int.add_assoc] at ih
    exact ih

theorem rpix_rows (fl : Nat) (hfl : 300 ≤ fl) {a b c d : Int} {w h : Nat} (ha : -1000 ≤ a ∧ a ≤ 1000) (hb : -1000 ≤ b ∧ b ≤ 1000) (hw : (c - a).toNat = w) (hw2 : w ≤ 141) (hh : (d - b).toNat = h) (hh2 : h ≤ 141) : ∀ (m n r : Nat), r + m = h → m + 1 ≤ n →
    glazierref10_Pixels_l2 fl n a c d 30000 (pixN a b w (r * w)) (b + (r : Int)) = some (pixN a b w (h * w), ())
  | m, 0, r, _, h => by omega
  | 0, n + 1, r, hr, hn => by
    have hr : r = h := by omega
    subst hr
    rw [glazierref10_Pixels_l2, bnd_eq, lt_f (by omega), bite_f]
  | m + 1, n + 1, r, hr, hn => by
    have row := rpix_row fl (d := d) (r := r) ha hb hw hw2 (by omega) w fl 0 (by omega) (by omega)
    rw [Nat.add_zero, show a + ((0 : Nat) : Int) = a by omega] at row
    have ih := rpix_rows fl hfl ha hb hw hw2 hh hh2 m n (r + 1) (by omega) (by omega)
    have h2 : (r + 1) * w = r * w + w := Nat.succ_mul r w
    rw [glazierref10_Pixels_l2, bnd_eq, lt_t (by omega), bite_t, row, ob_some]
    dsimp only
    rw [bnd_eq, addI (by omega)]
    rw [show ((r + 1 : Nat) : Int) = (r : Int) + 1 by omega, ← Int.add_assoc, h2] at ih
    exact ih

theorem alike (fl : Nat) {l : List (Int × Int)} (hlen : l.length ≤ 100000) : ∀ (m k n : Nat), k + m = l.length → m + 1 ≤ n → glazierlaw10_SetupAll_l2 fl n l l (k : Int) = some (.inr ())
  | m, k, 0, _, h => by omega
  | 0, k, n + 1, hk, hn => by rw [glazierlaw10_SetupAll_l2, bnd_eq, lenK, bnd_eq, lt_f (by omega), bite_f]
  | m + 1, k, n + 1, hk, hn => by
    have ih := alike fl hlen m (k + 1) n (by omega) (by omega)
    rw [show ((k + 1 : Nat) : Int) = (k : Int) + 1 by omega] at ih
    rw [glazierlaw10_SetupAll_l2, bnd_eq, lenK, bnd_eq, lt_t (by omega), bite_t, lgetK (by omega), ob_some, ob_some, bnd_eq]
    simp only [eqS, both_t, not_t]
    rw [bite_f, bnd_eq, addI (by omega)]
    exact ih

theorem rem71 (n : Int) : -70 ≤ F.rem n 71 ∧ F.rem n 71 ≤ 70 := by
  have := tmod_lt (a := n) (m := 71) (by decide)
  unfold F.rem
  omega

theorem law (x0 : (Ty.pair (.int .u8) (.int .u8)).T) (x1 : (Ty.pair (.pair (.int .i64) (.pair (.int .i64) (.pair (.int .i64) (.pair (.int .i64) (.pair (.int .i64) (.pair (.int .i64) (.pair (.int .i64) (.int .i64)))))))) (.pair (.pair (.int .i64) (.pair (.int .i64) (.pair (.int .i64) (.pair (.int .i64) (.pair (.int .i64) (.pair (.int .i64) (.pair (.int .i64) (.int .i64)))))))) (.pair (.int .i64) (.pair (.int .i64) (.pair (.int .i64) (.pair (.int .i64) (.pair (.int .i64) (.pair (.int .i64) (.pair (.int .i64) (.int .i64)))))))))).T) (x2 : (Ty.pair (.int .i8) (.pair (.int .i8) (.pair (.int .i8) (.int .i8)))).T)
    (h0 : okT (Ty.pair (.int .u8) (.int .u8)) x0) (h1 : okT (Ty.pair (.pair (.int .i64) (.pair (.int .i64) (.pair (.int .i64) (.pair (.int .i64) (.pair (.int .i64) (.pair (.int .i64) (.pair (.int .i64) (.int .i64)))))))) (.pair (.pair (.int .i64) (.pair (.int .i64) (.pair (.int .i64) (.pair (.int .i64) (.pair (.int .i64) (.pair (.int .i64) (.pair (.int .i64) (.int .i64)))))))) (.pair (.int .i64) (.pair (.int .i64) (.pair (.int .i64) (.pair (.int .i64) (.pair (.int .i64) (.pair (.int .i64) (.pair (.int .i64) (.int .i64)))))))))) x1) (h2 : okT (Ty.pair (.int .i8) (.pair (.int .i8) (.pair (.int .i8) (.int .i8)))) x2) : ∃ fl, glazierlaw10_SetupAll fl x0 x1 x2 = some true := by
  refine ⟨30000, ?_⟩
  obtain ⟨w, ew, w1, w2⟩ := side_spec (m := 64) h0.1 (by decide) (by decide)
  obtain ⟨h, eh, k1, k2⟩ := side_spec (m := 64) h0.2 (by decide) (by decide)
  obtain ⟨u, v, z, ef, hu, hv, hz⟩ := setup_fit x1
  have ku := fitC_ok hu
  have kv := fitC_ok hv
  have kz := fitC_ok hz
  have hl : ∀ q ∈ [u, v, z], okB q := fun q hq => by
    simp only [List.mem_cons, List.not_mem_nil, or_false] at hq
    rcases hq with rfl | rfl | rfl <;> assumption
  have hpo := poly_okB hl (by simp)
  have hpn : (polyL [u, v, z]).length ≤ 19 := poly_len rfl
  have hpts := ptsL_ok (w := w) (h := h) ⟨w1, w2⟩ ⟨k1, k2⟩ hpo
  have hpl := ptsL_length w h (polyL [u, v, z])
  have hfn := fan_len (ptsL w h (polyL [u, v, z]))
  have e1 := parts_spec (fl := 30000) (by omega) (w := w) (h := h) ⟨w1, w2⟩ ⟨k1, k2⟩ ku kv kz
  have e2 := rparts_spec (fl := 30000) (by omega) (w := w) (h := h) ⟨w1, w2⟩ ⟨k1, k2⟩ ku kv kz
  obtain ⟨q, eq⟩ : ∃ q, fan (ptsL w h (polyL [u, v, z])) = q := ⟨_, rfl⟩
  have hok : ∀ e ∈ q, okG3 e.2 := fun e he => fan_ok hpts (by rw [eq]; exact he)
  rw [eq] at e1 e2 hfn
  have bx := boxes 30000 (by omega) (w := w) (h := h) (p := x2.1) (q := x2.2.1) (r := x2.2.2.1) (t := x2.2.2.2) (l := q) (by omega) hok q.length 0 30000 (by omega) (by omega)
  rw [show ((0 : Nat) : Int) = 0 from rfl] at bx
  obtain ⟨a, ea⟩ : ∃ a, F.rem (F.conv .i64 x2.1) 71 = a := ⟨_, rfl⟩
  obtain ⟨b, eb⟩ : ∃ b, F.rem (F.conv .i64 x2.2.1) 71 = b := ⟨_, rfl⟩
  obtain ⟨c, ec⟩ : ∃ c, F.rem (F.conv .i64 x2.2.2.1) 71 = c := ⟨_, rfl⟩
  obtain ⟨d, ed⟩ : ∃ d, F.rem (F.conv .i64 x2.2.2.2) 71 = d := ⟨_, rfl⟩
  have ha := rem71 (F.conv .i64 x2.1)
  have hb := rem71 (F.conv .i64 x2.2.1)
  have hc := rem71 (F.conv .i64 x2.2.2.1)
  have hd := rem71 (F.conv .i64 x2.2.2.2)
  rw [ea] at ha; rw [eb] at hb; rw [ec] at hc; rw [ed] at hd
  obtain ⟨m, hm⟩ : ∃ m, (c - a).toNat = m := ⟨_, rfl⟩
  obtain ⟨r, hr⟩ : ∃ r, (d - b).toNat = r := ⟨_, rfl⟩
  have hrm : r * m ≤ 141 * 141 := Nat.mul_le_mul (by omega) (by omega)
  have g1 := gone_spec 30000 (by omega) (a := a) (b := b) (c := c) (d := d) (M := 30000) (by omega) (by omega) hm (by omega) hr (by omega) (by omega) (by omega)
  rw [Nat.min_eq_right (by omega), show ((30000 : Nat) : Int) = 30000 from rfl] at g1
  have g2 := rpix_rows 30000 (by omega) (a := a) (b := b) (c := c) (d := d) (by omega) (by omega) hm (by omega) hr (by omega) r 30000 0 (by omega) (by omega)
  rw [Nat.zero_mul, show b + ((0 : Nat) : Int) = b by omega] at g2
  have g2 : glazierref10_Pixels_l2 30000 30000 a c d 30000 [] b = _ := g2
  have g3 : glazierref10_Pixels 30000 a b c d 30000 = some (pixN a b m (r * m)) := by
    unfold glazierref10_Pixels
    rw [g2, ob_some]
  have al := alike 30000 (l := pixN a b m (r * m)) (by rw [pixN_length]; omega) (r * m) 0 30000 (by rw [pixN_length]; omega) (by omega)
  rw [show ((0 : Nat) : Int) = 0 from rfl] at al
  unfold glazierlaw10_SetupAll
  rw [setup_shown, ob_some, bnd_eq, bnd_eq, bnd_eq, ew, bnd_eq, bnd_eq, bnd_eq, eh, ef, ob_some, e1, ob_some, ob_some, e2, ob_some, same_S (by omega) (by omega), ob_some, bnd_eq, not_t, bite_f, bnd_eq, bite_f, bx, ob_some, os_inr]
  dsimp only
  rw [bnd_eq, bnd_eq, ea, bnd_eq, bnd_eq, eb, bnd_eq, bnd_eq, ec, bnd_eq, bnd_eq, ed, g1, ob_some, g3, ob_some]
  dsimp only
  simp only [bnd_eq, not_t, bite_f, lenK, pixN_length]
  rw [ne_f rfl, bite_f, al, ob_some]
  rfl
end Go.Proofs.Ytfejdcdomgeogaa.setupAll
