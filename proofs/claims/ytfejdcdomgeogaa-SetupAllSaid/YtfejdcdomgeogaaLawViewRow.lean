/- Rows of vertices on a screen. -/
import Derived.Test.YtfejdcdomgeogaaLawViewPt
import Derived.Test.YtfejdcdomgeogaaLawList
import Derived.Test.YtfejdcdomgeogaaLawRef01
set_option linter.unusedVariables false
namespace Go.Proofs.Ytfejdcdomgeogaa.G
open Go Go.RowKit Go.Proofs.Ytfejdcdomgeogaa.M

abbrev Vx := Int × Int × Int × Int × Int × Int × Int × Int
abbrev Px := Int × Int × Int × Int × Int × Int × Int

/-- Numbers that are not too great. -/
def okV (v : Vx) : Prop := (-1048576 ≤ v.1 ∧ v.1 ≤ 1048576) ∧ (-1048576 ≤ v.2.1 ∧ v.2.1 ≤ 1048576) ∧ (-1048576 ≤ v.2.2.1 ∧ v.2.2.1 ≤ 1048576) ∧ (-1048576 ≤ v.2.2.2.1 ∧ v.2.2.2.1 ≤ 1048576)

/-- Whether a vertex has a point. -/
def onS (w h : Int) (v : Vx) : Bool := decide ((1 ≤ w ∧ w ≤ 64) ∧ (1 ≤ h ∧ h ≤ 64) ∧ 1 ≤ v.2.2.2.1)

def ptS (w h : Int) (v : Vx) : Px := (Int.fdiv (v.1 * (8 * w)) v.2.2.2.1 + 8 * w, Int.fdiv (v.2.1 * (8 * h)) v.2.2.2.1 + 8 * h, Int.fdiv (v.2.2.1 * 32768) v.2.2.2.1 + 32768, v.2.2.2.2)

def pzS : Px := (0, (0, (0, (0, (0, (0, 0))))))

def PS (w h : Int) (v : Vx) : Px × Bool := (if onS w h v then ptS w h v else pzS, onS w h v)

theorem point_S (fl : Nat) {w h : Int} {v : Vx} (hv : okV v) : view_Point fl w h v = some (PS w h v) := by
  obtain ⟨h1, h2, h3, h4⟩ := hv
  unfold PS
  by_cases hs : onS w h v = true
  · have hs' := of_decide_eq_true hs
    rw [if_pos hs, point_spec fl hs'.1 hs'.2.1 (by omega) (by omega) (by omega) ⟨hs'.2.2, by omega⟩, hs]
    rfl
  · have hs0 : onS w h v = false := by simpa using hs
    have hs' := of_decide_eq_false hs0
    rw [if_neg hs, point_none fl (by omega), hs0]
    rfl

theorem ref_point {fl : Nat} (hfl : 130 ≤ fl) {w h : Int} {v : Vx} (hv : okV v) : glazierref06_Point fl w h v = some (PS w h v) := by
  obtain ⟨h1, h2, h3, h4⟩ := hv
  unfold PS glazierref06_Point
  by_cases hs : onS w h v = true
  · have hs' := of_decide_eq_true hs
    obtain ⟨⟨w1, w2⟩, ⟨k1, k2⟩, v1⟩ := hs'
    have p1 := mul_in (a := v.1) (b := 8 * w) (m := 1048576) (n := 512) h1 (by omega)
    have p2 := mul_in (a := v.2.1) (b := 8 * h) (m := 1048576) (n := 512) h2 (by omega)
    have l1 := fdiv_lim (p := v.1 * (8 * w)) (c := v.2.2.2.1) (m := 536870912) (by omega) (by omega) (by omega) (by decide)
    have l2 := fdiv_lim (p := v.2.1 * (8 * h)) (c := v.2.2.2.1) (m := 536870912) (by omega) (by omega) (by omega) (by decide)
    have l3 := fdiv_lim (p := v.2.2.1 * 32768) (c := v.2.2.2.1) (m := 34359738368) (by omega) (by omega) (by omega) (by decide)
    rw [if_pos hs, hs, bnd_eq, lt_f w1, bite_f, bnd_eq, gt_f w2, bite_f, bnd_eq, lt_f k1, bite_f, bnd_eq, gt_f k2, bite_f, bnd_eq, lt_f v1, bite_f]
    rw [bnd_eq, mulI (a := v.1) (b := 8) (by omega), bnd_eq, mulI (a := v.1 * 8) (b := w) (by rw [Int.mul_assoc]; omega), Int.mul_assoc, ref_down hfl (by omega) (by omega) (by omega), ob_some, bnd_eq, mulI (a := 8) (b := w) (by omega), bnd_eq, addI (by omega),
      bnd_eq, mulI (a := v.2.1) (b := 8) (by omega), bnd_eq, mulI (a := v.2.1 * 8) (b := h) (by rw [Int.mul_assoc]; omega), Int.mul_assoc, ref_down hfl (by omega) (by omega) (by omega), ob_some, bnd_eq, mulI (a := 8) (b := h) (by omega), bnd_eq, addI (by omega),
      bnd_eq, mulI (a := v.2.2.1) (b := 32768) (by omega), ref_down hfl (by omega) (by omega) (by omega), ob_some, bnd_eq, addI (by omega)]
    rfl
  · have hs0 : onS w h v = false := by simpa using hs
    have hs' := of_decide_eq_false hs0
    rw [if_neg hs, hs0]
    by_cases c1 : w < 1
    · rw [bnd_eq, lt_t c1, bite_t]; rfl
    · rw [bnd_eq, lt_f (by omega), bite_f]
      by_cases c2 : 64 < w
      · rw [bnd_eq, gt_t c2, bite_t]; rfl
      · rw [bnd_eq, gt_f (by omega), bite_f]
        by_cases c3 : h < 1
        · rw [bnd_eq, lt_t c3, bite_t]; rfl
        · rw [bnd_eq, lt_f (by omega), bite_f]
          by_cases c4 : 64 < h
          · rw [bnd_eq, gt_t c4, bite_t]; rfl
          · rw [bnd_eq, gt_f (by omega), bite_f, bnd_eq, lt_t (by omega), bite_t]; rfl

theorem PS_out {w h : Int} {v : Vx} (hs : onS w h v = true) : PS w h v = (ptS w h v, true) := by unfold PS; rw [if_pos hs, hs]
theorem PS_none {w h : Int} {v : Vx} (hs : onS w h v = false) : (PS w h v).2 = false := by unfold PS; exact hs

theorem points_loop (fl : Nat) {w h : Int} {l : List Vx} (hl : ∀ v ∈ l, okV v) (hlen : l.length ≤ 1000) : ∀ (m k n : Nat) (acc : List Px), k + m = l.length → m + 1 ≤ n → acc.length = k →
    view_Points_l1 fl n w h acc l (l.length : Int) (k : Int) = some (if (l.drop k).all (onS w h) then .inr (acc ++ (l.drop k).map (ptS w h), ()) else .inl ())
  | 0, k, 0, acc, _, h, _ => by omega
  | 0, k, n + 1, acc, hk, _, _ => by
    unfold view_Points_l1
    rw [bnd_eq, lt_f (by omega), bite_f, List.drop_eq_nil_of_le (by omega)]
    simp
  | m + 1, k, 0, acc, _, h, _ => by omega
  | m + 1, k, n + 1, acc, hk, hn, ha => by
    have hkl : k < l.length := by omega
    unfold view_Points_l1
    rw [bnd_eq, lt_t (by omega), bite_t, lgetK hkl, ob_some, point_S fl (hl _ (List.getElem_mem hkl)), ob_some, bnd_eq, ldrop hkl]
    cases hs : onS w h l[k] with
    | false =>
      rw [PS_none hs, not_f, bite_t, List.all_cons, hs]
      rfl
    | true =>
      rw [PS_out hs, not_t, bite_f, appOk_t (by simp; omega) (by decide), bgd_t, bnd_eq, appK, bnd_eq, addI (by omega)]
      have ih := points_loop fl (w := w) (h := h) hl hlen m (k + 1) n (acc ++ [ptS w h l[k]]) (by omega) (by omega) (by simp [ha])
      rw [show ((k + 1 : Nat) : Int) = (k : Int) + 1 by omega] at ih
      rw [ih, List.all_cons, hs, Bool.true_and, List.map_cons, List.append_assoc]
      rfl

theorem points_S {fl : Nat} {w h : Int} {l : List Vx} (hl : ∀ v ∈ l, okV v) (hlen : l.length ≤ 1000) (hfl : l.length + 1 ≤ fl) : view_Points fl w h l = some (if l.all (onS w h) then (l.map (ptS w h), true) else ([], false)) := by
  unfold view_Points
  have := points_loop fl (w := w) (h := h) hl hlen l.length 0 fl [] (by omega) hfl rfl
  rw [bnd_eq, lenK]
  rw [show ((0 : Nat) : Int) = 0 from rfl] at this
  rw [this, ob_some, List.drop_zero]
  cases l.all (onS w h) <;> rfl

theorem rpoints_loop {fl : Nat} (hf : 130 ≤ fl) {w h : Int} {l : List Vx} (hl : ∀ v ∈ l, okV v) (hlen : l.length ≤ 1000) : ∀ (m k n : Nat) (acc : List Px), k + m = l.length → m + 1 ≤ n → acc.length = k →
    glazierref06_Points_l1 fl n w h l acc (k : Int) = some (if (l.drop k).all (onS w h) then .inr (acc ++ (l.drop k).map (ptS w h), ()) else .inl ())
  | 0, k, 0, acc, _, h, _ => by omega
  | 0, k, n + 1, acc, hk, _, _ => by
    unfold glazierref06_Points_l1
    rw [bnd_eq, lenK, bnd_eq, lt_f (by omega), bite_f, List.drop_eq_nil_of_le (by omega)]
    simp
  | m + 1, k, 0, acc, _, h, _ => by omega
  | m + 1, k, n + 1, acc, hk, hn, ha => by
    have hkl : k < l.length := by omega
    unfold glazierref06_Points_l1
    rw [bnd_eq, lenK, bnd_eq, lt_t (by omega), bite_t, lgetK hkl, ob_some, ref_point hf (hl _ (List.getElem_mem hkl)), ob_some, bnd_eq, ldrop hkl]
    cases hs : onS w h l[k] with
    | false =>
      rw [PS_none hs, not_f, bite_t, List.all_cons, hs]
      rfl
    | true =>
      rw [PS_out hs, not_t, bite_f, appOk_t (by simp; omega) (by decide), bgd_t, bnd_eq, appK, bnd_eq, addI (by omega)]
      have ih := rpoints_loop hf (w := w) (h := h) hl hlen m (k + 1) n (acc ++ [ptS w h l[k]]) (by omega) (by omega) (by simp [ha])
      rw [show ((k + 1 : Nat) : Int) = (k : Int) + 1 by omega] at ih
      rw [ih, List.all_cons, hs, Bool.true_and, List.map_cons, List.append_assoc]
      rfl

theorem rpoints_S {fl : Nat} {w h : Int} {l : List Vx} (hl : ∀ v ∈ l, okV v) (hlen : l.length ≤ 1000) (hfl : l.length + 130 ≤ fl) : glazierref06_Points fl w h l = some (if l.all (onS w h) then (l.map (ptS w h), true) else ([], false)) := by
  unfold glazierref06_Points
  have := rpoints_loop (fl := fl) (by omega) (w := w) (h := h) hl hlen l.length 0 fl [] (by omega) (by omega) rfl
  rw [show ((0 : Nat) : Int) = 0 from rfl] at this
  rw [this, ob_some, List.drop_zero]
  cases l.all (onS w h) <;> rfl

theorem eq7 (p : Px) : F.not (F.both (F.eq p.1 p.1) (F.both (F.eq p.2.1 p.2.1) (F.both (F.eq p.2.2.1 p.2.2.1) (F.both (F.eq p.2.2.2.1 p.2.2.2.1) (F.both (F.eq p.2.2.2.2.1 p.2.2.2.2.1) (F.both (F.eq p.2.2.2.2.2.1 p.2.2.2.2.2.1) (F.eq p.2.2.2.2.2.2 p.2.2.2.2.2.2))))))) = false := by
  rw [eq_t rfl, eq_t rfl, eq_t rfl, eq_t rfl, eq_t rfl, eq_t rfl, eq_t rfl]; rfl
end Go.Proofs.Ytfejdcdomgeogaa.G
