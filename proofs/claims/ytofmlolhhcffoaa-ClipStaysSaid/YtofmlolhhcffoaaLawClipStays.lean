/- ClipStays holds. -/
import Derived.Test.YtofmlolhhcffoaaLawClipMore
set_option linter.unusedVariables false
namespace Go.Proofs.Ytofmlolhhcffoaa.clipStays
open Go Go.RowKit Go.Proofs.Ytofmlolhhcffoaa.M Go.Proofs.Ytofmlolhhcffoaa.G

/-- Put inside of all planes, but for one. -/
def stay (n : Int) (v : Vtx) : Vtx :=
  let w := v.2.2.2.1
  let x := Int.tmod v.1 (4 * w + 1)
  let y := Int.tmod v.2.1 (4 * w + 1)
  let z := Int.tmod v.2.2.1 (w + 1)
  (if n = 1 then -4 * w - 1 else if n = 2 then 4 * w + 1 else x, (if n = 3 then -4 * w - 1 else if n = 4 then 4 * w + 1 else y, (if n = 0 then -w - 1 else z, v.2.2.2)))

theorem stay_ok {n : Int} {v : Vtx} (h : fitC v) : okB (stay n v) := by
  obtain ⟨⟨a1, a2⟩, ⟨b1, b2⟩, ⟨c1, c2⟩, ⟨d1, d2⟩, ⟨e1, e2⟩, ⟨f1, f2⟩, ⟨g1, g2⟩, h1, h2⟩ := h
  have t1 := tmod_lt (a := v.1) (m := 4 * v.2.2.2.1 + 1) (by omega)
  have t2 := tmod_lt (a := v.2.1) (m := 4 * v.2.2.2.1 + 1) (by omega)
  have t3 := tmod_lt (a := v.2.2.1) (m := v.2.2.2.1 + 1) (by omega)
  unfold stay
  refine ⟨?_, ?_, ?_, ⟨by dsimp only; omega, by dsimp only; omega⟩, ⟨by dsimp only; omega, by dsimp only; omega⟩, ⟨by dsimp only; omega, by dsimp only; omega⟩, ⟨by dsimp only; omega, by dsimp only; omega⟩, ⟨by dsimp only; omega, by dsimp only; omega⟩⟩
  · dsimp only; unfold inC
    split
    · omega
    · split <;> omega
  · dsimp only; unfold inC
    split
    · omega
    · split <;> omega
  · dsimp only; unfold inC
    split <;> omega

theorem stay_dist {n : Int} {v : Vtx} (h : fitC v) (q : Int) (hq : isP q) : if q = n then dist q (stay n v) < 0 else 0 ≤ dist q (stay n v) := by
  obtain ⟨_, _, _, ⟨d1, d2⟩, _⟩ := h
  have t1 := tmod_lt (a := v.1) (m := 4 * v.2.2.2.1 + 1) (by omega)
  have t2 := tmod_lt (a := v.2.1) (m := 4 * v.2.2.2.1 + 1) (by omega)
  have t3 := tmod_lt (a := v.2.2.1) (m := v.2.2.2.1 + 1) (by omega)
  rcases five hq with rfl | rfl | rfl | rfl | rfl
  · rw [dist0]; unfold stay; dsimp only
    split
    · rw [if_pos (by omega)]; omega
    · rw [if_neg (by omega)]; omega
  · rw [dist1]; unfold stay; dsimp only
    split
    · rw [if_pos (by omega)]; omega
    · rw [if_neg (by omega)]; split <;> omega
  · rw [dist2]; unfold stay; dsimp only
    split
    · rw [if_neg (by omega), if_pos (by omega)]; omega
    · split
      · omega
      · rw [if_neg (by omega)]; omega
  · rw [dist3]; unfold stay; dsimp only
    split
    · rw [if_pos (by omega)]; omega
    · rw [if_neg (by omega)]; split <;> omega
  · rw [dist4]; unfold stay; dsimp only
    split
    · rw [if_neg (by omega), if_pos (by omega)]; omega
    · split
      · omega
      · rw [if_neg (by omega)]; omega

/-! ### One element told anew -/
theorem put_len {α : Type} {l : List α} {k : Nat} {x : α} : (F.put l (k : Int) x).length = l.length := by unfold F.put; simp
theorem put_get {α : Type} {l : List α} {k : Nat} (h : k < l.length) {x : α} : F.get (F.put l (k : Int) x) (k : Int) = some x := by
  rw [lgetK (by rw [put_len]; exact h)]
  unfold F.put
  simp
theorem has_put {α : Type} {l : List α} {k : Nat} (h : k < l.length) : F.has l (k : Int) = true := by
  unfold F.has
  rw [decide_eq_true (by omega), decide_eq_true (by omega)]
  rfl
theorem put_put {α : Type} {l : List α} {k : Nat} {x y : α} : F.put (F.put l (k : Int) x) (k : Int) y = F.put l (k : Int) y := by unfold F.put; simp

theorem loop (fl : Nat) {h : Bool} {n : Int} (hn : 0 ≤ n ∧ n ≤ 5) {o : List Vtx} (ho : ∀ v ∈ o, fitC v) (hlen : o.length ≤ 100) : ∀ (m k c : Nat), k + m = o.length → m + 1 ≤ c →
    glazierlaw05_ClipStays_l1 fl c h n ((o.take k).map (stay n) ++ o.drop k) (k : Int) = some (h, (n, (o.map (stay n), ())))
  | 0, k, 0, _, h => by omega
  | 0, k, c + 1, hk, _ => by
    unfold glazierlaw05_ClipStays_l1
    rw [bnd_eq, lenK, bnd_eq, lt_f (by simp; omega), bite_f, List.take_of_length_le (by omega), List.drop_eq_nil_of_le (by omega), List.append_nil]
  | m + 1, k, 0, _, h => by omega
  | m + 1, k, c + 1, hk, hc => by
    have hkl : k < o.length := by omega
    obtain ⟨cur, ecur⟩ : ∃ cur, cur = (o.take k).map (stay n) ++ o.drop k := ⟨_, rfl⟩
    have hcl : cur.length = o.length := by rw [ecur]; simp; omega
    have hck : k < cur.length := by omega
    have hg : cur[k] = o[k] := by
      simp only [ecur]
      rw [List.getElem_append_right (by simp; omega), List.getElem_drop]
      congr 1
      simp
      omega
    have ih : ∀ nx : List Vtx, nx = F.put cur (k : Int) (stay n o[k]) → glazierlaw05_ClipStays_l1 fl c h n nx ((k : Int) + 1) = some (h, (n, (o.map (stay n), ()))) := fun nx e => by
      have := loop fl (h := h) hn ho hlen m (k + 1) c (by omega) (by omega)
      rw [show ((k + 1 : Nat) : Int) = (k : Int) + 1 by omega] at this
      rw [← this, e, ecur]
      congr 1
      unfold F.put
      refine List.ext_getElem? fun i => ?_
      rw [List.getElem?_set, Int.toNat_natCast]
      split
      · rename_i hi
        subst hi
        rw [if_pos (by rw [← ecur]; exact hck), List.getElem?_append_left (by simp; omega), List.getElem?_map, List.getElem?_take, if_pos (by omega), List.getElem?_eq_getElem hkl]
        rfl
      · rename_i hi
        rcases Nat.lt_or_gt_of_ne hi with hlt | hgt
        · rw [List.getElem?_append_right (by simp; omega), List.getElem?_append_right (by simp; omega), List.getElem?_drop, List.getElem?_drop]
          congr 1
          simp
          omega
        · rw [List.getElem?_append_left (by simp; omega), List.getElem?_append_left (by simp; omega), List.getElem?_map, List.getElem?_map, List.getElem?_take, List.getElem?_take, if_pos hgt, if_pos (by omega)]
    have hf := ho _ (List.getElem_mem hkl)
    have hb := fitC_ok hf
    rw [← ecur]
    obtain ⟨v, ev⟩ : ∃ v, v = o[k] := ⟨_, rfl⟩
    rw [← ev] at hf hb ih hg
    obtain ⟨a1, a2, a3, ⟨d1, d2⟩, _⟩ := hf
    have t1 := tmod_lt (a := v.1) (m := 4 * v.2.2.2.1 + 1) (by omega)
    have t2 := tmod_lt (a := v.2.1) (m := 4 * v.2.2.2.1 + 1) (by omega)
    have t3 := tmod_lt (a := v.2.2.1) (m := v.2.2.2.1 + 1) (by omega)
    have p1 : ∀ x : Vtx, k < (F.put cur (k : Int) x).length := fun x => by rw [put_len]; exact hck
    unfold glazierlaw05_ClipStays_l1
    rw [bnd_eq, lenK, bnd_eq, lt_t (by omega), bite_t, lgetK hck, hg, ob_some, ob_some, bnd_eq, mulI (a := 4) (by omega), bnd_eq, addI (a := 4 * v.2.2.2.1) (b := 1) (by omega), nz_t (by omega), bgd_t, bnd_eq, has_put hck, bgd_t, ob_some, bnd_eq, put_get hck, ob_some,
      bnd_eq, bnd_eq, addI (a := 4 * v.2.2.2.1) (b := 1) (by omega), nz_t (by omega), bgd_t, bnd_eq, has_put (p1 _), bgd_t, ob_some, bnd_eq, put_put, put_get hck, ob_some, bnd_eq, addI (a := v.2.2.2.1) (b := 1) (by omega), nz_t (by omega), bgd_t, bnd_eq, has_put (p1 _), bgd_t, ob_some, bnd_eq, put_put, bnd_eq]
    dsimp only
    by_cases c0 : n = 0
    · rw [eq_t c0, bite_t, bnd_eq, negI (by omega), bnd_eq, subI (by omega), has_put (p1 _), bgd_t, put_get hck, ob_some, bnd_eq, put_put, bnd_eq, addI (by omega)]
      refine ih _ ?_
      unfold stay F.rem
      dsimp only
      rw [if_pos c0, if_neg (by omega), if_neg (by omega), if_neg (by omega), if_neg (by omega)]
    · rw [eq_f c0, bite_f, bnd_eq]
      by_cases c1 : n = 1
      · rw [eq_t c1, bite_t, bnd_eq, mulI (by omega), bnd_eq, subI (by omega), has_put (p1 _), bgd_t, put_get hck, ob_some, bnd_eq, put_put, bnd_eq, addI (by omega)]
        refine ih _ ?_
        unfold stay F.rem
        dsimp only
        rw [if_pos c1, if_neg (by omega), if_neg (by omega), if_neg (by omega)]
      · rw [eq_f c1, bite_f, bnd_eq]
        by_cases c2 : n = 2
        · rw [eq_t c2, bite_t, bnd_eq, bnd_eq, addI (by omega), has_put (p1 _), bgd_t, put_get hck, ob_some, bnd_eq, put_put, bnd_eq, addI (by omega)]
          refine ih _ ?_
          unfold stay F.rem
          dsimp only
          rw [if_neg c1, if_pos c2, if_neg (by omega), if_neg (by omega), if_neg (by omega)]
        · rw [eq_f c2, bite_f, bnd_eq]
          by_cases c3 : n = 3
          · rw [eq_t c3, bite_t, bnd_eq, mulI (by omega), bnd_eq, subI (by omega), has_put (p1 _), bgd_t, put_get hck, ob_some, bnd_eq, put_put, bnd_eq, addI (by omega)]
            refine ih _ ?_
            unfold stay F.rem
            dsimp only
            rw [if_neg c1, if_neg c2, if_pos c3, if_neg (by omega)]
          · rw [eq_f c3, bite_f, bnd_eq]
            by_cases c4 : n = 4
            · rw [eq_t c4, bite_t, bnd_eq, bnd_eq, addI (by omega), has_put (p1 _), bgd_t, put_get hck, ob_some, bnd_eq, put_put, bnd_eq, addI (by omega)]
              refine ih _ ?_
              unfold stay F.rem
              dsimp only
              rw [if_neg c1, if_neg c2, if_neg c3, if_pos c4, if_neg (by omega)]
            · rw [eq_f c4, bite_f, bnd_eq, addI (by omega)]
              refine ih _ ?_
              unfold stay F.rem
              dsimp only
              rw [if_neg c1, if_neg c2, if_neg c3, if_neg c4, if_neg c0]

/-- What goes at one plane has gone. -/
theorem poly_goes {l : List Vtx} {n : Int} (hn : isP n) (h : ∀ v ∈ l, ∀ q, isP q → if q = n then dist q v < 0 else 0 ≤ dist q v) : polyL l = [] := by
  have st : ∀ q, isP q → q ≠ n → ∀ v ∈ l, 0 ≤ dist q v := fun q hq hne v hv => by have := h v hv q hq; rwa [if_neg hne] at this
  have go : byL n l = [] := byL_goes hn fun v hv => by have := h v hv n hn; rwa [if_pos rfl] at this
  have : allL l = [] := by
    unfold allL
    rcases five hn with rfl | rfl | rfl | rfl | rfl
    · rw [go, byL_nil, byL_nil, byL_nil, byL_nil]
    · rw [byL_stays (st 0 (by decide) (by decide)), go, byL_nil, byL_nil, byL_nil]
    · rw [byL_stays (st 0 (by decide) (by decide)), byL_stays (st 1 (by decide) (by decide)), go, byL_nil, byL_nil]
    · rw [byL_stays (st 0 (by decide) (by decide)), byL_stays (st 1 (by decide) (by decide)), byL_stays (st 2 (by decide) (by decide)), go, byL_nil]
    · rw [byL_stays (st 0 (by decide) (by decide)), byL_stays (st 1 (by decide) (by decide)), byL_stays (st 2 (by decide) (by decide)), byL_stays (st 3 (by decide) (by decide)), go]
  unfold polyL
  rw [this]
  rfl

theorem law (x0 : (Ty.list (.pair (.int .i64) (.pair (.int .i64) (.pair (.int .i64) (.pair (.int .i64) (.pair (.int .i64) (.pair (.int .i64) (.pair (.int .i64) (.int .i64))))))))).T) (x1 : (Ty.int .u8).T)
    (h0 : okT (Ty.list (.pair (.int .i64) (.pair (.int .i64) (.pair (.int .i64) (.pair (.int .i64) (.pair (.int .i64) (.pair (.int .i64) (.pair (.int .i64) (.int .i64))))))))) x0) (h1 : okT (.int .u8) x1) : ∃ fl, glazierlaw05_ClipStays fl x0 x1 = some true := by
  refine ⟨5000, ?_⟩
  have h1 := inR_u8.1 h1
  unfold glazierlaw05_ClipStays
  rw [cshown (by omega), ob_some, bnd_eq, convI (by omega), bnd_eq]
  have hn : 0 ≤ F.rem x1 6 ∧ F.rem x1 6 ≤ 5 := by
    have a1 := Int.tmod_nonneg 6 h1.1
    have a2 := Int.tmod_lt_of_pos x1 (show (0 : Int) < 6 by decide)
    unfold F.rem
    omega
  obtain ⟨n, en⟩ : ∃ n, n = F.rem x1 6 := ⟨_, rfl⟩
  rw [← en] at hn ⊢
  obtain ⟨o, eo, hol, hof⟩ := cfit (fl := 5000) (by omega) x0
  have hl := loop 5000 (h := true) hn hof (by omega) o.length 0 5000 (by omega) (by omega)
  rw [show ((0 : Nat) : Int) = 0 from rfl, List.take_zero, List.drop_zero, List.map_nil, List.nil_append] at hl
  rw [eo, ob_some, hl, ob_some]
  dsimp only
  have hok : ∀ v ∈ o.map (stay n), okB v := fun v hv => by
    obtain ⟨w, hw, rfl⟩ := List.mem_map.1 hv
    exact stay_ok (hof w hw)
  have hd : ∀ v ∈ o.map (stay n), ∀ q, isP q → if q = n then dist q v < 0 else 0 ≤ dist q v := fun v hv q hq => by
    obtain ⟨w, hw, rfl⟩ := List.mem_map.1 hv
    exact stay_dist (hof w hw) q hq
  have hml : (o.map (stay n)).length ≤ 8 := by rw [List.length_map]; omega
  rw [poly_spec hok (by omega) (by omega), ob_some, bnd_eq]
  by_cases c5 : n < 5
  · have hnp : isP n := ⟨hn.1, by omega⟩
    rw [lt_t c5, bite_t, bite_t, poly_goes hnp hd, bnd_eq, bnd_eq, eq_t (by rfl), bite_t, by_spec hok (by omega) (by omega), ob_some, byL_goes hnp (fun v hv => by have := hd v hv n hnp; rwa [if_pos rfl] at this), bnd_eq, bnd_eq, eq_t (by rfl)]
  · have st : ∀ q, isP q → ∀ v ∈ o.map (stay n), 0 ≤ dist q v := fun q hq v hv => by
      have := hd v hv q hq
      rwa [if_neg (by have := hq.2; omega)] at this
    have hall : allL (o.map (stay n)) = o.map (stay n) := by
      unfold allL
      rw [byL_stays (st 0 (by decide)), byL_stays (st 1 (by decide)), byL_stays (st 2 (by decide)), byL_stays (st 3 (by decide)), byL_stays (st 4 (by decide))]
    rw [lt_f (by omega), bite_f, bnd_eq, bnd_eq]
    unfold polyL
    rw [hall]
    by_cases c3 : (o.map (stay n)).length < 3
    · rw [lt_t (by rw [lenK]; omega), bite_t, bite_t, if_pos c3, bnd_eq, bnd_eq, eq_t (by rfl)]
    · rw [lt_f (by rw [lenK]; omega), bite_f, if_neg c3, csame (by omega) (by omega), ob_some, bite_t, decide_eq_true rfl]
end Go.Proofs.Ytofmlolhhcffoaa.clipStays
