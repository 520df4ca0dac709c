/- Runs that are gone through. -/
import Derived.Test.YtepifmbnajpgeaaLawRuns
set_option linter.unusedVariables false
namespace Go.Proofs.Ytepifmbnajpgeaa.G
open Go Go.RowKit Go.Proofs.Ytepifmbnajpgeaa.M

theorem gone_in (fl : Nat) (l a b : List Px) (most : Int) (ms : List Int) (out : List Px) (from_ : Nat) (c : Px) (hc : ∃ h : from_ < l.length, l[from_] = c) (hl : l.length ≤ 100000) : ∀ (n e : Nat), e ≤ l.length → l.length - e + 1 ≤ n →
    glazierlaw24_gone_i25_l1 fl n l from_ e a b most ms out = some (l, ((from_ : Int), (((e + grp c (l.drop e) : Nat) : Int), (a, (b, (most, (ms, (out, ()))))))))
  | 0, e, he, hn => by omega
  | n + 1, e, he, hn => by
    rw [glazierlaw24_gone_i25_l1]
    simp only [bnd_eq]
    rw [lenK]
    by_cases h : e < l.length
    · obtain ⟨hf, hc'⟩ := hc
      rw [lt_t (by omega), bite_t, lgetK h, ob_some, lgetK hf, ob_some, eqPx, hc', ldrop h]
      by_cases hx : l[e] = c
      · rw [decide_eq_true hx, bite_t, addI (by omega)]
        have := gone_in fl l a b most ms out from_ c ⟨hf, hc'⟩ hl n (e + 1) (by omega) (by omega)
        rw [Int.natCast_add] at this
        refine this.trans ?_
        rw [grp_cons, if_pos hx, show e + 1 + grp c (l.drop (e + 1)) = e + (grp c (l.drop (e + 1)) + 1) by omega]
      · rw [decide_eq_false hx, bite_f]
        rw [grp_cons, if_neg hx]
        rfl
    · rw [lt_f (by omega), bite_f, List.drop_eq_nil_of_le (by omega)]
      rfl

/-- How the runs end. -/
def gfin (z : ((List Px × Int × List Px × Int × List Int × List Px × Unit) ⊕ (List Px × List Px × Int × List Int × List Px × Unit))) : Option (List Int × List Px × Bool) :=
  osum z (fun s4 =>
    bite (F.eq s4.2.1 0) (
      some (s4.2.2.2.2.1, (s4.2.2.2.2.2.1, true))) (
      bite (F.eq s4.2.1 2) (
        some ([], ([], false))) (
        bgd (F.eq s4.2.1 3) (
          some (s4.2.2.2.2.1, (s4.2.2.2.2.2.1, true)))))) (fun r5 =>
    some (r5.2.2.2.1, (r5.2.2.2.2.1, true)))

theorem gone_eq (fl : Nat) (l : List Px) (most : Int) : glazierlaw24_gone fl l most = obind (glazierlaw24_gone_i25_l2 fl fl l 0 0 l l most [] []) gfin := rfl

def manyI (q : List (Nat × Px)) : List Int := q.map fun q => (q.1 : Int)
def colI (q : List (Nat × Px)) : List Px := q.map (·.2)

theorem gone_loop {fl : Nat} {l : List Px} (hfl : l.length + 2 ≤ fl) (hl : l.length ≤ 10000) {m : Nat} : ∀ (k n i : Nat) (acc : List (Nat × Px)), i ≤ l.length → l.length - i ≤ k → k + 1 ≤ n → acc.length ≤ i → acc.length < m →
    obind (glazierlaw24_gone_i25_l2 fl n l i i l l m (manyI acc) (colI acc)) gfin = some (manyI (acc ++ (runs k (l.drop i)).take (m - acc.length)), (colI (acc ++ (runs k (l.drop i)).take (m - acc.length)), true))
  | k, 0, i, acc, hi, hk, hn, ha, hm => by omega
  | k, n + 1, i, acc, hi, hk, hn, ha, hm => by
    rw [glazierlaw24_gone_i25_l2]
    simp only [bnd_eq]
    rw [lenK]
    by_cases h : i < l.length
    · obtain ⟨k, rfl⟩ : ∃ j, k = j + 1 := ⟨k - 1, by omega⟩
      have hg := grp_le l[i] (l.drop (i + 1))
      rw [List.length_drop] at hg
      rw [lt_t (by omega), bite_t, gone_in fl l l l m _ _ i l[i] ⟨h, rfl⟩ (by omega) fl i hi (by omega), ob_some]
      dsimp only
      have hgi : grp l[i] (l.drop i) = grp l[i] (l.drop (i + 1)) + 1 := by rw [ldrop h, grp_cons, if_pos rfl]
      have hr : runs (k + 1) (l.drop i) = (grp l[i] (l.drop (i + 1)) + 1, l[i]) :: runs k (l.drop (i + (grp l[i] (l.drop (i + 1)) + 1))) := by
        rw [ldrop h, runs_cons, List.drop_drop, show i + 1 + grp l[i] (l.drop (i + 1)) = i + (grp l[i] (l.drop (i + 1)) + 1) by omega]
      rw [hgi, hr]
      have hg0 : 1 ≤ grp l[i] (l.drop (i + 1)) + 1 ∧ i + (grp l[i] (l.drop (i + 1)) + 1) ≤ l.length := by omega
      clear hg hgi hr
      generalize grp l[i] (l.drop (i + 1)) + 1 = g at *
      rw [subI (by omega), lgetK h, ob_some, appOk_t (by simp [manyI]; omega) (by decide), bgd_t, appK, appOk_t (by simp [colI]; omega) (by decide), bgd_t, appK, show ((i + g : Nat) : Int) - (i : Int) = (g : Int) by omega]
      have e1 : manyI acc ++ [(g : Int)] = manyI (acc ++ [(g, l[i])]) := by simp [manyI]
      have e2 : colI acc ++ [l[i]] = colI (acc ++ [(g, l[i])]) := by simp [colI]
      have e3 : (colI (acc ++ [(g, l[i])])).length = acc.length + 1 := by simp [colI]
      rw [e1, e2, lenK, lenK, e3]
      by_cases hm' : m ≤ acc.length + 1
      · rw [ge_t (by omega), bite_t, ob_some]
        have : m - acc.length = 1 := by omega
        rw [this]
        rfl
      · rw [ge_f (by omega), bite_f, gt_f (by omega), bite_f, gone_loop hfl hl k n (i + g) (acc ++ [(g, l[i])]) (by omega) (by omega) (by omega) (by simp; omega) (by simp; omega)]
        have : m - acc.length = (m - (acc ++ [(g, l[i])]).length) + 1 := by simp; omega
        rw [this, List.take_succ_cons, List.append_assoc]
        rfl
    · rw [lt_f (by omega), bite_f, ob_some, List.drop_eq_nil_of_le (by omega)]
      have : runs k ([] : List Px) = [] := by cases k <;> rfl
      rw [this, List.take_nil, List.append_nil]
      rfl

theorem gone_spec {fl : Nat} {l : List Px} (hfl : l.length + 2 ≤ fl) (hl : l.length ≤ 10000) {m : Nat} (hm : 1 ≤ m) : glazierlaw24_gone fl l m = some (manyI ((runs l.length l).take m), (colI ((runs l.length l).take m), true)) := by
  rw [gone_eq]
  exact gone_loop hfl hl l.length fl 0 [] (by omega) (by omega) (by omega) (by simp) (by simp; omega)

section
variable {fl : Nat} {l : List Px} (h3 h4 : Bool)

theorem one_run (q : List (Nat × Px)) (hq : q.length ≤ 10000) : ∀ (k n i j : Nat) (acc : List Px) (h : i < q.length), j + k = (q[i]).1 → k + 1 ≤ n → acc.length + k ≤ 90000 → (q[i]).1 ≤ 90000 →
    glazierlaw24_ImageRuns_l1 fl n l (manyI q) (colI q) h3 h4 acc i j = some (l, (manyI q, (colI q, (h3, (h4, (acc ++ List.replicate k (q[i]).2, ((i : Int), ())))))))
  | 0, n, i, j, acc, h, hj, hn, ha, hb => by
    obtain ⟨n, rfl⟩ : ∃ m, n = m + 1 := ⟨n - 1, by omega⟩
    rw [glazierlaw24_ImageRuns_l1, lgetK (by simpa [manyI] using h), ob_some, bnd_eq, lt_f (by simp [manyI]; omega), bite_f]
    simp
  | k + 1, n, i, j, acc, h, hj, hn, ha, hb => by
    obtain ⟨n, rfl⟩ : ∃ m, n = m + 1 := ⟨n - 1, by omega⟩
    rw [glazierlaw24_ImageRuns_l1, lgetK (by simpa [manyI] using h), ob_some, bnd_eq, lt_t (by simp [manyI]; omega), bite_t, lgetK (by simpa [colI] using h), ob_some, appOk_t (by simp; omega) (by decide), bgd_t, bnd_eq, bnd_eq, appK, addI (by omega)]
    have := one_run q hq k n i (j + 1) (acc ++ [(q[i]).2]) h (by omega) (by omega) (by simp; omega) hb
    rw [Int.natCast_add] at this
    have e : (colI q)[i]'(by simpa [colI] using h) = (q[i]).2 := by simp [colI]
    rw [e]
    refine this.trans ?_
    rw [List.append_assoc, List.replicate_succ]
    rfl

theorem all_runs (q : List (Nat × Px)) (hfl : 500 ≤ fl) (hl : l.length ≤ 400) (hq : q.length ≤ 400) (h1 : ∀ x ∈ q, 1 ≤ x.1 ∧ x.1 ≤ l.length) (ha : apart q) : ∀ (k n i : Nat) (acc : List Px), i + k = q.length → k + 1 ≤ n → acc.length + (spread (q.drop i)).length ≤ 400 →
    glazierlaw24_ImageRuns_l2 fl n l (manyI q) (colI q) h3 h4 acc i = some (.inr (l, (h3, (h4, (acc ++ spread (q.drop i), ())))))
  | 0, n, i, acc, hi, hn, hac => by
    obtain ⟨n, rfl⟩ : ∃ m, n = m + 1 := ⟨n - 1, by omega⟩
    rw [glazierlaw24_ImageRuns_l2]
    simp only [bnd_eq]
    rw [lenK, lt_f (by simp [colI]; omega), bite_f, List.drop_eq_nil_of_le (by omega)]
    simp [spread]
  | k + 1, n, i, acc, hi, hn, hac => by
    obtain ⟨n, rfl⟩ : ∃ m, n = m + 1 := ⟨n - 1, by omega⟩
    have h : i < q.length := by omega
    obtain ⟨b1, b2⟩ := h1 _ (List.getElem_mem h)
    have hsp : spread (q.drop i) = List.replicate (q[i]).1 (q[i]).2 ++ spread (q.drop (i + 1)) := by rw [ldrop h]; rfl
    rw [hsp, List.length_append, List.length_replicate] at hac
    have em : ∀ h' , (manyI q)[i]'h' = ((q[i]).1 : Int) := fun h' => by simp [manyI]
    have ec : ∀ (j : Nat) h' h'', (colI q)[j]'h' = (q[j]'h'').2 := fun j h' h'' => by simp [colI]
    have rest : obind (glazierlaw24_ImageRuns_l1 fl fl l (manyI q) (colI q) h3 h4 acc i 0) (fun q21 =>
        glazierlaw24_ImageRuns_l2 fl n q21.1 q21.2.1 q21.2.2.1 q21.2.2.2.1 q21.2.2.2.2.1 q21.2.2.2.2.2.1 (F.add .i64 q21.2.2.2.2.2.2.1 1)) = some (.inr (l, (h3, (h4, (acc ++ spread (q.drop i), ()))))) := by
      have := one_run (fl := fl) (l := l) h3 h4 q (by omega) (q[i]).1 fl i 0 acc h (by omega) (by omega) (by omega) (by omega)
      rw [show ((0 : Nat) : Int) = 0 from rfl] at this
      rw [this, ob_some]
      dsimp only
      rw [addI (by omega)]
      have ih := all_runs q hfl hl hq h1 ha k n (i + 1) (acc ++ List.replicate (q[i]).1 (q[i]).2) (by omega) (by omega) (by simp; omega)
      rw [Int.natCast_add] at ih
      refine ih.trans ?_
      rw [hsp, List.append_assoc]
    rw [glazierlaw24_ImageRuns_l2]
    simp only [bnd_eq]
    rw [lenK, lt_t (by simp [colI]; omega), bite_t, lgetK (show i < (manyI q).length by simpa [manyI] using h), ob_some, ob_some, em, lt_f (by omega), bite_f, lenK, gt_f (by omega), bite_f]
    by_cases h0 : i = 0
    · rw [gt_f (by omega), bite_f]
      exact rest
    · obtain ⟨j, rfl⟩ : ∃ j, i = j + 1 := ⟨i - 1, by omega⟩
      rw [gt_t (by omega), bite_t, lgetK (show j + 1 < (colI q).length by simpa [colI] using h), ob_some, subI (by omega), lgetI (k := j) (by omega) (by simp [colI]; omega), ob_some, eqPx, ec (j + 1) _ h, ec j _ (by omega), decide_eq_false (apart_at ha j h), bite_f]
      exact rest
end

theorem shown24 : glazierlaw24_shown 500 = some true := by decide +kernel
/-! ### The law -/
noncomputable def rtail (fl : Nat) (h : Bool) (l : List Px) (x1 : Int) : Option Bool :=
  obind (glazierlaw24_gone fl l 10000) fun q31 =>
  bnd (F.conv .i64 x1) fun v32 =>
  bnd (F.rem v32 16) fun v33 =>
  bnd (F.add .i64 1 v33) fun v34 =>
  obind (glazierlaw24_gone fl l v34) fun q35 =>
  bnd (F.not h) fun v36 =>
  bite v36 (
    some false) (
    bnd (F.not q31.2.2) fun v37 =>
    bite v37 (
      some false) (
      bnd (F.not q35.2.2) fun v38 =>
      bite v38 (
        some false) (
        bnd (F.len q35.2.1) fun v39 =>
        bnd (F.len q31.2.1) fun v40 =>
        bnd (F.conv .i64 x1) fun v41 =>
        bnd (F.rem v41 16) fun v42 =>
        bnd (F.add .i64 1 v42) fun v43 =>
        bnd (F.min v40 v43) fun v44 =>
        bnd (F.ne v39 v44) fun v45 =>
        bite v45 (
          some false) (
          bnd (F.len q35.1) fun v46 =>
          bgd (F.cutOk q31.1 0 v46) (
            bnd (F.cut q31.1 0 v46) fun v47 =>
            obind (glazierref03_Same fl q35.1 v47) fun q48 =>
            bnd (F.len q35.2.1) fun v49 =>
            bgd (F.cutOk q31.2.1 0 v49) (
              bnd (F.cut q31.2.1 0 v49) fun v50 =>
              obind (glazierref02_Same fl q35.2.1 v50) fun q51 =>
              obind (glazierlaw24_ImageRuns_l2 fl fl l q31.1 q31.2.1 q48 q51 [] 0) fun q52 =>
              osum q52 (fun s53 =>
                some false) (fun r54 =>
                obind (glazierref02_Same fl r54.2.2.2.1 r54.1) fun q55 =>
                bite r54.2.1 (
                  bite r54.2.2.1 (
                    some q55) (
                    some false)) (
                  some false))))))))

theorem runs_eq (fl : Nat) (x0 : List Px) (x1 : Int) : glazierlaw24_ImageRuns fl x0 x1 = obind (glazierlaw24_shown fl) fun h => bnd (F.len x0) fun v => bnd (F.gt v 400) fun c => bite c (
  bgd (F.cutOk x0 0 400) (bnd (F.cut x0 0 400) fun l => rtail fl h l x1)) (rtail fl h x0 x1) := rfl

theorem cut_take {α : Type} (l : List α) (n : Nat) : F.cut l 0 (n : Int) = l.take n := by
  unfold F.cut
  rw [Int.toNat_natCast]
  rfl

theorem cutOkK {α : Type} {l : List α} {n : Nat} (h : n ≤ l.length) : F.cutOk l 0 (n : Int) = true := by
  unfold F.cutOk; rw [decide_eq_true (by decide), decide_eq_true (by omega), decide_eq_true (by omega)]; rfl

theorem rtail_spec {l : List Px} (hl : l.length ≤ 400) {x1 : Int} (h1 : 0 ≤ x1 ∧ x1 ≤ 255) : rtail 500 true l x1 = some true := by
  unfold rtail
  simp only [bnd_eq]
  obtain ⟨m, hm⟩ : ∃ m : Nat, 1 + x1 % 16 = (m : Int) := ⟨(1 + x1 % 16).toNat, by omega⟩
  have hrem : F.add .i64 1 (F.rem (F.conv .i64 x1) 16) = (m : Int) := by
    rw [convI (by omega), show F.rem x1 16 = x1 % 16 from Int.tmod_eq_emod_of_nonneg h1.1, addI (by omega), hm]
  rw [hrem]
  have hR := runs_len l.length l
  have hin := runs_in l.length l
  have hap := runs_apart l.length l
  have hsp := runs_spread l.length l (Nat.le_refl _)
  rw [show (10000 : Int) = ((10000 : Nat) : Int) from rfl, gone_spec (m := 10000) (by omega) (by omega) (by decide), ob_some, gone_spec (m := m) (by omega) (by omega) (by omega), ob_some]
  dsimp only
  generalize runs l.length l = R at *
  rw [List.take_of_length_le (i := 10000) (by omega), not_t, bite_f, bite_f, bite_f, lenK, lenK, f_min]
  have c1 : (colI (R.take m)).length = min m R.length := by simp [colI]
  have c2 : (colI R).length = R.length := by simp [colI]
  have c3 : (manyI (R.take m)).length = min m R.length := by simp [manyI]
  have c4 : (manyI R).length = R.length := by simp [manyI]
  rw [c1, c2, ne_f (by omega), bite_f, lenK, c3, cutOkK (by omega), bgd_t, cut_take]
  have e1 : (manyI R).take (min m R.length) = manyI (R.take m) := by
    simp only [manyI, ← List.map_take]
    congr 1
    rw [List.take_eq_take_iff]
    omega
  have e2 : (colI R).take (min m R.length) = colI (R.take m) := by
    simp only [colI, ← List.map_take]
    congr 1
    rw [List.take_eq_take_iff]
    omega
  rw [e1, same03_spec (by omega) (by omega), ob_some, cutOkK (by omega), bgd_t, cut_take, e2, same02_spec (by omega) (by omega), ob_some]
  have := all_runs (fl := 500) (l := l) true true R (by decide) hl (by omega) (fun x hx => ⟨(hin x hx).1, (hin x hx).2.1⟩) hap R.length 500 0 [] (by omega) (by omega) (by rw [List.drop_zero, hsp]; simpa using hl)
  rw [show ((0 : Nat) : Int) = 0 from rfl, List.drop_zero, hsp, List.nil_append] at this
  rw [this, ob_some]
  show (obind (glazierref02_Same 500 l l) fun q => bite true (bite true (some q) (some false)) (some false)) = some true
  rw [same02_spec (by omega) (by omega)]
  rfl

end Go.Proofs.Ytepifmbnajpgeaa.G
namespace Go.Proofs.Ytepifmbnajpgeaa.imageRuns
open Go Go.RowKit Go.Proofs.Ytepifmbnajpgeaa.M Go.Proofs.Ytepifmbnajpgeaa.G
theorem law (x0 : (Ty.list (.pair (.int .u8) (.pair (.int .u8) (.pair (.int .u8) (.int .u8))))).T) (x1 : (Ty.int .u8).T) (h0 : okT (.list (.pair (.int .u8) (.pair (.int .u8) (.pair (.int .u8) (.int .u8))))) x0) (h1 : okT (.int .u8) x1) : ∃ fl, glazierlaw24_ImageRuns fl x0 x1 = some true := by
  refine ⟨500, ?_⟩
  rw [runs_eq, shown24, ob_some]
  simp only [bnd_eq]
  rw [lenK]
  by_cases h : 400 < (List.length x0 : Int)
  · rw [gt_t h, bite_t, show (400 : Int) = ((400 : Nat) : Int) from rfl, cutOkK (by omega), bgd_t, cut_take]
    exact rtail_spec (by rw [List.length_take]; omega) (inR_u8.1 h1)
  · rw [gt_f (by omega), bite_f]
    exact rtail_spec (by omega) (inR_u8.1 h1)
end Go.Proofs.Ytepifmbnajpgeaa.imageRuns
