/- Runs that are gone through. -/
import Derived.Test.YtepifmbnajpgeaaLawRuns
set_option linter.unusedVariables false
namespace Go.Proofs.Ytepifmbnajpgeaa.G
open Go Go.RowKit Go.Proofs.Ytepifmbnajpgeaa.M

theorem gone_in (fl : Nat) (l a b : List Px) (most : Int) (ms : List Int) (out : List Px) (from_ : Nat) (c : Px) (hc : ∃ h : from_ < l.length, l[from_] = c) (hl : l.length ≤ 100000) : ∀ (n e : Nat), e ≤ l.length → l.length - e + 1 ≤ n →
    glazierlaw24_gone_i25_l1 fl n l from_ e a b most ms out = some (l, ((from_ : Int), (((e + grp c (l.drop e) : Nat) : Int), (a, (b, (most, (ms, (out, ()))))))))
  | 0, e, he, hn => by omega
  | n + 1, e, he, hn => by
    rw [glazierlaw24_gone_i25_l1]
    simp only [bnd_eq]
    rw [lenK]
    by_cases h : e < l.length
    · obtain ⟨hf, hc'⟩ := hc
      rw [lt_t (by omega), bite_t, lgetK h, ob_some, lgetK hf, ob_some, eqPx, hc', ldrop h]
      by_cases hx : l[e] = c
      · rw [decide_eq_true hx, bite_t, addI (by omega)]
        have := gone_in fl l a b most ms out from_ c ⟨hf, hc'⟩ hl n (e + 1) (by omega) (by omega)
        rw [Int.natCast_add] at this
        refine this.trans ?_
        rw [grp_cons, if_pos hx, show e + 1 + grp c (l.drop (e + 1)) = e + (grp c (l.drop (e + 1)) + 1) by omega]
      · rw [decide_eq_false hx, bite_f]
        rw [grp_cons, if_neg hx]
        rfl
    · rw [lt_f (by omega), bite_f, List.drop_eq_nil_of_le (by omega)]
      rfl

/-- How the runs end. -/
def gfin (z : ((List Px × Int × List Px × Int × List Int × List Px × Unit) ⊕ (List Px × List Px × Int × List Int × List Px × Unit))) : Option (List Int × List Px × Bool) :=
  osum z (fun s4 =>
    bite (F.eq s4.2.1 0) (
      some (s4.2.2.2.2.1, (s4.2.2.2.2.2.1, true))) (
      bite (F.eq s4.2.1 2) (
        some ([], ([], false))) (
        bgd (F.eq s4.2.1 3) (
          some (s4.2.2.2.2.1, (s4.2.2.2.2.2.1, true)))))) (fun r5 =>
    some (r5.2.2.2.1, (r5.2.2.2.2.1, true)))

theorem gone_eq (fl : Nat) (l : List Px) (most : Int) : glazierlaw24_gone fl l most = obind (glazierlaw24_gone_i25_l2 fl fl l 0 0 l l most [] []) gfin := rfl

def manyI (q : List (Nat × Px)) : List Int := q.map fun q => (q.1 : Int)
def colI (q : List (Nat × Px)) : List Px := q.map (·.2)

theorem gone_loop {fl : Nat} {l : List Px} (hfl : l.length + 2 ≤ fl) (hl : l.length ≤ 10000) {m : Nat} : ∀ (k n i : Nat) (acc : List (Nat × Px)), i ≤ l.length → l.length - i ≤ k → k + 1 ≤ n → acc.length ≤ i → acc.length < m →
    obind (glazierlaw24_gone_i25_l2 fl n l i i l l m (manyI acc) (colI acc)) gfin = some (manyI (acc ++ (runs k (l.drop i)).take (m - acc.length)), (colI (acc ++ (runs k (l.drop i)).take (m - acc.length)), true))
  | k, 0, i, acc, hi, hk, hn, ha, hm => by omega
  | k, n + 1, i, acc, hi, hk, hn, ha, hm => by
    rw [glazierlaw24_gone_i25_l2]
    simp only [bnd_eq]
    rw [lenK]
    by_cases h : i < l.length
    · obtain ⟨k, rfl⟩ : ∃ j, k = j + 1 := ⟨k - 1, by omega⟩
      have hg := grp_le l[i] (l.drop (i + 1))
      rw [List.length_drop] at hg
      rw [lt_t (by omega), bite_t, gone_in fl l l l m _ _ i l[i] ⟨h, rfl⟩ (by omega) fl i hi (by omega), ob_some]
      dsimp only
      have hgi : grp l[i] (l.drop i) = grp l[i] (l.drop (i + 1)) + 1 := by rw [ldrop h, grp_cons, if_pos rfl]
      have hr : runs (k + 1) (l.drop i) = (grp l[i] (l.drop (i + 1)) + 1, l[i]) :: runs k (l.drop (i + (grp l[i] (l.drop (i + 1)) + 1))) := by
        rw [ldrop h, runs_cons, List.drop_drop, show i + 1 + grp l[i] (l.drop (i + 1)) = i + (grp l[i] (l.drop (i + 1)) + 1) by omega]
      rw [hgi, hr]
      have hg0 : 1 ≤ grp l[i] (l.drop (i + 1)) + 1 ∧ i + (grp l[i] (l.drop (i + 1)) + 1) ≤ l.length := by omega
      clear hg hgi hr
      generalize grp l[i] (l.drop (i + 1)) + 1 = g at *
      rw [subI (by omega), lgetK h, ob_some, appOk_t (by simp [manyI]; omega) (by decide), bgd_t, appK, appOk_t (by simp [colI]; omega) (by decide), bgd_t, appK, show ((i + g : Nat) : Int) - (i : Int) = (g : Int) by omega]
      have e1 : manyI acc ++ [(g : Int)] = manyI (acc ++ [(g, l[i])]) := by simp [manyI]
      have e2 : colI acc ++ [l[i]] = colI (acc ++ [(g, l[i])]) := by simp [colI]
      have e3 : (colI (acc ++ [(g, l[i])])).length = acc.length + 1 := by simp [colI]
      rw [e1, e2, lenK, lenK, e3]
      by_cases hm' : m ≤ acc.length + 1
      · rw [ge_t (by omega), bite_t, ob_some]
        have : m - acc.length = 1 := by omega
        rw [this]
        rfl
      · rw [ge_f (by omega), bite_f, gt_f (by omega), bite_f, gone_loop hfl hl k n (i + g) (acc ++ [(g, l[i])]) (by omega) (by omega) (by omega) (by simp; omega) (by simp; omega)]
        have : m - acc.length = (m - (acc ++ [(g, l[i])]).length) + 1 := by simp; omega
        rw [this, List.take_succ_cons, List.append_assoc]
        rfl
    · rw [lt_f (by omega), bite_f, ob_some, List.drop_eq_nil_of_le (by omega)]
      have : runs k ([] : List Px) = [] := by cases k <;> rfl
      rw [this, List.take_nil, List.append_nil]
      rfl

theorem gone_spec {fl : Nat} {l : List Px} (hfl : l.length + 2 ≤ fl) (hl : l.length ≤ 10000) {m : Nat} (hm : 1 ≤ m) : glazierlaw24_gone fl l m = some (manyI ((runs l.length l).take m), (colI ((runs l.length l).take m), true)) := by
  rw [gone_eq]
  exact gone_loop hfl hl l.length fl 0 [] (by omega) (by omega) (by omega) (by simp) (by simp; omega)

end Go.Proofs.Ytepifmbnajpgeaa.G
