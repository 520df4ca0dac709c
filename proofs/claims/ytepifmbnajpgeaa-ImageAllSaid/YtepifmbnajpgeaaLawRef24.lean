/- The document's images. -/
import Derived.Test.YtepifmbnajpgeaaLawBack
import Derived.Test.YtepifmbnajpgeaaLawGone
set_option linter.unusedVariables false
namespace Go.Proofs.Ytepifmbnajpgeaa.G
open Go Go.RowKit Go.Proofs.Ytepifmbnajpgeaa.M

/-! ### Runs, told one by one -/
theorem grp_rep2 (c : Px) (r : List Px) (hr : ∀ x ∈ r.head?, x ≠ c) : ∀ k : Nat, grp c (List.replicate k c ++ r) = k
  | 0 => by
    cases r with
    | nil => rfl
    | cons x r => rw [List.replicate_zero, List.nil_append, grp_cons, if_neg (hr x (by simp))]
  | k + 1 => by rw [List.replicate_succ, List.cons_append, grp_cons, if_pos rfl, grp_rep2 c r hr k]

theorem spread_head : ∀ {R : List (Nat × Px)}, (∀ q ∈ R, 1 ≤ q.1) → (spread R).head? = R.head?.map (·.2)
  | [], _ => rfl
  | q :: R, h => by
    obtain ⟨k, hk⟩ : ∃ k, q.1 = k + 1 := ⟨q.1 - 1, by have := h q (by simp); omega⟩
    show (List.replicate q.1 q.2 ++ spread R).head? = some q.2
    rw [hk, List.replicate_succ]
    rfl

theorem apart_tail {q : Nat × Px} : ∀ {R : List (Nat × Px)}, apart (q :: R) → apart R ∧ ∀ p ∈ R.head?, q.2 ≠ p.2
  | [], _ => ⟨trivial, fun p hp => by simp at hp⟩
  | b :: R, h => ⟨h.2, fun p hp => by simp at hp; rw [← hp]; exact h.1⟩

/-- Runs are told by what they spread. -/
theorem runs_of : ∀ (R : List (Nat × Px)) (n : Nat), (∀ q ∈ R, 1 ≤ q.1) → apart R → (spread R).length ≤ n → runs n (spread R) = R
  | [], n, _, _, _ => by cases n <;> rfl
  | q :: R, n, h, ha, hn => by
    obtain ⟨k, hk⟩ : ∃ k, q.1 = k + 1 := ⟨q.1 - 1, by have := h q (by simp); omega⟩
    obtain ⟨a1, a2⟩ := apart_tail ha
    have hR : ∀ p ∈ R, 1 ≤ p.1 := fun p hp => h p (by simp [hp])
    have e : spread (q :: R) = q.2 :: (List.replicate k q.2 ++ spread R) := by
      show List.replicate q.1 q.2 ++ spread R = _
      rw [hk, List.replicate_succ, List.cons_append]
    rw [e] at hn ⊢
    obtain ⟨n, rfl⟩ : ∃ m, n = m + 1 := ⟨n - 1, by rw [List.length_cons] at hn; omega⟩
    have hh : ∀ x ∈ (spread R).head?, x ≠ q.2 := fun x hx => by
      rw [spread_head hR] at hx
      cases hr : R.head? with
      | none => rw [hr] at hx; simp at hx
      | some p =>
        rw [hr] at hx
        simp at hx
        subst hx
        exact fun e => a2 p hr e.symm
    have hg := grp_rep2 q.2 (spread R) hh k
    rw [runs_cons, hg, List.drop_append_of_le_length (by simp), List.drop_eq_nil_of_le (by simp), List.nil_append, runs_of R n hR a1 (by rw [List.length_cons, List.length_append] at hn; omega), ← hk]

theorem apart_snoc : ∀ {A : List (Nat × Px)} {q : Nat × Px}, apart A → (∀ p ∈ A.getLast?, p.2 ≠ q.2) → apart (A ++ [q])
  | [], q, _, _ => trivial
  | [a], q, _, h => ⟨h a (by simp), trivial⟩
  | a :: b :: A, q, h, h2 => ⟨h.1, apart_snoc (A := b :: A) h.2 (fun p hp => h2 p (by rw [List.getLast?_cons_cons]; exact hp))⟩

theorem apart_same {A : List (Nat × Px)} {k k' : Nat} {c : Px} (h : apart (A ++ [(k, c)])) : apart (A ++ [(k', c)]) := by
  induction A with
  | nil => trivial
  | cons a A ih =>
    cases A with
    | nil => exact ⟨h.1, trivial⟩
    | cons b A => exact ⟨h.1, ih h.2⟩

theorem rruns_loop {fl : Nat} {l : List Px} (hl : l.length ≤ 8000) : ∀ (k n i : Nat) (R : List (Nat × Px)), i + k = l.length → k + 1 ≤ n → spread R = l.take i → (∀ q ∈ R, 1 ≤ q.1) → apart R → R.length ≤ i →
    ∃ R', glazierref24_Runs_l1 fl n l (manyI R) (colI R) i = some (manyI R', (colI R', ())) ∧ spread R' = l ∧ (∀ q ∈ R', 1 ≤ q.1) ∧ apart R'
  | 0, n, i, R, hi, hn, hs, h1, ha, hr => by
    obtain ⟨n, rfl⟩ : ∃ m, n = m + 1 := ⟨n - 1, by omega⟩
    rw [glazierref24_Runs_l1, bnd_eq, bnd_eq, lenK, lt_f (by omega), bite_f]
    exact ⟨R, rfl, by rw [hs, List.take_of_length_le (by omega)], h1, ha⟩
  | k + 1, n, i, R, hi, hn, hs, h1, ha, hr => by
    obtain ⟨n, rfl⟩ : ∃ m, n = m + 1 := ⟨n - 1, by omega⟩
    have h : i < l.length := by omega
    have htk : l.take (i + 1) = l.take i ++ [l[i]] := by rw [List.take_succ_eq_append_getElem h]
    have mlen : ∀ R : List (Nat × Px), (manyI R).length = R.length := fun R => by simp [manyI]
    have clen : ∀ R : List (Nat × Px), (colI R).length = R.length := fun R => by simp [colI]
    have more : ∀ R : List (Nat × Px), R.length ≤ i → spread R = l.take i → (∀ q ∈ R, 1 ≤ q.1) → apart R → (∀ p ∈ R.getLast?, p.2 ≠ l[i]) →
        ∃ R', (bgd (F.appOk 8 (manyI R) [1]) (obind (some l[i]) fun q20 => bgd (F.appOk 4 (colI R) [q20]) (glazierref24_Runs_l1 fl n l (F.app (manyI R) [1]) (F.app (colI R) [q20]) (F.add .i64 (i : Int) 1)))) = some (manyI R', (colI R', ())) ∧ spread R' = l ∧ (∀ q ∈ R', 1 ≤ q.1) ∧ apart R' := fun R hr hs h1 ha hlast => by
      rw [appOk_t (by rw [mlen]; simp; omega) (by decide), bgd_t, ob_some, appOk_t (by rw [clen]; simp; omega) (by decide), bgd_t, appK, appK, addI (by omega)]
      have e1 : manyI R ++ [1] = manyI (R ++ [(1, l[i])]) := by simp [manyI]
      have e2 : colI R ++ [l[i]] = colI (R ++ [(1, l[i])]) := by simp [colI]
      rw [e1, e2]
      have := rruns_loop (fl := fl) hl k n (i + 1) (R ++ [(1, l[i])]) (by omega) (by omega) (by rw [spread_app, hs, htk]; rfl) (fun q hq => by
        rcases List.mem_append.1 hq with hq | hq
        · exact h1 q hq
        · rw [List.mem_singleton.1 hq]; exact Nat.le_refl _) (apart_snoc ha hlast) (by simp; omega)
      rw [Int.natCast_add] at this
      exact this
    rw [glazierref24_Runs_l1]
    simp only [bnd_eq]
    rw [lenK, lt_t (by omega), bite_t, lenK, clen]
    by_cases h0 : R.length = 0
    · have hnil : R = [] := List.length_eq_zero_iff.1 h0
      rw [gt_f (by omega), bite_f, lgetK h]
      exact more R hr hs h1 ha (fun p hp => by rw [hnil] at hp; simp at hp)
    · obtain ⟨A, q, rfl⟩ : ∃ A q, R = A ++ [q] := ⟨R.dropLast, R.getLast (fun e => h0 (by rw [e]; rfl)), (List.dropLast_concat_getLast _).symm⟩
      obtain ⟨m, c⟩ := q
      have hAl : (A ++ [(m, c)]).length = A.length + 1 := by simp
      rw [hAl] at hr
      have gc : F.get (colI (A ++ [(m, c)])) ((A.length : Nat) : Int) = some c := by rw [lgetK (by simp [colI])]; simp [colI]
      have gm : F.get (manyI (A ++ [(m, c)])) ((A.length : Nat) : Int) = some (m : Int) := by rw [lgetK (by simp [manyI])]; simp [manyI]
      rw [hAl, gt_t (by omega), bite_t, subI (by omega), show ((A.length + 1 : Nat) : Int) - 1 = ((A.length : Nat) : Int) by omega, gc, ob_some, lgetK h, ob_some, eqPx]
      by_cases hx : c = l[i]
      · have hm1 := h1 (m, c) (by simp)
        have hmb : m ≤ 8000 := by
          have := congrArg List.length hs
          rw [spread_app, List.length_append, List.length_take] at this
          have e : (spread [(m, c)]).length = m := by simp [spread]
          omega
        rw [decide_eq_true hx, bite_t, gm, ob_some, addI (by omega), show F.has (manyI (A ++ [(m, c)])) ((A.length : Nat) : Int) = true by unfold F.has; rw [mlen, hAl]; simp; omega, bgd_t, ob_some, addI (by omega)]
        have e1 : F.put (manyI (A ++ [(m, c)])) ((A.length : Nat) : Int) ((m : Int) + 1) = manyI (A ++ [(m + 1, c)]) := by
          unfold F.put
          rw [Int.toNat_natCast]
          simp [manyI]
        have e2 : colI (A ++ [(m, c)]) = colI (A ++ [(m + 1, c)]) := by simp [colI]
        rw [e1, e2]
        have := rruns_loop (fl := fl) hl k n (i + 1) (A ++ [(m + 1, c)]) (by omega) (by omega) (by
          rw [htk, ← hs, spread_app, spread_app, List.append_assoc]
          congr 1
          show List.replicate (m + 1) c ++ [] = List.replicate m c ++ [] ++ [l[i]]
          rw [List.append_nil, List.append_nil, List.replicate_succ', ← hx]) (fun q hq => by
          rcases List.mem_append.1 hq with hq | hq
          · exact h1 q (by simp [hq])
          · rw [List.mem_singleton.1 hq]; omega) (apart_same ha) (by simp; omega)
        rw [Int.natCast_add] at this
        exact this
      · rw [decide_eq_false hx, bite_f]
        exact more _ (by rw [hAl]; exact hr) hs h1 ha (fun p hp => by
          rw [List.getLast?_append] at hp
          simp at hp
          rw [← hp]
          exact hx)

theorem rruns_spec {fl : Nat} {l : List Px} (hfl : l.length + 1 ≤ fl) (hl : l.length ≤ 8000) : glazierref24_Runs fl l = some (manyI (runs l.length l), colI (runs l.length l)) := by
  unfold glazierref24_Runs
  obtain ⟨R, e, h1, h2, h3⟩ := rruns_loop (fl := fl) hl l.length fl 0 [] (by omega) (by omega) rfl (fun q hq => by simp at hq) trivial (by simp)
  rw [show manyI [] = [] from rfl, show colI [] = [] from rfl, show ((0 : Nat) : Int) = 0 from rfl] at e
  rw [e, ob_some]
  have : runs l.length l = R := by
    have := runs_of R l.length h2 h3 (by rw [h1]; exact Nat.le_refl _)
    rw [h1] at this
    exact this
  rw [this]

theorem runs_fuel {l : List Px} {n : Nat} (h : l.length ≤ n) : runs n l = runs l.length l := by
  have hs := runs_spread l.length l (Nat.le_refl _)
  have := runs_of (runs l.length l) n (fun q hq => (runs_in l.length l q hq).1) (runs_apart _ _) (by rw [hs]; exact h)
  rw [hs] at this
  exact this

theorem grp_app (c : Px) (r : List Px) : ∀ k : Nat, grp c (List.replicate k c ++ r) = k + grp c r
  | 0 => by simp
  | k + 1 => by rw [List.replicate_succ, List.cons_append, grp_cons, if_pos rfl, grp_app c r k]; omega

theorem runs_drop (c : Px) (l : List Px) : (runs l.length (l.drop (grp c l))).length ≤ (runs l.length l).length := by
  cases l with
  | nil => exact Nat.le_refl _
  | cons x l =>
    rw [grp_cons]
    split
    · rename_i hx
      subst hx
      rw [List.drop_succ_cons, List.length_cons, runs_cons, List.length_cons]
      have hl := grp_le x l
      rw [runs_fuel (n := l.length + 1) (l := l.drop (grp x l)) (by rw [List.length_drop]; omega), runs_fuel (n := l.length) (l := l.drop (grp x l)) (by rw [List.length_drop]; omega)]
      omega
    · exact Nat.le_refl _

/-- No more runs than groups. -/
theorem runs_groups : ∀ (R : List (Nat × Px)), (runs (spread R).length (spread R)).length ≤ R.length
  | [] => Nat.le_refl _
  | q :: R => by
    have ih := runs_groups R
    have e : spread (q :: R) = List.replicate q.1 q.2 ++ spread R := rfl
    cases hk : q.1 with
    | zero => rw [e, hk, List.replicate_zero, List.nil_append, List.length_cons]; omega
    | succ k =>
      have e2 : spread (q :: R) = q.2 :: (List.replicate k q.2 ++ spread R) := by rw [e, hk, List.replicate_succ, List.cons_append]
      rw [e2, List.length_cons, runs_cons, grp_app, List.length_cons, List.length_cons]
      have ed : (List.replicate k q.2 ++ spread R).drop (k + grp q.2 (spread R)) = (spread R).drop (grp q.2 (spread R)) := by
        rw [List.drop_append]
        simp
      rw [ed]
      have hd := runs_drop q.2 (spread R)
      rw [runs_fuel (by rw [List.length_drop]; omega)] at hd
      rw [runs_fuel (by rw [List.length_drop, List.length_append]; omega)]
      omega

/-! ### Images as bytes -/
theorem rput24_loop (fl : Nat) {R : List (Nat × Px)} (hR : R.length ≤ 8000) (hc : ∀ q ∈ R, pxB q.2) : ∀ (k n i : Nat) (acc : List Int), i + k = R.length → k + 1 ≤ n → acc.length + 5 * k ≤ 85000 →
    glazierref24_Put_l1 fl n acc (manyI R) (colI R) i = some (acc ++ (R.drop i).flatMap five, ())
  | 0, n, i, acc, hi, hn, ha => by
    obtain ⟨n, rfl⟩ : ∃ m, n = m + 1 := ⟨n - 1, by omega⟩
    rw [glazierref24_Put_l1, bnd_eq, bnd_eq, lenK, lt_f (by simp [colI]; omega), bite_f, List.drop_eq_nil_of_le (by omega)]
    simp
  | k + 1, n, i, acc, hi, hn, ha => by
    obtain ⟨n, rfl⟩ : ∃ m, n = m + 1 := ⟨n - 1, by omega⟩
    have h : i < R.length := by omega
    obtain ⟨p1, p2, p3, p4⟩ := hc _ (List.getElem_mem h)
    unfold byteP at p1 p2 p3 p4
    have em : F.get (manyI R) (i : Int) = some ((R[i]).1 : Int) := by rw [lgetK (by simpa [manyI] using h)]; simp [manyI]
    have ec : F.get (colI R) (i : Int) = some (R[i]).2 := by rw [lgetK (by simpa [colI] using h)]; simp [colI]
    rw [glazierref24_Put_l1]
    simp only [bnd_eq]
    rw [lenK, lt_t (by simp [colI]; omega), bite_t, em, ob_some, ec, ob_some, ob_some, ob_some, ob_some, convI (by omega), convI (by omega), convI (by omega), convI (by omega), appOk_t (by simp; omega) (by decide), bgd_t, appK, addI (by omega)]
    have := rput24_loop fl hR hc k n (i + 1) (acc ++ five R[i]) (by omega) (by omega) (by simp [five]; omega)
    rw [Int.natCast_add] at this
    refine this.trans ?_
    rw [ldrop h, List.flatMap_cons, List.append_assoc]

theorem riput_ok {fl : Nat} (h12 : 12 ≤ fl) {w h : Int} {l : List Px} (hok : imOk w h l) (hl : l.length ≤ 4096) (hrn : (runs l.length l).length ≤ 1500) (hfl : l.length + 5 * 1500 + 4 ≤ fl) (hc : ∀ c ∈ l, pxB c) : glazierref24_Put fl (w, (h, l)) = some (imB w h l, 0) := by
  have hN := imN_in hok (by omega) hc
  have hlen : (imN w h l).length = 2 + 5 * (runs l.length l).length := by
    have h2 : ∀ R : List (Nat × Px), (R.flatMap five).length = 5 * R.length := fun R => by
      induction R with
      | nil => rfl
      | cons q R ih => rw [List.flatMap_cons, List.length_append, ih]; simp [five]; omega
    unfold imN
    rw [List.length_cons, List.length_cons, h2]
    omega
  obtain ⟨hw, hh, hm⟩ := hok
  have hr := runs_len l.length l
  unfold glazierref24_Put
  simp only [bnd_eq]
  rw [lt_f (by omega), bite_f, gt_f (by omega), bite_f, lt_f (by omega), bite_f, gt_f (by omega), bite_f, lenK, mulI (by omega), ne_f hm, bite_f, rruns_spec (by omega) (by omega), ob_some]
  dsimp only
  have := rput24_loop fl (R := runs l.length l) (by omega) (fun q hq => hc _ (runs_in l.length l q hq).2.2) (runs l.length l).length fl 0 [w, h] (by omega) (by omega) (by simp; omega)
  rw [show ((0 : Nat) : Int) = 0 from rfl, List.drop_zero] at this
  rw [this, ob_some]
  show (obind (glazierref03_Put fl (imN w h l)) fun q => some (q, 0)) = _
  rw [rput_spec h12 (by omega) (fun x hx => small64 (hN x hx)) (by omega), ob_some, imB_N]

theorem riput_no {fl : Nat} {w h : Int} {l : List Px} (hl : l.length ≤ 100000) (hn : ¬ imOk w h l) : glazierref24_Put fl (w, (h, l)) = some ([], 1) := by
  unfold imOk at hn
  unfold glazierref24_Put
  simp only [bnd_eq]
  by_cases c1 : w < 1
  · rw [lt_t c1, bite_t]
  rw [lt_f (by omega), bite_f]
  by_cases c2 : 64 < w
  · rw [gt_t c2, bite_t]
  rw [gt_f (by omega), bite_f]
  by_cases c3 : h < 1
  · rw [lt_t c3, bite_t]
  rw [lt_f (by omega), bite_f]
  by_cases c4 : 64 < h
  · rw [gt_t c4, bite_t]
  have b1 : 0 ≤ w * h := Int.mul_nonneg (by omega) (by omega)
  have b2 : w * h ≤ 64 * 64 := Int.mul_le_mul (by omega) (by omega) (by omega) (by decide)
  rw [gt_f (by omega), bite_f, lenK, mulI (by omega), ne_t (fun e => hn ⟨by omega, by omega, e⟩), bite_t]
end Go.Proofs.Ytepifmbnajpgeaa.G
