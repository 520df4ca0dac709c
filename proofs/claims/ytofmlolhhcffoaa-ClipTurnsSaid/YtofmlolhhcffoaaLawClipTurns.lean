/- ClipTurns holds. -/
import Derived.Test.YtofmlolhhcffoaaLawClipMore
set_option linter.unusedVariables false
namespace Go.Proofs.Ytofmlolhhcffoaa.clipTurns
open Go Go.RowKit Go.Proofs.Ytofmlolhhcffoaa.M Go.Proofs.Ytofmlolhhcffoaa.G

def rot {α : Type} (l : List α) (k : Nat) : List α := l.drop k ++ l.take k

theorem rot_length {α : Type} (l : List α) (k : Nat) : (rot l k).length = l.length := by
  unfold rot
  rw [List.length_append, List.length_drop, List.length_take]
  omega

theorem rot_get {α : Type} {l : List α} {k i : Nat} (hk : k ≤ l.length) (hi : i < l.length) : (rot l k)[i]? = l[(i + k) % l.length]? := by
  unfold rot
  by_cases h : i + k < l.length
  · rw [List.getElem?_append_left (by rw [List.length_drop]; omega), List.getElem?_drop, Nat.mod_eq_of_lt h, Nat.add_comm]
  · rw [List.getElem?_append_right (by rw [List.length_drop]; omega), List.length_drop, List.getElem?_take, if_pos (by omega)]
    have : (i + k) % l.length = i - (l.length - k) := by
      rw [show i + k = (i - (l.length - k)) + l.length by omega, Nat.add_mod_right, Nat.mod_eq_of_lt (by omega)]
    rw [this]

theorem prs_rot {l : List Vtx} {k : Nat} (hk : k ≤ l.length) : prs (rot l k) = rot (prs l) k := by
  refine List.ext_getElem? fun i => ?_
  by_cases hi : i < l.length
  · have hi1 : i < (rot l k).length := by rw [rot_length]; exact hi
    have hn : 0 < l.length := by omega
    have hm : (i + k) % l.length < l.length := Nat.mod_lt _ hn
    rw [rot_get (by rw [prs_length]; exact hk) (by rw [prs_length]; exact hi), prs_length]
    rw [List.getElem?_eq_getElem (show i < (prs (rot l k)).length by rw [prs_length]; exact hi1), prs_get hi1]
    rw [List.getElem?_eq_getElem (show (i + k) % l.length < (prs l).length by rw [prs_length]; exact hm), prs_get hm]
    have e1 := rot_get hk hi
    have hi2 : (i + 1) % l.length < l.length := Nat.mod_lt _ hn
    have e2 := rot_get hk hi2
    rw [List.getElem?_eq_getElem hi1, List.getElem?_eq_getElem hm] at e1
    have hi3 : (i + 1) % (rot l k).length < (rot l k).length := Nat.mod_lt _ (by omega)
    have e3 : (rot l k)[(i + 1) % (rot l k).length]? = (rot l k)[(i + 1) % l.length]? := by rw [rot_length]
    rw [List.getElem?_eq_getElem hi3] at e3
    rw [← e3] at e2
    have hm2 : ((i + 1) % l.length + k) % l.length = ((i + k) % l.length + 1) % l.length := by
      rw [Nat.mod_add_mod, Nat.mod_add_mod]; congr 1; omega
    rw [hm2, List.getElem?_eq_getElem (Nat.mod_lt _ hn)] at e2
    injection e1 with e1
    injection e2 with e2
    rw [e1, e2]
  · rw [List.getElem?_eq_none (by rw [prs_length, rot_length]; omega), List.getElem?_eq_none (by rw [rot_length, prs_length]; omega)]

/-- What is cut is turned too. -/
theorem cut_rot {p : Int} {l : List Vtx} {k : Nat} (hk : k ≤ l.length) (hne : cutBy p l ≠ []) : ∃ t, t < (cutBy p l).length ∧ rot (cutBy p l) t = cutBy p (rot l k) := by
  have e1 : cutBy p l = ((prs l).take k).flatMap (G.step p) ++ ((prs l).drop k).flatMap (G.step p) := by
    unfold cutBy
    rw [← List.flatMap_append, List.take_append_drop]
  have e2 : cutBy p (rot l k) = ((prs l).drop k).flatMap (G.step p) ++ ((prs l).take k).flatMap (G.step p) := by
    unfold cutBy
    rw [prs_rot hk]
    unfold rot
    rw [List.flatMap_append]
  obtain ⟨A, hA⟩ : ∃ A, A = ((prs l).take k).flatMap (G.step p) := ⟨_, rfl⟩
  obtain ⟨B, hB⟩ : ∃ B, B = ((prs l).drop k).flatMap (G.step p) := ⟨_, rfl⟩
  rw [← hA, ← hB] at e1 e2
  rw [e1] at hne
  rw [e1, e2]
  by_cases hb : B = []
  · refine ⟨0, ?_, ?_⟩
    · exact List.length_pos_iff.2 hne
    · rw [hb]; unfold rot; simp
  · refine ⟨A.length, ?_, ?_⟩
    · rw [List.length_append]
      have := List.length_pos_iff.2 hb
      omega
    · unfold rot
      rw [List.drop_left, List.take_left]

theorem cut_len {p : Int} {l : List Vtx} {k : Nat} (hk : k ≤ l.length) : (cutBy p (rot l k)).length = (cutBy p l).length := by
  unfold cutBy
  rw [prs_rot hk]
  unfold rot
  rw [List.flatMap_append, List.length_append]
  conv => rhs; rw [← List.take_append_drop k (prs l), List.flatMap_append, List.length_append]
  omega

theorem cuts {α : Type} {l : List α} {k : Nat} (hk : k ≤ l.length) : F.cutOk l (k : Int) (l.length : Int) = true ∧ F.cut l (k : Int) (l.length : Int) = l.drop k ∧ F.cutOk l 0 (k : Int) = true ∧ F.cut l 0 (k : Int) = l.take k := by
  refine ⟨?_, ?_, ?_, ?_⟩
  · unfold F.cutOk
    rw [decide_eq_true (by omega), decide_eq_true (by omega), decide_eq_true (by omega)]; rfl
  · unfold F.cut
    rw [Int.toNat_natCast, Int.toNat_natCast, List.take_length]
  · unfold F.cutOk
    rw [decide_eq_true (by omega), decide_eq_true (by omega), decide_eq_true (by omega)]; rfl
  · unfold F.cut
    rw [Int.toNat_natCast]; rfl

theorem loop (fl : Nat) {a b : List Vtx} (hlen : a.length ≤ 1000) (hfl : 1001 ≤ fl) {t : Nat} (ht : t < a.length) (he : rot a t = b) : ∀ (m i n : Nat), i + m = t → m + 1 ≤ n → glazierlaw05_ClipTurns_l1 fl n true a b (i : Int) = some (.inl (true, ()))
  | m, i, 0, _, h => by omega
  | m, i, n + 1, hi, hn => by
    obtain ⟨c1, c2, c3, c4⟩ := cuts (l := a) (k := i) (by omega)
    rw [glazierlaw05_ClipTurns_l1, bnd_eq, lenK, bnd_eq, lt_t (by omega), bite_t, c1, bgd_t, bnd_eq, c2, c3, bgd_t, bnd_eq, c4, appOk_t (by simp; omega) (by decide), bgd_t, bnd_eq, appK, List.nil_append, appOk_t (by simp; omega) (by decide), bgd_t, bnd_eq, appK]
    rw [show a.drop i ++ a.take i = rot a i from rfl, csame (by rw [rot_length]; omega) (by rw [rot_length]; omega), ob_some]
    by_cases hs : rot a i = b
    · rw [decide_eq_true hs, bite_t]
    · cases m with
      | zero =>
        have : i = t := by omega
        rw [this] at hs
        exact absurd he hs
      | succ m =>
        rw [decide_eq_false hs, bite_f, bnd_eq, addI (by omega)]
        exact loop fl hlen hfl ht he m (i + 1) n (by omega) (by omega)

theorem main (x0 : List Vtx) (x1 x2 : Int) (h1 : 0 ≤ x1 ∧ x1 ≤ 255) (h2 : 0 ≤ x2 ∧ x2 ≤ 255) : ∃ fl, glazierlaw05_ClipTurns fl x0 x1 x2 = some true := by
  refine ⟨5000, ?_⟩
  obtain ⟨v, ev, hl, hf⟩ := cfit (fl := 5000) (by omega) x0
  have hv : ∀ x ∈ v, okB x := fun x hx => fitC_ok (hf x hx)
  have hp : isP (x1 % 5) := by unfold isP; omega
  have hlv : v.length ≤ 8 := by omega
  unfold glazierlaw05_ClipTurns
  rw [cshown (by omega), ob_some, ev, ob_some, bnd_eq, convI (by omega), bnd_eq, show F.rem x1 5 = x1 % 5 from Int.tmod_eq_emod_of_nonneg h1.1, bnd_eq, bnd_eq, lenK]
  by_cases h0 : v.length = 0
  · have : v = [] := List.length_eq_zero_iff.1 h0
    subst this
    rw [eq_t (by simp), bite_t, bite_t, by_spec (by simp) (by simp) (by simp), ob_some, byL_nil]
    rfl
  · have hk := Nat.mod_lt x2.toNat (show 0 < v.length by omega)
    obtain ⟨k, hke⟩ : ∃ k, k = x2.toNat % v.length := ⟨_, rfl⟩
    rw [← hke] at hk
    have er : F.rem x2 (v.length : Int) = (k : Int) := by
      unfold F.rem
      rw [Int.tmod_eq_emod_of_nonneg h2.1, hke, Int.natCast_emod, Int.toNat_of_nonneg h2.1]
    obtain ⟨c1, c2, c3, c4⟩ := cuts (l := v) (k := k) (by omega)
    have hr : ∀ x ∈ rot v k, okB x := fun x hx => by
      unfold rot at hx
      rcases List.mem_append.1 hx with hx | hx
      · exact hv x (List.mem_of_mem_drop hx)
      · exact hv x (List.mem_of_mem_take hx)
    have la : byL (x1 % 5) v = cutBy (x1 % 5) v := if_pos hp
    have lb : byL (x1 % 5) (rot v k) = cutBy (x1 % 5) (rot v k) := if_pos hp
    have ln := byL_length (x1 % 5) v
    have l2 := cut_len (p := x1 % 5) (l := v) (k := k) (by omega)
    rw [la] at ln
    rw [eq_f (by omega), bite_f, bnd_eq, convI (by omega), bnd_eq, nz_t (by omega), bgd_t, bnd_eq, er, c1, bgd_t, bnd_eq, c2, c3, bgd_t, bnd_eq, c4, appOk_t (by simp; omega) (by decide), bgd_t, bnd_eq, appK, List.nil_append, appOk_t (by simp; omega) (by decide), bgd_t, bnd_eq, appK,
      show v.drop k ++ v.take k = rot v k from rfl, by_spec hv (by omega) (by omega), ob_some, by_spec hr (by rw [rot_length]; omega) (by rw [rot_length]; omega), ob_some, la, lb, bnd_eq, lenK, bnd_eq, lenK, bnd_eq, ne_f (by omega), bite_f, bnd_eq, bnd_eq]
    by_cases hn : (cutBy (x1 % 5) v).length = 0
    · rw [eq_t (by omega), bite_t]
    · obtain ⟨t, ht, he⟩ := cut_rot (p := x1 % 5) (l := v) (k := k) (by omega) (fun e => hn (by rw [e]; rfl))
      have := loop 5000 (a := cutBy (x1 % 5) v) (by omega) (by omega) ht he t 0 5000 (by omega) (by omega)
      rw [show ((0 : Nat) : Int) = 0 from rfl] at this
      rw [eq_f (by omega), bite_f, this, ob_some]
      rfl

theorem law (x0 : (Ty.list (.pair (.int .i64) (.pair (.int .i64) (.pair (.int .i64) (.pair (.int .i64) (.pair (.int .i64) (.pair (.int .i64) (.pair (.int .i64) (.int .i64))))))))).T) (x1 : (Ty.int .u8).T) (x2 : (Ty.int .u8).T)
    (h0 : okT (Ty.list (.pair (.int .i64) (.pair (.int .i64) (.pair (.int .i64) (.pair (.int .i64) (.pair (.int .i64) (.pair (.int .i64) (.pair (.int .i64) (.int .i64))))))))) x0) (h1 : okT (.int .u8) x1) (h2 : okT (.int .u8) x2) : ∃ fl, glazierlaw05_ClipTurns fl x0 x1 x2 = some true :=
  main x0 x1 x2 (inR_u8.1 h1) (inR_u8.1 h2)
end Go.Proofs.Ytofmlolhhcffoaa.clipTurns
