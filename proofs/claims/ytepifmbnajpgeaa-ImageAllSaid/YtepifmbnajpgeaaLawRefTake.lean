/- Images out of bytes, by the document. -/
import Derived.Test.YtepifmbnajpgeaaLawRef24
set_option linter.unusedVariables false
namespace Go.Proofs.Ytepifmbnajpgeaa.G
open Go Go.RowKit Go.Proofs.Ytepifmbnajpgeaa.M

/-! ### One number -/
def rdec (X : Int) : Int := if F.eq (F.rem X 2) 1 = true then F.sub .i64 (F.neg .i64 (F.conv .i64 (F.quo .u64 X 2))) 1 else F.conv .i64 (F.quo .u64 X 2)

theorem rdec_64 (X : Int) : w64 (rdec X) := by
  unfold rdec
  split
  · exact wrap64 _
  · exact wrap64 _

def racc (x sc c : Int) : Int := F.add .u64 x (F.mul .u64 (F.conv .u64 (F.rem c 128)) sc)

theorem rtake_step {fl : Nat} (hfl : 12 ≤ fl) {b : List Int} (hb : bytesL b) (hs : b.length ≤ 50000) {n i : Nat} {x sc : Int} (hi : i < b.length) (h10 : i < 10) :
    glazierref03_Take_l1 fl (n + 1) b x sc i = (if b[i] < 128 then
        (if F.seq (F.str (nb (rdec (racc x sc b[i])))) (F.str (b.take (i + 1))) = true then some (.inl (rdec (racc x sc b[i]), (b.drop (i + 1), (true, ())))) else some (.inl (0, ([], (false, ())))))
      else glazierref03_Take_l1 fl n b (racc x sc b[i]) (F.mul .u64 sc 128) ((i + 1 : Nat) : Int)) := by
  rw [glazierref03_Take_l1]
  simp only [bnd_eq]
  rw [lenK, lt_t (by omega), bite_t, lt_t (by omega), bite_t, lgetK hi, ob_some, ob_some, addI (a := (i : Int)) (by omega), show ((i : Int) + 1) = ((i + 1 : Nat) : Int) by omega]
  rw [show F.add .u64 x (F.mul .u64 (F.conv .u64 (F.rem b[i] 128)) sc) = racc x sc b[i] from rfl]
  generalize racc x sc b[i] = X
  have hc1 : F.cutOk b 0 ((i + 1 : Nat) : Int) = true := by unfold F.cutOk; rw [decide_eq_true (by decide), decide_eq_true (by omega), decide_eq_true (by omega)]; rfl
  have hc2 : F.cut b 0 ((i + 1 : Nat) : Int) = b.take (i + 1) := by unfold F.cut; rw [Int.toNat_natCast]; rfl
  obtain ⟨hc3, hc4⟩ := cutEnd (l := b) (n := i + 1) (by omega)
  rw [lenK] at hc3 hc4
  by_cases h : b[i] < 128
  · rw [lt_t h, bite_t, if_pos h]
    have fin : ∀ v : Int, w64 v → (obind (glazierref03_one fl v) fun q21 => bgd (F.cutOk b 0 ((i + 1 : Nat) : Int)) (bite (F.sne (F.str q21) (F.str (F.cut b 0 ((i + 1 : Nat) : Int)))) (some (Sum.inl (0, (([] : List Int), (false, ())))) : Option ((Int × List Int × Bool × Unit) ⊕ Unit)) (
        bgd (F.cutOk b ((i + 1 : Nat) : Int) (b.length : Int)) (bgd (F.appOk (α := Unit) 1 [] (F.cut b ((i + 1 : Nat) : Int) (b.length : Int))) (some (Sum.inl (v, (F.app [] (F.cut b ((i + 1 : Nat) : Int) (b.length : Int)), (true, ()))))))))) =
        (if F.seq (F.str (nb v)) (F.str (b.take (i + 1))) = true then some (.inl (v, (b.drop (i + 1), (true, ())))) else some (.inl (0, ([], (false, ()))))) := fun v hv => by
      rw [rone_spec hfl hv, ob_some, hc1, bgd_t, hc2, hc3, bgd_t, hc4, appOk_t (by simp; omega) (by decide), bgd_t, appK, List.nil_append]
      have : F.sne (F.str (nb v)) (F.str (b.take (i + 1))) = !(F.seq (F.str (nb v)) (F.str (b.take (i + 1)))) := rfl
      rw [this]
      cases F.seq (F.str (nb v)) (F.str (b.take (i + 1))) with
      | true => rfl
      | false => rfl
    have h64 := rdec_64 X
    unfold rdec at h64 ⊢
    cases he : F.eq (F.rem X 2) 1 with
    | true =>
      rw [he, if_pos rfl] at h64
      rw [bite_t, if_pos rfl]
      exact fin _ h64
    | false =>
      rw [he, if_neg (show ¬ (false = true) by decide)] at h64
      rw [bite_f, if_neg (show ¬ (false = true) by decide)]
      exact fin _ h64
  · rw [lt_f (by omega), bite_f, if_neg h]

theorem rtake_loop {fl : Nat} (hfl : 12 ≤ fl) {b : List Int} (hb : bytesL b) (hs : b.length ≤ 50000) : ∀ (k n i : Nat) (x sc : Int), i + k = 10 → k + 1 ≤ n → i ≤ b.length →
    glazierref03_Take_l1 fl n b x sc i = some (.inr ()) ∨ glazierref03_Take_l1 fl n b x sc i = some (.inl (0, ([], (false, ())))) ∨ ∃ (v : Int) (m : Nat), glazierref03_Take_l1 fl n b x sc i = some (.inl (v, (b.drop m, (true, ())))) ∧ w64 v ∧ 1 ≤ m ∧ m ≤ b.length
  | 0, n, i, x, sc, hi, hn, hib => by
    obtain ⟨n, rfl⟩ : ∃ m, n = m + 1 := ⟨n - 1, by omega⟩
    left
    rw [glazierref03_Take_l1, bnd_eq, bnd_eq, lenK]
    by_cases h : (i : Int) < b.length
    · rw [lt_t h, bite_t, bnd_eq, lt_f (by omega), bite_f]
    · rw [lt_f (by omega), bite_f]
  | k + 1, n, i, x, sc, hi, hn, hib => by
    obtain ⟨n, rfl⟩ : ∃ m, n = m + 1 := ⟨n - 1, by omega⟩
    by_cases h : i < b.length
    · rw [rtake_step hfl hb hs h (by omega)]
      split
      · split
        · exact .inr (.inr ⟨_, i + 1, rfl, rdec_64 _, by omega, by omega⟩)
        · exact .inr (.inl rfl)
      · exact rtake_loop hfl hb hs k n (i + 1) _ _ (by omega) (by omega) (by omega)
    · left
      rw [glazierref03_Take_l1, bnd_eq, bnd_eq, lenK, lt_f (by omega), bite_f]

theorem rtake_spec {fl : Nat} (hfl : 12 ≤ fl) {b : List Int} (hb : bytesL b) (hs : b.length ≤ 50000) :
    glazierref03_Take fl b = some (0, ([], false)) ∨ ∃ (v : Int) (m : Nat), glazierref03_Take fl b = some (v, (b.drop m, true)) ∧ w64 v ∧ 1 ≤ m ∧ m ≤ b.length := by
  unfold glazierref03_Take
  have h := rtake_loop (fl := fl) hfl hb hs 10 fl 0 0 1 (by omega) (by omega) (by omega)
  rw [show ((0 : Nat) : Int) = 0 from rfl] at h
  rcases h with h | h | ⟨v, m, h, h1, h2, h3⟩
  · rw [h]; exact .inl rfl
  · rw [h]; exact .inl rfl
  · rw [h]; exact .inr ⟨v, m, rfl, h1, h2, h3⟩

theorem rdec_even {n : Nat} (h : n < 8192) : rdec ((2 * n : Nat) : Int) = (n : Int) := by
  unfold rdec
  have e1 : F.rem ((2 * n : Nat) : Int) 2 = 0 := by unfold F.rem; rw [Int.tmod_eq_emod_of_nonneg (by omega)]; omega
  have e2 : F.quo .u64 ((2 * n : Nat) : Int) 2 = (n : Int) := by
    unfold F.quo
    rw [Int.tdiv_eq_ediv_of_nonneg (by omega), wrapU (by omega) (by omega)]
    omega
  rw [e1, e2, if_neg (by decide), convI (by omega)]

theorem racc_first {p : Nat} (hp : p < 256) : racc 0 1 (p : Int) = ((p % 128 : Nat) : Int) := by
  unfold racc
  have e1 : F.rem (p : Int) 128 = ((p % 128 : Nat) : Int) := by unfold F.rem; rw [Int.tmod_eq_emod_of_nonneg (by omega)]; omega
  rw [e1, convU (by omega), mulU (by omega), addU (by omega)]
  omega

theorem racc_next {x p : Nat} (hx : x < 128) (hp : p < 256) : racc (x : Int) 128 (p : Int) = ((128 * (p % 128) + x : Nat) : Int) := by
  unfold racc
  have e1 : F.rem (p : Int) 128 = ((p % 128 : Nat) : Int) := by unfold F.rem; rw [Int.tmod_eq_emod_of_nonneg (by omega)]; omega
  rw [e1, convU (by omega), mulU (by omega), addU (by omega)]
  omega

theorem rtake_nb {fl : Nat} (hfl : 12 ≤ fl) {n : Nat} (h : n < 8192) {rest : List Int} (hb : bytesL rest) (hs : rest.length ≤ 40000) : glazierref03_Take fl (nb (n : Int) ++ rest) = some ((n : Int), (rest, true)) := by
  have hz : zig (n : Int) = 2 * n := by unfold zig; rw [if_pos (by omega)]; omega
  obtain ⟨f, rfl⟩ : ∃ f, fl = f + 2 := ⟨fl - 2, by omega⟩
  have hall : bytesL (nb (n : Int) ++ rest) := fun x hx => (List.mem_append.1 hx).elim (nb_bytes _ x) (hb x)
  have hlen : (nb (n : Int) ++ rest).length = (nb (n : Int)).length + rest.length := List.length_append
  have h10 := nb_len (n : Int)
  unfold glazierref03_Take
  by_cases hx : 2 * n < 128
  · have enb : nb (n : Int) = [((2 * n : Nat) : Int)] := by unfold nb vbn; rw [hz, if_pos hx]
    have e := rtake_step (fl := f + 2) (n := f + 1) (x := 0) (sc := 1) hfl hall (by omega) (i := 0) (by rw [hlen, enb]; simp; omega) (by decide)
    have hb0 : (nb (n : Int) ++ rest)[0]'(by rw [hlen, enb]; simp; omega) = ((2 * n : Nat) : Int) := by simp [enb]
    rw [show ((0 : Nat) : Int) = 0 from rfl] at e
    rw [e, hb0, racc_first (by omega), show 2 * n % 128 = 2 * n from Nat.mod_eq_of_lt hx, rdec_even h, if_pos (by omega)]
    have ht : (nb (n : Int) ++ rest).take (0 + 1) = nb (n : Int) := by rw [enb]; rfl
    have hd : (nb (n : Int) ++ rest).drop (0 + 1) = rest := by rw [enb]; rfl
    rw [ht, hd, if_pos (seq_refl _)]
    rfl
  · have h64 : 2 * n / 128 < 128 := by omega
    have hm : 2 * n % 128 < 128 := Nat.mod_lt _ (by decide)
    have enb : nb (n : Int) = [((2 * n % 128 + 128 : Nat) : Int), ((2 * n / 128 : Nat) : Int)] := by
      unfold nb vbn
      rw [hz, if_neg hx]
      unfold vbn
      rw [if_pos h64]
    have e := rtake_step (fl := f + 2) (n := f + 1) (x := 0) (sc := 1) hfl hall (by omega) (i := 0) (by rw [hlen, enb]; simp; omega) (by decide)
    have hb0 : (nb (n : Int) ++ rest)[0]'(by rw [hlen, enb]; simp; omega) = ((2 * n % 128 + 128 : Nat) : Int) := by simp [enb]
    rw [show ((0 : Nat) : Int) = 0 from rfl] at e
    rw [e, hb0, racc_first (by omega), if_neg (by omega), show (2 * n % 128 + 128) % 128 = 2 * n % 128 by omega, mulU (by decide), show (1 : Int) * 128 = 128 from rfl]
    have e2 := rtake_step (fl := f + 2) (n := f) (x := ((2 * n % 128 : Nat) : Int)) (sc := 128) hfl hall (by omega) (i := 0 + 1) (by rw [hlen, enb]; simp; omega) (by decide)
    have hb1 : (nb (n : Int) ++ rest)[0 + 1]'(by rw [hlen, enb]; simp; omega) = ((2 * n / 128 : Nat) : Int) := by simp [enb]
    rw [e2, hb1, racc_next hm (by omega), show 2 * n / 128 % 128 = 2 * n / 128 from Nat.mod_eq_of_lt h64, show 128 * (2 * n / 128) + 2 * n % 128 = 2 * n from Nat.div_add_mod _ _, rdec_even h, if_pos (by omega)]
    have ht : (nb (n : Int) ++ rest).take (0 + 1 + 1) = nb (n : Int) := by rw [enb]; rfl
    have hd : (nb (n : Int) ++ rest).drop (0 + 1 + 1) = rest := by rw [enb]; rfl
    rw [ht, hd, if_pos (seq_refl _)]
    rfl

/-! ### All of them -/
theorem rall_loop {fl : Nat} (hfl : 12 ≤ fl) : ∀ (k n : Nat) (b acc : List Int), b.length ≤ k → k + 1 ≤ n → bytesL b → b.length + acc.length ≤ 50000 → (∀ x ∈ acc, w64 x) →
    ∃ l, (glazierref03_All_l1 fl n b acc = some (.inl (l, ())) ∨ glazierref03_All_l1 fl n b acc = some (.inr (l, ()))) ∧ (∀ x ∈ l, w64 x) ∧ l.length ≤ b.length + acc.length
  | k, 0, b, acc, _, hn, _, _, _ => by omega
  | k, n + 1, b, acc, hk, hn, hb, hs, ha => by
    rw [glazierref03_All_l1]
    simp only [bnd_eq]
    rw [lenK]
    by_cases h : 0 < (b.length : Int)
    · obtain ⟨k, rfl⟩ : ∃ j, k = j + 1 := ⟨k - 1, by omega⟩
      rw [gt_t h, bite_t]
      rcases rtake_spec hfl hb (by omega) with e | ⟨v, m, e, h1, h2, h3⟩
      · rw [e, ob_some]
        exact ⟨acc, .inl rfl, ha, by omega⟩
      · rw [e, ob_some]
        dsimp only
        rw [not_t, bite_f, appOk_t (by simp; omega) (by decide), bgd_t, appK]
        obtain ⟨l, e2, e3, e4⟩ := rall_loop hfl k n (b.drop m) (acc ++ [v]) (by rw [List.length_drop]; omega) (by omega) (bytesL_drop hb m) (by rw [List.length_drop]; simp; omega) (fun x hx => by
          rcases List.mem_append.1 hx with hx | hx
          · exact ha x hx
          · rw [List.mem_singleton.1 hx]; exact h1)
        rw [List.length_drop] at e4
        simp at e4
        exact ⟨l, e2, e3, by omega⟩
    · rw [gt_f (by omega), bite_f]
      exact ⟨acc, .inr rfl, ha, by omega⟩

theorem rall_nb {fl : Nat} (hfl : 12 ≤ fl) : ∀ (L : List Int) (n : Nat) (acc : List Int), (∀ x ∈ L, 0 ≤ x ∧ x < 8192) → L.length + 1 ≤ n → 10 * L.length + acc.length ≤ 40000 → glazierref03_All_l1 fl n (L.flatMap nb) acc = some (.inr (acc ++ L, ()))
  | [], n, acc, _, hn, hs => by
    obtain ⟨n, rfl⟩ : ∃ m, n = m + 1 := ⟨n - 1, by omega⟩
    rw [glazierref03_All_l1, bnd_eq, bnd_eq, List.flatMap_nil, lenK, gt_f (by decide), bite_f, List.append_nil]
  | x :: L, n, acc, hl, hn, hs => by
    obtain ⟨n, rfl⟩ : ∃ m, n = m + 1 := ⟨n - 1, by omega⟩
    obtain ⟨m, rfl⟩ : ∃ m : Nat, x = (m : Int) := ⟨x.toNat, by have := hl x (by simp); omega⟩
    have hm := hl (m : Int) (by simp)
    have hlen := flat_nb_len L
    have hne := nb_ne (m : Int)
    rw [List.length_cons] at hn hs
    have hpos : 0 < (((nb (m : Int) ++ L.flatMap nb).length : Nat) : Int) := by
      rw [List.length_append]
      cases hh : nb (m : Int) with
      | nil => exact absurd hh hne
      | cons a r => simp; omega
    rw [glazierref03_All_l1]
    simp only [bnd_eq]
    rw [List.flatMap_cons, lenK, gt_t hpos, bite_t, rtake_nb hfl (by omega) (flat_nb_bytes L) (by omega), ob_some]
    dsimp only
    rw [not_t, bite_f, appOk_t (by simp; omega) (by decide), bgd_t, appK, rall_nb hfl L n (acc ++ [(m : Int)]) (fun z hz => hl z (by simp [hz])) (by omega) (by simp; omega), List.append_assoc]
    rfl

theorem rall_spec {fl : Nat} (hfl : 12 ≤ fl) {b : List Int} (hfl2 : b.length + 1 ≤ fl) (hb : bytesL b) (hs : b.length ≤ 50000) : ∃ l r, glazierref03_All fl b = some (l, r) ∧ (∀ x ∈ l, w64 x) ∧ l.length ≤ b.length := by
  unfold glazierref03_All
  obtain ⟨l, e, h1, h2⟩ := rall_loop hfl b.length fl b [] (Nat.le_refl _) hfl2 hb (by simpa using hs) (fun x hx => by simp at hx)
  rcases e with e | e <;> rw [e, ob_some]
  · exact ⟨l, true, rfl, h1, by simpa using h2⟩
  · exact ⟨l, false, rfl, h1, by simpa using h2⟩

/-! ### Pixels -/
theorem many_min {a : Int} {n M : Nat} (h : n ≤ M) : min (a - ((0 : Nat) : Int)).toNat (M - n) = min a.toNat (M - min n M) := by omega

theorem get_pre (pre l : List Int) (j : Nat) : F.get (pre ++ l) ((pre.length : Int) + (j : Int)) = F.get l (j : Int) := by
  unfold F.get
  rw [if_pos (by omega), if_pos (by omega), show ((pre.length : Int) + (j : Int)).toNat = pre.length + j by omega, Int.toNat_natCast, List.getElem?_append_right (by omega), Nat.add_sub_cancel_left]

theorem rtk_done {M : Nat} (hM : M = 4097) (fl : Nat) (b : List Int) (pre : List Int) (a r g bb al : Int) (rest : List Int) (w h : Int) (hp : pre.length ≤ 50000) {n i : Nat} {px : List Px} (hk : min (a - (i : Int)).toNat (M - px.length) = 0) (hpx : px.length ≤ M) :
    glazierref24_Take_l1 fl (n + 1) b (pre ++ a :: r :: g :: bb :: al :: rest) pre.length i w h px = some (b, (pre ++ a :: r :: g :: bb :: al :: rest, ((pre.length : Int), (w, (h, (px, ())))))) := by
  have g0 : F.get (pre ++ a :: r :: g :: bb :: al :: rest) (pre.length : Int) = some a := by rw [lgetK (by simp)]; simp
  rw [glazierref24_Take_l1, g0, ob_some, bnd_eq]
  by_cases hlt : (i : Int) < a
  · have : px.length = M := by omega
    rw [lt_t hlt, bite_t, bnd_eq, bnd_eq, lenK, lt_f (by omega), bite_f]
  · rw [lt_f (by omega), bite_f]

theorem rtk_more {M : Nat} (hM : M = 4097) (fl : Nat) (b : List Int) (pre : List Int) (a r g bb al : Int) (rest : List Int) (w h : Int) (hp : pre.length ≤ 50000) {n i k : Nat} {px : List Px} (hk : min (a - (i : Int)).toNat (M - px.length) = k + 1) (hpx : px.length ≤ M) (hik : i ≤ 60000) :
    glazierref24_Take_l1 fl (n + 1) b (pre ++ a :: r :: g :: bb :: al :: rest) pre.length i w h px = glazierref24_Take_l1 fl n b (pre ++ a :: r :: g :: bb :: al :: rest) pre.length ((i : Int) + 1) w h (px ++ [(u8 r, (u8 g, (u8 bb, u8 al)))]) := by
  have hlt : (i : Int) < a ∧ px.length < M := by omega
  have g0 := get_pre pre (a :: r :: g :: bb :: al :: rest) 0
  have g1 := get_pre pre (a :: r :: g :: bb :: al :: rest) 1
  have g2 := get_pre pre (a :: r :: g :: bb :: al :: rest) 2
  have g3 := get_pre pre (a :: r :: g :: bb :: al :: rest) 3
  have g4 := get_pre pre (a :: r :: g :: bb :: al :: rest) 4
  rw [show F.get (a :: r :: g :: bb :: al :: rest) ((0 : Nat) : Int) = some a from rfl, Int.natCast_zero, Int.add_zero] at g0
  rw [show F.get (a :: r :: g :: bb :: al :: rest) ((1 : Nat) : Int) = some r from rfl] at g1
  rw [show F.get (a :: r :: g :: bb :: al :: rest) ((2 : Nat) : Int) = some g from rfl] at g2
  rw [show F.get (a :: r :: g :: bb :: al :: rest) ((3 : Nat) : Int) = some bb from rfl] at g3
  rw [show F.get (a :: r :: g :: bb :: al :: rest) ((4 : Nat) : Int) = some al from rfl] at g4
  rw [show ((1 : Nat) : Int) = 1 from rfl] at g1
  rw [show ((2 : Nat) : Int) = 2 from rfl] at g2
  rw [show ((3 : Nat) : Int) = 3 from rfl] at g3
  rw [show ((4 : Nat) : Int) = 4 from rfl] at g4
  rw [glazierref24_Take_l1, g0, ob_some, bnd_eq, lt_t hlt.1, bite_t, bnd_eq, lenK, bnd_eq, lt_t (by omega), bite_t, bnd_eq, addI (b := 1) (by omega), g1, ob_some, bnd_eq, conv_u8, bnd_eq, addI (b := 2) (by omega), g2, ob_some, bnd_eq, conv_u8, bnd_eq, addI (b := 3) (by omega), g3, ob_some, bnd_eq, conv_u8,
    bnd_eq, addI (b := 4) (by omega), g4, ob_some, bnd_eq, conv_u8, appOk_t (by simp; omega) (by decide), bgd_t, bnd_eq, appK, bnd_eq, addI (by omega)]

theorem rtk_inner {M : Nat} (hM : M = 4097) (fl : Nat) (b : List Int) (pre : List Int) (a r g bb al : Int) (rest : List Int) (w h : Int) (hp : pre.length ≤ 50000) (k : Nat) : ∀ (n i : Nat) (px : List Px), min (a - (i : Int)).toNat (M - px.length) = k → k + 1 ≤ n → px.length ≤ M → i + k ≤ 60000 →
    glazierref24_Take_l1 fl n b (pre ++ a :: r :: g :: bb :: al :: rest) pre.length i w h px = some (b, (pre ++ a :: r :: g :: bb :: al :: rest, ((pre.length : Int), (w, (h, (px ++ List.replicate k (u8 r, (u8 g, (u8 bb, u8 al))), ())))))) := by
  induction k with
  | zero =>
    intro n i px hk hn hpx hik
    obtain ⟨n, rfl⟩ : ∃ m, n = m + 1 := ⟨n - 1, by omega⟩
    rw [rtk_done hM fl b pre a r g bb al rest w h hp hk hpx, List.replicate_zero, List.append_nil]
  | succ k ih =>
    intro n i px hk hn hpx hik
    obtain ⟨n, rfl⟩ : ∃ m, n = m + 1 := ⟨n - 1, by omega⟩
    rw [rtk_more hM fl b pre a r g bb al rest w h hp hk hpx (by omega)]
    have := ih n (i + 1) (px ++ [(u8 r, (u8 g, (u8 bb, u8 al)))]) (by rw [List.length_append, List.length_singleton]; omega) (by omega) (by rw [List.length_append, List.length_singleton]; omega) (by omega)
    rw [Int.natCast_add] at this
    refine this.trans ?_
    rw [List.append_assoc, List.replicate_succ, List.singleton_append]

theorem tk_more (a r g b al : Int) (rest : List Int) (px : List Px) : tk (a :: r :: g :: b :: al :: rest) px = tk rest (px ++ List.replicate (many a px.length) (u8 r, (u8 g, (u8 b, u8 al)))) := by rw [tk]

theorem rtk_loop {fl : Nat} (hfl : 4100 ≤ fl) (b : List Int) (w h : Int) : ∀ (n : Nat) (pre l : List Int) (px : List Px), l.length < 5 * n → (∀ x ∈ l, w64 x) → pre.length + l.length ≤ 50000 → px.length ≤ 4097 → (∀ c ∈ px, pxB c) →
    glazierref24_Take_l2 fl n b (pre ++ l) pre.length w h px = some (b, (w, (h, (tk l px, ()))))
  | 0, pre, l, px, hn, hw, hl, hp, hc => by omega
  | n + 1, pre, l, px, hn, hw, hl, hp, hc => by
    rw [glazierref24_Take_l2]
    simp only [bnd_eq]
    rw [lenK, addI (by omega), List.length_append]
    match l, hn, hw, hl with
    | a :: r :: g :: bb :: al :: rest, hn, hw, hl =>
      have ha := hw a (by simp)
      unfold w64 at ha
      have hlen : (a :: r :: g :: bb :: al :: rest).length = rest.length + 5 := rfl
      rw [hlen] at hn hl
      have hle : many a px.length ≤ 4097 - px.length := by unfold many; omega
      have hin := rtk_inner (M := 4097) rfl fl b pre a r g bb al rest w h (by omega) (many a px.length) fl 0 px (many_min hp) (by omega) hp (by omega)
      rw [show ((0 : Nat) : Int) = 0 from rfl] at hin
      rw [hlen, le_t (by omega), bite_t, hin, ob_some]
      dsimp only
      rw [addI (by omega)]
      have hpx : (px ++ List.replicate (many a px.length) (u8 r, (u8 g, (u8 bb, u8 al)))).length ≤ 4097 := by rw [List.length_append, List.length_replicate]; omega
      have ih := rtk_loop hfl b w h n (pre ++ [a, r, g, bb, al]) rest (px ++ List.replicate (many a px.length) (u8 r, (u8 g, (u8 bb, u8 al)))) (by omega) (fun x hx => hw x (by simp [hx])) (by simp; omega) hpx (fun c hc' => by
        rcases List.mem_append.1 hc' with hc' | hc'
        · exact hc c hc'
        · rw [List.eq_of_mem_replicate hc']
          unfold pxB byteP u8
          simp only
          omega)
      have e1 : pre ++ [a, r, g, bb, al] ++ rest = pre ++ a :: r :: g :: bb :: al :: rest := by simp
      have e2 : (((pre ++ [a, r, g, bb, al]).length : Nat) : Int) = (pre.length : Int) + 5 := by simp
      rw [e1, e2] at ih
      rw [ih, tk_more]
    | [], hn, hw, hl => rw [le_f (by simp; omega), bite_f]; simp only [tk]
    | [_], hn, hw, hl => rw [le_f (by simp), bite_f]; simp only [tk]
    | [_, _], hn, hw, hl => rw [le_f (by simp), bite_f]; simp only [tk]
    | [_, _, _], hn, hw, hl => rw [le_f (by simp), bite_f]; simp only [tk]
    | [_, _, _, _], hn, hw, hl => rw [le_f (by simp), bite_f]; simp only [tk]

/-- Pixels of few groups. -/
theorem tk_groups : ∀ (n : Nat) (l : List Int) (R : List (Nat × Px)), l.length ≤ n → ∃ R', tk l (spread R) = spread R' ∧ R'.length ≤ R.length + l.length
  | n, a :: r :: g :: b :: al :: rest, R, hn => by
    obtain ⟨n, rfl⟩ : ∃ m, n = m + 1 := ⟨n - 1, by simp at hn; omega⟩
    unfold tk
    have e : spread R ++ List.replicate (many a (spread R).length) (u8 r, (u8 g, (u8 b, u8 al))) = spread (R ++ [(many a (spread R).length, (u8 r, (u8 g, (u8 b, u8 al))))]) := by rw [spread_app]; simp [spread]
    rw [e]
    obtain ⟨R', h1, h2⟩ := tk_groups n rest (R ++ [(many a (spread R).length, (u8 r, (u8 g, (u8 b, u8 al))))]) (by simp at hn; omega)
    exact ⟨R', h1, by simp at h2 ⊢; omega⟩
  | _, [], R, _ => ⟨R, rfl, by simp⟩
  | _, [_], R, _ => ⟨R, rfl, by simp⟩
  | _, [_, _], R, _ => ⟨R, rfl, by simp⟩
  | _, [_, _, _], R, _ => ⟨R, rfl, by simp⟩
  | _, [_, _, _, _], R, _ => ⟨R, rfl, by simp⟩

/-- What the document takes. -/
theorem ref_take {fl : Nat} (hfl : 14000 ≤ fl) {b : List Int} (hb : bytesL b) (hs : b.length ≤ 1000) : ∃ L, (∃ r, glazierref03_All fl b = some (L, r)) ∧
    ((glazierref24_Take fl b = some ((0, (0, [])), 10) ∧ ∀ w h rest, L = w :: h :: rest → ¬ (imOk w h (tk rest []) ∧ F.seq (F.str (imB w h (tk rest []))) (F.str b) = true)) ∨
    ∃ w h rest, L = w :: h :: rest ∧ glazierref24_Take fl b = some ((w, (h, tk rest [])), 0) ∧ imOk w h (tk rest []) ∧ F.seq (F.str (imB w h (tk rest []))) (F.str b) = true ∧ (∀ c ∈ tk rest [], pxB c) ∧ (tk rest []).length ≤ 4097) := by
  obtain ⟨L, rr, eL, n1, n2⟩ := rall_spec (fl := fl) (by omega) (by omega) hb (by omega)
  refine ⟨L, ⟨rr, eL⟩, ?_⟩
  unfold glazierref24_Take
  rw [eL, ob_some]
  dsimp only
  simp only [bnd_eq]
  rw [lenK]
  match L, n1, n2 with
  | [], n1, n2 => left; rw [lt_t (by decide), bite_t]; exact ⟨rfl, fun w h rest e => by cases e⟩
  | [_], n1, n2 => left; rw [lt_t (by simp), bite_t]; exact ⟨rfl, fun w h rest e => by cases e⟩
  | w :: h :: rest, n1, n2 =>
    have hw := n1 w (by simp)
    have hh := n1 h (by simp)
    have hlen : (w :: h :: rest).length = rest.length + 2 := rfl
    rw [hlen] at n2
    have hloop := rtk_loop (fl := fl) (by omega) b w h fl [w, h] rest [] (by omega) (fun x hx => n1 x (by simp [hx])) (by simp; omega) (by simp) (fun c hc => by simp at hc)
    rw [show ([w, h] ++ rest) = w :: h :: rest from rfl, show ((([w, h] : List Int).length : Nat) : Int) = 2 from rfl] at hloop
    rw [hlen, lt_f (by omega), bite_f, show F.get (w :: h :: rest) 0 = some w from rfl, ob_some, show F.get (w :: h :: rest) 1 = some h from rfl, ob_some, hloop, ob_some]
    dsimp only
    obtain ⟨t1, t2⟩ := tk_in rest.length rest [] (Nat.le_refl _) (by simp) (fun c hc => by simp at hc)
    obtain ⟨R', r1, r2⟩ := tk_groups rest.length rest [] (Nat.le_refl _)
    rw [show spread [] = ([] : List Px) from rfl] at r1
    by_cases hok : imOk w h (tk rest [])
    · have hpx : (tk rest []).length ≤ 4096 := by
        have := hok.2.2
        have b2 : w * h ≤ 64 * 64 := Int.mul_le_mul hok.1.2 hok.2.1.2 (by have := hok.2.1.1; omega) (by decide)
        omega
      have hgr := runs_groups R'
      rw [← r1] at hgr
      simp at r2
      rw [riput_ok (by omega) hok hpx (by omega) (by omega) t2, ob_some]
      dsimp only
      rw [ne_f rfl, bite_f]
      have hsne : F.sne (F.str (imB w h (tk rest []))) (F.str b) = !(F.seq (F.str (imB w h (tk rest []))) (F.str b)) := rfl
      rw [hsne]
      cases hq : F.seq (F.str (imB w h (tk rest []))) (F.str b) with
      | false =>
        left
        refine ⟨rfl, fun w' h' rest' e => ?_⟩
        injection e with e1 e; injection e with e2 e3
        subst e1; subst e2; subst e3
        exact fun k => by rw [hq] at k; cases k.2
      | true =>
        right
        exact ⟨w, h, rest, rfl, rfl, hok, hq, t2, t1⟩
    · left
      rw [riput_no (by omega) hok, ob_some]
      dsimp only
      rw [ne_t (by decide), bite_t]
      refine ⟨rfl, fun w' h' rest' e => ?_⟩
      injection e with e1 e; injection e with e2 e3
      subst e1; subst e2; subst e3
      exact fun k => hok k.1

/-- An image of few bytes: its numbers. -/
theorem take_back {w h : Int} {l : List Px} (hok : imOk w h l) (hl : l.length ≤ 4097) (hc : ∀ c ∈ l, pxB c) {b : List Int} (hbl : b.length ≤ 1000) (hb : imB w h l = b) : b = (imN w h l).flatMap nb ∧ (∀ x ∈ imN w h l, 0 ≤ x ∧ x < 8192) ∧ 10 * (imN w h l).length ≤ 10000 ∧ tk ((runs l.length l).flatMap five) [] = l := by
  have hN := imN_in hok (by omega) hc
  have hge := flat_nb_ge (imN w h l)
  rw [imB_N] at hb
  refine ⟨hb.symm, hN, by rw [hb] at hge; omega, ?_⟩
  rw [tk_five _ _ (fun q hq => hc _ (runs_in l.length l q hq).2.2) (by rw [runs_spread _ _ (Nat.le_refl _)]; simp; omega), runs_spread _ _ (Nat.le_refl _)]
  rfl

/-- Both take the same. -/
theorem both_take {fl : Nat} (hfl : 14000 ≤ fl) {b : List Int} (hb : bytesL b) (hs : b.length ≤ 1000) : ∃ w h px e, image_Take fl b = some ((w, (h, px)), e) ∧ glazierref24_Take fl b = some ((w, (h, px)), e) ∧ px.length ≤ 4097 := by
  obtain ⟨L, ⟨rr, eL⟩, hr⟩ := ref_take hfl hb hs
  rcases take_spec (fl := fl) (by omega) (b := b) (by omega) hb (by omega) with ⟨e, hno⟩ | ⟨w, h, rest, e1, e2, hok, hq, hc, hl⟩
  · rcases hr with ⟨e', _⟩ | ⟨w, h, rest, e1, e2, hok, hq, hc, hl⟩
    · exact ⟨0, 0, [], 10, e, e', by simp⟩
    · exfalso
      have hbb := seq_str (by rw [imB_N]; exact flat_nb_bytes _) hb hq
      obtain ⟨k1, k2, k3, k4⟩ := take_back hok hl hc hs hbb
      have hn : nums fl b = imN w h (tk rest []) := by rw [k1]; exact nums_nb k2 (by omega) (by omega)
      exact hno w h _ hn (by rw [k4]; exact ⟨hok, hq⟩)
  · have hbb := seq_str (by rw [imB_N]; exact flat_nb_bytes _) hb hq
    obtain ⟨k1, k2, k3, k4⟩ := take_back hok hl hc hs hbb
    have hL : L = imN w h (tk rest []) := by
      have : glazierref03_All fl b = some (imN w h (tk rest []), false) := by
        unfold glazierref03_All
        rw [k1, rall_nb (by omega) _ fl [] k2 (by omega) (by simp; omega), ob_some]
        rfl
      rw [eL] at this
      injection this with this
      injection this
    rcases hr with ⟨e', hno⟩ | ⟨w', h', rest', f1, f2, _, _, _, _⟩
    · exact absurd ⟨by rw [k4]; exact hok, by rw [k4]; exact hq⟩ (hno w h _ hL)
    · rw [hL] at f1
      unfold imN at f1
      injection f1 with a1 f1
      injection f1 with a2 f1
      rw [← f1, k4, ← a1, ← a2] at f2
      exact ⟨w, h, tk rest [], 0, e2, f2, hl⟩
end Go.Proofs.Ytepifmbnajpgeaa.G
