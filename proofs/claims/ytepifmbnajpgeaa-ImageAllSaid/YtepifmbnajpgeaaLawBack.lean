/- Bytes that were put are taken as they were; no image's bytes begin another's. -/
import Derived.Test.YtepifmbnajpgeaaLawTake
import Derived.Test.YtepifmbnajpgeaaLawRef03
import Derived.Test.YtepifmbnajpgeaaLawStr
set_option linter.unusedVariables false
namespace Go.Proofs.Ytepifmbnajpgeaa.G
open Go Go.RowKit Go.Proofs.Ytepifmbnajpgeaa.M

/-! ### Numbers are told apart -/
theorem vbn_inj : ∀ (k x y : Nat) (u v : List Int), x < 128 ^ k → y < 128 ^ k → 1 ≤ k → vbn k x ++ u = vbn k y ++ v → x = y ∧ u = v
  | 0, x, y, u, v, _, _, h, _ => by omega
  | k + 1, x, y, u, v, hx, hy, h1, h => by
    unfold vbn at h
    by_cases cx : x < 128
    · rw [if_pos cx] at h
      by_cases cy : y < 128
      · rw [if_pos cy] at h
        simp only [List.singleton_append, List.cons.injEq] at h
        exact ⟨by omega, h.2⟩
      · rw [if_neg cy] at h
        simp only [List.singleton_append, List.cons_append, List.cons.injEq] at h
        omega
    · rw [if_neg cx] at h
      by_cases cy : y < 128
      · rw [if_pos cy] at h
        simp only [List.singleton_append, List.cons_append, List.cons.injEq] at h
        omega
      · rw [if_neg cy] at h
        simp only [List.cons_append, List.cons.injEq] at h
        have p1 : x / 128 < 128 ^ k := Nat.div_lt_of_lt_mul (by rw [← Nat.pow_succ']; exact hx)
        have p2 : y / 128 < 128 ^ k := Nat.div_lt_of_lt_mul (by rw [← Nat.pow_succ']; exact hy)
        have hk : 1 ≤ k := by
          cases k with
          | zero => simp at hx; omega
          | succ k => omega
        obtain ⟨e1, e2⟩ := vbn_inj k _ _ u v p1 p2 hk h.2
        exact ⟨by omega, e2⟩

theorem zig_inj {a b : Int} (h : zig a = zig b) : a = b := by
  unfold zig at h
  split at h <;> split at h <;> omega

theorem nb_inj {a b : Int} (ha : w64 a) (hb : w64 b) {u v : List Int} (h : nb a ++ u = nb b ++ v) : a = b ∧ u = v := by
  have h1 := zig_lt ha
  have h2 := zig_lt hb
  obtain ⟨e1, e2⟩ := vbn_inj 10 _ _ u v (by omega) (by omega) (by decide) h
  exact ⟨zig_inj e1, e2⟩

theorem nb_ne (a : Int) : nb a ≠ [] := by
  unfold nb vbn
  split <;> simp

theorem flat_inj : ∀ {a b : List Int} {t : List Int}, (∀ x ∈ a, w64 x) → (∀ x ∈ b, w64 x) → a.flatMap nb ++ t = b.flatMap nb → ∃ c, b = a ++ c ∧ t = c.flatMap nb
  | [], b, t, _, _, h => ⟨b, rfl, by simpa using h⟩
  | x :: a, [], t, _, _, h => by
    exfalso
    rw [List.flatMap_cons, List.flatMap_nil, List.append_assoc] at h
    exact nb_ne x (List.append_eq_nil_iff.1 h).1
  | x :: a, y :: b, t, ha, hb, h => by
    rw [List.flatMap_cons, List.flatMap_cons, List.append_assoc] at h
    obtain ⟨rfl, h2⟩ := nb_inj (ha x (by simp)) (hb y (by simp)) h
    obtain ⟨c, h3, h4⟩ := flat_inj (fun z hz => ha z (by simp [hz])) (fun z hz => hb z (by simp [hz])) h2
    exact ⟨c, by rw [h3]; rfl, h4⟩

/-! ### The numbers of an image -/
def five (q : Nat × Px) : List Int := [(q.1 : Int), q.2.1, q.2.2.1, q.2.2.2.1, q.2.2.2.2]

def imN (w h : Int) (l : List Px) : List Int := w :: h :: (runs l.length l).flatMap five

theorem five_runB (q : Nat × Px) : (five q).flatMap nb = runB q := by simp [five, runB]

theorem fives (R : List (Nat × Px)) : (R.flatMap five).flatMap nb = R.flatMap runB := by
  induction R with
  | nil => rfl
  | cons q R ih => rw [List.flatMap_cons, List.flatMap_cons, List.flatMap_append, five_runB, ih]

theorem imB_N (w h : Int) (l : List Px) : imB w h l = (imN w h l).flatMap nb := by
  unfold imB imN
  rw [List.flatMap_cons, List.flatMap_cons, fives]

theorem five_inj : ∀ {A B : List (Nat × Px)} {t : List Int}, A.flatMap five ++ t = B.flatMap five → ∃ C, B = A ++ C ∧ t = C.flatMap five
  | [], B, t, h => ⟨B, rfl, by simpa using h⟩
  | q :: A, [], t, h => by simp [five] at h
  | q :: A, p :: B, t, h => by
    rw [List.flatMap_cons, List.flatMap_cons, List.append_assoc] at h
    simp only [five, List.cons_append, List.nil_append, List.cons.injEq] at h
    obtain ⟨h1, h2, h3, h4, h5, h6⟩ := h
    obtain ⟨C, e1, e2⟩ := five_inj h6
    refine ⟨C, ?_, e2⟩
    have : q = p := by
      obtain ⟨a, b, c, d, e⟩ := q
      obtain ⟨a', b', c', d', e'⟩ := p
      simp only at h1 h2 h3 h4 h5
      have : a = a' := by omega
      subst this; subst h2; subst h3; subst h4; subst h5
      rfl
    rw [this, e1]
    rfl

theorem five_64 {R : List (Nat × Px)} (h : ∀ q ∈ R, q.1 < 8192 ∧ pxB q.2) : ∀ x ∈ R.flatMap five, 0 ≤ x ∧ x < 8192 := fun x hx => by
  obtain ⟨q, hq, h2⟩ := List.mem_flatMap.1 hx
  obtain ⟨h3, p1, p2, p3, p4⟩ := h q hq
  unfold byteP at p1 p2 p3 p4
  simp only [five, List.mem_cons, List.not_mem_nil, or_false] at h2
  rcases h2 with rfl | rfl | rfl | rfl | rfl <;> omega

theorem imN_in {w h : Int} {l : List Px} (hok : imOk w h l) (hl : l.length < 8192) (hc : ∀ c ∈ l, pxB c) : ∀ x ∈ imN w h l, 0 ≤ x ∧ x < 8192 := fun x hx => by
  unfold imN at hx
  obtain ⟨hw, hh, _⟩ := hok
  simp only [List.mem_cons] at hx
  rcases hx with rfl | rfl | hx
  · omega
  · omega
  · exact five_64 (fun q hq => by
      obtain ⟨_, a2, a3⟩ := runs_in l.length l q hq
      exact ⟨by omega, hc _ a3⟩) x hx

theorem small64 {x : Int} (h : 0 ≤ x ∧ x < 8192) : w64 x := by unfold w64; omega

theorem spread_app (A B : List (Nat × Px)) : spread (A ++ B) = spread A ++ spread B := by unfold spread; rw [List.flatMap_append]

/-- No image's bytes begin another's. -/
theorem im_prefix {w h w' h' : Int} {l l' : List Px} {t : List Int} (hok : imOk w h l) (hok' : imOk w' h' l') (hl : l.length < 8192) (hl' : l'.length < 8192) (hc : ∀ c ∈ l, pxB c) (hc' : ∀ c ∈ l', pxB c) (e : imB w h l ++ t = imB w' h' l') : t = [] := by
  rw [imB_N, imB_N] at e
  obtain ⟨c, e1, e2⟩ := flat_inj (fun x hx => small64 (imN_in hok hl hc x hx)) (fun x hx => small64 (imN_in hok' hl' hc' x hx)) e
  unfold imN at e1
  rw [List.cons_append, List.cons_append] at e1
  injection e1 with e3 e1
  injection e1 with e4 e1
  obtain ⟨C, f1, f2⟩ := five_inj e1.symm
  have s1 := runs_spread l.length l (Nat.le_refl _)
  have s2 := runs_spread l'.length l' (Nat.le_refl _)
  rw [f1, spread_app, s1] at s2
  have hlen : (l.length : Int) = l'.length := by rw [hok.2.2, hok'.2.2, e3, e4]
  have h0 : (spread C).length = 0 := by
    have := congrArg List.length s2
    rw [List.length_append] at this
    omega
  cases C with
  | nil => rw [e2, f2]; rfl
  | cons q C =>
    exfalso
    have := (runs_in l'.length l' q (by rw [f1]; simp)).1
    unfold spread at h0
    rw [List.flatMap_cons, List.length_append, List.length_replicate] at h0
    omega

/-! ### Numbers are read as they were put -/
theorem or0 {a : Int} (h : 0 ≤ a ∧ a < 18446744073709551616) : F.or .u64 0 a = a := by
  unfold F.or
  rw [show BitVec.ofInt IntKind.u64.bits 0 = 0#(IntKind.u64.bits) from rfl, BitVec.zero_or, BitVec.toNat_ofInt]
  simp only [IntKind.wrap, IntKind.bits, IntKind.signed]
  simp
  omega

theorem shl0 {a : Int} (h : 0 ≤ a ∧ a < 18446744073709551616) : F.shl .u64 a 0 = a := by
  unfold F.shl
  simp [IntKind.wrap, IntKind.bits, IntKind.signed]
  omega

theorem or7 {p q : Nat} (hp : p < 128) (hq : q < 128) : F.or .u64 (p : Int) (F.shl .u64 (q : Int) 7) = ((128 * q + p : Nat) : Int) := by
  have e1 : F.shl .u64 (q : Int) 7 = ((2 ^ 7 * q : Nat) : Int) := by
    unfold F.shl
    simp [IntKind.wrap, IntKind.bits, IntKind.signed]
    omega
  rw [e1]
  unfold F.or
  rw [BitVec.toNat_or, BitVec.toNat_ofInt, BitVec.toNat_ofInt]
  have e2 : ((p : Int) % ((2 ^ IntKind.u64.bits : Nat) : Int)).toNat = p := by simp only [IntKind.bits]; omega
  have e3 : (((2 ^ 7 * q : Nat) : Int) % ((2 ^ IntKind.u64.bits : Nat) : Int)).toNat = 2 ^ 7 * q := by simp only [IntKind.bits]; omega
  rw [e2, e3, Nat.or_comm, ← Nat.two_pow_add_eq_or_of_lt (show p < 2 ^ 7 from hp)]
  exact wrapU (by omega) (by omega)

theorem back {n : Nat} (h : n < 8192) : F.xor .i64 (F.conv .i64 (F.shr .u64 ((2 * n : Nat) : Int) 1)) (F.neg .i64 (F.conv .i64 (F.and .u64 ((2 * n : Nat) : Int) 1))) = (n : Int) := by
  have e1 : F.shr .u64 ((2 * n : Nat) : Int) 1 = (n : Int) := by
    have e : F.shr .u64 ((2 * n : Nat) : Int) 1 = Int.fdiv ((2 * n : Nat) : Int) 2 := by unfold F.shr; simp [IntKind.bits]
    rw [e]
    exact fdiv_at (by decide) (by omega) (by omega)
  have e2 : F.and .u64 ((2 * n : Nat) : Int) 1 = 0 := by
    unfold F.and
    rw [BitVec.toNat_and, BitVec.toNat_ofInt, BitVec.toNat_ofInt]
    have e2 : (((2 * n : Nat) : Int) % ((2 ^ IntKind.u64.bits : Nat) : Int)).toNat = 2 * n := by simp only [IntKind.bits]; omega
    have e3 : ((1 : Int) % ((2 ^ IntKind.u64.bits : Nat) : Int)).toNat = 1 := by decide
    rw [e2, e3, Nat.and_one_is_mod, Nat.mul_mod_right]
    rfl
  rw [e1, e2, convI (by omega), show F.neg .i64 (F.conv .i64 0) = 0 by decide]
  unfold F.xor
  rw [show BitVec.ofInt IntKind.i64.bits 0 = 0#(IntKind.i64.bits) from rfl, BitVec.xor_zero, BitVec.toNat_ofInt]
  have e3 : ((n : Int) % ((2 ^ IntKind.i64.bits : Nat) : Int)).toNat = n := by simp only [IntKind.bits]; omega
  rw [e3]
  exact wrapI (by omega) (by omega)

theorem read_nb {fl : Nat} {n : Nat} (h : n < 8192) {rest : List Int} (hb : bytesL rest) (hs : rest.length ≤ 40000) (hfl : rest.length + 4 ≤ fl) : rdI fl (nb (n : Int) ++ rest) = ((n : Int), (nb (n : Int)).length) := by
  have hz : zig (n : Int) = 2 * n := by unfold zig; rw [if_pos (by omega)]; omega
  obtain ⟨f, rfl⟩ : ∃ f, fl = f + 2 := ⟨fl - 2, by omega⟩
  have fin : ∀ z, wire_read (f + 2) (nb (n : Int) ++ rest) = some ((n : Int), ((z : Nat) : Int)) → rdI (f + 2) (nb (n : Int) ++ rest) = ((n : Int), z) := fun z e => by unfold rdI; rw [e]; rfl
  refine fin _ ?_
  have hall : bytesL (nb (n : Int) ++ rest) := fun x hx => (List.mem_append.1 hx).elim (nb_bytes _ x) (hb x)
  have hlen : (nb (n : Int) ++ rest).length = (nb (n : Int)).length + rest.length := List.length_append
  have h10 := nb_len (n : Int)
  unfold wire_read
  rw [bnd_eq, lenK]
  by_cases hx : 2 * n < 128
  · have enb : nb (n : Int) = [((2 * n : Nat) : Int)] := by unfold nb vbn; rw [hz, if_pos hx]
    obtain ⟨p, hp, e⟩ := read_step (fl := f + 2) (n := f + 1) (x := 0) (sh := 0) hall (by omega) (i := 0) (by omega) (by rw [hlen, enb]; simp; omega)
    have hp' : p = 2 * n := by rw [hp]; simp [enb]; omega
    have hl7 := len7_le ⟨2 * n, hx⟩
    simp only at hl7
    have hb0 : (nb (n : Int) ++ rest)[0]'(by rw [hlen, enb]; simp; omega) = ((2 * n : Nat) : Int) := by simp [enb]
    rw [show ((0 : Nat) : Int) = 0 from rfl] at e
    rw [e, hb0, hp', if_neg (by omega), if_pos (by omega), shl0 (by omega), or0 (by omega), back h, enb]
    rfl
  · have h64 : 2 * n / 128 < 128 := by omega
    have enb : nb (n : Int) = [((2 * n % 128 + 128 : Nat) : Int), ((2 * n / 128 : Nat) : Int)] := by
      unfold nb vbn
      rw [hz, if_neg hx]
      unfold vbn
      rw [if_pos h64]
    have hm : 2 * n % 128 < 128 := Nat.mod_lt _ (by decide)
    obtain ⟨p, hp, e⟩ := read_step (fl := f + 2) (n := f + 1) (x := 0) (sh := 0) hall (by omega) (i := 0) (by omega) (by rw [hlen, enb]; simp; omega)
    have hp' : p = 2 * n % 128 := by rw [hp]; simp [enb]; omega
    have hb0 : (nb (n : Int) ++ rest)[0]'(by rw [hlen, enb]; simp; omega) = ((2 * n % 128 + 128 : Nat) : Int) := by simp [enb]
    have hl7 := len7_le ⟨2 * n % 128, hm⟩
    simp only at hl7
    rw [show ((0 : Nat) : Int) = 0 from rfl] at e
    rw [e, hb0, hp', if_neg (by omega), if_neg (by omega), shl0 (by omega), or0 (by omega)]
    obtain ⟨p2, hp2, e2⟩ := read_step (fl := f + 2) (n := f) (x := ((2 * n % 128 : Nat) : Int)) (sh := 0 + 7) hall (by omega) (i := 0 + 1) (by omega) (by rw [hlen, enb]; simp; omega)
    have hp2' : p2 = 2 * n / 128 := by rw [hp2]; simp [enb]; omega
    have hb1 : (nb (n : Int) ++ rest)[0 + 1]'(by rw [hlen, enb]; simp; omega) = ((2 * n / 128 : Nat) : Int) := by simp [enb]
    have hl72 := len7_le ⟨2 * n / 128, h64⟩
    simp only at hl72
    rw [e2, hb1, hp2', if_neg (by omega), if_pos (by omega), show (0 : Int) + 7 = 7 from rfl, or7 hm h64, show 128 * (2 * n / 128) + 2 * n % 128 = 2 * n from Nat.div_add_mod _ _, back h, enb]
    rfl

theorem numsW_nb {fl : Nat} : ∀ (l : List Int) (k : Nat), (∀ x ∈ l, 0 ≤ x ∧ x < 8192) → l.length ≤ k → 10 * l.length ≤ 40000 → 10 * l.length + 4 ≤ fl → numsW (rdI fl) k (l.flatMap nb) = some l
  | [], k, _, _, _, _ => by cases k <;> rfl
  | x :: l, 0, _, h, _, _ => by simp at h
  | x :: l, k + 1, hl, h, hs, hfl => by
    obtain ⟨n, rfl⟩ : ∃ n : Nat, x = (n : Int) := ⟨x.toNat, by have := hl x (by simp); omega⟩
    have hn := hl (n : Int) (by simp)
    have hlen := flat_nb_len l
    rw [List.length_cons] at h hs hfl
    have hne : ¬ ((nb (n : Int) ++ l.flatMap nb).length = 0) := by
      have := nb_ne (n : Int)
      intro e
      exact this (List.append_eq_nil_iff.1 (List.length_eq_zero_iff.1 e)).1
    have hne2 : ¬ (nb (n : Int)).length = 0 := fun e => nb_ne (n : Int) (List.length_eq_zero_iff.1 e)
    unfold numsW
    rw [List.flatMap_cons, if_neg hne, read_nb (by omega) (flat_nb_bytes l) (by omega) (by omega)]
    dsimp only
    rw [if_neg hne2, List.drop_left, numsW_nb l k (fun z hz => hl z (by simp [hz])) (by omega) (by omega) (by omega)]
    rfl

theorem flat_nb_ge : ∀ l : List Int, l.length ≤ (l.flatMap nb).length
  | [] => by simp
  | x :: l => by
    have := flat_nb_ge l
    have h : 1 ≤ (nb x).length := by
      have := nb_ne x
      cases hh : nb x with
      | nil => exact absurd hh this
      | cons => simp
    rw [List.flatMap_cons, List.length_append, List.length_cons]
    omega

theorem nums_nb {fl : Nat} {l : List Int} (hl : ∀ x ∈ l, 0 ≤ x ∧ x < 8192) (hs : 10 * l.length ≤ 40000) (hfl : 10 * l.length + 4 ≤ fl) : nums fl (l.flatMap nb) = l := by
  unfold nums
  rw [numsW_nb l _ hl (flat_nb_ge l) hs hfl]
  rfl

theorem u8_byte {x : Int} (h : byteP x) : u8 x = x := by unfold byteP at h; unfold u8; omega

theorem tk_five : ∀ (R : List (Nat × Px)) (px : List Px), (∀ q ∈ R, pxB q.2) → px.length + (spread R).length ≤ 4097 → tk (R.flatMap five) px = px ++ spread R
  | [], px, _, _ => by simp [tk, spread]
  | q :: R, px, h, hs => by
    obtain ⟨p1, p2, p3, p4⟩ := h q (by simp)
    have e : spread (q :: R) = List.replicate q.1 q.2 ++ spread R := rfl
    rw [e, List.length_append, List.length_replicate] at hs
    rw [List.flatMap_cons]
    show tk ((q.1 : Int) :: q.2.1 :: q.2.2.1 :: q.2.2.2.1 :: q.2.2.2.2 :: R.flatMap five) px = _
    unfold tk
    have hm : many (q.1 : Int) px.length = q.1 := by unfold many; omega
    rw [hm, u8_byte p1, u8_byte p2, u8_byte p3, u8_byte p4, tk_five R _ (fun z hz => h z (by simp [hz])) (by rw [List.length_append, List.length_replicate]; omega), e, List.append_assoc]

theorem imN_len (w h : Int) (l : List Px) : (imN w h l).length ≤ 2 + 5 * l.length := by
  have h1 := runs_len l.length l
  have h2 : ∀ R : List (Nat × Px), (R.flatMap five).length = 5 * R.length := fun R => by
    induction R with
    | nil => rfl
    | cons q R ih => rw [List.flatMap_cons, List.length_append, ih]; simp [five]; omega
  unfold imN
  rw [List.length_cons, List.length_cons, h2]
  omega

/-- What was put is taken as it was. -/
theorem take_put {fl : Nat} (hfl : 10000 ≤ fl) {w h : Int} {l : List Px} (hok : imOk w h l) (hl : l.length ≤ 144) (hc : ∀ c ∈ l, pxB c) : image_Take fl (imB w h l) = some ((w, (h, l)), 0) := by
  have hN := imN_in hok (by omega) hc
  have hlen := imN_len w h l
  have hb := flat_nb_len (imN w h l)
  have hn : nums fl (imB w h l) = imN w h l := by
    rw [imB_N]
    exact nums_nb hN (by omega) (by omega)
  have htk : tk ((runs l.length l).flatMap five) [] = l := by
    rw [tk_five _ _ (fun q hq => hc _ (runs_in l.length l q hq).2.2) (by rw [runs_spread _ _ (Nat.le_refl _)]; simp; omega), runs_spread _ _ (Nat.le_refl _)]
    rfl
  have hlb : (imB w h l).length ≤ 9000 := by rw [imB_N]; omega
  rcases take_spec (fl := fl) (by omega) (b := imB w h l) (by omega) (by rw [imB_N]; exact flat_nb_bytes _) (by omega) with ⟨e, hno⟩ | ⟨w', h', rest, e1, e2, _, _, _, _⟩
  · refine absurd ⟨?_, ?_⟩ (hno w h ((runs l.length l).flatMap five) (by rw [hn]; rfl))
    · rw [htk]; exact hok
    · rw [htk]; exact seq_refl _
  · rw [hn] at e1
    unfold imN at e1
    injection e1 with a1 e1
    injection e1 with a2 e1
    rw [e2, ← e1, htk, ← a1, ← a2]

/-- What is no image's bytes, but begins with one's, or begins one's, is none. -/
theorem take_no {fl : Nat} (hfl : 10000 ≤ fl) {w h : Int} {l : List Px} (hok : imOk w h l) (hl : l.length ≤ 144) (hc : ∀ c ∈ l, pxB c) {b t : List Int} (hb : bytesL b) (hs : b.length ≤ 9500) (ht : t ≠ []) (e : b ++ t = imB w h l ∨ b = imB w h l ++ t) : image_Take fl b = some ((0, (0, [])), 10) := by
  rcases take_spec (fl := fl) (by omega) (b := b) (by omega) hb (by omega) with ⟨e, _⟩ | ⟨w', h', rest, e1, e2, hok', hq, hc', hl'⟩
  · exact e
  · exfalso
    have hbb : imB w' h' (tk rest []) = b := seq_str (by rw [imB_N]; exact flat_nb_bytes _) hb hq
    rcases e with e | e
    · rw [← hbb] at e
      exact ht (im_prefix hok' hok (by omega) (by omega) hc' hc e)
    · rw [← hbb] at e
      exact ht (im_prefix hok hok' (by omega) (by omega) hc hc' e.symm)
end Go.Proofs.Ytepifmbnajpgeaa.G
