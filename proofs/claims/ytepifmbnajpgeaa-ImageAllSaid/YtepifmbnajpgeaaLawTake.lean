/- Images out of bytes: what image.Take comes to. -/
import Derived.Test.YtepifmbnajpgeaaLawPut
set_option linter.unusedVariables false
namespace Go.Proofs.Ytepifmbnajpgeaa.G
open Go Go.RowKit Go.Proofs.Ytepifmbnajpgeaa.M

def len7 (y : Nat) : Nat := if y = 0 then 0 else Nat.log2 y + 1

theorem len_spec : ∀ y : Fin 128, bits_Len64 (y.val : Int) = some (len7 y.val : Int) := by decide +kernel

theorem len7_le : ∀ y : Fin 128, len7 y.val ≤ 7 := by decide +kernel

theorem andNot128 : ∀ y : Fin 256, F.andNot .u8 (y.val : Int) 128 = ((y.val % 128 : Nat) : Int) := by decide +kernel

theorem wrap64 (n : Int) : w64 (IntKind.wrap .i64 n) := by
  unfold w64
  simp only [IntKind.wrap, IntKind.bits, IntKind.signed]
  simp
  omega

theorem xor64 (a b : Int) : w64 (F.xor .i64 a b) := wrap64 _

def bytesL (b : List Int) : Prop := ∀ x ∈ b, 0 ≤ x ∧ x ≤ 255

/-- One round of the reading. -/
theorem read_step {fl : Nat} {b : List Int} (hb : bytesL b) (hs : b.length ≤ 50000) {n i : Nat} {x sh : Int} (hsh : 0 ≤ sh ∧ sh ≤ 7 * (i : Int)) (hi : i < b.length) :
    ∃ p : Nat, p = (b[i].toNat % 128) ∧ wire_read_l1 fl (n + 1) x sh b b.length i =
      (if 64 < sh + (len7 p : Int) ∨ (b[i] = 0 ∧ 0 < i) then some (.inl (0, (0, ()))) else
        if b[i] < 128 then some (.inl (F.xor .i64 (F.conv .i64 (F.shr .u64 (F.or .u64 x (F.shl .u64 p sh)) 1)) (F.neg .i64 (F.conv .i64 (F.and .u64 (F.or .u64 x (F.shl .u64 p sh)) 1))), ((i : Int) + 1, ())))
        else wire_read_l1 fl n (F.or .u64 x (F.shl .u64 p sh)) (sh + 7) b b.length ((i + 1 : Nat) : Int)) := by
  obtain ⟨h0, h1⟩ := hb _ (List.getElem_mem hi)
  refine ⟨b[i].toNat % 128, rfl, ?_⟩
  obtain ⟨c, hc⟩ : ∃ c : Nat, b[i] = (c : Int) := ⟨b[i].toNat, by omega⟩
  have hc256 : c < 256 := by omega
  have hp : c % 128 < 128 := Nat.mod_lt _ (by decide)
  have e1 := andNot128 ⟨c, hc256⟩
  have e2 := len_spec ⟨c % 128, hp⟩
  have e3 := len7_le ⟨c % 128, hp⟩
  simp only at e1 e2 e3
  have eU : F.conv .u64 ((c % 128 : Nat) : Int) = ((c % 128 : Nat) : Int) := convU (by omega)
  rw [wire_read_l1, bnd_eq, lt_t (by omega), bite_t, lgetK hi, ob_some, hc]
  simp only [bnd_eq, Int.toNat_natCast]
  rw [e1, eU, e2, ob_some, addI (a := sh) (by omega)]
  by_cases c1 : 64 < sh + (len7 (c % 128) : Int)
  · rw [gt_t c1, bite_t, if_pos (.inl c1)]
  · rw [gt_f (by omega), bite_f]
    have done : (bgd (F.nonneg sh) (bite (F.lt (c : Int) 128) (some (.inl (F.xor .i64 (F.conv .i64 (F.shr .u64 (F.or .u64 x (F.shl .u64 ((c % 128 : Nat) : Int) sh)) 1)) (F.neg .i64 (F.conv .i64 (F.and .u64 (F.or .u64 x (F.shl .u64 ((c % 128 : Nat) : Int) sh)) 1))), (F.add .i64 (i : Int) 1, ()))))
        (wire_read_l1 fl n (F.or .u64 x (F.shl .u64 ((c % 128 : Nat) : Int) sh)) (F.add .i64 sh 7) b b.length (F.add .i64 (i : Int) 1)))) = if (c : Int) < 128 then some (.inl (F.xor .i64 (F.conv .i64 (F.shr .u64 (F.or .u64 x (F.shl .u64 ((c % 128 : Nat) : Int) sh)) 1)) (F.neg .i64 (F.conv .i64 (F.and .u64 (F.or .u64 x (F.shl .u64 ((c % 128 : Nat) : Int) sh)) 1))), ((i : Int) + 1, ())))
        else wire_read_l1 fl n (F.or .u64 x (F.shl .u64 ((c % 128 : Nat) : Int) sh)) (sh + 7) b b.length ((i + 1 : Nat) : Int) := by
      rw [nn_t hsh.1, bgd_t, addI (by omega), addI (by omega)]
      by_cases hlt : (c : Int) < 128
      · rw [lt_t hlt, bite_t, if_pos hlt]
      · rw [lt_f (by omega), bite_f, if_neg hlt]
        rfl
    by_cases c2 : (c : Int) = 0
    · rw [eq_t c2, bite_t]
      by_cases c3 : 0 < (i : Int)
      · rw [gt_t c3, bite_t, if_pos (.inr ⟨c2, by omega⟩)]
      · rw [gt_f (by omega), bite_f, if_neg (by omega)]
        exact done
    · rw [eq_f c2, bite_f, if_neg (by omega)]
      exact done

theorem read_loop {fl : Nat} {b : List Int} (hb : bytesL b) (hs : b.length ≤ 50000) : ∀ (k n i : Nat) (x sh : Int), i + k = b.length → k + 1 ≤ n → (0 ≤ sh ∧ sh ≤ 7 * (i : Int)) →
    wire_read_l1 fl n x sh b b.length i = some (.inr ()) ∨ ∃ (v : Int) (m : Nat), wire_read_l1 fl n x sh b b.length i = some (.inl (v, ((m : Int), ()))) ∧ w64 v ∧ m ≤ b.length
  | 0, n, i, x, sh, hi, hn, hsh => by
    obtain ⟨n, rfl⟩ : ∃ m, n = m + 1 := ⟨n - 1, by omega⟩
    left
    rw [wire_read_l1, bnd_eq, lt_f (by omega), bite_f]
  | k + 1, n, i, x, sh, hi, hn, hsh => by
    obtain ⟨n, rfl⟩ : ∃ m, n = m + 1 := ⟨n - 1, by omega⟩
    obtain ⟨p, hp, e⟩ := read_step (fl := fl) (n := n) (x := x) hb hs hsh (show i < b.length by omega)
    rw [e]
    split
    · exact .inr ⟨0, 0, rfl, by unfold w64; omega, by omega⟩
    · split
      · exact .inr ⟨_, i + 1, rfl, xor64 _ _, by omega⟩
      · exact read_loop hb hs k n (i + 1) _ (sh + 7) (by omega) (by omega) (by omega)

theorem read_spec {fl : Nat} {b : List Int} (hfl : b.length + 1 ≤ fl) (hb : bytesL b) (hs : b.length ≤ 50000) : ∃ (v : Int) (m : Nat), wire_read fl b = some (v, (m : Int)) ∧ w64 v ∧ m ≤ b.length := by
  unfold wire_read
  rw [bnd_eq, lenK]
  have h := read_loop (fl := fl) hb hs b.length fl 0 0 0 (by omega) (by omega) (by omega)
  rw [show ((0 : Nat) : Int) = 0 from rfl] at h
  rcases h with h | ⟨v, m, h, h1, h2⟩
  · rw [h, ob_some]
    exact ⟨0, 0, rfl, by unfold w64; omega, by omega⟩
  · rw [h, ob_some]
    exact ⟨v, m, rfl, h1, h2⟩

/-! ### All numbers -/
def nfin (z : (List Int × Int × List Int × Unit) ⊕ (List Int × List Int × Unit)) : Option (List Int) :=
  osum z (fun s3 =>
    bite (F.eq s3.2.1 0) (
      some s3.2.2.1) (
      bgd (F.eq s3.2.1 2) (
        some []))) (fun r4 =>
    some r4.2.1)

theorem cutEnd {α : Type} {l : List α} {n : Nat} (h : n ≤ l.length) : F.cutOk l (n : Int) (F.len l) = true ∧ F.cut l (n : Int) (F.len l) = l.drop n := by
  constructor
  · unfold F.cutOk; rw [lenK, decide_eq_true (by omega), decide_eq_true (by omega), decide_eq_true (by omega)]; rfl
  · unfold F.cut; rw [lenK, Int.toNat_natCast, Int.toNat_natCast, List.take_length]

/-- The numbers of bytes, by one that reads. -/
def numsW (rd : List Int → Int × Nat) : Nat → List Int → Option (List Int)
  | 0, _ => some []
  | k + 1, b => if b.length = 0 then some [] else if (rd b).2 = 0 then none else (numsW rd k (b.drop (rd b).2)).map ((rd b).1 :: ·)

theorem nums_loop {fl : Nat} {b : List Int} (hfl : b.length + 1 ≤ fl) (hb : bytesL b) (hs : b.length ≤ 50000) {rd : List Int → Int × Nat} (hrd : ∀ i, i ≤ b.length → wire_read fl (b.drop i) = some ((rd (b.drop i)).1, ((rd (b.drop i)).2 : Int)) ∧ (rd (b.drop i)).2 ≤ (b.drop i).length) :
    ∀ (k n i : Nat) (acc : List Int), i ≤ b.length → b.length - i ≤ k → k + 1 ≤ n → acc.length ≤ i →
    obind (image_numbers_i29_l1 fl n b i b acc) nfin = some (match numsW rd k (b.drop i) with | some l => acc ++ l | none => [])
  | k, 0, i, acc, hi, hk, hn, ha => by omega
  | k, n + 1, i, acc, hi, hk, hn, ha => by
    rw [image_numbers_i29_l1]
    simp only [bnd_eq]
    rw [lenK]
    by_cases h : i < b.length
    · obtain ⟨k, rfl⟩ : ∃ j, k = j + 1 := ⟨k - 1, by omega⟩
      obtain ⟨r1, r2⟩ := hrd i hi
      have hcut := cutEnd (l := b) hi
      rw [lenK] at hcut
      have hd : (b.drop i).length ≠ 0 := by rw [List.length_drop]; omega
      rw [lt_t (by omega), bite_t, hcut.1, bgd_t, hcut.2, r1, ob_some]
      unfold numsW
      rw [if_neg hd]
      dsimp only
      by_cases h0 : (rd (b.drop i)).2 = 0
      · rw [if_pos h0, h0, show F.gt ((0 : Nat) : Int) 0 = false from rfl, not_f, bite_t]
        rfl
      · have hr := r2
        rw [List.length_drop] at hr
        rw [if_neg h0, gt_t (by omega), not_t, bite_f, appOk_t (by simp; omega) (by decide), bgd_t, appK, eq_f (by omega), bite_f, addI (by omega), show ((i : Int) + ((rd (b.drop i)).2 : Int)) = ((i + (rd (b.drop i)).2 : Nat) : Int) by omega,
          nums_loop hfl hb hs hrd k n (i + (rd (b.drop i)).2) (acc ++ [(rd (b.drop i)).1]) (by omega) (by omega) (by omega) (by simp; omega), List.drop_drop]
        cases numsW rd k (b.drop (i + (rd (b.drop i)).2)) with
        | none => rfl
        | some l => simp
    · rw [lt_f (by omega), bite_f, List.drop_eq_nil_of_le (by omega)]
      have : numsW rd k [] = some [] := by cases k <;> rfl
      rw [this]
      simp [obind, nfin, osum]

theorem clone_spec {b : List Int} (hs : b.length ≤ 50000) : slices_Clone b = some b := by
  unfold slices_Clone
  rw [appOk_t (by simp; omega) (by decide), bgd_t, bnd_eq, appK, List.nil_append]
  unfold nilE
  split
  · rename_i h
    rw [lenK] at h
    have : b = [] := List.length_eq_zero_iff.1 (by omega)
    subst this
    unfold either
    rw [if_pos rfl]
  · rfl

/-- What wire.read comes to. -/
noncomputable def rdI (fl : Nat) (b : List Int) : Int × Nat := match wire_read fl b with
  | some q => (q.1, q.2.toNat)
  | none => (0, 0)

theorem rdI_spec {fl : Nat} {b : List Int} (hfl : b.length + 1 ≤ fl) (hb : bytesL b) (hs : b.length ≤ 50000) : wire_read fl b = some ((rdI fl b).1, ((rdI fl b).2 : Int)) ∧ (rdI fl b).2 ≤ b.length ∧ w64 (rdI fl b).1 := by
  obtain ⟨v, m, h, h1, h2⟩ := read_spec hfl hb hs
  have e : rdI fl b = (v, m) := by unfold rdI; rw [h]; rfl
  rw [e]
  exact ⟨h, h2, h1⟩

theorem bytesL_drop {b : List Int} (h : bytesL b) (i : Nat) : bytesL (b.drop i) := fun x hx => h x (List.mem_of_mem_drop hx)

/-- The numbers of bytes. -/
noncomputable def nums (fl : Nat) (b : List Int) : List Int := (numsW (rdI fl) b.length b).getD []

theorem numbers_spec {fl : Nat} {b : List Int} (hfl : b.length + 1 ≤ fl) (hb : bytesL b) (hs : b.length ≤ 50000) : image_numbers fl b = some (nums fl b) := by
  have e : image_numbers fl b = obind (wire_All b) fun q => obind (image_numbers_i29_l1 fl fl q 0 q []) nfin := rfl
  rw [e]
  unfold wire_All
  rw [clone_spec hs, ob_some, ob_some]
  have := nums_loop (fl := fl) hfl hb hs (rd := rdI fl) (fun i hi => by
    obtain ⟨h1, h2, _⟩ := rdI_spec (fl := fl) (b := b.drop i) (by rw [List.length_drop]; omega) (bytesL_drop hb i) (by rw [List.length_drop]; omega)
    exact ⟨h1, h2⟩) b.length fl 0 [] (by omega) (by omega) (by omega) (by simp)
  rw [show ((0 : Nat) : Int) = 0 from rfl, List.drop_zero] at this
  rw [this]
  unfold nums
  cases numsW (rdI fl) b.length b <;> rfl

theorem numsW_in {fl : Nat} : ∀ (k : Nat) (b : List Int) (l : List Int), b.length + 1 ≤ fl → bytesL b → b.length ≤ 50000 → numsW (rdI fl) k b = some l → (∀ x ∈ l, w64 x) ∧ l.length ≤ b.length
  | 0, b, l, _, _, _, h => by
    unfold numsW at h
    injection h with h
    subst h
    exact ⟨fun x hx => by simp at hx, by simp⟩
  | k + 1, b, l, hfl, hb, hs, h => by
    unfold numsW at h
    split at h
    · injection h with h
      subst h
      exact ⟨fun x hx => by simp at hx, by simp⟩
    · split at h
      · cases h
      · rename_i h0 h1
        obtain ⟨_, r2, r3⟩ := rdI_spec hfl hb hs
        cases hn : numsW (rdI fl) k (b.drop (rdI fl b).2) with
        | none => rw [hn] at h; cases h
        | some m =>
          rw [hn] at h
          injection h with h
          subst h
          obtain ⟨i1, i2⟩ := numsW_in k (b.drop (rdI fl b).2) m (by rw [List.length_drop]; omega) (bytesL_drop hb _) (by rw [List.length_drop]; omega) hn
          rw [List.length_drop] at i2
          refine ⟨fun x hx => ?_, by rw [List.length_cons]; omega⟩
          rcases List.mem_cons.1 hx with rfl | hx
          · exact r3
          · exact i1 x hx

theorem nums_in {fl : Nat} {b : List Int} (hfl : b.length + 1 ≤ fl) (hb : bytesL b) (hs : b.length ≤ 50000) : (∀ x ∈ nums fl b, w64 x) ∧ (nums fl b).length ≤ b.length := by
  unfold nums
  cases hn : numsW (rdI fl) b.length b with
  | none => exact ⟨fun x hx => by simp at hx, by simp⟩
  | some l => exact numsW_in _ _ _ hfl hb hs hn

/-! ### Pixels out of numbers -/
def u8 (x : Int) : Int := x % 256

theorem conv_u8 (x : Int) : F.conv .u8 x = u8 x := by
  unfold F.conv u8
  simp [IntKind.wrap, IntKind.bits, IntKind.signed]

def many (a : Int) (n : Nat) : Nat := min a.toNat (4097 - min n 4097)

/-- Pixels behind pixels, as numbers tell them. -/
def tk : List Int → List Px → List Px
  | a :: r :: g :: b :: al :: rest, px => tk rest (px ++ List.replicate (many a px.length) (u8 r, (u8 g, (u8 b, u8 al))))
  | _, px => px

theorem tk_in : ∀ (n : Nat) (l : List Int) (px : List Px), l.length ≤ n → px.length ≤ 4097 → (∀ c ∈ px, pxB c) → (tk l px).length ≤ 4097 ∧ ∀ c ∈ tk l px, pxB c
  | n, a :: r :: g :: b :: al :: rest, px, hn, h, hp => by
    obtain ⟨n, rfl⟩ : ∃ m, n = m + 1 := ⟨n - 1, by simp at hn; omega⟩
    unfold tk
    refine tk_in n rest _ (by simp at hn; omega) ?_ fun c hc => ?_
    · rw [List.length_append, List.length_replicate]; unfold many; omega
    · rcases List.mem_append.1 hc with hc | hc
      · exact hp c hc
      · rw [List.eq_of_mem_replicate hc]
        unfold pxB byteP u8
        simp only
        omega
  | _, [], px, _, h, hp => ⟨h, hp⟩
  | _, [_], px, _, h, hp => ⟨h, hp⟩
  | _, [_, _], px, _, h, hp => ⟨h, hp⟩
  | _, [_, _, _], px, _, h, hp => ⟨h, hp⟩
  | _, [_, _, _, _], px, _, h, hp => ⟨h, hp⟩

theorem tk_inner (fl : Nat) (b : List Int) (l : List Int) (w h : Int) (c : Px) {m : Nat} (hm : m ≤ 4097) : ∀ (k n i : Nat) (px : List Px), i + k = m → k + 1 ≤ n → px.length + k ≤ 50000 →
    image_Take_l2 fl n b l m i w h px c.1 c.2.1 c.2.2.1 c.2.2.2 = some (b, (l, (w, (h, (px ++ List.replicate k c, ())))))
  | 0, n, i, px, hi, hn, hp => by
    obtain ⟨n, rfl⟩ : ∃ m, n = m + 1 := ⟨n - 1, by omega⟩
    rw [image_Take_l2, bnd_eq, lt_f (by omega), bite_f]
    simp
  | k + 1, n, i, px, hi, hn, hp => by
    obtain ⟨n, rfl⟩ : ∃ m, n = m + 1 := ⟨n - 1, by omega⟩
    rw [image_Take_l2, bnd_eq, lt_t (by omega), bite_t, appOk_t (by simp; omega) (by decide), bgd_t]
    simp only [bnd_eq]
    rw [appK, addI (by omega)]
    have := tk_inner fl b l w h c hm k n (i + 1) (px ++ [c]) (by omega) (by omega) (by simp; omega)
    rw [Int.natCast_add] at this
    refine this.trans ?_
    rw [List.append_assoc, List.replicate_succ]
    rfl

theorem cut5 {l : List Int} (h : 5 ≤ l.length) : F.cutOk l 5 (F.len l) = true ∧ F.cut l 5 (F.len l) = l.drop 5 := cutEnd (n := 5) h

theorem tk_loop {fl : Nat} (hfl : 4100 ≤ fl) (b : List Int) (w h : Int) : ∀ (n : Nat) (l : List Int) (px : List Px), l.length < 5 * n → (∀ x ∈ l, w64 x) → l.length ≤ 50000 → px.length ≤ 4097 →
    image_Take_l3 fl n b l w h px = some (b, (w, (h, (tk l px, ()))))
  | 0, l, px, hn, hw, hl, hp => by omega
  | n + 1, l, px, hn, hw, hl, hp => by
    rw [image_Take_l3]
    simp only [bnd_eq]
    rw [lenK]
    match l, hn, hw, hl with
    | a :: r :: g :: bb :: al :: rest, hn, hw, hl =>
      have ha := hw a (by simp)
      unfold w64 at ha
      have hlen : (a :: r :: g :: bb :: al :: rest).length = rest.length + 5 := rfl
      rw [hlen] at hn hl
      rw [hlen, ge_t (by omega), bite_t, show F.get (a :: r :: g :: bb :: al :: rest) 1 = some r from rfl, ob_some, show F.get (a :: r :: g :: bb :: al :: rest) 2 = some g from rfl, ob_some, show F.get (a :: r :: g :: bb :: al :: rest) 3 = some bb from rfl, ob_some,
        show F.get (a :: r :: g :: bb :: al :: rest) 4 = some al from rfl, ob_some, show F.get (a :: r :: g :: bb :: al :: rest) 0 = some a from rfl, ob_some, f_max, lenK, f_min, f_min, subI (by omega)]
      have hm : min (max a 0) (4097 - min (px.length : Int) 4097) = ((many a px.length : Nat) : Int) := by unfold many; omega
      have hle : many a px.length ≤ 4097 - px.length := by unfold many; omega
      rw [hm]
      have hin := tk_inner fl b (a :: r :: g :: bb :: al :: rest) w h (F.conv .u8 r, (F.conv .u8 g, (F.conv .u8 bb, F.conv .u8 al))) (m := many a px.length) (by omega) (many a px.length) fl 0 px (by omega) (by omega) (by omega)
      rw [show ((0 : Nat) : Int) = 0 from rfl] at hin
      rw [hin, ob_some]
      dsimp only
      obtain ⟨c1, c2⟩ := cut5 (l := a :: r :: g :: bb :: al :: rest) (by rw [hlen]; omega)
      rw [lenK] at c1 c2
      rw [lenK, c1, bgd_t, c2, conv_u8, conv_u8, conv_u8, conv_u8]
      exact tk_loop hfl b w h n rest _ (by omega) (fun x hx => hw x (by simp [hx])) (by omega) (by rw [List.length_append, List.length_replicate]; omega)
    | [], hn, hw, hl => rw [ge_f (by decide), bite_f]; rfl
    | [_], hn, hw, hl => rw [ge_f (by simp), bite_f]; rfl
    | [_, _], hn, hw, hl => rw [ge_f (by simp), bite_f]; rfl
    | [_, _, _], hn, hw, hl => rw [ge_f (by simp), bite_f]; rfl
    | [_, _, _, _], hn, hw, hl => rw [ge_f (by simp), bite_f]; rfl

/-- An image that may be. -/
def imOk (w h : Int) (l : List Px) : Prop := (1 ≤ w ∧ w ≤ 64) ∧ (1 ≤ h ∧ h ≤ 64) ∧ (l.length : Int) = w * h

/-- What image.Take comes to. -/
theorem take_spec {fl : Nat} (hfl : 4100 ≤ fl) {b : List Int} (hfl2 : b.length + 1 ≤ fl) (hb : bytesL b) (hs : b.length ≤ 20000) :
    (image_Take fl b = some ((0, (0, [])), 10) ∧ ∀ w h rest, nums fl b = w :: h :: rest → ¬ (imOk w h (tk rest []) ∧ F.seq (F.str (imB w h (tk rest []))) (F.str b) = true)) ∨
    ∃ w h rest, nums fl b = w :: h :: rest ∧ image_Take fl b = some ((w, (h, tk rest [])), 0) ∧ imOk w h (tk rest []) ∧ F.seq (F.str (imB w h (tk rest []))) (F.str b) = true ∧ (∀ c ∈ tk rest [], pxB c) ∧ (tk rest []).length ≤ 4097 := by
  unfold image_Take
  rw [numbers_spec hfl2 hb (by omega), ob_some]
  obtain ⟨n1, n2⟩ := nums_in hfl2 hb (by omega)
  simp only [bnd_eq]
  rw [lenK]
  match hl : nums fl b, n1, n2 with
  | [], n1, n2 => left; rw [lt_t (by decide), bite_t]; exact ⟨rfl, fun w h rest e => by cases e⟩
  | [_], n1, n2 => left; rw [lt_t (by simp), bite_t]; exact ⟨rfl, fun w h rest e => by cases e⟩
  | w :: h :: rest, n1, n2 =>
    have hw := n1 w (by simp)
    have hh := n1 h (by simp)
    have hlen : (w :: h :: rest).length = rest.length + 2 := rfl
    rw [hlen] at n2
    obtain ⟨c1, c2⟩ := cutEnd (l := w :: h :: rest) (n := 2) (by rw [hlen]; omega)
    rw [lenK, show ((2 : Nat) : Int) = 2 from rfl, hlen] at c1 c2
    rw [hlen, lt_f (by omega), bite_f, show F.get (w :: h :: rest) 0 = some w from rfl, ob_some, show F.get (w :: h :: rest) 1 = some h from rfl, ob_some, c1, bgd_t, c2,
      tk_loop hfl b w h fl ((w :: h :: rest).drop 2) [] (by simp; omega) (fun x hx => n1 x (List.mem_of_mem_drop hx)) (by simp; omega) (by simp), ob_some]
    dsimp only
    rw [show (w :: h :: rest).drop 2 = rest from rfl]
    obtain ⟨t1, t2⟩ := tk_in rest.length rest [] (Nat.le_refl _) (by simp) (fun c hc => by simp at hc)
    by_cases hok : imOk w h (tk rest [])
    · rw [iput_ok (by omega) hok.1 hok.2.1 hok.2.2 (by omega) (by omega) t2, ob_some]
      dsimp only
      unfold bytes_Equal
      simp only [bnd_eq]
      rw [ne_f rfl, bite_f, ob_some]
      cases hq : F.seq (F.str (imB w h (tk rest []))) (F.str b) with
      | false =>
        left
        rw [not_f, bite_t]
        refine ⟨rfl, fun w' h' rest' e => ?_⟩
        injection e with e1 e; injection e with e2 e3
        subst e1; subst e2; subst e3
        exact fun k => by rw [hq] at k; cases k.2
      | true =>
        right
        rw [not_t, bite_f]
        exact ⟨w, h, rest, rfl, rfl, hok, hq, t2, t1⟩
    · left
      rw [iput_no (by omega) hw hh hok, ob_some]
      dsimp only
      rw [ne_t (by decide), bite_t]
      refine ⟨rfl, fun w' h' rest' e => ?_⟩
      injection e with e1 e; injection e with e2 e3
      subst e1; subst e2; subst e3
      exact fun k => hok k.1
end Go.Proofs.Ytepifmbnajpgeaa.G
