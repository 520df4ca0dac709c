/- Strings of bytes that are the same. -/
import Derived.Test.YtepifmbnajpgeaaLawList
set_option linter.unusedVariables false
namespace Go.Proofs.Ytepifmbnajpgeaa.G
open Go Go.RowKit Go.Proofs.Ytepifmbnajpgeaa.M

theorem toList_loop (b : ByteArray) : ∀ (k i : Nat) (r : List UInt8), b.size - i = k → ByteArray.toList.loop b i r = r.reverse ++ b.data.toList.drop i
  | 0, i, r, h => by
    rw [ByteArray.toList.loop, if_neg (by omega), List.drop_eq_nil_of_le (by rw [Array.length_toList]; show b.size ≤ i; omega), List.append_nil]
  | k + 1, i, r, h => by
    have hi : i < b.size := by omega
    have hi' : i < b.data.toList.length := by rw [Array.length_toList]; exact hi
    rw [ByteArray.toList.loop, if_pos hi, toList_loop b k (i + 1) _ (by omega), List.drop_eq_getElem_cons hi', List.reverse_cons, List.append_assoc]
    congr 1
    show [b.get! i] ++ _ = _
    rw [List.singleton_append]
    congr 1
    show b.data[i]! = _
    rw [getElem!_pos b.data i hi]
    rfl

theorem toList_data (b : ByteArray) : b.toList = b.data.toList := by
  unfold ByteArray.toList
  rw [toList_loop b _ 0 [] rfl]
  simp

theorem str_data (l : List Int) (r : ByteArray) : (l.foldl (fun r n => r.push (UInt8.ofNat n.toNat)) r).data.toList = r.data.toList ++ l.map fun n => UInt8.ofNat n.toNat := by
  induction l generalizing r with
  | nil => simp
  | cons x l ih =>
    rw [List.foldl_cons, ih]
    simp [ByteArray.push]

theorem str_list (l : List Int) : (F.str l).toList = l.map fun n => UInt8.ofNat n.toNat := by
  rw [toList_data]
  unfold F.str
  rw [str_data]
  simp

theorem str_inj : ∀ {a b : List Int}, (∀ x ∈ a, 0 ≤ x ∧ x ≤ 255) → (∀ x ∈ b, 0 ≤ x ∧ x ≤ 255) → (a.map fun n => UInt8.ofNat n.toNat) = (b.map fun n => UInt8.ofNat n.toNat) → a = b
  | [], [], _, _, _ => rfl
  | [], _ :: _, _, _, h => by simp at h
  | _ :: _, [], _, _, h => by simp at h
  | x :: a, y :: b, ha, hb, h => by
    simp only [List.map_cons, List.cons.injEq] at h
    have h1 := ha x (by simp)
    have h2 := hb y (by simp)
    have e : x = y := by
      have := congrArg UInt8.toNat h.1
      simp at this
      omega
    rw [e, str_inj (fun z hz => ha z (by simp [hz])) (fun z hz => hb z (by simp [hz])) h.2]

theorem seq_refl (a : ByteArray) : F.seq a a = true := by unfold F.seq; exact beq_self_eq_true _

theorem seq_str {a b : List Int} (ha : ∀ x ∈ a, 0 ≤ x ∧ x ≤ 255) (hb : ∀ x ∈ b, 0 ≤ x ∧ x ≤ 255) (h : F.seq (F.str a) (F.str b) = true) : a = b := by
  unfold F.seq at h
  rw [str_list, str_list] at h
  exact str_inj ha hb (by simpa using h)
end Go.Proofs.Ytepifmbnajpgeaa.G
