/- Rows: lengths, elements, what is put behind. -/
import Derived.Test.YtepifmbnajpgeaaLawBase
set_option linter.unusedVariables false
namespace Go.Proofs.Ytepifmbnajpgeaa.G
open Go Go.RowKit Go.Proofs.Ytepifmbnajpgeaa.M

theorem lgetK {α : Type} {l : List α} {k : Nat} (h : k < l.length) : F.get l (k : Int) = some l[k] := by
  unfold F.get
  rw [if_pos (Int.natCast_nonneg k), Int.toNat_natCast, List.getElem?_eq_getElem h]

theorem lgetI {α : Type} {l : List α} {i : Int} {k : Nat} (hi : i = (k : Int)) (h : k < l.length) : F.get l i = some l[k] := by
  rw [hi, lgetK h]

theorem lenK {α : Type} (l : List α) : F.len l = (l.length : Int) := rfl

theorem appOk_t {α β : Type} {n : Nat} {l : List α} {m : List β} (h : l.length + m.length ≤ 100000) (hn : n ≤ 100000) : F.appOk n l m = true := by
  unfold F.appOk
  have h2 : (l.length + m.length) * n ≤ 100000 * 100000 := Nat.mul_le_mul h hn
  rw [decide_eq_true (by simp only [maxLen]; omega), decide_eq_true (by omega)]
  rfl

theorem appK {α : Type} (l m : List α) : F.app l m = l ++ m := rfl

theorem fillOk_t {b : Nat} {n : Int} (h0 : 0 ≤ n) (h : n ≤ 100000) (hb : b ≤ 100000) : F.fillOk b n = true := by
  unfold F.fillOk
  have h2 : (b : Int) * n ≤ 100000 * 100000 := Int.mul_le_mul (by omega) h h0 (by decide)
  rw [decide_eq_true h0, decide_eq_true (by simp only [maxLen]; omega), decide_eq_true (by omega)]
  rfl

theorem over_same {α : Type} {l m : List α} (h : l.length = m.length) : F.over l m = m := by
  unfold F.over
  rw [h, List.take_length, ← h, List.drop_length, List.append_nil]

theorem ldrop {α : Type} {l : List α} {k : Nat} (h : k < l.length) : l.drop k = l[k] :: l.drop (k + 1) := List.drop_eq_getElem_cons h
end Go.Proofs.Ytepifmbnajpgeaa.G
