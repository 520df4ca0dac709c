/- Rows of numbers that are the same. -/
import Derived.Test.YtepifmbnajpgeaaLawRuns
set_option linter.unusedVariables false
namespace Go.Proofs.Ytepifmbnajpgeaa.G
open Go Go.RowKit Go.Proofs.Ytepifmbnajpgeaa.M

/-- Of rows that are the same. -/
theorem same03 (fl : Nat) (l : List Int) : ∀ (k n i : Nat), i + k = l.length → k + 1 ≤ n → l.length ≤ 100000 → glazierref03_Same_l1 fl n l l i = some (.inr ())
  | 0, n, i, h, hn, hl => by
    obtain ⟨n, rfl⟩ : ∃ m, n = m + 1 := ⟨n - 1, by omega⟩
    rw [glazierref03_Same_l1, bnd_eq, bnd_eq, lenK, lt_f (by omega), bite_f]
  | k + 1, n, i, h, hn, hl => by
    obtain ⟨n, rfl⟩ : ∃ m, n = m + 1 := ⟨n - 1, by omega⟩
    rw [glazierref03_Same_l1]
    simp only [bnd_eq]
    rw [lenK, lt_t (by omega), bite_t, lgetK (by omega), ob_some, ob_some, ne_f rfl, bite_f, addI (by omega)]
    have := same03 fl l k n (i + 1) (by omega) (by omega) hl
    rw [Int.natCast_add] at this
    exact this

theorem same03_spec {fl : Nat} {l : List Int} (h : l.length + 1 ≤ fl) (hl : l.length ≤ 100000) : glazierref03_Same fl l l = some true := by
  unfold glazierref03_Same
  simp only [bnd_eq]
  rw [ne_f rfl, bite_f]
  have := same03 fl l l.length fl 0 (by omega) (by omega) hl
  rw [show ((0 : Nat) : Int) = 0 from rfl] at this
  rw [this, ob_some]
  rfl

end Go.Proofs.Ytepifmbnajpgeaa.G
