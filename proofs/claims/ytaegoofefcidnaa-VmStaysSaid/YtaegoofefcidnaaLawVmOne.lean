/- Programs of one instruction. -/
import Derived.Test.YtaegoofefcidnaaLawVmFit
set_option linter.unusedVariables false
namespace Go.Proofs.Ytaegoofefcidnaa.G
open Go Go.RowKit Go.Proofs.Ytaegoofefcidnaa.M

theorem inR_i32 {x : Int} : inR .i32 x ↔ -2147483648 ≤ x ∧ x ≤ 2147483647 := by
  unfold inR
  simp [Lit.wf, IntKind.min, IntKind.max, IntKind.signed, IntKind.bits]

theorem prog_one {x : Ins} (hk : iok x 0 1) : prog [x] := ⟨by simp, by simp, fun j h => by
  have : j = 0 := by simp at h; omega
  subst this
  exact hk⟩

theorem one_run {fl : Nat} (hfl : 200 ≤ fl) {x : Ins} (hb : insB x) (hk : iok x 0 1) {t : Tx} (ha : asks [x] → tok t) (ht : pxs t) {r : R8} : vm_Run fl [x] t r = some ((stp t x 0 (W8 r)).2, (1, 0)) := by
  obtain ⟨n, rfl⟩ : ∃ n, fl = n + 2 := ⟨fl - 2, by omega⟩
  have hp : progs [x] := fun y hy => by rw [List.mem_singleton.1 hy]; exact hb
  have hl := prog_one hk
  refine vm_run hfl hp hl t ha r ?_
  rw [show (0 : Int) = ((0 : Nat) : Int) from rfl, vm_step (n := n + 1) hfl (l := [x]) (i := 0) (by simp) (by simp) hb hk ht (W8_32 r) (by decide)]
  obtain ⟨⟨h1, h2⟩, -⟩ := stp_in ht hb hk (by decide) (W8_32 r)
  rw [vm_end (by show ((1 : Nat) : Int) ≤ (stp t x 0 (W8 r)).1; omega)]
  rfl
end Go.Proofs.Ytaegoofefcidnaa.G
