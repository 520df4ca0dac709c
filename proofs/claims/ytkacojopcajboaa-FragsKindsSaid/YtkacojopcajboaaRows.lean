/-
  No cell of these rows narrows 'for every input' (looked for: loops, veiled, ifaces, maps, wideKeys, modest, calm, conditions, laid).
  DERIVED. THE GIVEN ROWS OF THIS SEAT. 4 by the template 'for every input the law returns true; each argument reads behind the call as it read before'; 0 by the template 'total and deterministic' (their statements: YtkacojopcajboaaTotals.lean).
  GIVEN WITH THE SEED: the statements are not yours to turn. If you find one false, say at which input.
  Laid BY PROGRAM, IN A SANDBOX (cutbox-rows.mjs): the forced cells as the released guide's own fill.sh prints them over the translation bd09a93f255f5b8f… (all of the seat's roots in one cut). By AI agents, Wed Nov 11 2026. No macro, syntax, notation, axiom, sorry.
-/
import Derived.Test.YtkacojopcajboaaChecked
import GoSem.Claim
import GoSem.ClaimJoined
import GoSem.ClaimMapViews
import Derived.JoinedTies
import Derived.KernelRfl
namespace Go.Proofs.Ytkacojopcajboaa
/- THE CELL 'sum', in the pinned program and in every row, IS THE sha256 OF THE DUMP (.gsa) THAT YtkacojopcajboaaProg.lean LOADS. Nothing in Lean hashes anything: it is a label: what it is worth is what the hold of that sum in a sandbox is worth. -/
noncomputable def Try.pinned : Pinned := { name := "ytkacojopcajboaa", sum := "bd09a93f255f5b8f32d2ea766c7eeab3518592bffb56b5bcd0488b5dcce94046", checked := Try.checked }
namespace Rows
def none {H : Type} : Left H := { results := [], args := [] }

/-- 'glazierlaw22.FragsParts': WHATEVER THE INPUT: true; the input reads as it did. -/
def fragsPartsSpec : ChangeSpec := { name := "fragsParts", fn := fun _ => fun
  | [d1, d2] => { results := [.lit (.bool true)], args := [d1, d2] }
  | _ => none }
def fragsPartsRow : OpenClaim := { program := "ytkacojopcajboaa", sum := "bd09a93f255f5b8f32d2ea766c7eeab3518592bffb56b5bcd0488b5dcce94046", func := "glazier/glazierlaw22.FragsParts", spec := "fragsParts", unfollowed := true, recurses := true, named := ["math/bits.divideError", "math/bits.overflowError"], apart := false }
def FragsPartsSaid : Prop := fragsPartsRow.holds Try.pinned (OpenSpec.ofChange fragsPartsSpec)

/-- ITS FALSE NEIGHBOUR: 'it returns false'. Refute it at one input. -/
def fragsPartsWrong : ChangeSpec := { name := "fragsParts", fn := fun _ => fun
  | [d1, d2] => { results := [.lit (.bool false)], args := [d1, d2] }
  | _ => none }
def FragsPartsWrongFalsely : Prop := fragsPartsRow.holds Try.pinned (OpenSpec.ofChange fragsPartsWrong)

/-- 'glazierlaw22.FragsLeft': WHATEVER THE INPUT: true; the input reads as it did. -/
def fragsLeftSpec : ChangeSpec := { name := "fragsLeft", fn := fun _ => fun
  | [d1, d2] => { results := [.lit (.bool true)], args := [d1, d2] }
  | _ => none }
def fragsLeftRow : OpenClaim := { program := "ytkacojopcajboaa", sum := "bd09a93f255f5b8f32d2ea766c7eeab3518592bffb56b5bcd0488b5dcce94046", func := "glazier/glazierlaw22.FragsLeft", spec := "fragsLeft", unfollowed := true, recurses := true, named := ["math/bits.divideError", "math/bits.overflowError"], apart := false }
def FragsLeftSaid : Prop := fragsLeftRow.holds Try.pinned (OpenSpec.ofChange fragsLeftSpec)

/-- ITS FALSE NEIGHBOUR: 'it returns false'. Refute it at one input. -/
def fragsLeftWrong : ChangeSpec := { name := "fragsLeft", fn := fun _ => fun
  | [d1, d2] => { results := [.lit (.bool false)], args := [d1, d2] }
  | _ => none }
def FragsLeftWrongFalsely : Prop := fragsLeftRow.holds Try.pinned (OpenSpec.ofChange fragsLeftWrong)

/-- 'glazierlaw22.FragsMasks': WHATEVER THE INPUT: true; the input reads as it did. -/
def fragsMasksSpec : ChangeSpec := { name := "fragsMasks", fn := fun _ => fun
  | [d1, d2, d3] => { results := [.lit (.bool true)], args := [d1, d2, d3] }
  | _ => none }
def fragsMasksRow : OpenClaim := { program := "ytkacojopcajboaa", sum := "bd09a93f255f5b8f32d2ea766c7eeab3518592bffb56b5bcd0488b5dcce94046", func := "glazier/glazierlaw22.FragsMasks", spec := "fragsMasks", unfollowed := true, recurses := true, named := ["math/bits.divideError", "math/bits.overflowError"], apart := false }
def FragsMasksSaid : Prop := fragsMasksRow.holds Try.pinned (OpenSpec.ofChange fragsMasksSpec)

/-- ITS FALSE NEIGHBOUR: 'it returns false'. Refute it at one input. -/
def fragsMasksWrong : ChangeSpec := { name := "fragsMasks", fn := fun _ => fun
  | [d1, d2, d3] => { results := [.lit (.bool false)], args := [d1, d2, d3] }
  | _ => none }
def FragsMasksWrongFalsely : Prop := fragsMasksRow.holds Try.pinned (OpenSpec.ofChange fragsMasksWrong)

/-- 'glazierlaw22.FragsKinds': WHATEVER THE INPUT: true; the input reads as it did. -/
def fragsKindsSpec : ChangeSpec := { name := "fragsKinds", fn := fun _ => fun
  | [d] => { results := [.lit (.bool true)], args := [d] }
  | _ => none }
def fragsKindsRow : OpenClaim := { program := "ytkacojopcajboaa", sum := "bd09a93f255f5b8f32d2ea766c7eeab3518592bffb56b5bcd0488b5dcce94046", func := "glazier/glazierlaw22.FragsKinds", spec := "fragsKinds", unfollowed := true, recurses := true, named := ["math/bits.divideError", "math/bits.overflowError"], apart := false }
def FragsKindsSaid : Prop := fragsKindsRow.holds Try.pinned (OpenSpec.ofChange fragsKindsSpec)

/-- ITS FALSE NEIGHBOUR: 'it returns false'. Refute it at one input. -/
def fragsKindsWrong : ChangeSpec := { name := "fragsKinds", fn := fun _ => fun
  | [d] => { results := [.lit (.bool false)], args := [d] }
  | _ => none }
def FragsKindsWrongFalsely : Prop := fragsKindsRow.holds Try.pinned (OpenSpec.ofChange fragsKindsWrong)

/- THE SECOND FORM. 'bulk': how many values and letters a reading holds, each counted each time it is reached (what is shared counts as often as it is met; a slice's spare places count too). A statement '..UptoSaid' is the law's where the arguments, and the package variables that the reading takes, are together of bulk at most 1048576: NARROWER than '..Said'. Prove '..Said' where nothing that the law and all that it calls make is longer than what came in: it says more and counts as full. Else prove '..UptoSaid'. A law counts once. -/
mutual
def uptoBulk {H : Type} : DataW H → Nat
  | .lit (.string bytes) => bytes.length + 1
  | .lit _ => 1
  | .nil => 1
  | .ptr d => uptoBulk d + 1
  | .slice elems spare => uptoBulkAll elems + uptoBulkAll spare + 1
  | .agg parts => uptoBulkAll parts + 1
  | .iface _ d => uptoBulk d + 1
  | .map entries => uptoBulkEntries entries + 1
  | .held _ => 1
def uptoBulkAll {H : Type} : List (DataW H) → Nat
  | [] => 0
  | d :: r => uptoBulk d + uptoBulkAll r
def uptoBulkEntries {H : Type} : List (Lit × DataW H) → Nat
  | [] => 0
  | x :: r => uptoBulkEntry x + uptoBulkEntries r
def uptoBulkEntry {H : Type} : Lit × DataW H → Nat
  | (.string bytes, d) => bytes.length + uptoBulk d + 1
  | (_, d) => uptoBulk d + 1
 end
def uptoSmall : (H : Type) → List (DataW H) → Bool := fun _ ds => decide (uptoBulkAll ds ≤ 1048576)
def OpenSpec.upto (s : _root_.Go.ChangeSpec) : _root_.Go.OpenSpec := { _root_.Go.OpenSpec.ofChange s with cond := some uptoSmall }

/-- 'glazierlaw22.FragsParts', WHERE WHAT IT READS IS OF BULK AT MOST 1048576: true; the input reads as it did. -/
def fragsPartsUptoRow : OpenClaim := { program := "ytkacojopcajboaa", sum := "bd09a93f255f5b8f32d2ea766c7eeab3518592bffb56b5bcd0488b5dcce94046", func := "glazier/glazierlaw22.FragsParts", spec := "fragsParts", unfollowed := true, recurses := true, named := ["math/bits.divideError", "math/bits.overflowError"], apart := false, narrowed := true }
def FragsPartsUptoSaid : Prop := fragsPartsUptoRow.holds Try.pinned (OpenSpec.upto fragsPartsSpec)

/-- 'glazierlaw22.FragsLeft', WHERE WHAT IT READS IS OF BULK AT MOST 1048576: true; the input reads as it did. -/
def fragsLeftUptoRow : OpenClaim := { program := "ytkacojopcajboaa", sum := "bd09a93f255f5b8f32d2ea766c7eeab3518592bffb56b5bcd0488b5dcce94046", func := "glazier/glazierlaw22.FragsLeft", spec := "fragsLeft", unfollowed := true, recurses := true, named := ["math/bits.divideError", "math/bits.overflowError"], apart := false, narrowed := true }
def FragsLeftUptoSaid : Prop := fragsLeftUptoRow.holds Try.pinned (OpenSpec.upto fragsLeftSpec)

/-- 'glazierlaw22.FragsMasks', WHERE WHAT IT READS IS OF BULK AT MOST 1048576: true; the input reads as it did. -/
def fragsMasksUptoRow : OpenClaim := { program := "ytkacojopcajboaa", sum := "bd09a93f255f5b8f32d2ea766c7eeab3518592bffb56b5bcd0488b5dcce94046", func := "glazier/glazierlaw22.FragsMasks", spec := "fragsMasks", unfollowed := true, recurses := true, named := ["math/bits.divideError", "math/bits.overflowError"], apart := false, narrowed := true }
def FragsMasksUptoSaid : Prop := fragsMasksUptoRow.holds Try.pinned (OpenSpec.upto fragsMasksSpec)

/-- 'glazierlaw22.FragsKinds', WHERE WHAT IT READS IS OF BULK AT MOST 1048576: true; the input reads as it did. -/
def fragsKindsUptoRow : OpenClaim := { program := "ytkacojopcajboaa", sum := "bd09a93f255f5b8f32d2ea766c7eeab3518592bffb56b5bcd0488b5dcce94046", func := "glazier/glazierlaw22.FragsKinds", spec := "fragsKinds", unfollowed := true, recurses := true, named := ["math/bits.divideError", "math/bits.overflowError"], apart := false, narrowed := true }
def FragsKindsUptoSaid : Prop := fragsKindsUptoRow.holds Try.pinned (OpenSpec.upto fragsKindsSpec)

end Rows
end Go.Proofs.Ytkacojopcajboaa
