/-
  No cell of these rows narrows 'for every input' (looked for: loops, veiled, ifaces, maps, wideKeys, modest, calm, conditions, laid).
  DERIVED. THE GIVEN ROWS OF THIS SEAT. 6 by the template 'for every input the law returns true; each argument reads behind the call as it read before'; 0 by the template 'total and deterministic' (their statements: YtmiffokcdmehhaaTotals.lean).
  GIVEN WITH THE SEED: the statements are not yours to turn. If you find one false, say at which input.
  Laid BY PROGRAM, IN A SANDBOX (cutbox-rows.mjs): the forced cells as the released guide's own fill.sh prints them over the translation ddbe1a94d7dabcae… (all of the seat's roots in one cut). By AI agents, Wed Nov 11 2026. No macro, syntax, notation, axiom, sorry.
-/
import Derived.Test.YtmiffokcdmehhaaChecked
import GoSem.Claim
import GoSem.ClaimJoined
import GoSem.ClaimMapViews
import Derived.JoinedTies
import Derived.KernelRfl
namespace Go.Proofs.Ytmiffokcdmehhaa
/- THE CELL 'sum', in the pinned program and in every row, IS THE sha256 OF THE DUMP (.gsa) THAT YtmiffokcdmehhaaProg.lean LOADS. Nothing in Lean hashes anything: it is a label: what it is worth is what the hold of that sum in a sandbox is worth. -/
noncomputable def Try.pinned : Pinned := { name := "ytmiffokcdmehhaa", sum := "ddbe1a94d7dabcae74340dd7a8e427292ac921f04758b06aa254f6d9fae9a9cc", checked := Try.checked }
namespace Rows
def none {H : Type} : Left H := { results := [], args := [] }

/-- 'glazierlaw04.VecSides': WHATEVER THE INPUT: true; the input reads as it did. -/
def vecSidesSpec : ChangeSpec := { name := "vecSides", fn := fun _ => fun
  | [d] => { results := [.lit (.bool true)], args := [d] }
  | _ => none }
def vecSidesRow : OpenClaim := { program := "ytmiffokcdmehhaa", sum := "ddbe1a94d7dabcae74340dd7a8e427292ac921f04758b06aa254f6d9fae9a9cc", func := "glazier/glazierlaw04.VecSides", spec := "vecSides", named := ["math/bits.divideError", "math/bits.overflowError"], apart := false }
def VecSidesSaid : Prop := vecSidesRow.holds Try.pinned (OpenSpec.ofChange vecSidesSpec)

/-- ITS FALSE NEIGHBOUR: 'it returns false'. Refute it at one input. -/
def vecSidesWrong : ChangeSpec := { name := "vecSides", fn := fun _ => fun
  | [d] => { results := [.lit (.bool false)], args := [d] }
  | _ => none }
def VecSidesWrongFalsely : Prop := vecSidesRow.holds Try.pinned (OpenSpec.ofChange vecSidesWrong)

/-- 'glazierlaw04.VecEnds': WHATEVER THE INPUT: true; the input reads as it did. -/
def vecEndsSpec : ChangeSpec := { name := "vecEnds", fn := fun _ => fun
  | [d1, d2] => { results := [.lit (.bool true)], args := [d1, d2] }
  | _ => none }
def vecEndsRow : OpenClaim := { program := "ytmiffokcdmehhaa", sum := "ddbe1a94d7dabcae74340dd7a8e427292ac921f04758b06aa254f6d9fae9a9cc", func := "glazier/glazierlaw04.VecEnds", spec := "vecEnds", named := ["math/bits.divideError", "math/bits.overflowError"], apart := false }
def VecEndsSaid : Prop := vecEndsRow.holds Try.pinned (OpenSpec.ofChange vecEndsSpec)

/-- ITS FALSE NEIGHBOUR: 'it returns false'. Refute it at one input. -/
def vecEndsWrong : ChangeSpec := { name := "vecEnds", fn := fun _ => fun
  | [d1, d2] => { results := [.lit (.bool false)], args := [d1, d2] }
  | _ => none }
def VecEndsWrongFalsely : Prop := vecEndsRow.holds Try.pinned (OpenSpec.ofChange vecEndsWrong)

/-- 'glazierlaw04.VecSums': WHATEVER THE INPUT: true; the input reads as it did. -/
def vecSumsSpec : ChangeSpec := { name := "vecSums", fn := fun _ => fun
  | [d1, d2] => { results := [.lit (.bool true)], args := [d1, d2] }
  | _ => none }
def vecSumsRow : OpenClaim := { program := "ytmiffokcdmehhaa", sum := "ddbe1a94d7dabcae74340dd7a8e427292ac921f04758b06aa254f6d9fae9a9cc", func := "glazier/glazierlaw04.VecSums", spec := "vecSums", named := ["math/bits.divideError", "math/bits.overflowError"], apart := false }
def VecSumsSaid : Prop := vecSumsRow.holds Try.pinned (OpenSpec.ofChange vecSumsSpec)

/-- ITS FALSE NEIGHBOUR: 'it returns false'. Refute it at one input. -/
def vecSumsWrong : ChangeSpec := { name := "vecSums", fn := fun _ => fun
  | [d1, d2] => { results := [.lit (.bool false)], args := [d1, d2] }
  | _ => none }
def VecSumsWrongFalsely : Prop := vecSumsRow.holds Try.pinned (OpenSpec.ofChange vecSumsWrong)

/-- 'glazierlaw04.VecAll': WHATEVER THE INPUT: true; the input reads as it did. -/
def vecAllSpec : ChangeSpec := { name := "vecAll", fn := fun _ => fun
  | [d1, d2, d3] => { results := [.lit (.bool true)], args := [d1, d2, d3] }
  | _ => none }
def vecAllRow : OpenClaim := { program := "ytmiffokcdmehhaa", sum := "ddbe1a94d7dabcae74340dd7a8e427292ac921f04758b06aa254f6d9fae9a9cc", func := "glazier/glazierlaw04.VecAll", spec := "vecAll", named := ["math/bits.divideError", "math/bits.overflowError"], apart := false }
def VecAllSaid : Prop := vecAllRow.holds Try.pinned (OpenSpec.ofChange vecAllSpec)

/-- ITS FALSE NEIGHBOUR: 'it returns false'. Refute it at one input. -/
def vecAllWrong : ChangeSpec := { name := "vecAll", fn := fun _ => fun
  | [d1, d2, d3] => { results := [.lit (.bool false)], args := [d1, d2, d3] }
  | _ => none }
def VecAllWrongFalsely : Prop := vecAllRow.holds Try.pinned (OpenSpec.ofChange vecAllWrong)

/-- 'glazierlaw04.VecBetween': WHATEVER THE INPUT: true; the input reads as it did. -/
def vecBetweenSpec : ChangeSpec := { name := "vecBetween", fn := fun _ => fun
  | [d1, d2] => { results := [.lit (.bool true)], args := [d1, d2] }
  | _ => none }
def vecBetweenRow : OpenClaim := { program := "ytmiffokcdmehhaa", sum := "ddbe1a94d7dabcae74340dd7a8e427292ac921f04758b06aa254f6d9fae9a9cc", func := "glazier/glazierlaw04.VecBetween", spec := "vecBetween", named := ["math/bits.divideError", "math/bits.overflowError"], apart := false }
def VecBetweenSaid : Prop := vecBetweenRow.holds Try.pinned (OpenSpec.ofChange vecBetweenSpec)

/-- ITS FALSE NEIGHBOUR: 'it returns false'. Refute it at one input. -/
def vecBetweenWrong : ChangeSpec := { name := "vecBetween", fn := fun _ => fun
  | [d1, d2] => { results := [.lit (.bool false)], args := [d1, d2] }
  | _ => none }
def VecBetweenWrongFalsely : Prop := vecBetweenRow.holds Try.pinned (OpenSpec.ofChange vecBetweenWrong)

/-- 'glazierlaw04.VecNarrow': WHATEVER THE INPUT: true; the input reads as it did. -/
def vecNarrowSpec : ChangeSpec := { name := "vecNarrow", fn := fun _ => fun
  | [d1, d2, d3] => { results := [.lit (.bool true)], args := [d1, d2, d3] }
  | _ => none }
def vecNarrowRow : OpenClaim := { program := "ytmiffokcdmehhaa", sum := "ddbe1a94d7dabcae74340dd7a8e427292ac921f04758b06aa254f6d9fae9a9cc", func := "glazier/glazierlaw04.VecNarrow", spec := "vecNarrow", named := ["math/bits.divideError", "math/bits.overflowError"], apart := false }
def VecNarrowSaid : Prop := vecNarrowRow.holds Try.pinned (OpenSpec.ofChange vecNarrowSpec)

/-- ITS FALSE NEIGHBOUR: 'it returns false'. Refute it at one input. -/
def vecNarrowWrong : ChangeSpec := { name := "vecNarrow", fn := fun _ => fun
  | [d1, d2, d3] => { results := [.lit (.bool false)], args := [d1, d2, d3] }
  | _ => none }
def VecNarrowWrongFalsely : Prop := vecNarrowRow.holds Try.pinned (OpenSpec.ofChange vecNarrowWrong)

/- THE SECOND FORM. 'bulk': how many values and letters a reading holds, each counted each time it is reached (what is shared counts as often as it is met; a slice's spare places count too). A statement '..UptoSaid' is the law's where the arguments, and the package variables that the reading takes, are together of bulk at most 1048576: NARROWER than '..Said'. Prove '..Said' where nothing that the law and all that it calls make is longer than what came in: it says more and counts as full. Else prove '..UptoSaid'. A law counts once. -/
mutual
def uptoBulk {H : Type} : DataW H → Nat
  | .lit (.string bytes) => bytes.length + 1
  | .lit _ => 1
  | .nil => 1
  | .ptr d => uptoBulk d + 1
  | .slice elems spare => uptoBulkAll elems + uptoBulkAll spare + 1
  | .agg parts => uptoBulkAll parts + 1
  | .iface _ d => uptoBulk d + 1
  | .map entries => uptoBulkEntries entries + 1
  | .held _ => 1
def uptoBulkAll {H : Type} : List (DataW H) → Nat
  | [] => 0
  | d :: r => uptoBulk d + uptoBulkAll r
def uptoBulkEntries {H : Type} : List (Lit × DataW H) → Nat
  | [] => 0
  | x :: r => uptoBulkEntry x + uptoBulkEntries r
def uptoBulkEntry {H : Type} : Lit × DataW H → Nat
  | (.string bytes, d) => bytes.length + uptoBulk d + 1
  | (_, d) => uptoBulk d + 1
 end
def uptoSmall : (H : Type) → List (DataW H) → Bool := fun _ ds => decide (uptoBulkAll ds ≤ 1048576)
def OpenSpec.upto (s : _root_.Go.ChangeSpec) : _root_.Go.OpenSpec := { _root_.Go.OpenSpec.ofChange s with cond := some uptoSmall }

/-- 'glazierlaw04.VecSides', WHERE WHAT IT READS IS OF BULK AT MOST 1048576: true; the input reads as it did. -/
def vecSidesUptoRow : OpenClaim := { program := "ytmiffokcdmehhaa", sum := "ddbe1a94d7dabcae74340dd7a8e427292ac921f04758b06aa254f6d9fae9a9cc", func := "glazier/glazierlaw04.VecSides", spec := "vecSides", named := ["math/bits.divideError", "math/bits.overflowError"], apart := false, narrowed := true }
def VecSidesUptoSaid : Prop := vecSidesUptoRow.holds Try.pinned (OpenSpec.upto vecSidesSpec)

/-- 'glazierlaw04.VecEnds', WHERE WHAT IT READS IS OF BULK AT MOST 1048576: true; the input reads as it did. -/
def vecEndsUptoRow : OpenClaim := { program := "ytmiffokcdmehhaa", sum := "ddbe1a94d7dabcae74340dd7a8e427292ac921f04758b06aa254f6d9fae9a9cc", func := "glazier/glazierlaw04.VecEnds", spec := "vecEnds", named := ["math/bits.divideError", "math/bits.overflowError"], apart := false, narrowed := true }
def VecEndsUptoSaid : Prop := vecEndsUptoRow.holds Try.pinned (OpenSpec.upto vecEndsSpec)

/-- 'glazierlaw04.VecSums', WHERE WHAT IT READS IS OF BULK AT MOST 1048576: true; the input reads as it did. -/
def vecSumsUptoRow : OpenClaim := { program := "ytmiffokcdmehhaa", sum := "ddbe1a94d7dabcae74340dd7a8e427292ac921f04758b06aa254f6d9fae9a9cc", func := "glazier/glazierlaw04.VecSums", spec := "vecSums", named := ["math/bits.divideError", "math/bits.overflowError"], apart := false, narrowed := true }
def VecSumsUptoSaid : Prop := vecSumsUptoRow.holds Try.pinned (OpenSpec.upto vecSumsSpec)

/-- 'glazierlaw04.VecAll', WHERE WHAT IT READS IS OF BULK AT MOST 1048576: true; the input reads as it did. -/
def vecAllUptoRow : OpenClaim := { program := "ytmiffokcdmehhaa", sum := "ddbe1a94d7dabcae74340dd7a8e427292ac921f04758b06aa254f6d9fae9a9cc", func := "glazier/glazierlaw04.VecAll", spec := "vecAll", named := ["math/bits.divideError", "math/bits.overflowError"], apart := false, narrowed := true }
def VecAllUptoSaid : Prop := vecAllUptoRow.holds Try.pinned (OpenSpec.upto vecAllSpec)

/-- 'glazierlaw04.VecBetween', WHERE WHAT IT READS IS OF BULK AT MOST 1048576: true; the input reads as it did. -/
def vecBetweenUptoRow : OpenClaim := { program := "ytmiffokcdmehhaa", sum := "ddbe1a94d7dabcae74340dd7a8e427292ac921f04758b06aa254f6d9fae9a9cc", func := "glazier/glazierlaw04.VecBetween", spec := "vecBetween", named := ["math/bits.divideError", "math/bits.overflowError"], apart := false, narrowed := true }
def VecBetweenUptoSaid : Prop := vecBetweenUptoRow.holds Try.pinned (OpenSpec.upto vecBetweenSpec)

/-- 'glazierlaw04.VecNarrow', WHERE WHAT IT READS IS OF BULK AT MOST 1048576: true; the input reads as it did. -/
def vecNarrowUptoRow : OpenClaim := { program := "ytmiffokcdmehhaa", sum := "ddbe1a94d7dabcae74340dd7a8e427292ac921f04758b06aa254f6d9fae9a9cc", func := "glazier/glazierlaw04.VecNarrow", spec := "vecNarrow", named := ["math/bits.divideError", "math/bits.overflowError"], apart := false, narrowed := true }
def VecNarrowUptoSaid : Prop := vecNarrowUptoRow.holds Try.pinned (OpenSpec.upto vecNarrowSpec)

end Rows
end Go.Proofs.Ytmiffokcdmehhaa
