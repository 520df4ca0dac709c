/-
  No cell of these rows narrows 'for every input' (looked for: loops, veiled, ifaces, maps, wideKeys, modest, calm, conditions, laid).
  DERIVED. THE GIVEN ROWS OF THIS SEAT. 5 by the template 'for every input the law returns true; each argument reads behind the call as it read before'; 0 by the template 'total and deterministic' (their statements: YtepifmbnajpgeaaTotals.lean).
  GIVEN WITH THE SEED: the statements are not yours to turn. If you find one false, say at which input.
  Laid BY PROGRAM, IN A SANDBOX (cutbox-rows.mjs): the forced cells as the released guide's own fill.sh prints them over the translation d052e4d75e8cfdb5… (all of the seat's roots in one cut). By AI agents, Wed Nov 11 2026. No macro, syntax, notation, axiom, sorry.
-/
import Derived.Test.YtepifmbnajpgeaaChecked
import GoSem.Claim
import GoSem.ClaimJoined
import GoSem.ClaimMapViews
import Derived.JoinedTies
import Derived.KernelRfl
namespace Go.Proofs.Ytepifmbnajpgeaa
/- THE CELL 'sum', in the pinned program and in every row, IS THE sha256 OF THE DUMP (.gsa) THAT YtepifmbnajpgeaaProg.lean LOADS. Nothing in Lean hashes anything: it is a label: what it is worth is what the hold of that sum in a sandbox is worth. -/
noncomputable def Try.pinned : Pinned := { name := "ytepifmbnajpgeaa", sum := "d052e4d75e8cfdb50e7cb7a95964653ab77ca92a4595eed402b9603358a78f3b", checked := Try.checked }
namespace Rows
def none {H : Type} : Left H := { results := [], args := [] }

/-- 'glazierlaw24.ImageRuns': WHATEVER THE INPUT: true; the input reads as it did. -/
def imageRunsSpec : ChangeSpec := { name := "imageRuns", fn := fun _ => fun
  | [d1, d2] => { results := [.lit (.bool true)], args := [d1, d2] }
  | _ => none }
def imageRunsRow : OpenClaim := { program := "ytepifmbnajpgeaa", sum := "d052e4d75e8cfdb50e7cb7a95964653ab77ca92a4595eed402b9603358a78f3b", func := "glazier/glazierlaw24.ImageRuns", spec := "imageRuns", unfollowed := true, recurses := true, apart := false }
def ImageRunsSaid : Prop := imageRunsRow.holds Try.pinned (OpenSpec.ofChange imageRunsSpec)

/-- ITS FALSE NEIGHBOUR: 'it returns false'. Refute it at one input. -/
def imageRunsWrong : ChangeSpec := { name := "imageRuns", fn := fun _ => fun
  | [d1, d2] => { results := [.lit (.bool false)], args := [d1, d2] }
  | _ => none }
def ImageRunsWrongFalsely : Prop := imageRunsRow.holds Try.pinned (OpenSpec.ofChange imageRunsWrong)

/-- 'glazierlaw24.ImageShort': WHATEVER THE INPUT: true; the input reads as it did. -/
def imageShortSpec : ChangeSpec := { name := "imageShort", fn := fun _ => fun
  | [d1, d2, d3] => { results := [.lit (.bool true)], args := [d1, d2, d3] }
  | _ => none }
def imageShortRow : OpenClaim := { program := "ytepifmbnajpgeaa", sum := "d052e4d75e8cfdb50e7cb7a95964653ab77ca92a4595eed402b9603358a78f3b", func := "glazier/glazierlaw24.ImageShort", spec := "imageShort", unfollowed := true, recurses := true, apart := false }
def ImageShortSaid : Prop := imageShortRow.holds Try.pinned (OpenSpec.ofChange imageShortSpec)

/-- ITS FALSE NEIGHBOUR: 'it returns false'. Refute it at one input. -/
def imageShortWrong : ChangeSpec := { name := "imageShort", fn := fun _ => fun
  | [d1, d2, d3] => { results := [.lit (.bool false)], args := [d1, d2, d3] }
  | _ => none }
def ImageShortWrongFalsely : Prop := imageShortRow.holds Try.pinned (OpenSpec.ofChange imageShortWrong)

/-- 'glazierlaw24.ImageAll': WHATEVER THE INPUT: true; the input reads as it did. -/
def imageAllSpec : ChangeSpec := { name := "imageAll", fn := fun _ => fun
  | [d1, d2] => { results := [.lit (.bool true)], args := [d1, d2] }
  | _ => none }
def imageAllRow : OpenClaim := { program := "ytepifmbnajpgeaa", sum := "d052e4d75e8cfdb50e7cb7a95964653ab77ca92a4595eed402b9603358a78f3b", func := "glazier/glazierlaw24.ImageAll", spec := "imageAll", unfollowed := true, recurses := true, apart := false }
def ImageAllSaid : Prop := imageAllRow.holds Try.pinned (OpenSpec.ofChange imageAllSpec)

/-- ITS FALSE NEIGHBOUR: 'it returns false'. Refute it at one input. -/
def imageAllWrong : ChangeSpec := { name := "imageAll", fn := fun _ => fun
  | [d1, d2] => { results := [.lit (.bool false)], args := [d1, d2] }
  | _ => none }
def ImageAllWrongFalsely : Prop := imageAllRow.holds Try.pinned (OpenSpec.ofChange imageAllWrong)

/-- 'glazierlaw24.ImageBack': WHATEVER THE INPUT: true; the input reads as it did. -/
def imageBackSpec : ChangeSpec := { name := "imageBack", fn := fun _ => fun
  | [d1, d2, d3] => { results := [.lit (.bool true)], args := [d1, d2, d3] }
  | _ => none }
def imageBackRow : OpenClaim := { program := "ytepifmbnajpgeaa", sum := "d052e4d75e8cfdb50e7cb7a95964653ab77ca92a4595eed402b9603358a78f3b", func := "glazier/glazierlaw24.ImageBack", spec := "imageBack", unfollowed := true, recurses := true, apart := false }
def ImageBackSaid : Prop := imageBackRow.holds Try.pinned (OpenSpec.ofChange imageBackSpec)

/-- ITS FALSE NEIGHBOUR: 'it returns false'. Refute it at one input. -/
def imageBackWrong : ChangeSpec := { name := "imageBack", fn := fun _ => fun
  | [d1, d2, d3] => { results := [.lit (.bool false)], args := [d1, d2, d3] }
  | _ => none }
def ImageBackWrongFalsely : Prop := imageBackRow.holds Try.pinned (OpenSpec.ofChange imageBackWrong)

/-- 'glazierlaw24.ImageOne': WHATEVER THE INPUT: true; the input reads as it did. -/
def imageOneSpec : ChangeSpec := { name := "imageOne", fn := fun _ => fun
  | [d] => { results := [.lit (.bool true)], args := [d] }
  | _ => none }
def imageOneRow : OpenClaim := { program := "ytepifmbnajpgeaa", sum := "d052e4d75e8cfdb50e7cb7a95964653ab77ca92a4595eed402b9603358a78f3b", func := "glazier/glazierlaw24.ImageOne", spec := "imageOne", unfollowed := true, recurses := true, apart := false }
def ImageOneSaid : Prop := imageOneRow.holds Try.pinned (OpenSpec.ofChange imageOneSpec)

/-- ITS FALSE NEIGHBOUR: 'it returns false'. Refute it at one input. -/
def imageOneWrong : ChangeSpec := { name := "imageOne", fn := fun _ => fun
  | [d] => { results := [.lit (.bool false)], args := [d] }
  | _ => none }
def ImageOneWrongFalsely : Prop := imageOneRow.holds Try.pinned (OpenSpec.ofChange imageOneWrong)

/- THE SECOND FORM. 'bulk': how many values and letters a reading holds, each counted each time it is reached (what is shared counts as often as it is met; a slice's spare places count too). A statement '..UptoSaid' is the law's where the arguments, and the package variables that the reading takes, are together of bulk at most 1048576: NARROWER than '..Said'. Prove '..Said' where nothing that the law and all that it calls make is longer than what came in: it says more and counts as full. Else prove '..UptoSaid'. A law counts once. -/
mutual
def uptoBulk {H : Type} : DataW H → Nat
  | .lit (.string bytes) => bytes.length + 1
  | .lit _ => 1
  | .nil => 1
  | .ptr d => uptoBulk d + 1
  | .slice elems spare => uptoBulkAll elems + uptoBulkAll spare + 1
  | .agg parts => uptoBulkAll parts + 1
  | .iface _ d => uptoBulk d + 1
  | .map entries => uptoBulkEntries entries + 1
  | .held _ => 1
def uptoBulkAll {H : Type} : List (DataW H) → Nat
  | [] => 0
  | d :: r => uptoBulk d + uptoBulkAll r
def uptoBulkEntries {H : Type} : List (Lit × DataW H) → Nat
  | [] => 0
  | x :: r => uptoBulkEntry x + uptoBulkEntries r
def uptoBulkEntry {H : Type} : Lit × DataW H → Nat
  | (.string bytes, d) => bytes.length + uptoBulk d + 1
  | (_, d) => uptoBulk d + 1
 end
def uptoSmall : (H : Type) → List (DataW H) → Bool := fun _ ds => decide (uptoBulkAll ds ≤ 1048576)
def OpenSpec.upto (s : _root_.Go.ChangeSpec) : _root_.Go.OpenSpec := { _root_.Go.OpenSpec.ofChange s with cond := some uptoSmall }

/-- 'glazierlaw24.ImageRuns', WHERE WHAT IT READS IS OF BULK AT MOST 1048576: true; the input reads as it did. -/
def imageRunsUptoRow : OpenClaim := { program := "ytepifmbnajpgeaa", sum := "d052e4d75e8cfdb50e7cb7a95964653ab77ca92a4595eed402b9603358a78f3b", func := "glazier/glazierlaw24.ImageRuns", spec := "imageRuns", unfollowed := true, recurses := true, apart := false, narrowed := true }
def ImageRunsUptoSaid : Prop := imageRunsUptoRow.holds Try.pinned (OpenSpec.upto imageRunsSpec)

/-- 'glazierlaw24.ImageShort', WHERE WHAT IT READS IS OF BULK AT MOST 1048576: true; the input reads as it did. -/
def imageShortUptoRow : OpenClaim := { program := "ytepifmbnajpgeaa", sum := "d052e4d75e8cfdb50e7cb7a95964653ab77ca92a4595eed402b9603358a78f3b", func := "glazier/glazierlaw24.ImageShort", spec := "imageShort", unfollowed := true, recurses := true, apart := false, narrowed := true }
def ImageShortUptoSaid : Prop := imageShortUptoRow.holds Try.pinned (OpenSpec.upto imageShortSpec)

/-- 'glazierlaw24.ImageAll', WHERE WHAT IT READS IS OF BULK AT MOST 1048576: true; the input reads as it did. -/
def imageAllUptoRow : OpenClaim := { program := "ytepifmbnajpgeaa", sum := "d052e4d75e8cfdb50e7cb7a95964653ab77ca92a4595eed402b9603358a78f3b", func := "glazier/glazierlaw24.ImageAll", spec := "imageAll", unfollowed := true, recurses := true, apart := false, narrowed := true }
def ImageAllUptoSaid : Prop := imageAllUptoRow.holds Try.pinned (OpenSpec.upto imageAllSpec)

/-- 'glazierlaw24.ImageBack', WHERE WHAT IT READS IS OF BULK AT MOST 1048576: true; the input reads as it did. -/
def imageBackUptoRow : OpenClaim := { program := "ytepifmbnajpgeaa", sum := "d052e4d75e8cfdb50e7cb7a95964653ab77ca92a4595eed402b9603358a78f3b", func := "glazier/glazierlaw24.ImageBack", spec := "imageBack", unfollowed := true, recurses := true, apart := false, narrowed := true }
def ImageBackUptoSaid : Prop := imageBackUptoRow.holds Try.pinned (OpenSpec.upto imageBackSpec)

/-- 'glazierlaw24.ImageOne', WHERE WHAT IT READS IS OF BULK AT MOST 1048576: true; the input reads as it did. -/
def imageOneUptoRow : OpenClaim := { program := "ytepifmbnajpgeaa", sum := "d052e4d75e8cfdb50e7cb7a95964653ab77ca92a4595eed402b9603358a78f3b", func := "glazier/glazierlaw24.ImageOne", spec := "imageOne", unfollowed := true, recurses := true, apart := false, narrowed := true }
def ImageOneUptoSaid : Prop := imageOneUptoRow.holds Try.pinned (OpenSpec.upto imageOneSpec)

end Rows
end Go.Proofs.Ytepifmbnajpgeaa
