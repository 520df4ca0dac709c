/-
  No cell of these rows narrows 'for every input' (looked for: loops, veiled, ifaces, maps, wideKeys, modest, calm, conditions, laid).
  DERIVED. THE GIVEN ROWS OF THIS SEAT. 6 by the template 'for every input the law returns true; each argument reads behind the call as it read before'; 0 by the template 'total and deterministic' (their statements: YtcgkhlccmfbhnaaTotals.lean).
  GIVEN WITH THE SEED: the statements are not yours to turn. If you find one false, say at which input.
  Laid BY PROGRAM, IN A SANDBOX (cutbox-rows.mjs): the forced cells as the released guide's own fill.sh prints them over the translation 5e1032ac610734a3… (all of the seat's roots in one cut). By AI agents, Wed Nov 11 2026. No macro, syntax, notation, axiom, sorry.
-/
import Derived.Test.YtcgkhlccmfbhnaaChecked
import GoSem.Claim
import GoSem.ClaimJoined
import GoSem.ClaimMapViews
import Derived.JoinedTies
import Derived.KernelRfl
namespace Go.Proofs.Ytcgkhlccmfbhnaa
/- THE CELL 'sum', in the pinned program and in every row, IS THE sha256 OF THE DUMP (.gsa) THAT YtcgkhlccmfbhnaaProg.lean LOADS. Nothing in Lean hashes anything: it is a label: what it is worth is what the hold of that sum in a sandbox is worth. -/
noncomputable def Try.pinned : Pinned := { name := "ytcgkhlccmfbhnaa", sum := "5e1032ac610734a3cdae7edb7b321ebb666bb5b4e7c5db3b00bdaa7baf76611d", checked := Try.checked }
namespace Rows
def none {H : Type} : Left H := { results := [], args := [] }

/-- 'glazierlaw09.PlaneWithin': WHATEVER THE INPUT: true; the input reads as it did. -/
def planeWithinSpec : ChangeSpec := { name := "planeWithin", fn := fun _ => fun
  | [d1, d2, d3] => { results := [.lit (.bool true)], args := [d1, d2, d3] }
  | _ => none }
def planeWithinRow : OpenClaim := { program := "ytcgkhlccmfbhnaa", sum := "5e1032ac610734a3cdae7edb7b321ebb666bb5b4e7c5db3b00bdaa7baf76611d", func := "glazier/glazierlaw09.PlaneWithin", spec := "planeWithin", named := ["math/bits.divideError", "math/bits.overflowError"], apart := false }
def PlaneWithinSaid : Prop := planeWithinRow.holds Try.pinned (OpenSpec.ofChange planeWithinSpec)

/-- ITS FALSE NEIGHBOUR: 'it returns false'. Refute it at one input. -/
def planeWithinWrong : ChangeSpec := { name := "planeWithin", fn := fun _ => fun
  | [d1, d2, d3] => { results := [.lit (.bool false)], args := [d1, d2, d3] }
  | _ => none }
def PlaneWithinWrongFalsely : Prop := planeWithinRow.holds Try.pinned (OpenSpec.ofChange planeWithinWrong)

/-- 'glazierlaw09.PlaneSums': WHATEVER THE INPUT: true; the input reads as it did. -/
def planeSumsSpec : ChangeSpec := { name := "planeSums", fn := fun _ => fun
  | [d1, d2, d3] => { results := [.lit (.bool true)], args := [d1, d2, d3] }
  | _ => none }
def planeSumsRow : OpenClaim := { program := "ytcgkhlccmfbhnaa", sum := "5e1032ac610734a3cdae7edb7b321ebb666bb5b4e7c5db3b00bdaa7baf76611d", func := "glazier/glazierlaw09.PlaneSums", spec := "planeSums", named := ["math/bits.divideError", "math/bits.overflowError"], apart := false }
def PlaneSumsSaid : Prop := planeSumsRow.holds Try.pinned (OpenSpec.ofChange planeSumsSpec)

/-- ITS FALSE NEIGHBOUR: 'it returns false'. Refute it at one input. -/
def planeSumsWrong : ChangeSpec := { name := "planeSums", fn := fun _ => fun
  | [d1, d2, d3] => { results := [.lit (.bool false)], args := [d1, d2, d3] }
  | _ => none }
def PlaneSumsWrongFalsely : Prop := planeSumsRow.holds Try.pinned (OpenSpec.ofChange planeSumsWrong)

/-- 'glazierlaw09.PlanePoints': WHATEVER THE INPUT: true; the input reads as it did. -/
def planePointsSpec : ChangeSpec := { name := "planePoints", fn := fun _ => fun
  | [d1, d2, d3] => { results := [.lit (.bool true)], args := [d1, d2, d3] }
  | _ => none }
def planePointsRow : OpenClaim := { program := "ytcgkhlccmfbhnaa", sum := "5e1032ac610734a3cdae7edb7b321ebb666bb5b4e7c5db3b00bdaa7baf76611d", func := "glazier/glazierlaw09.PlanePoints", spec := "planePoints", unfollowed := true, recurses := true, named := ["math/bits.divideError", "math/bits.overflowError"], apart := false }
def PlanePointsSaid : Prop := planePointsRow.holds Try.pinned (OpenSpec.ofChange planePointsSpec)

/-- ITS FALSE NEIGHBOUR: 'it returns false'. Refute it at one input. -/
def planePointsWrong : ChangeSpec := { name := "planePoints", fn := fun _ => fun
  | [d1, d2, d3] => { results := [.lit (.bool false)], args := [d1, d2, d3] }
  | _ => none }
def PlanePointsWrongFalsely : Prop := planePointsRow.holds Try.pinned (OpenSpec.ofChange planePointsWrong)

/-- 'glazierlaw09.PlaneHeld': WHATEVER THE INPUT: true; the input reads as it did. -/
def planeHeldSpec : ChangeSpec := { name := "planeHeld", fn := fun _ => fun
  | [d1, d2] => { results := [.lit (.bool true)], args := [d1, d2] }
  | _ => none }
def planeHeldRow : OpenClaim := { program := "ytcgkhlccmfbhnaa", sum := "5e1032ac610734a3cdae7edb7b321ebb666bb5b4e7c5db3b00bdaa7baf76611d", func := "glazier/glazierlaw09.PlaneHeld", spec := "planeHeld", unfollowed := true, recurses := true, named := ["math/bits.divideError", "math/bits.overflowError"], apart := false }
def PlaneHeldSaid : Prop := planeHeldRow.holds Try.pinned (OpenSpec.ofChange planeHeldSpec)

/-- ITS FALSE NEIGHBOUR: 'it returns false'. Refute it at one input. -/
def planeHeldWrong : ChangeSpec := { name := "planeHeld", fn := fun _ => fun
  | [d1, d2] => { results := [.lit (.bool false)], args := [d1, d2] }
  | _ => none }
def PlaneHeldWrongFalsely : Prop := planeHeldRow.holds Try.pinned (OpenSpec.ofChange planeHeldWrong)

/-- 'glazierlaw09.PlaneAll': WHATEVER THE INPUT: true; the input reads as it did. -/
def planeAllSpec : ChangeSpec := { name := "planeAll", fn := fun _ => fun
  | [d1, d2, d3] => { results := [.lit (.bool true)], args := [d1, d2, d3] }
  | _ => none }
def planeAllRow : OpenClaim := { program := "ytcgkhlccmfbhnaa", sum := "5e1032ac610734a3cdae7edb7b321ebb666bb5b4e7c5db3b00bdaa7baf76611d", func := "glazier/glazierlaw09.PlaneAll", spec := "planeAll", unfollowed := true, recurses := true, named := ["math/bits.divideError", "math/bits.overflowError"], apart := false }
def PlaneAllSaid : Prop := planeAllRow.holds Try.pinned (OpenSpec.ofChange planeAllSpec)

/-- ITS FALSE NEIGHBOUR: 'it returns false'. Refute it at one input. -/
def planeAllWrong : ChangeSpec := { name := "planeAll", fn := fun _ => fun
  | [d1, d2, d3] => { results := [.lit (.bool false)], args := [d1, d2, d3] }
  | _ => none }
def PlaneAllWrongFalsely : Prop := planeAllRow.holds Try.pinned (OpenSpec.ofChange planeAllWrong)

/-- 'glazierlaw09.PlaneTurns': WHATEVER THE INPUT: true; the input reads as it did. -/
def planeTurnsSpec : ChangeSpec := { name := "planeTurns", fn := fun _ => fun
  | [d1, d2] => { results := [.lit (.bool true)], args := [d1, d2] }
  | _ => none }
def planeTurnsRow : OpenClaim := { program := "ytcgkhlccmfbhnaa", sum := "5e1032ac610734a3cdae7edb7b321ebb666bb5b4e7c5db3b00bdaa7baf76611d", func := "glazier/glazierlaw09.PlaneTurns", spec := "planeTurns", unfollowed := true, recurses := true, named := ["math/bits.divideError", "math/bits.overflowError"], apart := false }
def PlaneTurnsSaid : Prop := planeTurnsRow.holds Try.pinned (OpenSpec.ofChange planeTurnsSpec)

/-- ITS FALSE NEIGHBOUR: 'it returns false'. Refute it at one input. -/
def planeTurnsWrong : ChangeSpec := { name := "planeTurns", fn := fun _ => fun
  | [d1, d2] => { results := [.lit (.bool false)], args := [d1, d2] }
  | _ => none }
def PlaneTurnsWrongFalsely : Prop := planeTurnsRow.holds Try.pinned (OpenSpec.ofChange planeTurnsWrong)

/- THE SECOND FORM. 'bulk': how many values and letters a reading holds, each counted each time it is reached (what is shared counts as often as it is met; a slice's spare places count too). A statement '..UptoSaid' is the law's where the arguments, and the package variables that the reading takes, are together of bulk at most 1048576: NARROWER than '..Said'. Prove '..Said' where nothing that the law and all that it calls make is longer than what came in: it says more and counts as full. Else prove '..UptoSaid'. A law counts once. -/
mutual
def uptoBulk {H : Type} : DataW H → Nat
  | .lit (.string bytes) => bytes.length + 1
  | .lit _ => 1
  | .nil => 1
  | .ptr d => uptoBulk d + 1
  | .slice elems spare => uptoBulkAll elems + uptoBulkAll spare + 1
  | .agg parts => uptoBulkAll parts + 1
  | .iface _ d => uptoBulk d + 1
  | .map entries => uptoBulkEntries entries + 1
  | .held _ => 1
def uptoBulkAll {H : Type} : List (DataW H) → Nat
  | [] => 0
  | d :: r => uptoBulk d + uptoBulkAll r
def uptoBulkEntries {H : Type} : List (Lit × DataW H) → Nat
  | [] => 0
  | x :: r => uptoBulkEntry x + uptoBulkEntries r
def uptoBulkEntry {H : Type} : Lit × DataW H → Nat
  | (.string bytes, d) => bytes.length + uptoBulk d + 1
  | (_, d) => uptoBulk d + 1
 end
def uptoSmall : (H : Type) → List (DataW H) → Bool := fun _ ds => decide (uptoBulkAll ds ≤ 1048576)
def OpenSpec.upto (s : _root_.Go.ChangeSpec) : _root_.Go.OpenSpec := { _root_.Go.OpenSpec.ofChange s with cond := some uptoSmall }

/-- 'glazierlaw09.PlaneWithin', WHERE WHAT IT READS IS OF BULK AT MOST 1048576: true; the input reads as it did. -/
def planeWithinUptoRow : OpenClaim := { program := "ytcgkhlccmfbhnaa", sum := "5e1032ac610734a3cdae7edb7b321ebb666bb5b4e7c5db3b00bdaa7baf76611d", func := "glazier/glazierlaw09.PlaneWithin", spec := "planeWithin", named := ["math/bits.divideError", "math/bits.overflowError"], apart := false, narrowed := true }
def PlaneWithinUptoSaid : Prop := planeWithinUptoRow.holds Try.pinned (OpenSpec.upto planeWithinSpec)

/-- 'glazierlaw09.PlaneSums', WHERE WHAT IT READS IS OF BULK AT MOST 1048576: true; the input reads as it did. -/
def planeSumsUptoRow : OpenClaim := { program := "ytcgkhlccmfbhnaa", sum := "5e1032ac610734a3cdae7edb7b321ebb666bb5b4e7c5db3b00bdaa7baf76611d", func := "glazier/glazierlaw09.PlaneSums", spec := "planeSums", named := ["math/bits.divideError", "math/bits.overflowError"], apart := false, narrowed := true }
def PlaneSumsUptoSaid : Prop := planeSumsUptoRow.holds Try.pinned (OpenSpec.upto planeSumsSpec)

/-- 'glazierlaw09.PlanePoints', WHERE WHAT IT READS IS OF BULK AT MOST 1048576: true; the input reads as it did. -/
def planePointsUptoRow : OpenClaim := { program := "ytcgkhlccmfbhnaa", sum := "5e1032ac610734a3cdae7edb7b321ebb666bb5b4e7c5db3b00bdaa7baf76611d", func := "glazier/glazierlaw09.PlanePoints", spec := "planePoints", unfollowed := true, recurses := true, named := ["math/bits.divideError", "math/bits.overflowError"], apart := false, narrowed := true }
def PlanePointsUptoSaid : Prop := planePointsUptoRow.holds Try.pinned (OpenSpec.upto planePointsSpec)

/-- 'glazierlaw09.PlaneHeld', WHERE WHAT IT READS IS OF BULK AT MOST 1048576: true; the input reads as it did. -/
def planeHeldUptoRow : OpenClaim := { program := "ytcgkhlccmfbhnaa", sum := "5e1032ac610734a3cdae7edb7b321ebb666bb5b4e7c5db3b00bdaa7baf76611d", func := "glazier/glazierlaw09.PlaneHeld", spec := "planeHeld", unfollowed := true, recurses := true, named := ["math/bits.divideError", "math/bits.overflowError"], apart := false, narrowed := true }
def PlaneHeldUptoSaid : Prop := planeHeldUptoRow.holds Try.pinned (OpenSpec.upto planeHeldSpec)

/-- 'glazierlaw09.PlaneAll', WHERE WHAT IT READS IS OF BULK AT MOST 1048576: true; the input reads as it did. -/
def planeAllUptoRow : OpenClaim := { program := "ytcgkhlccmfbhnaa", sum := "5e1032ac610734a3cdae7edb7b321ebb666bb5b4e7c5db3b00bdaa7baf76611d", func := "glazier/glazierlaw09.PlaneAll", spec := "planeAll", unfollowed := true, recurses := true, named := ["math/bits.divideError", "math/bits.overflowError"], apart := false, narrowed := true }
def PlaneAllUptoSaid : Prop := planeAllUptoRow.holds Try.pinned (OpenSpec.upto planeAllSpec)

/-- 'glazierlaw09.PlaneTurns', WHERE WHAT IT READS IS OF BULK AT MOST 1048576: true; the input reads as it did. -/
def planeTurnsUptoRow : OpenClaim := { program := "ytcgkhlccmfbhnaa", sum := "5e1032ac610734a3cdae7edb7b321ebb666bb5b4e7c5db3b00bdaa7baf76611d", func := "glazier/glazierlaw09.PlaneTurns", spec := "planeTurns", unfollowed := true, recurses := true, named := ["math/bits.divideError", "math/bits.overflowError"], apart := false, narrowed := true }
def PlaneTurnsUptoSaid : Prop := planeTurnsUptoRow.holds Try.pinned (OpenSpec.upto planeTurnsSpec)

end Rows
end Go.Proofs.Ytcgkhlccmfbhnaa
