/-
  No cell of these rows narrows 'for every input' (looked for: loops, veiled, ifaces, maps, wideKeys, modest, calm, conditions, laid).
  DERIVED. THE GIVEN ROWS OF THIS SEAT. 6 by the template 'for every input the law returns true; each argument reads behind the call as it read before'; 0 by the template 'total and deterministic' (their statements: YtfejdcdomgeogaaTotals.lean).
  GIVEN WITH THE SEED: the statements are not yours to turn. If you find one false, say at which input.
  Laid BY PROGRAM, IN A SANDBOX (cutbox-rows.mjs): the forced cells as the released guide's own fill.sh prints them over the translation 3cb70d6a2220137c… (all of the seat's roots in one cut). By AI agents, Wed Nov 11 2026. No macro, syntax, notation, axiom, sorry.
-/
import Derived.Test.YtfejdcdomgeogaaChecked
import GoSem.Claim
import GoSem.ClaimJoined
import GoSem.ClaimMapViews
import Derived.JoinedTies
import Derived.KernelRfl
namespace Go.Proofs.Ytfejdcdomgeogaa
/- THE CELL 'sum', in the pinned program and in every row, IS THE sha256 OF THE DUMP (.gsa) THAT YtfejdcdomgeogaaProg.lean LOADS. Nothing in Lean hashes anything: it is a label: what it is worth is what the hold of that sum in a sandbox is worth. -/
noncomputable def Try.pinned : Pinned := { name := "ytfejdcdomgeogaa", sum := "3cb70d6a2220137cadb18b0a37c9519b72691ff734db0f20cda314121bd8f49a", checked := Try.checked }
namespace Rows
def none {H : Type} : Left H := { results := [], args := [] }

/-- 'glazierlaw10.SetupBoxes': WHATEVER THE INPUT: true; the input reads as it did. -/
def setupBoxesSpec : ChangeSpec := { name := "setupBoxes", fn := fun _ => fun
  | [d1, d2] => { results := [.lit (.bool true)], args := [d1, d2] }
  | _ => none }
def setupBoxesRow : OpenClaim := { program := "ytfejdcdomgeogaa", sum := "3cb70d6a2220137cadb18b0a37c9519b72691ff734db0f20cda314121bd8f49a", func := "glazier/glazierlaw10.SetupBoxes", spec := "setupBoxes", unfollowed := true, recurses := true, named := ["math/bits.divideError", "math/bits.overflowError"], apart := false }
def SetupBoxesSaid : Prop := setupBoxesRow.holds Try.pinned (OpenSpec.ofChange setupBoxesSpec)

/-- ITS FALSE NEIGHBOUR: 'it returns false'. Refute it at one input. -/
def setupBoxesWrong : ChangeSpec := { name := "setupBoxes", fn := fun _ => fun
  | [d1, d2] => { results := [.lit (.bool false)], args := [d1, d2] }
  | _ => none }
def SetupBoxesWrongFalsely : Prop := setupBoxesRow.holds Try.pinned (OpenSpec.ofChange setupBoxesWrong)

/-- 'glazierlaw10.SetupPixels': WHATEVER THE INPUT: true; the input reads as it did. -/
def setupPixelsSpec : ChangeSpec := { name := "setupPixels", fn := fun _ => fun
  | [d1, d2] => { results := [.lit (.bool true)], args := [d1, d2] }
  | _ => none }
def setupPixelsRow : OpenClaim := { program := "ytfejdcdomgeogaa", sum := "3cb70d6a2220137cadb18b0a37c9519b72691ff734db0f20cda314121bd8f49a", func := "glazier/glazierlaw10.SetupPixels", spec := "setupPixels", unfollowed := true, recurses := true, named := ["math/bits.divideError", "math/bits.overflowError"], apart := false }
def SetupPixelsSaid : Prop := setupPixelsRow.holds Try.pinned (OpenSpec.ofChange setupPixelsSpec)

/-- ITS FALSE NEIGHBOUR: 'it returns false'. Refute it at one input. -/
def setupPixelsWrong : ChangeSpec := { name := "setupPixels", fn := fun _ => fun
  | [d1, d2] => { results := [.lit (.bool false)], args := [d1, d2] }
  | _ => none }
def SetupPixelsWrongFalsely : Prop := setupPixelsRow.holds Try.pinned (OpenSpec.ofChange setupPixelsWrong)

/-- 'glazierlaw10.SetupAll': WHATEVER THE INPUT: true; the input reads as it did. -/
def setupAllSpec : ChangeSpec := { name := "setupAll", fn := fun _ => fun
  | [d1, d2, d3] => { results := [.lit (.bool true)], args := [d1, d2, d3] }
  | _ => none }
def setupAllRow : OpenClaim := { program := "ytfejdcdomgeogaa", sum := "3cb70d6a2220137cadb18b0a37c9519b72691ff734db0f20cda314121bd8f49a", func := "glazier/glazierlaw10.SetupAll", spec := "setupAll", unfollowed := true, recurses := true, named := ["math/bits.divideError", "math/bits.overflowError"], apart := false }
def SetupAllSaid : Prop := setupAllRow.holds Try.pinned (OpenSpec.ofChange setupAllSpec)

/-- ITS FALSE NEIGHBOUR: 'it returns false'. Refute it at one input. -/
def setupAllWrong : ChangeSpec := { name := "setupAll", fn := fun _ => fun
  | [d1, d2, d3] => { results := [.lit (.bool false)], args := [d1, d2, d3] }
  | _ => none }
def SetupAllWrongFalsely : Prop := setupAllRow.holds Try.pinned (OpenSpec.ofChange setupAllWrong)

/-- 'glazierlaw10.SetupParts': WHATEVER THE INPUT: true; the input reads as it did. -/
def setupPartsSpec : ChangeSpec := { name := "setupParts", fn := fun _ => fun
  | [d1, d2] => { results := [.lit (.bool true)], args := [d1, d2] }
  | _ => none }
def setupPartsRow : OpenClaim := { program := "ytfejdcdomgeogaa", sum := "3cb70d6a2220137cadb18b0a37c9519b72691ff734db0f20cda314121bd8f49a", func := "glazier/glazierlaw10.SetupParts", spec := "setupParts", unfollowed := true, recurses := true, named := ["math/bits.divideError", "math/bits.overflowError"], apart := false }
def SetupPartsSaid : Prop := setupPartsRow.holds Try.pinned (OpenSpec.ofChange setupPartsSpec)

/-- ITS FALSE NEIGHBOUR: 'it returns false'. Refute it at one input. -/
def setupPartsWrong : ChangeSpec := { name := "setupParts", fn := fun _ => fun
  | [d1, d2] => { results := [.lit (.bool false)], args := [d1, d2] }
  | _ => none }
def SetupPartsWrongFalsely : Prop := setupPartsRow.holds Try.pinned (OpenSpec.ofChange setupPartsWrong)

/-- 'glazierlaw10.SetupWhole': WHATEVER THE INPUT: true; the input reads as it did. -/
def setupWholeSpec : ChangeSpec := { name := "setupWhole", fn := fun _ => fun
  | [d1, d2, d3] => { results := [.lit (.bool true)], args := [d1, d2, d3] }
  | _ => none }
def setupWholeRow : OpenClaim := { program := "ytfejdcdomgeogaa", sum := "3cb70d6a2220137cadb18b0a37c9519b72691ff734db0f20cda314121bd8f49a", func := "glazier/glazierlaw10.SetupWhole", spec := "setupWhole", unfollowed := true, recurses := true, named := ["math/bits.divideError", "math/bits.overflowError"], apart := false }
def SetupWholeSaid : Prop := setupWholeRow.holds Try.pinned (OpenSpec.ofChange setupWholeSpec)

/-- ITS FALSE NEIGHBOUR: 'it returns false'. Refute it at one input. -/
def setupWholeWrong : ChangeSpec := { name := "setupWhole", fn := fun _ => fun
  | [d1, d2, d3] => { results := [.lit (.bool false)], args := [d1, d2, d3] }
  | _ => none }
def SetupWholeWrongFalsely : Prop := setupWholeRow.holds Try.pinned (OpenSpec.ofChange setupWholeWrong)

/-- 'glazierlaw10.SetupSamples': WHATEVER THE INPUT: true; the input reads as it did. -/
def setupSamplesSpec : ChangeSpec := { name := "setupSamples", fn := fun _ => fun
  | [d1, d2] => { results := [.lit (.bool true)], args := [d1, d2] }
  | _ => none }
def setupSamplesRow : OpenClaim := { program := "ytfejdcdomgeogaa", sum := "3cb70d6a2220137cadb18b0a37c9519b72691ff734db0f20cda314121bd8f49a", func := "glazier/glazierlaw10.SetupSamples", spec := "setupSamples", unfollowed := true, recurses := true, named := ["math/bits.divideError", "math/bits.overflowError"], apart := false }
def SetupSamplesSaid : Prop := setupSamplesRow.holds Try.pinned (OpenSpec.ofChange setupSamplesSpec)

/-- ITS FALSE NEIGHBOUR: 'it returns false'. Refute it at one input. -/
def setupSamplesWrong : ChangeSpec := { name := "setupSamples", fn := fun _ => fun
  | [d1, d2] => { results := [.lit (.bool false)], args := [d1, d2] }
  | _ => none }
def SetupSamplesWrongFalsely : Prop := setupSamplesRow.holds Try.pinned (OpenSpec.ofChange setupSamplesWrong)

/- THE SECOND FORM. 'bulk': how many values and letters a reading holds, each counted each time it is reached (what is shared counts as often as it is met; a slice's spare places count too). A statement '..UptoSaid' is the law's where the arguments, and the package variables that the reading takes, are together of bulk at most 1048576: NARROWER than '..Said'. Prove '..Said' where nothing that the law and all that it calls make is longer than what came in: it says more and counts as full. Else prove '..UptoSaid'. A law counts once. -/
mutual
def uptoBulk {H : Type} : DataW H → Nat
  | .lit (.string bytes) => bytes.length + 1
  | .lit _ => 1
  | .nil => 1
  | .ptr d => uptoBulk d + 1
  | .slice elems spare => uptoBulkAll elems + uptoBulkAll spare + 1
  | .agg parts => uptoBulkAll parts + 1
  | .iface _ d => uptoBulk d + 1
  | .map entries => uptoBulkEntries entries + 1
  | .held _ => 1
def uptoBulkAll {H : Type} : List (DataW H) → Nat
  | [] => 0
  | d :: r => uptoBulk d + uptoBulkAll r
def uptoBulkEntries {H : Type} : List (Lit × DataW H) → Nat
  | [] => 0
  | x :: r => uptoBulkEntry x + uptoBulkEntries r
def uptoBulkEntry {H : Type} : Lit × DataW H → Nat
  | (.string bytes, d) => bytes.length + uptoBulk d + 1
  | (_, d) => uptoBulk d + 1
 end
def uptoSmall : (H : Type) → List (DataW H) → Bool := fun _ ds => decide (uptoBulkAll ds ≤ 1048576)
def OpenSpec.upto (s : _root_.Go.ChangeSpec) : _root_.Go.OpenSpec := { _root_.Go.OpenSpec.ofChange s with cond := some uptoSmall }

/-- 'glazierlaw10.SetupBoxes', WHERE WHAT IT READS IS OF BULK AT MOST 1048576: true; the input reads as it did. -/
def setupBoxesUptoRow : OpenClaim := { program := "ytfejdcdomgeogaa", sum := "3cb70d6a2220137cadb18b0a37c9519b72691ff734db0f20cda314121bd8f49a", func := "glazier/glazierlaw10.SetupBoxes", spec := "setupBoxes", unfollowed := true, recurses := true, named := ["math/bits.divideError", "math/bits.overflowError"], apart := false, narrowed := true }
def SetupBoxesUptoSaid : Prop := setupBoxesUptoRow.holds Try.pinned (OpenSpec.upto setupBoxesSpec)

/-- 'glazierlaw10.SetupPixels', WHERE WHAT IT READS IS OF BULK AT MOST 1048576: true; the input reads as it did. -/
def setupPixelsUptoRow : OpenClaim := { program := "ytfejdcdomgeogaa", sum := "3cb70d6a2220137cadb18b0a37c9519b72691ff734db0f20cda314121bd8f49a", func := "glazier/glazierlaw10.SetupPixels", spec := "setupPixels", unfollowed := true, recurses := true, named := ["math/bits.divideError", "math/bits.overflowError"], apart := false, narrowed := true }
def SetupPixelsUptoSaid : Prop := setupPixelsUptoRow.holds Try.pinned (OpenSpec.upto setupPixelsSpec)

/-- 'glazierlaw10.SetupAll', WHERE WHAT IT READS IS OF BULK AT MOST 1048576: true; the input reads as it did. -/
def setupAllUptoRow : OpenClaim := { program := "ytfejdcdomgeogaa", sum := "3cb70d6a2220137cadb18b0a37c9519b72691ff734db0f20cda314121bd8f49a", func := "glazier/glazierlaw10.SetupAll", spec := "setupAll", unfollowed := true, recurses := true, named := ["math/bits.divideError", "math/bits.overflowError"], apart := false, narrowed := true }
def SetupAllUptoSaid : Prop := setupAllUptoRow.holds Try.pinned (OpenSpec.upto setupAllSpec)

/-- 'glazierlaw10.SetupParts', WHERE WHAT IT READS IS OF BULK AT MOST 1048576: true; the input reads as it did. -/
def setupPartsUptoRow : OpenClaim := { program := "ytfejdcdomgeogaa", sum := "3cb70d6a2220137cadb18b0a37c9519b72691ff734db0f20cda314121bd8f49a", func := "glazier/glazierlaw10.SetupParts", spec := "setupParts", unfollowed := true, recurses := true, named := ["math/bits.divideError", "math/bits.overflowError"], apart := false, narrowed := true }
def SetupPartsUptoSaid : Prop := setupPartsUptoRow.holds Try.pinned (OpenSpec.upto setupPartsSpec)

/-- 'glazierlaw10.SetupWhole', WHERE WHAT IT READS IS OF BULK AT MOST 1048576: true; the input reads as it did. -/
def setupWholeUptoRow : OpenClaim := { program := "ytfejdcdomgeogaa", sum := "3cb70d6a2220137cadb18b0a37c9519b72691ff734db0f20cda314121bd8f49a", func := "glazier/glazierlaw10.SetupWhole", spec := "setupWhole", unfollowed := true, recurses := true, named := ["math/bits.divideError", "math/bits.overflowError"], apart := false, narrowed := true }
def SetupWholeUptoSaid : Prop := setupWholeUptoRow.holds Try.pinned (OpenSpec.upto setupWholeSpec)

/-- 'glazierlaw10.SetupSamples', WHERE WHAT IT READS IS OF BULK AT MOST 1048576: true; the input reads as it did. -/
def setupSamplesUptoRow : OpenClaim := { program := "ytfejdcdomgeogaa", sum := "3cb70d6a2220137cadb18b0a37c9519b72691ff734db0f20cda314121bd8f49a", func := "glazier/glazierlaw10.SetupSamples", spec := "setupSamples", unfollowed := true, recurses := true, named := ["math/bits.divideError", "math/bits.overflowError"], apart := false, narrowed := true }
def SetupSamplesUptoSaid : Prop := setupSamplesUptoRow.holds Try.pinned (OpenSpec.upto setupSamplesSpec)

end Rows
end Go.Proofs.Ytfejdcdomgeogaa
