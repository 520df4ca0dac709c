/-
  No cell of these rows narrows 'for every input' (looked for: loops, veiled, ifaces, maps, wideKeys, modest, calm, conditions, laid).
  DERIVED. THE GIVEN ROWS OF THIS SEAT. 2 by the template 'for every input the law returns true; each argument reads behind the call as it read before'; 0 by the template 'total and deterministic' (their statements: YthnagpmnoncijaaGreatTotals.lean).
  GIVEN WITH THE SEED: the statements are not yours to turn. If you find one false, say at which input.
  Laid BY PROGRAM, IN A SANDBOX (cutbox-rows.mjs): the forced cells as the released guide's own fill.sh prints them over the translation 8fa6b48a65c3120f… (all of the seat's roots in one cut). By AI agents, Wed Nov 11 2026. No macro, syntax, notation, axiom, sorry.
-/
import Derived.Test.YthnagpmnoncijaaGreatChecked
import GoSem.Claim
import GoSem.ClaimJoined
import GoSem.ClaimMapViews
import Derived.JoinedTies
import Derived.KernelRfl
namespace Go.Proofs.YthnagpmnoncijaaGreat
/- THE CELL 'sum', in the pinned program and in every row, IS THE sha256 OF THE DUMP (.gsa) THAT YthnagpmnoncijaaGreatProg.lean LOADS. Nothing in Lean hashes anything: it is a label: what it is worth is what the hold of that sum in a sandbox is worth. -/
noncomputable def Tryz.pinned : Pinned := { name := "ythnagpmnoncijaagreat", sum := "8fa6b48a65c3120f50d5cccd7fca54a1c2a66e44922313dd58835afa4b70b17c", checked := Tryz.checked }
namespace Rows
def none {H : Type} : Left H := { results := [], args := [] }

/-- 'glazierlaw23.FrameRefuses': WHATEVER THE INPUT: true; the input reads as it did. -/
def frameRefusesSpec : ChangeSpec := { name := "frameRefuses", fn := fun _ => fun
  | [d1, d2, d3] => { results := [.lit (.bool true)], args := [d1, d2, d3] }
  | _ => none }
def frameRefusesRow : OpenClaim := { program := "ythnagpmnoncijaagreat", sum := "8fa6b48a65c3120f50d5cccd7fca54a1c2a66e44922313dd58835afa4b70b17c", func := "glazier/glazierlaw23.FrameRefuses", spec := "frameRefuses", inPlace := ["slices.overlaps[glazier/api.Frag]"], unfollowed := true, recurses := true, named := ["math/bits.divideError", "math/bits.overflowError"], plainKeys := false, apart := false }
def FrameRefusesSaid : Prop := frameRefusesRow.holds Tryz.pinned (OpenSpec.ofChange frameRefusesSpec)

/-- ITS FALSE NEIGHBOUR: 'it returns false'. Refute it at one input. -/
def frameRefusesWrong : ChangeSpec := { name := "frameRefuses", fn := fun _ => fun
  | [d1, d2, d3] => { results := [.lit (.bool false)], args := [d1, d2, d3] }
  | _ => none }
def FrameRefusesWrongFalsely : Prop := frameRefusesRow.holds Tryz.pinned (OpenSpec.ofChange frameRefusesWrong)

/-- 'glazierlaw23.FrameTiles': WHATEVER THE INPUT: true; the input reads as it did. -/
def frameTilesSpec : ChangeSpec := { name := "frameTiles", fn := fun _ => fun
  | [d1, d2, d3] => { results := [.lit (.bool true)], args := [d1, d2, d3] }
  | _ => none }
def frameTilesRow : OpenClaim := { program := "ythnagpmnoncijaagreat", sum := "8fa6b48a65c3120f50d5cccd7fca54a1c2a66e44922313dd58835afa4b70b17c", func := "glazier/glazierlaw23.FrameTiles", spec := "frameTiles", inPlace := ["slices.overlaps[glazier/api.Frag]"], unfollowed := true, recurses := true, named := ["math/bits.divideError", "math/bits.overflowError"], plainKeys := false, apart := false }
def FrameTilesSaid : Prop := frameTilesRow.holds Tryz.pinned (OpenSpec.ofChange frameTilesSpec)

/-- ITS FALSE NEIGHBOUR: 'it returns false'. Refute it at one input. -/
def frameTilesWrong : ChangeSpec := { name := "frameTiles", fn := fun _ => fun
  | [d1, d2, d3] => { results := [.lit (.bool false)], args := [d1, d2, d3] }
  | _ => none }
def FrameTilesWrongFalsely : Prop := frameTilesRow.holds Tryz.pinned (OpenSpec.ofChange frameTilesWrong)

/- THE SECOND FORM. 'bulk': how many values and letters a reading holds, each counted each time it is reached (what is shared counts as often as it is met; a slice's spare places count too). A statement '..UptoSaid' is the law's where the arguments, and the package variables that the reading takes, are together of bulk at most 1048576: NARROWER than '..Said'. Prove '..Said' where nothing that the law and all that it calls make is longer than what came in: it says more and counts as full. Else prove '..UptoSaid'. A law counts once. -/
mutual
def uptoBulk {H : Type} : DataW H → Nat
  | .lit (.string bytes) => bytes.length + 1
  | .lit _ => 1
  | .nil => 1
  | .ptr d => uptoBulk d + 1
  | .slice elems spare => uptoBulkAll elems + uptoBulkAll spare + 1
  | .agg parts => uptoBulkAll parts + 1
  | .iface _ d => uptoBulk d + 1
  | .map entries => uptoBulkEntries entries + 1
  | .held _ => 1
def uptoBulkAll {H : Type} : List (DataW H) → Nat
  | [] => 0
  | d :: r => uptoBulk d + uptoBulkAll r
def uptoBulkEntries {H : Type} : List (Lit × DataW H) → Nat
  | [] => 0
  | x :: r => uptoBulkEntry x + uptoBulkEntries r
def uptoBulkEntry {H : Type} : Lit × DataW H → Nat
  | (.string bytes, d) => bytes.length + uptoBulk d + 1
  | (_, d) => uptoBulk d + 1
 end
def uptoSmall : (H : Type) → List (DataW H) → Bool := fun _ ds => decide (uptoBulkAll ds ≤ 1048576)
def OpenSpec.upto (s : _root_.Go.ChangeSpec) : _root_.Go.OpenSpec := { _root_.Go.OpenSpec.ofChange s with cond := some uptoSmall }

/-- 'glazierlaw23.FrameRefuses', WHERE WHAT IT READS IS OF BULK AT MOST 1048576: true; the input reads as it did. -/
def frameRefusesUptoRow : OpenClaim := { program := "ythnagpmnoncijaagreat", sum := "8fa6b48a65c3120f50d5cccd7fca54a1c2a66e44922313dd58835afa4b70b17c", func := "glazier/glazierlaw23.FrameRefuses", spec := "frameRefuses", inPlace := ["slices.overlaps[glazier/api.Frag]"], unfollowed := true, recurses := true, named := ["math/bits.divideError", "math/bits.overflowError"], plainKeys := false, apart := false, narrowed := true }
def FrameRefusesUptoSaid : Prop := frameRefusesUptoRow.holds Tryz.pinned (OpenSpec.upto frameRefusesSpec)

/-- 'glazierlaw23.FrameTiles', WHERE WHAT IT READS IS OF BULK AT MOST 1048576: true; the input reads as it did. -/
def frameTilesUptoRow : OpenClaim := { program := "ythnagpmnoncijaagreat", sum := "8fa6b48a65c3120f50d5cccd7fca54a1c2a66e44922313dd58835afa4b70b17c", func := "glazier/glazierlaw23.FrameTiles", spec := "frameTiles", inPlace := ["slices.overlaps[glazier/api.Frag]"], unfollowed := true, recurses := true, named := ["math/bits.divideError", "math/bits.overflowError"], plainKeys := false, apart := false, narrowed := true }
def FrameTilesUptoSaid : Prop := frameTilesUptoRow.holds Tryz.pinned (OpenSpec.upto frameTilesSpec)

end Rows
end Go.Proofs.YthnagpmnoncijaaGreat
