/-
  No cell of these rows narrows 'for every input' (looked for: loops, veiled, ifaces, maps, wideKeys, modest, calm, conditions, laid).
  DERIVED. THE GIVEN ROWS OF THIS SEAT. 5 by the template 'for every input the law returns true; each argument reads behind the call as it read before'; 0 by the template 'total and deterministic' (their statements: YtomndhdpdhiplaaTotals.lean).
  GIVEN WITH THE SEED: the statements are not yours to turn. If you find one false, say at which input.
  Laid BY PROGRAM, IN A SANDBOX (cutbox-rows.mjs): the forced cells as the released guide's own fill.sh prints them over the translation 491179bf6e8eec48… (all of the seat's roots in one cut). By AI agents, Wed Nov 11 2026. No macro, syntax, notation, axiom, sorry.
-/
import Derived.Test.YtomndhdpdhiplaaChecked
import GoSem.Claim
import GoSem.ClaimJoined
import GoSem.ClaimMapViews
import Derived.JoinedTies
import Derived.KernelRfl
namespace Go.Proofs.Ytomndhdpdhiplaa
/- THE CELL 'sum', in the pinned program and in every row, IS THE sha256 OF THE DUMP (.gsa) THAT YtomndhdpdhiplaaProg.lean LOADS. Nothing in Lean hashes anything: it is a label: what it is worth is what the hold of that sum in a sandbox is worth. -/
noncomputable def Try.pinned : Pinned := { name := "ytomndhdpdhiplaa", sum := "491179bf6e8eec48bdcd3d2bf96cd55d71904a3eba97ea00f2b2797acaf5d054", checked := Try.checked }
namespace Rows
def none {H : Type} : Left H := { results := [], args := [] }

/-- 'glazierlaw11.TextureRight': WHATEVER THE INPUT: true; the input reads as it did. -/
def textureRightSpec : ChangeSpec := { name := "textureRight", fn := fun _ => fun
  | [d1, d2, d3] => { results := [.lit (.bool true)], args := [d1, d2, d3] }
  | _ => none }
def textureRightRow : OpenClaim := { program := "ytomndhdpdhiplaa", sum := "491179bf6e8eec48bdcd3d2bf96cd55d71904a3eba97ea00f2b2797acaf5d054", func := "glazier/glazierlaw11.TextureRight", spec := "textureRight", unfollowed := true, recurses := true, named := ["math/bits.divideError", "math/bits.overflowError"], apart := false }
def TextureRightSaid : Prop := textureRightRow.holds Try.pinned (OpenSpec.ofChange textureRightSpec)

/-- ITS FALSE NEIGHBOUR: 'it returns false'. Refute it at one input. -/
def textureRightWrong : ChangeSpec := { name := "textureRight", fn := fun _ => fun
  | [d1, d2, d3] => { results := [.lit (.bool false)], args := [d1, d2, d3] }
  | _ => none }
def TextureRightWrongFalsely : Prop := textureRightRow.holds Try.pinned (OpenSpec.ofChange textureRightWrong)

/-- 'glazierlaw11.TextureAll': WHATEVER THE INPUT: true; the input reads as it did. -/
def textureAllSpec : ChangeSpec := { name := "textureAll", fn := fun _ => fun
  | [d1, d2, d3] => { results := [.lit (.bool true)], args := [d1, d2, d3] }
  | _ => none }
def textureAllRow : OpenClaim := { program := "ytomndhdpdhiplaa", sum := "491179bf6e8eec48bdcd3d2bf96cd55d71904a3eba97ea00f2b2797acaf5d054", func := "glazier/glazierlaw11.TextureAll", spec := "textureAll", unfollowed := true, recurses := true, named := ["math/bits.divideError", "math/bits.overflowError"], apart := false }
def TextureAllSaid : Prop := textureAllRow.holds Try.pinned (OpenSpec.ofChange textureAllSpec)

/-- ITS FALSE NEIGHBOUR: 'it returns false'. Refute it at one input. -/
def textureAllWrong : ChangeSpec := { name := "textureAll", fn := fun _ => fun
  | [d1, d2, d3] => { results := [.lit (.bool false)], args := [d1, d2, d3] }
  | _ => none }
def TextureAllWrongFalsely : Prop := textureAllRow.holds Try.pinned (OpenSpec.ofChange textureAllWrong)

/-- 'glazierlaw11.TextureMiddles': WHATEVER THE INPUT: true; the input reads as it did. -/
def textureMiddlesSpec : ChangeSpec := { name := "textureMiddles", fn := fun _ => fun
  | [d1, d2, d3] => { results := [.lit (.bool true)], args := [d1, d2, d3] }
  | _ => none }
def textureMiddlesRow : OpenClaim := { program := "ytomndhdpdhiplaa", sum := "491179bf6e8eec48bdcd3d2bf96cd55d71904a3eba97ea00f2b2797acaf5d054", func := "glazier/glazierlaw11.TextureMiddles", spec := "textureMiddles", unfollowed := true, recurses := true, named := ["math/bits.divideError", "math/bits.overflowError"], apart := false }
def TextureMiddlesSaid : Prop := textureMiddlesRow.holds Try.pinned (OpenSpec.ofChange textureMiddlesSpec)

/-- ITS FALSE NEIGHBOUR: 'it returns false'. Refute it at one input. -/
def textureMiddlesWrong : ChangeSpec := { name := "textureMiddles", fn := fun _ => fun
  | [d1, d2, d3] => { results := [.lit (.bool false)], args := [d1, d2, d3] }
  | _ => none }
def TextureMiddlesWrongFalsely : Prop := textureMiddlesRow.holds Try.pinned (OpenSpec.ofChange textureMiddlesWrong)

/-- 'glazierlaw11.TextureOne': WHATEVER THE INPUT: true; the input reads as it did. -/
def textureOneSpec : ChangeSpec := { name := "textureOne", fn := fun _ => fun
  | [d1, d2, d3] => { results := [.lit (.bool true)], args := [d1, d2, d3] }
  | _ => none }
def textureOneRow : OpenClaim := { program := "ytomndhdpdhiplaa", sum := "491179bf6e8eec48bdcd3d2bf96cd55d71904a3eba97ea00f2b2797acaf5d054", func := "glazier/glazierlaw11.TextureOne", spec := "textureOne", unfollowed := true, recurses := true, named := ["math/bits.divideError", "math/bits.overflowError"], apart := false }
def TextureOneSaid : Prop := textureOneRow.holds Try.pinned (OpenSpec.ofChange textureOneSpec)

/-- ITS FALSE NEIGHBOUR: 'it returns false'. Refute it at one input. -/
def textureOneWrong : ChangeSpec := { name := "textureOne", fn := fun _ => fun
  | [d1, d2, d3] => { results := [.lit (.bool false)], args := [d1, d2, d3] }
  | _ => none }
def TextureOneWrongFalsely : Prop := textureOneRow.holds Try.pinned (OpenSpec.ofChange textureOneWrong)

/-- 'glazierlaw11.TextureShifts': WHATEVER THE INPUT: true; the input reads as it did. -/
def textureShiftsSpec : ChangeSpec := { name := "textureShifts", fn := fun _ => fun
  | [d1, d2, d3] => { results := [.lit (.bool true)], args := [d1, d2, d3] }
  | _ => none }
def textureShiftsRow : OpenClaim := { program := "ytomndhdpdhiplaa", sum := "491179bf6e8eec48bdcd3d2bf96cd55d71904a3eba97ea00f2b2797acaf5d054", func := "glazier/glazierlaw11.TextureShifts", spec := "textureShifts", unfollowed := true, recurses := true, named := ["math/bits.divideError", "math/bits.overflowError"], apart := false }
def TextureShiftsSaid : Prop := textureShiftsRow.holds Try.pinned (OpenSpec.ofChange textureShiftsSpec)

/-- ITS FALSE NEIGHBOUR: 'it returns false'. Refute it at one input. -/
def textureShiftsWrong : ChangeSpec := { name := "textureShifts", fn := fun _ => fun
  | [d1, d2, d3] => { results := [.lit (.bool false)], args := [d1, d2, d3] }
  | _ => none }
def TextureShiftsWrongFalsely : Prop := textureShiftsRow.holds Try.pinned (OpenSpec.ofChange textureShiftsWrong)

/- THE SECOND FORM. 'bulk': how many values and letters a reading holds, each counted each time it is reached (what is shared counts as often as it is met; a slice's spare places count too). A statement '..UptoSaid' is the law's where the arguments, and the package variables that the reading takes, are together of bulk at most 1048576: NARROWER than '..Said'. Prove '..Said' where nothing that the law and all that it calls make is longer than what came in: it says more and counts as full. Else prove '..UptoSaid'. A law counts once. -/
mutual
def uptoBulk {H : Type} : DataW H → Nat
  | .lit (.string bytes) => bytes.length + 1
  | .lit _ => 1
  | .nil => 1
  | .ptr d => uptoBulk d + 1
  | .slice elems spare => uptoBulkAll elems + uptoBulkAll spare + 1
  | .agg parts => uptoBulkAll parts + 1
  | .iface _ d => uptoBulk d + 1
  | .map entries => uptoBulkEntries entries + 1
  | .held _ => 1
def uptoBulkAll {H : Type} : List (DataW H) → Nat
  | [] => 0
  | d :: r => uptoBulk d + uptoBulkAll r
def uptoBulkEntries {H : Type} : List (Lit × DataW H) → Nat
  | [] => 0
  | x :: r => uptoBulkEntry x + uptoBulkEntries r
def uptoBulkEntry {H : Type} : Lit × DataW H → Nat
  | (.string bytes, d) => bytes.length + uptoBulk d + 1
  | (_, d) => uptoBulk d + 1
 end
def uptoSmall : (H : Type) → List (DataW H) → Bool := fun _ ds => decide (uptoBulkAll ds ≤ 1048576)
def OpenSpec.upto (s : _root_.Go.ChangeSpec) : _root_.Go.OpenSpec := { _root_.Go.OpenSpec.ofChange s with cond := some uptoSmall }

/-- 'glazierlaw11.TextureRight', WHERE WHAT IT READS IS OF BULK AT MOST 1048576: true; the input reads as it did. -/
def textureRightUptoRow : OpenClaim := { program := "ytomndhdpdhiplaa", sum := "491179bf6e8eec48bdcd3d2bf96cd55d71904a3eba97ea00f2b2797acaf5d054", func := "glazier/glazierlaw11.TextureRight", spec := "textureRight", unfollowed := true, recurses := true, named := ["math/bits.divideError", "math/bits.overflowError"], apart := false, narrowed := true }
def TextureRightUptoSaid : Prop := textureRightUptoRow.holds Try.pinned (OpenSpec.upto textureRightSpec)

/-- 'glazierlaw11.TextureAll', WHERE WHAT IT READS IS OF BULK AT MOST 1048576: true; the input reads as it did. -/
def textureAllUptoRow : OpenClaim := { program := "ytomndhdpdhiplaa", sum := "491179bf6e8eec48bdcd3d2bf96cd55d71904a3eba97ea00f2b2797acaf5d054", func := "glazier/glazierlaw11.TextureAll", spec := "textureAll", unfollowed := true, recurses := true, named := ["math/bits.divideError", "math/bits.overflowError"], apart := false, narrowed := true }
def TextureAllUptoSaid : Prop := textureAllUptoRow.holds Try.pinned (OpenSpec.upto textureAllSpec)

/-- 'glazierlaw11.TextureMiddles', WHERE WHAT IT READS IS OF BULK AT MOST 1048576: true; the input reads as it did. -/
def textureMiddlesUptoRow : OpenClaim := { program := "ytomndhdpdhiplaa", sum := "491179bf6e8eec48bdcd3d2bf96cd55d71904a3eba97ea00f2b2797acaf5d054", func := "glazier/glazierlaw11.TextureMiddles", spec := "textureMiddles", unfollowed := true, recurses := true, named := ["math/bits.divideError", "math/bits.overflowError"], apart := false, narrowed := true }
def TextureMiddlesUptoSaid : Prop := textureMiddlesUptoRow.holds Try.pinned (OpenSpec.upto textureMiddlesSpec)

/-- 'glazierlaw11.TextureOne', WHERE WHAT IT READS IS OF BULK AT MOST 1048576: true; the input reads as it did. -/
def textureOneUptoRow : OpenClaim := { program := "ytomndhdpdhiplaa", sum := "491179bf6e8eec48bdcd3d2bf96cd55d71904a3eba97ea00f2b2797acaf5d054", func := "glazier/glazierlaw11.TextureOne", spec := "textureOne", unfollowed := true, recurses := true, named := ["math/bits.divideError", "math/bits.overflowError"], apart := false, narrowed := true }
def TextureOneUptoSaid : Prop := textureOneUptoRow.holds Try.pinned (OpenSpec.upto textureOneSpec)

/-- 'glazierlaw11.TextureShifts', WHERE WHAT IT READS IS OF BULK AT MOST 1048576: true; the input reads as it did. -/
def textureShiftsUptoRow : OpenClaim := { program := "ytomndhdpdhiplaa", sum := "491179bf6e8eec48bdcd3d2bf96cd55d71904a3eba97ea00f2b2797acaf5d054", func := "glazier/glazierlaw11.TextureShifts", spec := "textureShifts", unfollowed := true, recurses := true, named := ["math/bits.divideError", "math/bits.overflowError"], apart := false, narrowed := true }
def TextureShiftsUptoSaid : Prop := textureShiftsUptoRow.holds Try.pinned (OpenSpec.upto textureShiftsSpec)

end Rows
end Go.Proofs.Ytomndhdpdhiplaa
