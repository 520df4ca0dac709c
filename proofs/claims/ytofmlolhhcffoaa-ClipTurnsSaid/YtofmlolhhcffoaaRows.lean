/-
  No cell of these rows narrows 'for every input' (looked for: loops, veiled, ifaces, maps, wideKeys, modest, calm, conditions, laid).
  DERIVED. THE GIVEN ROWS OF THIS SEAT. 6 by the template 'for every input the law returns true; each argument reads behind the call as it read before'; 0 by the template 'total and deterministic' (their statements: YtofmlolhhcffoaaTotals.lean).
  GIVEN WITH THE SEED: the statements are not yours to turn. If you find one false, say at which input.
  Laid BY PROGRAM, IN A SANDBOX (cutbox-rows.mjs): the forced cells as the released guide's own fill.sh prints them over the translation b934690a255dabdc… (all of the seat's roots in one cut). By AI agents, Wed Nov 11 2026. No macro, syntax, notation, axiom, sorry.
-/
import Derived.Test.YtofmlolhhcffoaaChecked
import GoSem.Claim
import GoSem.ClaimJoined
import GoSem.ClaimMapViews
import Derived.JoinedTies
import Derived.KernelRfl
namespace Go.Proofs.Ytofmlolhhcffoaa
/- THE CELL 'sum', in the pinned program and in every row, IS THE sha256 OF THE DUMP (.gsa) THAT YtofmlolhhcffoaaProg.lean LOADS. Nothing in Lean hashes anything: it is a label: what it is worth is what the hold of that sum in a sandbox is worth. -/
noncomputable def Try.pinned : Pinned := { name := "ytofmlolhhcffoaa", sum := "b934690a255dabdc3512748fee263b6288e534b225770300e63b0547be695c31", checked := Try.checked }
namespace Rows
def none {H : Type} : Left H := { results := [], args := [] }

/-- 'glazierlaw05.ClipTurns': WHATEVER THE INPUT: true; the input reads as it did. -/
def clipTurnsSpec : ChangeSpec := { name := "clipTurns", fn := fun _ => fun
  | [d1, d2, d3] => { results := [.lit (.bool true)], args := [d1, d2, d3] }
  | _ => none }
def clipTurnsRow : OpenClaim := { program := "ytofmlolhhcffoaa", sum := "b934690a255dabdc3512748fee263b6288e534b225770300e63b0547be695c31", func := "glazier/glazierlaw05.ClipTurns", spec := "clipTurns", named := ["math/bits.divideError", "math/bits.overflowError"], apart := false }
def ClipTurnsSaid : Prop := clipTurnsRow.holds Try.pinned (OpenSpec.ofChange clipTurnsSpec)

/-- ITS FALSE NEIGHBOUR: 'it returns false'. Refute it at one input. -/
def clipTurnsWrong : ChangeSpec := { name := "clipTurns", fn := fun _ => fun
  | [d1, d2, d3] => { results := [.lit (.bool false)], args := [d1, d2, d3] }
  | _ => none }
def ClipTurnsWrongFalsely : Prop := clipTurnsRow.holds Try.pinned (OpenSpec.ofChange clipTurnsWrong)

/-- 'glazierlaw05.ClipAll': WHATEVER THE INPUT: true; the input reads as it did. -/
def clipAllSpec : ChangeSpec := { name := "clipAll", fn := fun _ => fun
  | [d1, d2] => { results := [.lit (.bool true)], args := [d1, d2] }
  | _ => none }
def clipAllRow : OpenClaim := { program := "ytofmlolhhcffoaa", sum := "b934690a255dabdc3512748fee263b6288e534b225770300e63b0547be695c31", func := "glazier/glazierlaw05.ClipAll", spec := "clipAll", named := ["math/bits.divideError", "math/bits.overflowError"], apart := false }
def ClipAllSaid : Prop := clipAllRow.holds Try.pinned (OpenSpec.ofChange clipAllSpec)

/-- ITS FALSE NEIGHBOUR: 'it returns false'. Refute it at one input. -/
def clipAllWrong : ChangeSpec := { name := "clipAll", fn := fun _ => fun
  | [d1, d2] => { results := [.lit (.bool false)], args := [d1, d2] }
  | _ => none }
def ClipAllWrongFalsely : Prop := clipAllRow.holds Try.pinned (OpenSpec.ofChange clipAllWrong)

/-- 'glazierlaw05.ClipStays': WHATEVER THE INPUT: true; the input reads as it did. -/
def clipStaysSpec : ChangeSpec := { name := "clipStays", fn := fun _ => fun
  | [d1, d2] => { results := [.lit (.bool true)], args := [d1, d2] }
  | _ => none }
def clipStaysRow : OpenClaim := { program := "ytofmlolhhcffoaa", sum := "b934690a255dabdc3512748fee263b6288e534b225770300e63b0547be695c31", func := "glazier/glazierlaw05.ClipStays", spec := "clipStays", named := ["math/bits.divideError", "math/bits.overflowError"], apart := false }
def ClipStaysSaid : Prop := clipStaysRow.holds Try.pinned (OpenSpec.ofChange clipStaysSpec)

/-- ITS FALSE NEIGHBOUR: 'it returns false'. Refute it at one input. -/
def clipStaysWrong : ChangeSpec := { name := "clipStays", fn := fun _ => fun
  | [d1, d2] => { results := [.lit (.bool false)], args := [d1, d2] }
  | _ => none }
def ClipStaysWrongFalsely : Prop := clipStaysRow.holds Try.pinned (OpenSpec.ofChange clipStaysWrong)

/-- 'glazierlaw05.ClipFew': WHATEVER THE INPUT: true; the input reads as it did. -/
def clipFewSpec : ChangeSpec := { name := "clipFew", fn := fun _ => fun
  | [d] => { results := [.lit (.bool true)], args := [d] }
  | _ => none }
def clipFewRow : OpenClaim := { program := "ytofmlolhhcffoaa", sum := "b934690a255dabdc3512748fee263b6288e534b225770300e63b0547be695c31", func := "glazier/glazierlaw05.ClipFew", spec := "clipFew", named := ["math/bits.divideError", "math/bits.overflowError"], apart := false }
def ClipFewSaid : Prop := clipFewRow.holds Try.pinned (OpenSpec.ofChange clipFewSpec)

/-- ITS FALSE NEIGHBOUR: 'it returns false'. Refute it at one input. -/
def clipFewWrong : ChangeSpec := { name := "clipFew", fn := fun _ => fun
  | [d] => { results := [.lit (.bool false)], args := [d] }
  | _ => none }
def ClipFewWrongFalsely : Prop := clipFewRow.holds Try.pinned (OpenSpec.ofChange clipFewWrong)

/-- 'glazierlaw05.ClipAgain': WHATEVER THE INPUT: true; the input reads as it did. -/
def clipAgainSpec : ChangeSpec := { name := "clipAgain", fn := fun _ => fun
  | [d1, d2] => { results := [.lit (.bool true)], args := [d1, d2] }
  | _ => none }
def clipAgainRow : OpenClaim := { program := "ytofmlolhhcffoaa", sum := "b934690a255dabdc3512748fee263b6288e534b225770300e63b0547be695c31", func := "glazier/glazierlaw05.ClipAgain", spec := "clipAgain", named := ["math/bits.divideError", "math/bits.overflowError"], apart := false }
def ClipAgainSaid : Prop := clipAgainRow.holds Try.pinned (OpenSpec.ofChange clipAgainSpec)

/-- ITS FALSE NEIGHBOUR: 'it returns false'. Refute it at one input. -/
def clipAgainWrong : ChangeSpec := { name := "clipAgain", fn := fun _ => fun
  | [d1, d2] => { results := [.lit (.bool false)], args := [d1, d2] }
  | _ => none }
def ClipAgainWrongFalsely : Prop := clipAgainRow.holds Try.pinned (OpenSpec.ofChange clipAgainWrong)

/-- 'glazierlaw05.ClipPlanes': WHATEVER THE INPUT: true; the input reads as it did. -/
def clipPlanesSpec : ChangeSpec := { name := "clipPlanes", fn := fun _ => fun
  | [d] => { results := [.lit (.bool true)], args := [d] }
  | _ => none }
def clipPlanesRow : OpenClaim := { program := "ytofmlolhhcffoaa", sum := "b934690a255dabdc3512748fee263b6288e534b225770300e63b0547be695c31", func := "glazier/glazierlaw05.ClipPlanes", spec := "clipPlanes", named := ["math/bits.divideError", "math/bits.overflowError"], apart := false }
def ClipPlanesSaid : Prop := clipPlanesRow.holds Try.pinned (OpenSpec.ofChange clipPlanesSpec)

/-- ITS FALSE NEIGHBOUR: 'it returns false'. Refute it at one input. -/
def clipPlanesWrong : ChangeSpec := { name := "clipPlanes", fn := fun _ => fun
  | [d] => { results := [.lit (.bool false)], args := [d] }
  | _ => none }
def ClipPlanesWrongFalsely : Prop := clipPlanesRow.holds Try.pinned (OpenSpec.ofChange clipPlanesWrong)

/- THE SECOND FORM. 'bulk': how many values and letters a reading holds, each counted each time it is reached (what is shared counts as often as it is met; a slice's spare places count too). A statement '..UptoSaid' is the law's where the arguments, and the package variables that the reading takes, are together of bulk at most 1048576: NARROWER than '..Said'. Prove '..Said' where nothing that the law and all that it calls make is longer than what came in: it says more and counts as full. Else prove '..UptoSaid'. A law counts once. -/
mutual
def uptoBulk {H : Type} : DataW H → Nat
  | .lit (.string bytes) => bytes.length + 1
  | .lit _ => 1
  | .nil => 1
  | .ptr d => uptoBulk d + 1
  | .slice elems spare => uptoBulkAll elems + uptoBulkAll spare + 1
  | .agg parts => uptoBulkAll parts + 1
  | .iface _ d => uptoBulk d + 1
  | .map entries => uptoBulkEntries entries + 1
  | .held _ => 1
def uptoBulkAll {H : Type} : List (DataW H) → Nat
  | [] => 0
  | d :: r => uptoBulk d + uptoBulkAll r
def uptoBulkEntries {H : Type} : List (Lit × DataW H) → Nat
  | [] => 0
  | x :: r => uptoBulkEntry x + uptoBulkEntries r
def uptoBulkEntry {H : Type} : Lit × DataW H → Nat
  | (.string bytes, d) => bytes.length + uptoBulk d + 1
  | (_, d) => uptoBulk d + 1
 end
def uptoSmall : (H : Type) → List (DataW H) → Bool := fun _ ds => decide (uptoBulkAll ds ≤ 1048576)
def OpenSpec.upto (s : _root_.Go.ChangeSpec) : _root_.Go.OpenSpec := { _root_.Go.OpenSpec.ofChange s with cond := some uptoSmall }

/-- 'glazierlaw05.ClipTurns', WHERE WHAT IT READS IS OF BULK AT MOST 1048576: true; the input reads as it did. -/
def clipTurnsUptoRow : OpenClaim := { program := "ytofmlolhhcffoaa", sum := "b934690a255dabdc3512748fee263b6288e534b225770300e63b0547be695c31", func := "glazier/glazierlaw05.ClipTurns", spec := "clipTurns", named := ["math/bits.divideError", "math/bits.overflowError"], apart := false, narrowed := true }
def ClipTurnsUptoSaid : Prop := clipTurnsUptoRow.holds Try.pinned (OpenSpec.upto clipTurnsSpec)

/-- 'glazierlaw05.ClipAll', WHERE WHAT IT READS IS OF BULK AT MOST 1048576: true; the input reads as it did. -/
def clipAllUptoRow : OpenClaim := { program := "ytofmlolhhcffoaa", sum := "b934690a255dabdc3512748fee263b6288e534b225770300e63b0547be695c31", func := "glazier/glazierlaw05.ClipAll", spec := "clipAll", named := ["math/bits.divideError", "math/bits.overflowError"], apart := false, narrowed := true }
def ClipAllUptoSaid : Prop := clipAllUptoRow.holds Try.pinned (OpenSpec.upto clipAllSpec)

/-- 'glazierlaw05.ClipStays', WHERE WHAT IT READS IS OF BULK AT MOST 1048576: true; the input reads as it did. -/
def clipStaysUptoRow : OpenClaim := { program := "ytofmlolhhcffoaa", sum := "b934690a255dabdc3512748fee263b6288e534b225770300e63b0547be695c31", func := "glazier/glazierlaw05.ClipStays", spec := "clipStays", named := ["math/bits.divideError", "math/bits.overflowError"], apart := false, narrowed := true }
def ClipStaysUptoSaid : Prop := clipStaysUptoRow.holds Try.pinned (OpenSpec.upto clipStaysSpec)

/-- 'glazierlaw05.ClipFew', WHERE WHAT IT READS IS OF BULK AT MOST 1048576: true; the input reads as it did. -/
def clipFewUptoRow : OpenClaim := { program := "ytofmlolhhcffoaa", sum := "b934690a255dabdc3512748fee263b6288e534b225770300e63b0547be695c31", func := "glazier/glazierlaw05.ClipFew", spec := "clipFew", named := ["math/bits.divideError", "math/bits.overflowError"], apart := false, narrowed := true }
def ClipFewUptoSaid : Prop := clipFewUptoRow.holds Try.pinned (OpenSpec.upto clipFewSpec)

/-- 'glazierlaw05.ClipAgain', WHERE WHAT IT READS IS OF BULK AT MOST 1048576: true; the input reads as it did. -/
def clipAgainUptoRow : OpenClaim := { program := "ytofmlolhhcffoaa", sum := "b934690a255dabdc3512748fee263b6288e534b225770300e63b0547be695c31", func := "glazier/glazierlaw05.ClipAgain", spec := "clipAgain", named := ["math/bits.divideError", "math/bits.overflowError"], apart := false, narrowed := true }
def ClipAgainUptoSaid : Prop := clipAgainUptoRow.holds Try.pinned (OpenSpec.upto clipAgainSpec)

/-- 'glazierlaw05.ClipPlanes', WHERE WHAT IT READS IS OF BULK AT MOST 1048576: true; the input reads as it did. -/
def clipPlanesUptoRow : OpenClaim := { program := "ytofmlolhhcffoaa", sum := "b934690a255dabdc3512748fee263b6288e534b225770300e63b0547be695c31", func := "glazier/glazierlaw05.ClipPlanes", spec := "clipPlanes", named := ["math/bits.divideError", "math/bits.overflowError"], apart := false, narrowed := true }
def ClipPlanesUptoSaid : Prop := clipPlanesUptoRow.holds Try.pinned (OpenSpec.upto clipPlanesSpec)

end Rows
end Go.Proofs.Ytofmlolhhcffoaa
