/-
  No cell of these rows narrows 'for every input' (looked for: loops, veiled, ifaces, maps, wideKeys, modest, calm, conditions, laid).
  DERIVED. THE GIVEN ROWS OF THIS SEAT. 6 by the template 'for every input the law returns true; each argument reads behind the call as it read before'; 0 by the template 'total and deterministic' (their statements: YtjflobchmpmeoaaTotals.lean).
  GIVEN WITH THE SEED: the statements are not yours to turn. If you find one false, say at which input.
  Laid BY PROGRAM, IN A SANDBOX (cutbox-rows.mjs): the forced cells as the released guide's own fill.sh prints them over the translation 1a2db50822892f02… (all of the seat's roots in one cut). By AI agents, Wed Nov 11 2026. No macro, syntax, notation, axiom, sorry.
-/
import Derived.Test.YtjflobchmpmeoaaChecked
import GoSem.Claim
import GoSem.ClaimJoined
import GoSem.ClaimMapViews
import Derived.JoinedTies
import Derived.KernelRfl
namespace Go.Proofs.Ytjflobchmpmeoaa
/- THE CELL 'sum', in the pinned program and in every row, IS THE sha256 OF THE DUMP (.gsa) THAT YtjflobchmpmeoaaProg.lean LOADS. Nothing in Lean hashes anything: it is a label: what it is worth is what the hold of that sum in a sandbox is worth. -/
noncomputable def Try.pinned : Pinned := { name := "ytjflobchmpmeoaa", sum := "1a2db50822892f029fa8740bea59e41f498690609928a94328500847693d2b11", checked := Try.checked }
namespace Rows
def none {H : Type} : Left H := { results := [], args := [] }

/-- 'glazierlaw06.ViewMiddle': WHATEVER THE INPUT: true; the input reads as it did. -/
def viewMiddleSpec : ChangeSpec := { name := "viewMiddle", fn := fun _ => fun
  | [d1, d2] => { results := [.lit (.bool true)], args := [d1, d2] }
  | _ => none }
def viewMiddleRow : OpenClaim := { program := "ytjflobchmpmeoaa", sum := "1a2db50822892f029fa8740bea59e41f498690609928a94328500847693d2b11", func := "glazier/glazierlaw06.ViewMiddle", spec := "viewMiddle", unfollowed := true, recurses := true, named := ["math/bits.divideError", "math/bits.overflowError"], apart := false }
def ViewMiddleSaid : Prop := viewMiddleRow.holds Try.pinned (OpenSpec.ofChange viewMiddleSpec)

/-- ITS FALSE NEIGHBOUR: 'it returns false'. Refute it at one input. -/
def viewMiddleWrong : ChangeSpec := { name := "viewMiddle", fn := fun _ => fun
  | [d1, d2] => { results := [.lit (.bool false)], args := [d1, d2] }
  | _ => none }
def ViewMiddleWrongFalsely : Prop := viewMiddleRow.holds Try.pinned (OpenSpec.ofChange viewMiddleWrong)

/-- 'glazierlaw06.ViewOrder': WHATEVER THE INPUT: true; the input reads as it did. -/
def viewOrderSpec : ChangeSpec := { name := "viewOrder", fn := fun _ => fun
  | [d1, d2] => { results := [.lit (.bool true)], args := [d1, d2] }
  | _ => none }
def viewOrderRow : OpenClaim := { program := "ytjflobchmpmeoaa", sum := "1a2db50822892f029fa8740bea59e41f498690609928a94328500847693d2b11", func := "glazier/glazierlaw06.ViewOrder", spec := "viewOrder", unfollowed := true, recurses := true, named := ["math/bits.divideError", "math/bits.overflowError"], apart := false }
def ViewOrderSaid : Prop := viewOrderRow.holds Try.pinned (OpenSpec.ofChange viewOrderSpec)

/-- ITS FALSE NEIGHBOUR: 'it returns false'. Refute it at one input. -/
def viewOrderWrong : ChangeSpec := { name := "viewOrder", fn := fun _ => fun
  | [d1, d2] => { results := [.lit (.bool false)], args := [d1, d2] }
  | _ => none }
def ViewOrderWrongFalsely : Prop := viewOrderRow.holds Try.pinned (OpenSpec.ofChange viewOrderWrong)

/-- 'glazierlaw06.ViewWider': WHATEVER THE INPUT: true; the input reads as it did. -/
def viewWiderSpec : ChangeSpec := { name := "viewWider", fn := fun _ => fun
  | [d1, d2] => { results := [.lit (.bool true)], args := [d1, d2] }
  | _ => none }
def viewWiderRow : OpenClaim := { program := "ytjflobchmpmeoaa", sum := "1a2db50822892f029fa8740bea59e41f498690609928a94328500847693d2b11", func := "glazier/glazierlaw06.ViewWider", spec := "viewWider", unfollowed := true, recurses := true, named := ["math/bits.divideError", "math/bits.overflowError"], apart := false }
def ViewWiderSaid : Prop := viewWiderRow.holds Try.pinned (OpenSpec.ofChange viewWiderSpec)

/-- ITS FALSE NEIGHBOUR: 'it returns false'. Refute it at one input. -/
def viewWiderWrong : ChangeSpec := { name := "viewWider", fn := fun _ => fun
  | [d1, d2] => { results := [.lit (.bool false)], args := [d1, d2] }
  | _ => none }
def ViewWiderWrongFalsely : Prop := viewWiderRow.holds Try.pinned (OpenSpec.ofChange viewWiderWrong)

/-- 'glazierlaw06.ViewPixels': WHATEVER THE INPUT: true; the input reads as it did. -/
def viewPixelsSpec : ChangeSpec := { name := "viewPixels", fn := fun _ => fun
  | [d] => { results := [.lit (.bool true)], args := [d] }
  | _ => none }
def viewPixelsRow : OpenClaim := { program := "ytjflobchmpmeoaa", sum := "1a2db50822892f029fa8740bea59e41f498690609928a94328500847693d2b11", func := "glazier/glazierlaw06.ViewPixels", spec := "viewPixels", unfollowed := true, recurses := true, named := ["math/bits.divideError", "math/bits.overflowError"], apart := false }
def ViewPixelsSaid : Prop := viewPixelsRow.holds Try.pinned (OpenSpec.ofChange viewPixelsSpec)

/-- ITS FALSE NEIGHBOUR: 'it returns false'. Refute it at one input. -/
def viewPixelsWrong : ChangeSpec := { name := "viewPixels", fn := fun _ => fun
  | [d] => { results := [.lit (.bool false)], args := [d] }
  | _ => none }
def ViewPixelsWrongFalsely : Prop := viewPixelsRow.holds Try.pinned (OpenSpec.ofChange viewPixelsWrong)

/-- 'glazierlaw06.ViewRefuses': WHATEVER THE INPUT: true; the input reads as it did. -/
def viewRefusesSpec : ChangeSpec := { name := "viewRefuses", fn := fun _ => fun
  | [d1, d2, d3] => { results := [.lit (.bool true)], args := [d1, d2, d3] }
  | _ => none }
def viewRefusesRow : OpenClaim := { program := "ytjflobchmpmeoaa", sum := "1a2db50822892f029fa8740bea59e41f498690609928a94328500847693d2b11", func := "glazier/glazierlaw06.ViewRefuses", spec := "viewRefuses", unfollowed := true, recurses := true, named := ["math/bits.divideError", "math/bits.overflowError"], apart := false }
def ViewRefusesSaid : Prop := viewRefusesRow.holds Try.pinned (OpenSpec.ofChange viewRefusesSpec)

/-- ITS FALSE NEIGHBOUR: 'it returns false'. Refute it at one input. -/
def viewRefusesWrong : ChangeSpec := { name := "viewRefuses", fn := fun _ => fun
  | [d1, d2, d3] => { results := [.lit (.bool false)], args := [d1, d2, d3] }
  | _ => none }
def ViewRefusesWrongFalsely : Prop := viewRefusesRow.holds Try.pinned (OpenSpec.ofChange viewRefusesWrong)

/-- 'glazierlaw06.ViewAll': WHATEVER THE INPUT: true; the input reads as it did. -/
def viewAllSpec : ChangeSpec := { name := "viewAll", fn := fun _ => fun
  | [d1, d2, d3] => { results := [.lit (.bool true)], args := [d1, d2, d3] }
  | _ => none }
def viewAllRow : OpenClaim := { program := "ytjflobchmpmeoaa", sum := "1a2db50822892f029fa8740bea59e41f498690609928a94328500847693d2b11", func := "glazier/glazierlaw06.ViewAll", spec := "viewAll", unfollowed := true, recurses := true, named := ["math/bits.divideError", "math/bits.overflowError"], apart := false }
def ViewAllSaid : Prop := viewAllRow.holds Try.pinned (OpenSpec.ofChange viewAllSpec)

/-- ITS FALSE NEIGHBOUR: 'it returns false'. Refute it at one input. -/
def viewAllWrong : ChangeSpec := { name := "viewAll", fn := fun _ => fun
  | [d1, d2, d3] => { results := [.lit (.bool false)], args := [d1, d2, d3] }
  | _ => none }
def ViewAllWrongFalsely : Prop := viewAllRow.holds Try.pinned (OpenSpec.ofChange viewAllWrong)

/- THE SECOND FORM. 'bulk': how many values and letters a reading holds, each counted each time it is reached (what is shared counts as often as it is met; a slice's spare places count too). A statement '..UptoSaid' is the law's where the arguments, and the package variables that the reading takes, are together of bulk at most 1048576: NARROWER than '..Said'. Prove '..Said' where nothing that the law and all that it calls make is longer than what came in: it says more and counts as full. Else prove '..UptoSaid'. A law counts once. -/
mutual
def uptoBulk {H : Type} : DataW H → Nat
  | .lit (.string bytes) => bytes.length + 1
  | .lit _ => 1
  | .nil => 1
  | .ptr d => uptoBulk d + 1
  | .slice elems spare => uptoBulkAll elems + uptoBulkAll spare + 1
  | .agg parts => uptoBulkAll parts + 1
  | .iface _ d => uptoBulk d + 1
  | .map entries => uptoBulkEntries entries + 1
  | .held _ => 1
def uptoBulkAll {H : Type} : List (DataW H) → Nat
  | [] => 0
  | d :: r => uptoBulk d + uptoBulkAll r
def uptoBulkEntries {H : Type} : List (Lit × DataW H) → Nat
  | [] => 0
  | x :: r => uptoBulkEntry x + uptoBulkEntries r
def uptoBulkEntry {H : Type} : Lit × DataW H → Nat
  | (.string bytes, d) => bytes.length + uptoBulk d + 1
  | (_, d) => uptoBulk d + 1
 end
def uptoSmall : (H : Type) → List (DataW H) → Bool := fun _ ds => decide (uptoBulkAll ds ≤ 1048576)
def OpenSpec.upto (s : _root_.Go.ChangeSpec) : _root_.Go.OpenSpec := { _root_.Go.OpenSpec.ofChange s with cond := some uptoSmall }

/-- 'glazierlaw06.ViewMiddle', WHERE WHAT IT READS IS OF BULK AT MOST 1048576: true; the input reads as it did. -/
def viewMiddleUptoRow : OpenClaim := { program := "ytjflobchmpmeoaa", sum := "1a2db50822892f029fa8740bea59e41f498690609928a94328500847693d2b11", func := "glazier/glazierlaw06.ViewMiddle", spec := "viewMiddle", unfollowed := true, recurses := true, named := ["math/bits.divideError", "math/bits.overflowError"], apart := false, narrowed := true }
def ViewMiddleUptoSaid : Prop := viewMiddleUptoRow.holds Try.pinned (OpenSpec.upto viewMiddleSpec)

/-- 'glazierlaw06.ViewOrder', WHERE WHAT IT READS IS OF BULK AT MOST 1048576: true; the input reads as it did. -/
def viewOrderUptoRow : OpenClaim := { program := "ytjflobchmpmeoaa", sum := "1a2db50822892f029fa8740bea59e41f498690609928a94328500847693d2b11", func := "glazier/glazierlaw06.ViewOrder", spec := "viewOrder", unfollowed := true, recurses := true, named := ["math/bits.divideError", "math/bits.overflowError"], apart := false, narrowed := true }
def ViewOrderUptoSaid : Prop := viewOrderUptoRow.holds Try.pinned (OpenSpec.upto viewOrderSpec)

/-- 'glazierlaw06.ViewWider', WHERE WHAT IT READS IS OF BULK AT MOST 1048576: true; the input reads as it did. -/
def viewWiderUptoRow : OpenClaim := { program := "ytjflobchmpmeoaa", sum := "1a2db50822892f029fa8740bea59e41f498690609928a94328500847693d2b11", func := "glazier/glazierlaw06.ViewWider", spec := "viewWider", unfollowed := true, recurses := true, named := ["math/bits.divideError", "math/bits.overflowError"], apart := false, narrowed := true }
def ViewWiderUptoSaid : Prop := viewWiderUptoRow.holds Try.pinned (OpenSpec.upto viewWiderSpec)

/-- 'glazierlaw06.ViewPixels', WHERE WHAT IT READS IS OF BULK AT MOST 1048576: true; the input reads as it did. -/
def viewPixelsUptoRow : OpenClaim := { program := "ytjflobchmpmeoaa", sum := "1a2db50822892f029fa8740bea59e41f498690609928a94328500847693d2b11", func := "glazier/glazierlaw06.ViewPixels", spec := "viewPixels", unfollowed := true, recurses := true, named := ["math/bits.divideError", "math/bits.overflowError"], apart := false, narrowed := true }
def ViewPixelsUptoSaid : Prop := viewPixelsUptoRow.holds Try.pinned (OpenSpec.upto viewPixelsSpec)

/-- 'glazierlaw06.ViewRefuses', WHERE WHAT IT READS IS OF BULK AT MOST 1048576: true; the input reads as it did. -/
def viewRefusesUptoRow : OpenClaim := { program := "ytjflobchmpmeoaa", sum := "1a2db50822892f029fa8740bea59e41f498690609928a94328500847693d2b11", func := "glazier/glazierlaw06.ViewRefuses", spec := "viewRefuses", unfollowed := true, recurses := true, named := ["math/bits.divideError", "math/bits.overflowError"], apart := false, narrowed := true }
def ViewRefusesUptoSaid : Prop := viewRefusesUptoRow.holds Try.pinned (OpenSpec.upto viewRefusesSpec)

/-- 'glazierlaw06.ViewAll', WHERE WHAT IT READS IS OF BULK AT MOST 1048576: true; the input reads as it did. -/
def viewAllUptoRow : OpenClaim := { program := "ytjflobchmpmeoaa", sum := "1a2db50822892f029fa8740bea59e41f498690609928a94328500847693d2b11", func := "glazier/glazierlaw06.ViewAll", spec := "viewAll", unfollowed := true, recurses := true, named := ["math/bits.divideError", "math/bits.overflowError"], apart := false, narrowed := true }
def ViewAllUptoSaid : Prop := viewAllUptoRow.holds Try.pinned (OpenSpec.upto viewAllSpec)

end Rows
end Go.Proofs.Ytjflobchmpmeoaa
