/-
  No cell of these rows narrows 'for every input' (looked for: loops, veiled, ifaces, maps, wideKeys, modest, calm, conditions, laid).
  DERIVED. THE GIVEN ROWS OF THIS SEAT. 6 by the template 'for every input the law returns true; each argument reads behind the call as it read before'; 0 by the template 'total and deterministic' (their statements: YtaegoofefcidnaaTotals.lean).
  GIVEN WITH THE SEED: the statements are not yours to turn. If you find one false, say at which input.
  Laid BY PROGRAM, IN A SANDBOX (cutbox-rows.mjs): the forced cells as the released guide's own fill.sh prints them over the translation d11327a33dcb9f5b… (all of the seat's roots in one cut). By AI agents, Wed Nov 11 2026. No macro, syntax, notation, axiom, sorry.
-/
import Derived.Test.YtaegoofefcidnaaChecked
import GoSem.Claim
import GoSem.ClaimJoined
import GoSem.ClaimMapViews
import Derived.JoinedTies
import Derived.KernelRfl
namespace Go.Proofs.Ytaegoofefcidnaa
/- THE CELL 'sum', in the pinned program and in every row, IS THE sha256 OF THE DUMP (.gsa) THAT YtaegoofefcidnaaProg.lean LOADS. Nothing in Lean hashes anything: it is a label: what it is worth is what the hold of that sum in a sandbox is worth. -/
noncomputable def Try.pinned : Pinned := { name := "ytaegoofefcidnaa", sum := "d11327a33dcb9f5bab72dcd4132b8905cdbfd44d14cb96d56dc96334ee056c63", checked := Try.checked }
namespace Rows
def none {H : Type} : Left H := { results := [], args := [] }

/-- 'glazierlaw13.VmAll': WHATEVER THE INPUT: true; the input reads as it did. -/
def vmAllSpec : ChangeSpec := { name := "vmAll", fn := fun _ => fun
  | [d1, d2, d3] => { results := [.lit (.bool true)], args := [d1, d2, d3] }
  | _ => none }
def vmAllRow : OpenClaim := { program := "ytaegoofefcidnaa", sum := "d11327a33dcb9f5bab72dcd4132b8905cdbfd44d14cb96d56dc96334ee056c63", func := "glazier/glazierlaw13.VmAll", spec := "vmAll", unfollowed := true, recurses := true, named := ["math/bits.divideError", "math/bits.overflowError"], apart := false }
def VmAllSaid : Prop := vmAllRow.holds Try.pinned (OpenSpec.ofChange vmAllSpec)

/-- ITS FALSE NEIGHBOUR: 'it returns false'. Refute it at one input. -/
def vmAllWrong : ChangeSpec := { name := "vmAll", fn := fun _ => fun
  | [d1, d2, d3] => { results := [.lit (.bool false)], args := [d1, d2, d3] }
  | _ => none }
def VmAllWrongFalsely : Prop := vmAllRow.holds Try.pinned (OpenSpec.ofChange vmAllWrong)

/-- 'glazierlaw13.VmStays': WHATEVER THE INPUT: true; the input reads as it did. -/
def vmStaysSpec : ChangeSpec := { name := "vmStays", fn := fun _ => fun
  | [d1, d2, d3] => { results := [.lit (.bool true)], args := [d1, d2, d3] }
  | _ => none }
def vmStaysRow : OpenClaim := { program := "ytaegoofefcidnaa", sum := "d11327a33dcb9f5bab72dcd4132b8905cdbfd44d14cb96d56dc96334ee056c63", func := "glazier/glazierlaw13.VmStays", spec := "vmStays", unfollowed := true, recurses := true, named := ["math/bits.divideError", "math/bits.overflowError"], apart := false }
def VmStaysSaid : Prop := vmStaysRow.holds Try.pinned (OpenSpec.ofChange vmStaysSpec)

/-- ITS FALSE NEIGHBOUR: 'it returns false'. Refute it at one input. -/
def vmStaysWrong : ChangeSpec := { name := "vmStays", fn := fun _ => fun
  | [d1, d2, d3] => { results := [.lit (.bool false)], args := [d1, d2, d3] }
  | _ => none }
def VmStaysWrongFalsely : Prop := vmStaysRow.holds Try.pinned (OpenSpec.ofChange vmStaysWrong)

/-- 'glazierlaw13.VmReckons': WHATEVER THE INPUT: true; the input reads as it did. -/
def vmReckonsSpec : ChangeSpec := { name := "vmReckons", fn := fun _ => fun
  | [d1, d2, d3] => { results := [.lit (.bool true)], args := [d1, d2, d3] }
  | _ => none }
def vmReckonsRow : OpenClaim := { program := "ytaegoofefcidnaa", sum := "d11327a33dcb9f5bab72dcd4132b8905cdbfd44d14cb96d56dc96334ee056c63", func := "glazier/glazierlaw13.VmReckons", spec := "vmReckons", unfollowed := true, recurses := true, named := ["math/bits.divideError", "math/bits.overflowError"], apart := false }
def VmReckonsSaid : Prop := vmReckonsRow.holds Try.pinned (OpenSpec.ofChange vmReckonsSpec)

/-- ITS FALSE NEIGHBOUR: 'it returns false'. Refute it at one input. -/
def vmReckonsWrong : ChangeSpec := { name := "vmReckons", fn := fun _ => fun
  | [d1, d2, d3] => { results := [.lit (.bool false)], args := [d1, d2, d3] }
  | _ => none }
def VmReckonsWrongFalsely : Prop := vmReckonsRow.holds Try.pinned (OpenSpec.ofChange vmReckonsWrong)

/-- 'glazierlaw13.VmJumps': WHATEVER THE INPUT: true; the input reads as it did. -/
def vmJumpsSpec : ChangeSpec := { name := "vmJumps", fn := fun _ => fun
  | [d1, d2] => { results := [.lit (.bool true)], args := [d1, d2] }
  | _ => none }
def vmJumpsRow : OpenClaim := { program := "ytaegoofefcidnaa", sum := "d11327a33dcb9f5bab72dcd4132b8905cdbfd44d14cb96d56dc96334ee056c63", func := "glazier/glazierlaw13.VmJumps", spec := "vmJumps", unfollowed := true, recurses := true, named := ["math/bits.divideError", "math/bits.overflowError"], apart := false }
def VmJumpsSaid : Prop := vmJumpsRow.holds Try.pinned (OpenSpec.ofChange vmJumpsSpec)

/-- ITS FALSE NEIGHBOUR: 'it returns false'. Refute it at one input. -/
def vmJumpsWrong : ChangeSpec := { name := "vmJumps", fn := fun _ => fun
  | [d1, d2] => { results := [.lit (.bool false)], args := [d1, d2] }
  | _ => none }
def VmJumpsWrongFalsely : Prop := vmJumpsRow.holds Try.pinned (OpenSpec.ofChange vmJumpsWrong)

/-- 'glazierlaw13.VmSamples': WHATEVER THE INPUT: true; the input reads as it did. -/
def vmSamplesSpec : ChangeSpec := { name := "vmSamples", fn := fun _ => fun
  | [d1, d2, d3] => { results := [.lit (.bool true)], args := [d1, d2, d3] }
  | _ => none }
def vmSamplesRow : OpenClaim := { program := "ytaegoofefcidnaa", sum := "d11327a33dcb9f5bab72dcd4132b8905cdbfd44d14cb96d56dc96334ee056c63", func := "glazier/glazierlaw13.VmSamples", spec := "vmSamples", unfollowed := true, recurses := true, named := ["math/bits.divideError", "math/bits.overflowError"], apart := false }
def VmSamplesSaid : Prop := vmSamplesRow.holds Try.pinned (OpenSpec.ofChange vmSamplesSpec)

/-- ITS FALSE NEIGHBOUR: 'it returns false'. Refute it at one input. -/
def vmSamplesWrong : ChangeSpec := { name := "vmSamples", fn := fun _ => fun
  | [d1, d2, d3] => { results := [.lit (.bool false)], args := [d1, d2, d3] }
  | _ => none }
def VmSamplesWrongFalsely : Prop := vmSamplesRow.holds Try.pinned (OpenSpec.ofChange vmSamplesWrong)

/-- 'glazierlaw13.VmShades': WHATEVER THE INPUT: true; the input reads as it did. -/
def vmShadesSpec : ChangeSpec := { name := "vmShades", fn := fun _ => fun
  | [d1, d2, d3] => { results := [.lit (.bool true)], args := [d1, d2, d3] }
  | _ => none }
def vmShadesRow : OpenClaim := { program := "ytaegoofefcidnaa", sum := "d11327a33dcb9f5bab72dcd4132b8905cdbfd44d14cb96d56dc96334ee056c63", func := "glazier/glazierlaw13.VmShades", spec := "vmShades", unfollowed := true, recurses := true, named := ["math/bits.divideError", "math/bits.overflowError"], apart := false }
def VmShadesSaid : Prop := vmShadesRow.holds Try.pinned (OpenSpec.ofChange vmShadesSpec)

/-- ITS FALSE NEIGHBOUR: 'it returns false'. Refute it at one input. -/
def vmShadesWrong : ChangeSpec := { name := "vmShades", fn := fun _ => fun
  | [d1, d2, d3] => { results := [.lit (.bool false)], args := [d1, d2, d3] }
  | _ => none }
def VmShadesWrongFalsely : Prop := vmShadesRow.holds Try.pinned (OpenSpec.ofChange vmShadesWrong)

/- THE SECOND FORM. 'bulk': how many values and letters a reading holds, each counted each time it is reached (what is shared counts as often as it is met; a slice's spare places count too). A statement '..UptoSaid' is the law's where the arguments, and the package variables that the reading takes, are together of bulk at most 1048576: NARROWER than '..Said'. Prove '..Said' where nothing that the law and all that it calls make is longer than what came in: it says more and counts as full. Else prove '..UptoSaid'. A law counts once. -/
mutual
def uptoBulk {H : Type} : DataW H → Nat
  | .lit (.string bytes) => bytes.length + 1
  | .lit _ => 1
  | .nil => 1
  | .ptr d => uptoBulk d + 1
  | .slice elems spare => uptoBulkAll elems + uptoBulkAll spare + 1
  | .agg parts => uptoBulkAll parts + 1
  | .iface _ d => uptoBulk d + 1
  | .map entries => uptoBulkEntries entries + 1
  | .held _ => 1
def uptoBulkAll {H : Type} : List (DataW H) → Nat
  | [] => 0
  | d :: r => uptoBulk d + uptoBulkAll r
def uptoBulkEntries {H : Type} : List (Lit × DataW H) → Nat
  | [] => 0
  | x :: r => uptoBulkEntry x + uptoBulkEntries r
def uptoBulkEntry {H : Type} : Lit × DataW H → Nat
  | (.string bytes, d) => bytes.length + uptoBulk d + 1
  | (_, d) => uptoBulk d + 1
 end
def uptoSmall : (H : Type) → List (DataW H) → Bool := fun _ ds => decide (uptoBulkAll ds ≤ 1048576)
def OpenSpec.upto (s : _root_.Go.ChangeSpec) : _root_.Go.OpenSpec := { _root_.Go.OpenSpec.ofChange s with cond := some uptoSmall }

/-- 'glazierlaw13.VmAll', WHERE WHAT IT READS IS OF BULK AT MOST 1048576: true; the input reads as it did. -/
def vmAllUptoRow : OpenClaim := { program := "ytaegoofefcidnaa", sum := "d11327a33dcb9f5bab72dcd4132b8905cdbfd44d14cb96d56dc96334ee056c63", func := "glazier/glazierlaw13.VmAll", spec := "vmAll", unfollowed := true, recurses := true, named := ["math/bits.divideError", "math/bits.overflowError"], apart := false, narrowed := true }
def VmAllUptoSaid : Prop := vmAllUptoRow.holds Try.pinned (OpenSpec.upto vmAllSpec)

/-- 'glazierlaw13.VmStays', WHERE WHAT IT READS IS OF BULK AT MOST 1048576: true; the input reads as it did. -/
def vmStaysUptoRow : OpenClaim := { program := "ytaegoofefcidnaa", sum := "d11327a33dcb9f5bab72dcd4132b8905cdbfd44d14cb96d56dc96334ee056c63", func := "glazier/glazierlaw13.VmStays", spec := "vmStays", unfollowed := true, recurses := true, named := ["math/bits.divideError", "math/bits.overflowError"], apart := false, narrowed := true }
def VmStaysUptoSaid : Prop := vmStaysUptoRow.holds Try.pinned (OpenSpec.upto vmStaysSpec)

/-- 'glazierlaw13.VmReckons', WHERE WHAT IT READS IS OF BULK AT MOST 1048576: true; the input reads as it did. -/
def vmReckonsUptoRow : OpenClaim := { program := "ytaegoofefcidnaa", sum := "d11327a33dcb9f5bab72dcd4132b8905cdbfd44d14cb96d56dc96334ee056c63", func := "glazier/glazierlaw13.VmReckons", spec := "vmReckons", unfollowed := true, recurses := true, named := ["math/bits.divideError", "math/bits.overflowError"], apart := false, narrowed := true }
def VmReckonsUptoSaid : Prop := vmReckonsUptoRow.holds Try.pinned (OpenSpec.upto vmReckonsSpec)

/-- 'glazierlaw13.VmJumps', WHERE WHAT IT READS IS OF BULK AT MOST 1048576: true; the input reads as it did. -/
def vmJumpsUptoRow : OpenClaim := { program := "ytaegoofefcidnaa", sum := "d11327a33dcb9f5bab72dcd4132b8905cdbfd44d14cb96d56dc96334ee056c63", func := "glazier/glazierlaw13.VmJumps", spec := "vmJumps", unfollowed := true, recurses := true, named := ["math/bits.divideError", "math/bits.overflowError"], apart := false, narrowed := true }
def VmJumpsUptoSaid : Prop := vmJumpsUptoRow.holds Try.pinned (OpenSpec.upto vmJumpsSpec)

/-- 'glazierlaw13.VmSamples', WHERE WHAT IT READS IS OF BULK AT MOST 1048576: true; the input reads as it did. -/
def vmSamplesUptoRow : OpenClaim := { program := "ytaegoofefcidnaa", sum := "d11327a33dcb9f5bab72dcd4132b8905cdbfd44d14cb96d56dc96334ee056c63", func := "glazier/glazierlaw13.VmSamples", spec := "vmSamples", unfollowed := true, recurses := true, named := ["math/bits.divideError", "math/bits.overflowError"], apart := false, narrowed := true }
def VmSamplesUptoSaid : Prop := vmSamplesUptoRow.holds Try.pinned (OpenSpec.upto vmSamplesSpec)

/-- 'glazierlaw13.VmShades', WHERE WHAT IT READS IS OF BULK AT MOST 1048576: true; the input reads as it did. -/
def vmShadesUptoRow : OpenClaim := { program := "ytaegoofefcidnaa", sum := "d11327a33dcb9f5bab72dcd4132b8905cdbfd44d14cb96d56dc96334ee056c63", func := "glazier/glazierlaw13.VmShades", spec := "vmShades", unfollowed := true, recurses := true, named := ["math/bits.divideError", "math/bits.overflowError"], apart := false, narrowed := true }
def VmShadesUptoSaid : Prop := vmShadesUptoRow.holds Try.pinned (OpenSpec.upto vmShadesSpec)

end Rows
end Go.Proofs.Ytaegoofefcidnaa
