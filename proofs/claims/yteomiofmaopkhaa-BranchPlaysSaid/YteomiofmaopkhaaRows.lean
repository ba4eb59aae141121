/-
  No cell of these rows narrows 'for every input' (looked for: loops, veiled, ifaces, maps, wideKeys, modest, calm, conditions, laid).
  DERIVED. THE GIVEN ROWS OF THIS SEAT. 8 by the template 'for every input the law returns true; each argument reads behind the call as it read before'; 0 by the template 'total and deterministic' (their statements: YteomiofmaopkhaaTotals.lean).
  GIVEN WITH THE SEED: the statements are not yours to turn. If you find one false, say at which input.
  Laid BY PROGRAM, IN A SANDBOX (cutbox-rows.mjs): the forced cells as the released guide's own fill.sh prints them over the translation 51ce41cb0adbbd13… (all of the seat's roots in one cut). By AI agents, Wed Nov 11 2026. No macro, syntax, notation, axiom, sorry.
-/
import Derived.Test.YteomiofmaopkhaaChecked
import GoSem.Claim
import GoSem.ClaimJoined
import GoSem.ClaimMapViews
import Derived.JoinedTies
import Derived.KernelRfl
namespace Go.Proofs.Yteomiofmaopkhaa
/- THE CELL 'sum', in the pinned program and in every row, IS THE sha256 OF THE DUMP (.gsa) THAT YteomiofmaopkhaaProg.lean LOADS. Nothing in Lean hashes anything: it is a label: what it is worth is what the hold of that sum in a sandbox is worth. -/
noncomputable def Try.pinned : Pinned := { name := "yteomiofmaopkhaa", sum := "51ce41cb0adbbd1352c9d793765dcd125ddb3597362abc35b3834e384e26e1c0", checked := Try.checked }
namespace Rows
def none {H : Type} : Left H := { results := [], args := [] }

/-- 'fairlinklaw30.BranchApart': WHATEVER THE INPUT: true; the input reads as it did. -/
def branchApartSpec : ChangeSpec := { name := "branchApart", fn := fun _ => fun
  | [d1, d2, d3, d4] => { results := [.lit (.bool true)], args := [d1, d2, d3, d4] }
  | _ => none }
def branchApartRow : OpenClaim := { program := "yteomiofmaopkhaa", sum := "51ce41cb0adbbd1352c9d793765dcd125ddb3597362abc35b3834e384e26e1c0", func := "fairlink/fairlinklaw30.BranchApart", spec := "branchApart", unfollowed := true, recurses := true, apart := false }
def BranchApartSaid : Prop := branchApartRow.holds Try.pinned (OpenSpec.ofChange branchApartSpec)

/-- ITS FALSE NEIGHBOUR: 'it returns false'. Refute it at one input. -/
def branchApartWrong : ChangeSpec := { name := "branchApart", fn := fun _ => fun
  | [d1, d2, d3, d4] => { results := [.lit (.bool false)], args := [d1, d2, d3, d4] }
  | _ => none }
def BranchApartWrongFalsely : Prop := branchApartRow.holds Try.pinned (OpenSpec.ofChange branchApartWrong)

/-- 'fairlinklaw30.BranchPlays': WHATEVER THE INPUT: true; the input reads as it did. -/
def branchPlaysSpec : ChangeSpec := { name := "branchPlays", fn := fun _ => fun
  | [d1, d2, d3] => { results := [.lit (.bool true)], args := [d1, d2, d3] }
  | _ => none }
def branchPlaysRow : OpenClaim := { program := "yteomiofmaopkhaa", sum := "51ce41cb0adbbd1352c9d793765dcd125ddb3597362abc35b3834e384e26e1c0", func := "fairlink/fairlinklaw30.BranchPlays", spec := "branchPlays", unfollowed := true, recurses := true, apart := false }
def BranchPlaysSaid : Prop := branchPlaysRow.holds Try.pinned (OpenSpec.ofChange branchPlaysSpec)

/-- ITS FALSE NEIGHBOUR: 'it returns false'. Refute it at one input. -/
def branchPlaysWrong : ChangeSpec := { name := "branchPlays", fn := fun _ => fun
  | [d1, d2, d3] => { results := [.lit (.bool false)], args := [d1, d2, d3] }
  | _ => none }
def BranchPlaysWrongFalsely : Prop := branchPlaysRow.holds Try.pinned (OpenSpec.ofChange branchPlaysWrong)

/-- 'fairlinklaw30.BranchNothing': WHATEVER THE INPUT: true; the input reads as it did. -/
def branchNothingSpec : ChangeSpec := { name := "branchNothing", fn := fun _ => fun
  | [d1, d2, d3] => { results := [.lit (.bool true)], args := [d1, d2, d3] }
  | _ => none }
def branchNothingRow : OpenClaim := { program := "yteomiofmaopkhaa", sum := "51ce41cb0adbbd1352c9d793765dcd125ddb3597362abc35b3834e384e26e1c0", func := "fairlink/fairlinklaw30.BranchNothing", spec := "branchNothing", unfollowed := true, recurses := true, apart := false }
def BranchNothingSaid : Prop := branchNothingRow.holds Try.pinned (OpenSpec.ofChange branchNothingSpec)

/-- ITS FALSE NEIGHBOUR: 'it returns false'. Refute it at one input. -/
def branchNothingWrong : ChangeSpec := { name := "branchNothing", fn := fun _ => fun
  | [d1, d2, d3] => { results := [.lit (.bool false)], args := [d1, d2, d3] }
  | _ => none }
def BranchNothingWrongFalsely : Prop := branchNothingRow.holds Try.pinned (OpenSpec.ofChange branchNothingWrong)

/-- 'fairlinklaw30.BranchDrains': WHATEVER THE INPUT: true; the input reads as it did. -/
def branchDrainsSpec : ChangeSpec := { name := "branchDrains", fn := fun _ => fun
  | [d1, d2, d3] => { results := [.lit (.bool true)], args := [d1, d2, d3] }
  | _ => none }
def branchDrainsRow : OpenClaim := { program := "yteomiofmaopkhaa", sum := "51ce41cb0adbbd1352c9d793765dcd125ddb3597362abc35b3834e384e26e1c0", func := "fairlink/fairlinklaw30.BranchDrains", spec := "branchDrains", unfollowed := true, recurses := true, apart := false }
def BranchDrainsSaid : Prop := branchDrainsRow.holds Try.pinned (OpenSpec.ofChange branchDrainsSpec)

/-- ITS FALSE NEIGHBOUR: 'it returns false'. Refute it at one input. -/
def branchDrainsWrong : ChangeSpec := { name := "branchDrains", fn := fun _ => fun
  | [d1, d2, d3] => { results := [.lit (.bool false)], args := [d1, d2, d3] }
  | _ => none }
def BranchDrainsWrongFalsely : Prop := branchDrainsRow.holds Try.pinned (OpenSpec.ofChange branchDrainsWrong)

/-- 'fairlinklaw30.BranchRefuses': WHATEVER THE INPUT: true; the input reads as it did. -/
def branchRefusesSpec : ChangeSpec := { name := "branchRefuses", fn := fun _ => fun
  | [d1, d2, d3, d4, d5] => { results := [.lit (.bool true)], args := [d1, d2, d3, d4, d5] }
  | _ => none }
def branchRefusesRow : OpenClaim := { program := "yteomiofmaopkhaa", sum := "51ce41cb0adbbd1352c9d793765dcd125ddb3597362abc35b3834e384e26e1c0", func := "fairlink/fairlinklaw30.BranchRefuses", spec := "branchRefuses", unfollowed := true, recurses := true, apart := false }
def BranchRefusesSaid : Prop := branchRefusesRow.holds Try.pinned (OpenSpec.ofChange branchRefusesSpec)

/-- ITS FALSE NEIGHBOUR: 'it returns false'. Refute it at one input. -/
def branchRefusesWrong : ChangeSpec := { name := "branchRefuses", fn := fun _ => fun
  | [d1, d2, d3, d4, d5] => { results := [.lit (.bool false)], args := [d1, d2, d3, d4, d5] }
  | _ => none }
def BranchRefusesWrongFalsely : Prop := branchRefusesRow.holds Try.pinned (OpenSpec.ofChange branchRefusesWrong)

/-- 'fairlinklaw30.BranchOrder': WHATEVER THE INPUT: true; the input reads as it did. -/
def branchOrderSpec : ChangeSpec := { name := "branchOrder", fn := fun _ => fun
  | [d1, d2, d3] => { results := [.lit (.bool true)], args := [d1, d2, d3] }
  | _ => none }
def branchOrderRow : OpenClaim := { program := "yteomiofmaopkhaa", sum := "51ce41cb0adbbd1352c9d793765dcd125ddb3597362abc35b3834e384e26e1c0", func := "fairlink/fairlinklaw30.BranchOrder", spec := "branchOrder", unfollowed := true, recurses := true, apart := false }
def BranchOrderSaid : Prop := branchOrderRow.holds Try.pinned (OpenSpec.ofChange branchOrderSpec)

/-- ITS FALSE NEIGHBOUR: 'it returns false'. Refute it at one input. -/
def branchOrderWrong : ChangeSpec := { name := "branchOrder", fn := fun _ => fun
  | [d1, d2, d3] => { results := [.lit (.bool false)], args := [d1, d2, d3] }
  | _ => none }
def BranchOrderWrongFalsely : Prop := branchOrderRow.holds Try.pinned (OpenSpec.ofChange branchOrderWrong)

/-- 'fairlinklaw30.BranchHolds': WHATEVER THE INPUT: true; the input reads as it did. -/
def branchHoldsSpec : ChangeSpec := { name := "branchHolds", fn := fun _ => fun
  | [d1, d2, d3] => { results := [.lit (.bool true)], args := [d1, d2, d3] }
  | _ => none }
def branchHoldsRow : OpenClaim := { program := "yteomiofmaopkhaa", sum := "51ce41cb0adbbd1352c9d793765dcd125ddb3597362abc35b3834e384e26e1c0", func := "fairlink/fairlinklaw30.BranchHolds", spec := "branchHolds", unfollowed := true, recurses := true, apart := false }
def BranchHoldsSaid : Prop := branchHoldsRow.holds Try.pinned (OpenSpec.ofChange branchHoldsSpec)

/-- ITS FALSE NEIGHBOUR: 'it returns false'. Refute it at one input. -/
def branchHoldsWrong : ChangeSpec := { name := "branchHolds", fn := fun _ => fun
  | [d1, d2, d3] => { results := [.lit (.bool false)], args := [d1, d2, d3] }
  | _ => none }
def BranchHoldsWrongFalsely : Prop := branchHoldsRow.holds Try.pinned (OpenSpec.ofChange branchHoldsWrong)

/-- 'fairlinklaw30.BranchReady': WHATEVER THE INPUT: true; the input reads as it did. -/
def branchReadySpec : ChangeSpec := { name := "branchReady", fn := fun _ => fun
  | [d1, d2, d3, d4] => { results := [.lit (.bool true)], args := [d1, d2, d3, d4] }
  | _ => none }
def branchReadyRow : OpenClaim := { program := "yteomiofmaopkhaa", sum := "51ce41cb0adbbd1352c9d793765dcd125ddb3597362abc35b3834e384e26e1c0", func := "fairlink/fairlinklaw30.BranchReady", spec := "branchReady", unfollowed := true, recurses := true, apart := false }
def BranchReadySaid : Prop := branchReadyRow.holds Try.pinned (OpenSpec.ofChange branchReadySpec)

/-- ITS FALSE NEIGHBOUR: 'it returns false'. Refute it at one input. -/
def branchReadyWrong : ChangeSpec := { name := "branchReady", fn := fun _ => fun
  | [d1, d2, d3, d4] => { results := [.lit (.bool false)], args := [d1, d2, d3, d4] }
  | _ => none }
def BranchReadyWrongFalsely : Prop := branchReadyRow.holds Try.pinned (OpenSpec.ofChange branchReadyWrong)

/- THE SECOND FORM. 'bulk': how many values and letters a reading holds, each counted each time it is reached (what is shared counts as often as it is met; a slice's spare places count too). A statement '..UptoSaid' is the law's where the arguments, and the package variables that the reading takes, are together of bulk at most 1048576: NARROWER than '..Said'. Prove '..Said' where nothing that the law and all that it calls make is longer than what came in: it says more and counts as full. Else prove '..UptoSaid'. A law counts once. -/
mutual
def uptoBulk {H : Type} : DataW H → Nat
  | .lit (.string bytes) => bytes.length + 1
  | .lit _ => 1
  | .nil => 1
  | .ptr d => uptoBulk d + 1
  | .slice elems spare => uptoBulkAll elems + uptoBulkAll spare + 1
  | .agg parts => uptoBulkAll parts + 1
  | .iface _ d => uptoBulk d + 1
  | .map entries => uptoBulkEntries entries + 1
  | .held _ => 1
def uptoBulkAll {H : Type} : List (DataW H) → Nat
  | [] => 0
  | d :: r => uptoBulk d + uptoBulkAll r
def uptoBulkEntries {H : Type} : List (Lit × DataW H) → Nat
  | [] => 0
  | x :: r => uptoBulkEntry x + uptoBulkEntries r
def uptoBulkEntry {H : Type} : Lit × DataW H → Nat
  | (.string bytes, d) => bytes.length + uptoBulk d + 1
  | (_, d) => uptoBulk d + 1
 end
def uptoSmall : (H : Type) → List (DataW H) → Bool := fun _ ds => decide (uptoBulkAll ds ≤ 1048576)
def OpenSpec.upto (s : _root_.Go.ChangeSpec) : _root_.Go.OpenSpec := { _root_.Go.OpenSpec.ofChange s with cond := some uptoSmall }

/-- 'fairlinklaw30.BranchApart', WHERE WHAT IT READS IS OF BULK AT MOST 1048576: true; the input reads as it did. -/
def branchApartUptoRow : OpenClaim := { program := "yteomiofmaopkhaa", sum := "51ce41cb0adbbd1352c9d793765dcd125ddb3597362abc35b3834e384e26e1c0", func := "fairlink/fairlinklaw30.BranchApart", spec := "branchApart", unfollowed := true, recurses := true, apart := false, narrowed := true }
def BranchApartUptoSaid : Prop := branchApartUptoRow.holds Try.pinned (OpenSpec.upto branchApartSpec)

/-- 'fairlinklaw30.BranchPlays', WHERE WHAT IT READS IS OF BULK AT MOST 1048576: true; the input reads as it did. -/
def branchPlaysUptoRow : OpenClaim := { program := "yteomiofmaopkhaa", sum := "51ce41cb0adbbd1352c9d793765dcd125ddb3597362abc35b3834e384e26e1c0", func := "fairlink/fairlinklaw30.BranchPlays", spec := "branchPlays", unfollowed := true, recurses := true, apart := false, narrowed := true }
def BranchPlaysUptoSaid : Prop := branchPlaysUptoRow.holds Try.pinned (OpenSpec.upto branchPlaysSpec)

/-- 'fairlinklaw30.BranchNothing', WHERE WHAT IT READS IS OF BULK AT MOST 1048576: true; the input reads as it did. -/
def branchNothingUptoRow : OpenClaim := { program := "yteomiofmaopkhaa", sum := "51ce41cb0adbbd1352c9d793765dcd125ddb3597362abc35b3834e384e26e1c0", func := "fairlink/fairlinklaw30.BranchNothing", spec := "branchNothing", unfollowed := true, recurses := true, apart := false, narrowed := true }
def BranchNothingUptoSaid : Prop := branchNothingUptoRow.holds Try.pinned (OpenSpec.upto branchNothingSpec)

/-- 'fairlinklaw30.BranchDrains', WHERE WHAT IT READS IS OF BULK AT MOST 1048576: true; the input reads as it did. -/
def branchDrainsUptoRow : OpenClaim := { program := "yteomiofmaopkhaa", sum := "51ce41cb0adbbd1352c9d793765dcd125ddb3597362abc35b3834e384e26e1c0", func := "fairlink/fairlinklaw30.BranchDrains", spec := "branchDrains", unfollowed := true, recurses := true, apart := false, narrowed := true }
def BranchDrainsUptoSaid : Prop := branchDrainsUptoRow.holds Try.pinned (OpenSpec.upto branchDrainsSpec)

/-- 'fairlinklaw30.BranchRefuses', WHERE WHAT IT READS IS OF BULK AT MOST 1048576: true; the input reads as it did. -/
def branchRefusesUptoRow : OpenClaim := { program := "yteomiofmaopkhaa", sum := "51ce41cb0adbbd1352c9d793765dcd125ddb3597362abc35b3834e384e26e1c0", func := "fairlink/fairlinklaw30.BranchRefuses", spec := "branchRefuses", unfollowed := true, recurses := true, apart := false, narrowed := true }
def BranchRefusesUptoSaid : Prop := branchRefusesUptoRow.holds Try.pinned (OpenSpec.upto branchRefusesSpec)

/-- 'fairlinklaw30.BranchOrder', WHERE WHAT IT READS IS OF BULK AT MOST 1048576: true; the input reads as it did. -/
def branchOrderUptoRow : OpenClaim := { program := "yteomiofmaopkhaa", sum := "51ce41cb0adbbd1352c9d793765dcd125ddb3597362abc35b3834e384e26e1c0", func := "fairlink/fairlinklaw30.BranchOrder", spec := "branchOrder", unfollowed := true, recurses := true, apart := false, narrowed := true }
def BranchOrderUptoSaid : Prop := branchOrderUptoRow.holds Try.pinned (OpenSpec.upto branchOrderSpec)

/-- 'fairlinklaw30.BranchHolds', WHERE WHAT IT READS IS OF BULK AT MOST 1048576: true; the input reads as it did. -/
def branchHoldsUptoRow : OpenClaim := { program := "yteomiofmaopkhaa", sum := "51ce41cb0adbbd1352c9d793765dcd125ddb3597362abc35b3834e384e26e1c0", func := "fairlink/fairlinklaw30.BranchHolds", spec := "branchHolds", unfollowed := true, recurses := true, apart := false, narrowed := true }
def BranchHoldsUptoSaid : Prop := branchHoldsUptoRow.holds Try.pinned (OpenSpec.upto branchHoldsSpec)

/-- 'fairlinklaw30.BranchReady', WHERE WHAT IT READS IS OF BULK AT MOST 1048576: true; the input reads as it did. -/
def branchReadyUptoRow : OpenClaim := { program := "yteomiofmaopkhaa", sum := "51ce41cb0adbbd1352c9d793765dcd125ddb3597362abc35b3834e384e26e1c0", func := "fairlink/fairlinklaw30.BranchReady", spec := "branchReady", unfollowed := true, recurses := true, apart := false, narrowed := true }
def BranchReadyUptoSaid : Prop := branchReadyUptoRow.holds Try.pinned (OpenSpec.upto branchReadySpec)

end Rows
end Go.Proofs.Yteomiofmaopkhaa
