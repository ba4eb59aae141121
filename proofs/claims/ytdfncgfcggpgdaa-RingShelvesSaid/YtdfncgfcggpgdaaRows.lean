/-
  No cell of these rows narrows 'for every input' (looked for: loops, veiled, ifaces, maps, wideKeys, modest, calm, conditions, laid).
  DERIVED. THE GIVEN ROWS OF THIS SEAT. 7 by the template 'for every input the law returns true; each argument reads behind the call as it read before'; 0 by the template 'total and deterministic' (their statements: YtdfncgfcggpgdaaTotals.lean).
  GIVEN WITH THE SEED: the statements are not yours to turn. If you find one false, say at which input.
  Laid BY PROGRAM, IN A SANDBOX (cutbox-rows.mjs): the forced cells as the released guide's own fill.sh prints them over the translation e8e5054fc5ca2ab2… (all of the seat's roots in one cut). By AI agents, Wed Nov 11 2026. No macro, syntax, notation, axiom, sorry.
-/
import Derived.Test.YtdfncgfcggpgdaaChecked
import GoSem.Claim
import GoSem.ClaimJoined
import GoSem.ClaimMapViews
import Derived.JoinedTies
import Derived.KernelRfl
namespace Go.Proofs.Ytdfncgfcggpgdaa
/- THE CELL 'sum', in the pinned program and in every row, IS THE sha256 OF THE DUMP (.gsa) THAT YtdfncgfcggpgdaaProg.lean LOADS. Nothing in Lean hashes anything: it is a label: what it is worth is what the hold of that sum in a sandbox is worth. -/
noncomputable def Try.pinned : Pinned := { name := "ytdfncgfcggpgdaa", sum := "e8e5054fc5ca2ab2ad3648e68222006f31bf32fc1c27784e0adc4b383f6d1cad", checked := Try.checked }
namespace Rows
def none {H : Type} : Left H := { results := [], args := [] }

/-- 'fairlinklaw09.RingOrders': WHATEVER THE INPUT: true; the input reads as it did. -/
def ringOrdersSpec : ChangeSpec := { name := "ringOrders", fn := fun _ => fun
  | [d1, d2] => { results := [.lit (.bool true)], args := [d1, d2] }
  | _ => none }
def ringOrdersRow : OpenClaim := { program := "ytdfncgfcggpgdaa", sum := "e8e5054fc5ca2ab2ad3648e68222006f31bf32fc1c27784e0adc4b383f6d1cad", func := "fairlink/fairlinklaw09.RingOrders", spec := "ringOrders", unfollowed := true, recurses := true, apart := false }
def RingOrdersSaid : Prop := ringOrdersRow.holds Try.pinned (OpenSpec.ofChange ringOrdersSpec)

/-- ITS FALSE NEIGHBOUR: 'it returns false'. Refute it at one input. -/
def ringOrdersWrong : ChangeSpec := { name := "ringOrders", fn := fun _ => fun
  | [d1, d2] => { results := [.lit (.bool false)], args := [d1, d2] }
  | _ => none }
def RingOrdersWrongFalsely : Prop := ringOrdersRow.holds Try.pinned (OpenSpec.ofChange ringOrdersWrong)

/-- 'fairlinklaw09.RingKinds': WHATEVER THE INPUT: true; the input reads as it did. -/
def ringKindsSpec : ChangeSpec := { name := "ringKinds", fn := fun _ => fun
  | [d] => { results := [.lit (.bool true)], args := [d] }
  | _ => none }
def ringKindsRow : OpenClaim := { program := "ytdfncgfcggpgdaa", sum := "e8e5054fc5ca2ab2ad3648e68222006f31bf32fc1c27784e0adc4b383f6d1cad", func := "fairlink/fairlinklaw09.RingKinds", spec := "ringKinds", apart := false }
def RingKindsSaid : Prop := ringKindsRow.holds Try.pinned (OpenSpec.ofChange ringKindsSpec)

/-- ITS FALSE NEIGHBOUR: 'it returns false'. Refute it at one input. -/
def ringKindsWrong : ChangeSpec := { name := "ringKinds", fn := fun _ => fun
  | [d] => { results := [.lit (.bool false)], args := [d] }
  | _ => none }
def RingKindsWrongFalsely : Prop := ringKindsRow.holds Try.pinned (OpenSpec.ofChange ringKindsWrong)

/-- 'fairlinklaw09.RingRuns': WHATEVER THE INPUT: true; the input reads as it did. -/
def ringRunsSpec : ChangeSpec := { name := "ringRuns", fn := fun _ => fun
  | [d1, d2] => { results := [.lit (.bool true)], args := [d1, d2] }
  | _ => none }
def ringRunsRow : OpenClaim := { program := "ytdfncgfcggpgdaa", sum := "e8e5054fc5ca2ab2ad3648e68222006f31bf32fc1c27784e0adc4b383f6d1cad", func := "fairlink/fairlinklaw09.RingRuns", spec := "ringRuns", unfollowed := true, recurses := true, apart := false }
def RingRunsSaid : Prop := ringRunsRow.holds Try.pinned (OpenSpec.ofChange ringRunsSpec)

/-- ITS FALSE NEIGHBOUR: 'it returns false'. Refute it at one input. -/
def ringRunsWrong : ChangeSpec := { name := "ringRuns", fn := fun _ => fun
  | [d1, d2] => { results := [.lit (.bool false)], args := [d1, d2] }
  | _ => none }
def RingRunsWrongFalsely : Prop := ringRunsRow.holds Try.pinned (OpenSpec.ofChange ringRunsWrong)

/-- 'fairlinklaw09.RingLeaves': WHATEVER THE INPUT: true; the input reads as it did. -/
def ringLeavesSpec : ChangeSpec := { name := "ringLeaves", fn := fun _ => fun
  | [d1, d2] => { results := [.lit (.bool true)], args := [d1, d2] }
  | _ => none }
def ringLeavesRow : OpenClaim := { program := "ytdfncgfcggpgdaa", sum := "e8e5054fc5ca2ab2ad3648e68222006f31bf32fc1c27784e0adc4b383f6d1cad", func := "fairlink/fairlinklaw09.RingLeaves", spec := "ringLeaves", unfollowed := true, recurses := true, apart := false }
def RingLeavesSaid : Prop := ringLeavesRow.holds Try.pinned (OpenSpec.ofChange ringLeavesSpec)

/-- ITS FALSE NEIGHBOUR: 'it returns false'. Refute it at one input. -/
def ringLeavesWrong : ChangeSpec := { name := "ringLeaves", fn := fun _ => fun
  | [d1, d2] => { results := [.lit (.bool false)], args := [d1, d2] }
  | _ => none }
def RingLeavesWrongFalsely : Prop := ringLeavesRow.holds Try.pinned (OpenSpec.ofChange ringLeavesWrong)

/-- 'fairlinklaw09.RingApart': WHATEVER THE INPUT: true; the input reads as it did. -/
def ringApartSpec : ChangeSpec := { name := "ringApart", fn := fun _ => fun
  | [d1, d2] => { results := [.lit (.bool true)], args := [d1, d2] }
  | _ => none }
def ringApartRow : OpenClaim := { program := "ytdfncgfcggpgdaa", sum := "e8e5054fc5ca2ab2ad3648e68222006f31bf32fc1c27784e0adc4b383f6d1cad", func := "fairlink/fairlinklaw09.RingApart", spec := "ringApart", unfollowed := true, recurses := true, apart := false }
def RingApartSaid : Prop := ringApartRow.holds Try.pinned (OpenSpec.ofChange ringApartSpec)

/-- ITS FALSE NEIGHBOUR: 'it returns false'. Refute it at one input. -/
def ringApartWrong : ChangeSpec := { name := "ringApart", fn := fun _ => fun
  | [d1, d2] => { results := [.lit (.bool false)], args := [d1, d2] }
  | _ => none }
def RingApartWrongFalsely : Prop := ringApartRow.holds Try.pinned (OpenSpec.ofChange ringApartWrong)

/-- 'fairlinklaw09.RingNil': WHATEVER THE INPUT: true; the input reads as it did. -/
def ringNilSpec : ChangeSpec := { name := "ringNil", fn := fun _ => fun
  | [d1, d2] => { results := [.lit (.bool true)], args := [d1, d2] }
  | _ => none }
def ringNilRow : OpenClaim := { program := "ytdfncgfcggpgdaa", sum := "e8e5054fc5ca2ab2ad3648e68222006f31bf32fc1c27784e0adc4b383f6d1cad", func := "fairlink/fairlinklaw09.RingNil", spec := "ringNil", unfollowed := true, recurses := true, apart := false }
def RingNilSaid : Prop := ringNilRow.holds Try.pinned (OpenSpec.ofChange ringNilSpec)

/-- ITS FALSE NEIGHBOUR: 'it returns false'. Refute it at one input. -/
def ringNilWrong : ChangeSpec := { name := "ringNil", fn := fun _ => fun
  | [d1, d2] => { results := [.lit (.bool false)], args := [d1, d2] }
  | _ => none }
def RingNilWrongFalsely : Prop := ringNilRow.holds Try.pinned (OpenSpec.ofChange ringNilWrong)

/-- 'fairlinklaw09.RingShelves': WHATEVER THE INPUT: true; the input reads as it did. -/
def ringShelvesSpec : ChangeSpec := { name := "ringShelves", fn := fun _ => fun
  | [d1, d2] => { results := [.lit (.bool true)], args := [d1, d2] }
  | _ => none }
def ringShelvesRow : OpenClaim := { program := "ytdfncgfcggpgdaa", sum := "e8e5054fc5ca2ab2ad3648e68222006f31bf32fc1c27784e0adc4b383f6d1cad", func := "fairlink/fairlinklaw09.RingShelves", spec := "ringShelves", apart := false }
def RingShelvesSaid : Prop := ringShelvesRow.holds Try.pinned (OpenSpec.ofChange ringShelvesSpec)

/-- ITS FALSE NEIGHBOUR: 'it returns false'. Refute it at one input. -/
def ringShelvesWrong : ChangeSpec := { name := "ringShelves", fn := fun _ => fun
  | [d1, d2] => { results := [.lit (.bool false)], args := [d1, d2] }
  | _ => none }
def RingShelvesWrongFalsely : Prop := ringShelvesRow.holds Try.pinned (OpenSpec.ofChange ringShelvesWrong)

/- THE SECOND FORM. 'bulk': how many values and letters a reading holds, each counted each time it is reached (what is shared counts as often as it is met; a slice's spare places count too). A statement '..UptoSaid' is the law's where the arguments, and the package variables that the reading takes, are together of bulk at most 1048576: NARROWER than '..Said'. Prove '..Said' where nothing that the law and all that it calls make is longer than what came in: it says more and counts as full. Else prove '..UptoSaid'. A law counts once. -/
mutual
def uptoBulk {H : Type} : DataW H → Nat
  | .lit (.string bytes) => bytes.length + 1
  | .lit _ => 1
  | .nil => 1
  | .ptr d => uptoBulk d + 1
  | .slice elems spare => uptoBulkAll elems + uptoBulkAll spare + 1
  | .agg parts => uptoBulkAll parts + 1
  | .iface _ d => uptoBulk d + 1
  | .map entries => uptoBulkEntries entries + 1
  | .held _ => 1
def uptoBulkAll {H : Type} : List (DataW H) → Nat
  | [] => 0
  | d :: r => uptoBulk d + uptoBulkAll r
def uptoBulkEntries {H : Type} : List (Lit × DataW H) → Nat
  | [] => 0
  | x :: r => uptoBulkEntry x + uptoBulkEntries r
def uptoBulkEntry {H : Type} : Lit × DataW H → Nat
  | (.string bytes, d) => bytes.length + uptoBulk d + 1
  | (_, d) => uptoBulk d + 1
 end
def uptoSmall : (H : Type) → List (DataW H) → Bool := fun _ ds => decide (uptoBulkAll ds ≤ 1048576)
def OpenSpec.upto (s : _root_.Go.ChangeSpec) : _root_.Go.OpenSpec := { _root_.Go.OpenSpec.ofChange s with cond := some uptoSmall }

/-- 'fairlinklaw09.RingOrders', WHERE WHAT IT READS IS OF BULK AT MOST 1048576: true; the input reads as it did. -/
def ringOrdersUptoRow : OpenClaim := { program := "ytdfncgfcggpgdaa", sum := "e8e5054fc5ca2ab2ad3648e68222006f31bf32fc1c27784e0adc4b383f6d1cad", func := "fairlink/fairlinklaw09.RingOrders", spec := "ringOrders", unfollowed := true, recurses := true, apart := false, narrowed := true }
def RingOrdersUptoSaid : Prop := ringOrdersUptoRow.holds Try.pinned (OpenSpec.upto ringOrdersSpec)

/-- 'fairlinklaw09.RingKinds', WHERE WHAT IT READS IS OF BULK AT MOST 1048576: true; the input reads as it did. -/
def ringKindsUptoRow : OpenClaim := { program := "ytdfncgfcggpgdaa", sum := "e8e5054fc5ca2ab2ad3648e68222006f31bf32fc1c27784e0adc4b383f6d1cad", func := "fairlink/fairlinklaw09.RingKinds", spec := "ringKinds", apart := false, narrowed := true }
def RingKindsUptoSaid : Prop := ringKindsUptoRow.holds Try.pinned (OpenSpec.upto ringKindsSpec)

/-- 'fairlinklaw09.RingRuns', WHERE WHAT IT READS IS OF BULK AT MOST 1048576: true; the input reads as it did. -/
def ringRunsUptoRow : OpenClaim := { program := "ytdfncgfcggpgdaa", sum := "e8e5054fc5ca2ab2ad3648e68222006f31bf32fc1c27784e0adc4b383f6d1cad", func := "fairlink/fairlinklaw09.RingRuns", spec := "ringRuns", unfollowed := true, recurses := true, apart := false, narrowed := true }
def RingRunsUptoSaid : Prop := ringRunsUptoRow.holds Try.pinned (OpenSpec.upto ringRunsSpec)

/-- 'fairlinklaw09.RingLeaves', WHERE WHAT IT READS IS OF BULK AT MOST 1048576: true; the input reads as it did. -/
def ringLeavesUptoRow : OpenClaim := { program := "ytdfncgfcggpgdaa", sum := "e8e5054fc5ca2ab2ad3648e68222006f31bf32fc1c27784e0adc4b383f6d1cad", func := "fairlink/fairlinklaw09.RingLeaves", spec := "ringLeaves", unfollowed := true, recurses := true, apart := false, narrowed := true }
def RingLeavesUptoSaid : Prop := ringLeavesUptoRow.holds Try.pinned (OpenSpec.upto ringLeavesSpec)

/-- 'fairlinklaw09.RingApart', WHERE WHAT IT READS IS OF BULK AT MOST 1048576: true; the input reads as it did. -/
def ringApartUptoRow : OpenClaim := { program := "ytdfncgfcggpgdaa", sum := "e8e5054fc5ca2ab2ad3648e68222006f31bf32fc1c27784e0adc4b383f6d1cad", func := "fairlink/fairlinklaw09.RingApart", spec := "ringApart", unfollowed := true, recurses := true, apart := false, narrowed := true }
def RingApartUptoSaid : Prop := ringApartUptoRow.holds Try.pinned (OpenSpec.upto ringApartSpec)

/-- 'fairlinklaw09.RingNil', WHERE WHAT IT READS IS OF BULK AT MOST 1048576: true; the input reads as it did. -/
def ringNilUptoRow : OpenClaim := { program := "ytdfncgfcggpgdaa", sum := "e8e5054fc5ca2ab2ad3648e68222006f31bf32fc1c27784e0adc4b383f6d1cad", func := "fairlink/fairlinklaw09.RingNil", spec := "ringNil", unfollowed := true, recurses := true, apart := false, narrowed := true }
def RingNilUptoSaid : Prop := ringNilUptoRow.holds Try.pinned (OpenSpec.upto ringNilSpec)

/-- 'fairlinklaw09.RingShelves', WHERE WHAT IT READS IS OF BULK AT MOST 1048576: true; the input reads as it did. -/
def ringShelvesUptoRow : OpenClaim := { program := "ytdfncgfcggpgdaa", sum := "e8e5054fc5ca2ab2ad3648e68222006f31bf32fc1c27784e0adc4b383f6d1cad", func := "fairlink/fairlinklaw09.RingShelves", spec := "ringShelves", apart := false, narrowed := true }
def RingShelvesUptoSaid : Prop := ringShelvesUptoRow.holds Try.pinned (OpenSpec.upto ringShelvesSpec)

end Rows
end Go.Proofs.Ytdfncgfcggpgdaa
