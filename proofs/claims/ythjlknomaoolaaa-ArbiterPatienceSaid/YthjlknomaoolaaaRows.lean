/-
  No cell of these rows narrows 'for every input' (looked for: loops, veiled, ifaces, maps, wideKeys, modest, calm, conditions, laid).
  DERIVED. THE GIVEN ROWS OF THIS SEAT. 8 by the template 'for every input the law returns true; each argument reads behind the call as it read before'; 0 by the template 'total and deterministic' (their statements: YthjlknomaoolaaaTotals.lean).
  GIVEN WITH THE SEED: the statements are not yours to turn. If you find one false, say at which input.
  Laid BY PROGRAM, IN A SANDBOX (cutbox-rows.mjs): the forced cells as the released guide's own fill.sh prints them over the translation 7a70e2482b5fa521… (all of the seat's roots in one cut). By AI agents, Wed Nov 11 2026. No macro, syntax, notation, axiom, sorry.
-/
import Derived.Test.YthjlknomaoolaaaChecked
import GoSem.Claim
import GoSem.ClaimJoined
import GoSem.ClaimMapViews
import Derived.JoinedTies
import Derived.KernelRfl
namespace Go.Proofs.Ythjlknomaoolaaa
/- THE CELL 'sum', in the pinned program and in every row, IS THE sha256 OF THE DUMP (.gsa) THAT YthjlknomaoolaaaProg.lean LOADS. Nothing in Lean hashes anything: it is a label: what it is worth is what the hold of that sum in a sandbox is worth. -/
noncomputable def Try.pinned : Pinned := { name := "ythjlknomaoolaaa", sum := "7a70e2482b5fa521cb899ef9fe5be2f295cff6c761b27d9624efe4c34848eb26", checked := Try.checked }
namespace Rows
def none {H : Type} : Left H := { results := [], args := [] }

/-- 'fairlinklaw10.ArbiterRanks': WHATEVER THE INPUT: true; the input reads as it did. -/
def arbiterRanksSpec : ChangeSpec := { name := "arbiterRanks", fn := fun _ => fun
  | [d1, d2, d3, d4] => { results := [.lit (.bool true)], args := [d1, d2, d3, d4] }
  | _ => none }
def arbiterRanksRow : OpenClaim := { program := "ythjlknomaoolaaa", sum := "7a70e2482b5fa521cb899ef9fe5be2f295cff6c761b27d9624efe4c34848eb26", func := "fairlink/fairlinklaw10.ArbiterRanks", spec := "arbiterRanks", unfollowed := true, recurses := true, apart := false }
def ArbiterRanksSaid : Prop := arbiterRanksRow.holds Try.pinned (OpenSpec.ofChange arbiterRanksSpec)

/-- ITS FALSE NEIGHBOUR: 'it returns false'. Refute it at one input. -/
def arbiterRanksWrong : ChangeSpec := { name := "arbiterRanks", fn := fun _ => fun
  | [d1, d2, d3, d4] => { results := [.lit (.bool false)], args := [d1, d2, d3, d4] }
  | _ => none }
def ArbiterRanksWrongFalsely : Prop := arbiterRanksRow.holds Try.pinned (OpenSpec.ofChange arbiterRanksWrong)

/-- 'fairlinklaw10.ArbiterPatience': WHATEVER THE INPUT: true; the input reads as it did. -/
def arbiterPatienceSpec : ChangeSpec := { name := "arbiterPatience", fn := fun _ => fun
  | [d1, d2, d3] => { results := [.lit (.bool true)], args := [d1, d2, d3] }
  | _ => none }
def arbiterPatienceRow : OpenClaim := { program := "ythjlknomaoolaaa", sum := "7a70e2482b5fa521cb899ef9fe5be2f295cff6c761b27d9624efe4c34848eb26", func := "fairlink/fairlinklaw10.ArbiterPatience", spec := "arbiterPatience", unfollowed := true, recurses := true, apart := false }
def ArbiterPatienceSaid : Prop := arbiterPatienceRow.holds Try.pinned (OpenSpec.ofChange arbiterPatienceSpec)

/-- ITS FALSE NEIGHBOUR: 'it returns false'. Refute it at one input. -/
def arbiterPatienceWrong : ChangeSpec := { name := "arbiterPatience", fn := fun _ => fun
  | [d1, d2, d3] => { results := [.lit (.bool false)], args := [d1, d2, d3] }
  | _ => none }
def ArbiterPatienceWrongFalsely : Prop := arbiterPatienceRow.holds Try.pinned (OpenSpec.ofChange arbiterPatienceWrong)

/-- 'fairlinklaw10.ArbiterEqual': WHATEVER THE INPUT: true; the input reads as it did. -/
def arbiterEqualSpec : ChangeSpec := { name := "arbiterEqual", fn := fun _ => fun
  | [d1, d2, d3] => { results := [.lit (.bool true)], args := [d1, d2, d3] }
  | _ => none }
def arbiterEqualRow : OpenClaim := { program := "ythjlknomaoolaaa", sum := "7a70e2482b5fa521cb899ef9fe5be2f295cff6c761b27d9624efe4c34848eb26", func := "fairlink/fairlinklaw10.ArbiterEqual", spec := "arbiterEqual", unfollowed := true, recurses := true, apart := false }
def ArbiterEqualSaid : Prop := arbiterEqualRow.holds Try.pinned (OpenSpec.ofChange arbiterEqualSpec)

/-- ITS FALSE NEIGHBOUR: 'it returns false'. Refute it at one input. -/
def arbiterEqualWrong : ChangeSpec := { name := "arbiterEqual", fn := fun _ => fun
  | [d1, d2, d3] => { results := [.lit (.bool false)], args := [d1, d2, d3] }
  | _ => none }
def ArbiterEqualWrongFalsely : Prop := arbiterEqualRow.holds Try.pinned (OpenSpec.ofChange arbiterEqualWrong)

/-- 'fairlinklaw10.ArbiterFair': WHATEVER THE INPUT: true; the input reads as it did. -/
def arbiterFairSpec : ChangeSpec := { name := "arbiterFair", fn := fun _ => fun
  | [d1, d2] => { results := [.lit (.bool true)], args := [d1, d2] }
  | _ => none }
def arbiterFairRow : OpenClaim := { program := "ythjlknomaoolaaa", sum := "7a70e2482b5fa521cb899ef9fe5be2f295cff6c761b27d9624efe4c34848eb26", func := "fairlink/fairlinklaw10.ArbiterFair", spec := "arbiterFair", unfollowed := true, recurses := true, apart := false }
def ArbiterFairSaid : Prop := arbiterFairRow.holds Try.pinned (OpenSpec.ofChange arbiterFairSpec)

/-- ITS FALSE NEIGHBOUR: 'it returns false'. Refute it at one input. -/
def arbiterFairWrong : ChangeSpec := { name := "arbiterFair", fn := fun _ => fun
  | [d1, d2] => { results := [.lit (.bool false)], args := [d1, d2] }
  | _ => none }
def ArbiterFairWrongFalsely : Prop := arbiterFairRow.holds Try.pinned (OpenSpec.ofChange arbiterFairWrong)

/-- 'fairlinklaw10.ArbiterChooses': WHATEVER THE INPUT: true; the input reads as it did. -/
def arbiterChoosesSpec : ChangeSpec := { name := "arbiterChooses", fn := fun _ => fun
  | [d] => { results := [.lit (.bool true)], args := [d] }
  | _ => none }
def arbiterChoosesRow : OpenClaim := { program := "ythjlknomaoolaaa", sum := "7a70e2482b5fa521cb899ef9fe5be2f295cff6c761b27d9624efe4c34848eb26", func := "fairlink/fairlinklaw10.ArbiterChooses", spec := "arbiterChooses", unfollowed := true, recurses := true, apart := false }
def ArbiterChoosesSaid : Prop := arbiterChoosesRow.holds Try.pinned (OpenSpec.ofChange arbiterChoosesSpec)

/-- ITS FALSE NEIGHBOUR: 'it returns false'. Refute it at one input. -/
def arbiterChoosesWrong : ChangeSpec := { name := "arbiterChooses", fn := fun _ => fun
  | [d] => { results := [.lit (.bool false)], args := [d] }
  | _ => none }
def ArbiterChoosesWrongFalsely : Prop := arbiterChoosesRow.holds Try.pinned (OpenSpec.ofChange arbiterChoosesWrong)

/-- 'fairlinklaw10.ArbiterOrder': WHATEVER THE INPUT: true; the input reads as it did. -/
def arbiterOrderSpec : ChangeSpec := { name := "arbiterOrder", fn := fun _ => fun
  | [d1, d2, d3, d4, d5] => { results := [.lit (.bool true)], args := [d1, d2, d3, d4, d5] }
  | _ => none }
def arbiterOrderRow : OpenClaim := { program := "ythjlknomaoolaaa", sum := "7a70e2482b5fa521cb899ef9fe5be2f295cff6c761b27d9624efe4c34848eb26", func := "fairlink/fairlinklaw10.ArbiterOrder", spec := "arbiterOrder", unfollowed := true, recurses := true, apart := false }
def ArbiterOrderSaid : Prop := arbiterOrderRow.holds Try.pinned (OpenSpec.ofChange arbiterOrderSpec)

/-- ITS FALSE NEIGHBOUR: 'it returns false'. Refute it at one input. -/
def arbiterOrderWrong : ChangeSpec := { name := "arbiterOrder", fn := fun _ => fun
  | [d1, d2, d3, d4, d5] => { results := [.lit (.bool false)], args := [d1, d2, d3, d4, d5] }
  | _ => none }
def ArbiterOrderWrongFalsely : Prop := arbiterOrderRow.holds Try.pinned (OpenSpec.ofChange arbiterOrderWrong)

/-- 'fairlinklaw10.ArbiterPicks': WHATEVER THE INPUT: true; the input reads as it did. -/
def arbiterPicksSpec : ChangeSpec := { name := "arbiterPicks", fn := fun _ => fun
  | [d1, d2] => { results := [.lit (.bool true)], args := [d1, d2] }
  | _ => none }
def arbiterPicksRow : OpenClaim := { program := "ythjlknomaoolaaa", sum := "7a70e2482b5fa521cb899ef9fe5be2f295cff6c761b27d9624efe4c34848eb26", func := "fairlink/fairlinklaw10.ArbiterPicks", spec := "arbiterPicks", unfollowed := true, recurses := true, apart := false }
def ArbiterPicksSaid : Prop := arbiterPicksRow.holds Try.pinned (OpenSpec.ofChange arbiterPicksSpec)

/-- ITS FALSE NEIGHBOUR: 'it returns false'. Refute it at one input. -/
def arbiterPicksWrong : ChangeSpec := { name := "arbiterPicks", fn := fun _ => fun
  | [d1, d2] => { results := [.lit (.bool false)], args := [d1, d2] }
  | _ => none }
def ArbiterPicksWrongFalsely : Prop := arbiterPicksRow.holds Try.pinned (OpenSpec.ofChange arbiterPicksWrong)

/-- 'fairlinklaw10.ArbiterNothing': WHATEVER THE INPUT: true; the input reads as it did. -/
def arbiterNothingSpec : ChangeSpec := { name := "arbiterNothing", fn := fun _ => fun
  | [d1, d2] => { results := [.lit (.bool true)], args := [d1, d2] }
  | _ => none }
def arbiterNothingRow : OpenClaim := { program := "ythjlknomaoolaaa", sum := "7a70e2482b5fa521cb899ef9fe5be2f295cff6c761b27d9624efe4c34848eb26", func := "fairlink/fairlinklaw10.ArbiterNothing", spec := "arbiterNothing", unfollowed := true, recurses := true, apart := false }
def ArbiterNothingSaid : Prop := arbiterNothingRow.holds Try.pinned (OpenSpec.ofChange arbiterNothingSpec)

/-- ITS FALSE NEIGHBOUR: 'it returns false'. Refute it at one input. -/
def arbiterNothingWrong : ChangeSpec := { name := "arbiterNothing", fn := fun _ => fun
  | [d1, d2] => { results := [.lit (.bool false)], args := [d1, d2] }
  | _ => none }
def ArbiterNothingWrongFalsely : Prop := arbiterNothingRow.holds Try.pinned (OpenSpec.ofChange arbiterNothingWrong)

/- THE SECOND FORM. 'bulk': how many values and letters a reading holds, each counted each time it is reached (what is shared counts as often as it is met; a slice's spare places count too). A statement '..UptoSaid' is the law's where the arguments, and the package variables that the reading takes, are together of bulk at most 1048576: NARROWER than '..Said'. Prove '..Said' where nothing that the law and all that it calls make is longer than what came in: it says more and counts as full. Else prove '..UptoSaid'. A law counts once. -/
mutual
def uptoBulk {H : Type} : DataW H → Nat
  | .lit (.string bytes) => bytes.length + 1
  | .lit _ => 1
  | .nil => 1
  | .ptr d => uptoBulk d + 1
  | .slice elems spare => uptoBulkAll elems + uptoBulkAll spare + 1
  | .agg parts => uptoBulkAll parts + 1
  | .iface _ d => uptoBulk d + 1
  | .map entries => uptoBulkEntries entries + 1
  | .held _ => 1
def uptoBulkAll {H : Type} : List (DataW H) → Nat
  | [] => 0
  | d :: r => uptoBulk d + uptoBulkAll r
def uptoBulkEntries {H : Type} : List (Lit × DataW H) → Nat
  | [] => 0
  | x :: r => uptoBulkEntry x + uptoBulkEntries r
def uptoBulkEntry {H : Type} : Lit × DataW H → Nat
  | (.string bytes, d) => bytes.length + uptoBulk d + 1
  | (_, d) => uptoBulk d + 1
 end
def uptoSmall : (H : Type) → List (DataW H) → Bool := fun _ ds => decide (uptoBulkAll ds ≤ 1048576)
def OpenSpec.upto (s : _root_.Go.ChangeSpec) : _root_.Go.OpenSpec := { _root_.Go.OpenSpec.ofChange s with cond := some uptoSmall }

/-- 'fairlinklaw10.ArbiterRanks', WHERE WHAT IT READS IS OF BULK AT MOST 1048576: true; the input reads as it did. -/
def arbiterRanksUptoRow : OpenClaim := { program := "ythjlknomaoolaaa", sum := "7a70e2482b5fa521cb899ef9fe5be2f295cff6c761b27d9624efe4c34848eb26", func := "fairlink/fairlinklaw10.ArbiterRanks", spec := "arbiterRanks", unfollowed := true, recurses := true, apart := false, narrowed := true }
def ArbiterRanksUptoSaid : Prop := arbiterRanksUptoRow.holds Try.pinned (OpenSpec.upto arbiterRanksSpec)

/-- 'fairlinklaw10.ArbiterPatience', WHERE WHAT IT READS IS OF BULK AT MOST 1048576: true; the input reads as it did. -/
def arbiterPatienceUptoRow : OpenClaim := { program := "ythjlknomaoolaaa", sum := "7a70e2482b5fa521cb899ef9fe5be2f295cff6c761b27d9624efe4c34848eb26", func := "fairlink/fairlinklaw10.ArbiterPatience", spec := "arbiterPatience", unfollowed := true, recurses := true, apart := false, narrowed := true }
def ArbiterPatienceUptoSaid : Prop := arbiterPatienceUptoRow.holds Try.pinned (OpenSpec.upto arbiterPatienceSpec)

/-- 'fairlinklaw10.ArbiterEqual', WHERE WHAT IT READS IS OF BULK AT MOST 1048576: true; the input reads as it did. -/
def arbiterEqualUptoRow : OpenClaim := { program := "ythjlknomaoolaaa", sum := "7a70e2482b5fa521cb899ef9fe5be2f295cff6c761b27d9624efe4c34848eb26", func := "fairlink/fairlinklaw10.ArbiterEqual", spec := "arbiterEqual", unfollowed := true, recurses := true, apart := false, narrowed := true }
def ArbiterEqualUptoSaid : Prop := arbiterEqualUptoRow.holds Try.pinned (OpenSpec.upto arbiterEqualSpec)

/-- 'fairlinklaw10.ArbiterFair', WHERE WHAT IT READS IS OF BULK AT MOST 1048576: true; the input reads as it did. -/
def arbiterFairUptoRow : OpenClaim := { program := "ythjlknomaoolaaa", sum := "7a70e2482b5fa521cb899ef9fe5be2f295cff6c761b27d9624efe4c34848eb26", func := "fairlink/fairlinklaw10.ArbiterFair", spec := "arbiterFair", unfollowed := true, recurses := true, apart := false, narrowed := true }
def ArbiterFairUptoSaid : Prop := arbiterFairUptoRow.holds Try.pinned (OpenSpec.upto arbiterFairSpec)

/-- 'fairlinklaw10.ArbiterChooses', WHERE WHAT IT READS IS OF BULK AT MOST 1048576: true; the input reads as it did. -/
def arbiterChoosesUptoRow : OpenClaim := { program := "ythjlknomaoolaaa", sum := "7a70e2482b5fa521cb899ef9fe5be2f295cff6c761b27d9624efe4c34848eb26", func := "fairlink/fairlinklaw10.ArbiterChooses", spec := "arbiterChooses", unfollowed := true, recurses := true, apart := false, narrowed := true }
def ArbiterChoosesUptoSaid : Prop := arbiterChoosesUptoRow.holds Try.pinned (OpenSpec.upto arbiterChoosesSpec)

/-- 'fairlinklaw10.ArbiterOrder', WHERE WHAT IT READS IS OF BULK AT MOST 1048576: true; the input reads as it did. -/
def arbiterOrderUptoRow : OpenClaim := { program := "ythjlknomaoolaaa", sum := "7a70e2482b5fa521cb899ef9fe5be2f295cff6c761b27d9624efe4c34848eb26", func := "fairlink/fairlinklaw10.ArbiterOrder", spec := "arbiterOrder", unfollowed := true, recurses := true, apart := false, narrowed := true }
def ArbiterOrderUptoSaid : Prop := arbiterOrderUptoRow.holds Try.pinned (OpenSpec.upto arbiterOrderSpec)

/-- 'fairlinklaw10.ArbiterPicks', WHERE WHAT IT READS IS OF BULK AT MOST 1048576: true; the input reads as it did. -/
def arbiterPicksUptoRow : OpenClaim := { program := "ythjlknomaoolaaa", sum := "7a70e2482b5fa521cb899ef9fe5be2f295cff6c761b27d9624efe4c34848eb26", func := "fairlink/fairlinklaw10.ArbiterPicks", spec := "arbiterPicks", unfollowed := true, recurses := true, apart := false, narrowed := true }
def ArbiterPicksUptoSaid : Prop := arbiterPicksUptoRow.holds Try.pinned (OpenSpec.upto arbiterPicksSpec)

/-- 'fairlinklaw10.ArbiterNothing', WHERE WHAT IT READS IS OF BULK AT MOST 1048576: true; the input reads as it did. -/
def arbiterNothingUptoRow : OpenClaim := { program := "ythjlknomaoolaaa", sum := "7a70e2482b5fa521cb899ef9fe5be2f295cff6c761b27d9624efe4c34848eb26", func := "fairlink/fairlinklaw10.ArbiterNothing", spec := "arbiterNothing", unfollowed := true, recurses := true, apart := false, narrowed := true }
def ArbiterNothingUptoSaid : Prop := arbiterNothingUptoRow.holds Try.pinned (OpenSpec.upto arbiterNothingSpec)

end Rows
end Go.Proofs.Ythjlknomaoolaaa
