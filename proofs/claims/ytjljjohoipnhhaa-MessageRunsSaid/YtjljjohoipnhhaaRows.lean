/-
  No cell of these rows narrows 'for every input' (looked for: loops, veiled, ifaces, maps, wideKeys, modest, calm, conditions, laid).
  DERIVED. THE GIVEN ROWS OF THIS SEAT. 6 by the template 'for every input the law returns true; each argument reads behind the call as it read before'; 0 by the template 'total and deterministic' (their statements: YtjljjohoipnhhaaTotals.lean).
  GIVEN WITH THE SEED: the statements are not yours to turn. If you find one false, say at which input.
  Laid BY PROGRAM, IN A SANDBOX (cutbox-rows.mjs): the forced cells as the released guide's own fill.sh prints them over the translation d5a3005f4c6f5fed… (all of the seat's roots in one cut). By AI agents, Wed Nov 11 2026. No macro, syntax, notation, axiom, sorry.
-/
import Derived.Test.YtjljjohoipnhhaaChecked
import GoSem.Claim
import GoSem.ClaimJoined
import GoSem.ClaimMapViews
import Derived.JoinedTies
import Derived.KernelRfl
namespace Go.Proofs.Ytjljjohoipnhhaa
/- THE CELL 'sum', in the pinned program and in every row, IS THE sha256 OF THE DUMP (.gsa) THAT YtjljjohoipnhhaaProg.lean LOADS. Nothing in Lean hashes anything: it is a label: what it is worth is what the hold of that sum in a sandbox is worth. -/
noncomputable def Try.pinned : Pinned := { name := "ytjljjohoipnhhaa", sum := "d5a3005f4c6f5fed95dd9fa388baee432b1351ffc534f048adce74ffc8a91e05", checked := Try.checked }
namespace Rows
def none {H : Type} : Left H := { results := [], args := [] }

/-- 'fairlinklaw45.MessageDeadlines': WHATEVER THE INPUT: true; the input reads as it did. -/
def messageDeadlinesSpec : ChangeSpec := { name := "messageDeadlines", fn := fun _ => fun
  | [d1, d2, d3, d4] => { results := [.lit (.bool true)], args := [d1, d2, d3, d4] }
  | _ => none }
def messageDeadlinesRow : OpenClaim := { program := "ytjljjohoipnhhaa", sum := "d5a3005f4c6f5fed95dd9fa388baee432b1351ffc534f048adce74ffc8a91e05", func := "fairlink/fairlinklaw45.MessageDeadlines", spec := "messageDeadlines", unfollowed := true, recurses := true, apart := false }
def MessageDeadlinesSaid : Prop := messageDeadlinesRow.holds Try.pinned (OpenSpec.ofChange messageDeadlinesSpec)

/-- ITS FALSE NEIGHBOUR: 'it returns false'. Refute it at one input. -/
def messageDeadlinesWrong : ChangeSpec := { name := "messageDeadlines", fn := fun _ => fun
  | [d1, d2, d3, d4] => { results := [.lit (.bool false)], args := [d1, d2, d3, d4] }
  | _ => none }
def MessageDeadlinesWrongFalsely : Prop := messageDeadlinesRow.holds Try.pinned (OpenSpec.ofChange messageDeadlinesWrong)

/-- 'fairlinklaw45.MessageRuns': WHATEVER THE INPUT: true; the input reads as it did. -/
def messageRunsSpec : ChangeSpec := { name := "messageRuns", fn := fun _ => fun
  | [d1, d2] => { results := [.lit (.bool true)], args := [d1, d2] }
  | _ => none }
def messageRunsRow : OpenClaim := { program := "ytjljjohoipnhhaa", sum := "d5a3005f4c6f5fed95dd9fa388baee432b1351ffc534f048adce74ffc8a91e05", func := "fairlink/fairlinklaw45.MessageRuns", spec := "messageRuns", unfollowed := true, recurses := true, apart := false }
def MessageRunsSaid : Prop := messageRunsRow.holds Try.pinned (OpenSpec.ofChange messageRunsSpec)

/-- ITS FALSE NEIGHBOUR: 'it returns false'. Refute it at one input. -/
def messageRunsWrong : ChangeSpec := { name := "messageRuns", fn := fun _ => fun
  | [d1, d2] => { results := [.lit (.bool false)], args := [d1, d2] }
  | _ => none }
def MessageRunsWrongFalsely : Prop := messageRunsRow.holds Try.pinned (OpenSpec.ofChange messageRunsWrong)

/-- 'fairlinklaw45.MessageStates': WHATEVER THE INPUT: true; the input reads as it did. -/
def messageStatesSpec : ChangeSpec := { name := "messageStates", fn := fun _ => fun
  | [d1, d2] => { results := [.lit (.bool true)], args := [d1, d2] }
  | _ => none }
def messageStatesRow : OpenClaim := { program := "ytjljjohoipnhhaa", sum := "d5a3005f4c6f5fed95dd9fa388baee432b1351ffc534f048adce74ffc8a91e05", func := "fairlink/fairlinklaw45.MessageStates", spec := "messageStates", unfollowed := true, recurses := true, apart := false }
def MessageStatesSaid : Prop := messageStatesRow.holds Try.pinned (OpenSpec.ofChange messageStatesSpec)

/-- ITS FALSE NEIGHBOUR: 'it returns false'. Refute it at one input. -/
def messageStatesWrong : ChangeSpec := { name := "messageStates", fn := fun _ => fun
  | [d1, d2] => { results := [.lit (.bool false)], args := [d1, d2] }
  | _ => none }
def MessageStatesWrongFalsely : Prop := messageStatesRow.holds Try.pinned (OpenSpec.ofChange messageStatesWrong)

/-- 'fairlinklaw45.MessagePieces': WHATEVER THE INPUT: true; the input reads as it did. -/
def messagePiecesSpec : ChangeSpec := { name := "messagePieces", fn := fun _ => fun
  | [d1, d2] => { results := [.lit (.bool true)], args := [d1, d2] }
  | _ => none }
def messagePiecesRow : OpenClaim := { program := "ytjljjohoipnhhaa", sum := "d5a3005f4c6f5fed95dd9fa388baee432b1351ffc534f048adce74ffc8a91e05", func := "fairlink/fairlinklaw45.MessagePieces", spec := "messagePieces", unfollowed := true, recurses := true, apart := false }
def MessagePiecesSaid : Prop := messagePiecesRow.holds Try.pinned (OpenSpec.ofChange messagePiecesSpec)

/-- ITS FALSE NEIGHBOUR: 'it returns false'. Refute it at one input. -/
def messagePiecesWrong : ChangeSpec := { name := "messagePieces", fn := fun _ => fun
  | [d1, d2] => { results := [.lit (.bool false)], args := [d1, d2] }
  | _ => none }
def MessagePiecesWrongFalsely : Prop := messagePiecesRow.holds Try.pinned (OpenSpec.ofChange messagePiecesWrong)

/-- 'fairlinklaw45.MessageCuts': WHATEVER THE INPUT: true; the input reads as it did. -/
def messageCutsSpec : ChangeSpec := { name := "messageCuts", fn := fun _ => fun
  | [d1, d2] => { results := [.lit (.bool true)], args := [d1, d2] }
  | _ => none }
def messageCutsRow : OpenClaim := { program := "ytjljjohoipnhhaa", sum := "d5a3005f4c6f5fed95dd9fa388baee432b1351ffc534f048adce74ffc8a91e05", func := "fairlink/fairlinklaw45.MessageCuts", spec := "messageCuts", unfollowed := true, recurses := true, apart := false }
def MessageCutsSaid : Prop := messageCutsRow.holds Try.pinned (OpenSpec.ofChange messageCutsSpec)

/-- ITS FALSE NEIGHBOUR: 'it returns false'. Refute it at one input. -/
def messageCutsWrong : ChangeSpec := { name := "messageCuts", fn := fun _ => fun
  | [d1, d2] => { results := [.lit (.bool false)], args := [d1, d2] }
  | _ => none }
def MessageCutsWrongFalsely : Prop := messageCutsRow.holds Try.pinned (OpenSpec.ofChange messageCutsWrong)

/-- 'fairlinklaw45.MessageArrives': WHATEVER THE INPUT: true; the input reads as it did. -/
def messageArrivesSpec : ChangeSpec := { name := "messageArrives", fn := fun _ => fun
  | [d] => { results := [.lit (.bool true)], args := [d] }
  | _ => none }
def messageArrivesRow : OpenClaim := { program := "ytjljjohoipnhhaa", sum := "d5a3005f4c6f5fed95dd9fa388baee432b1351ffc534f048adce74ffc8a91e05", func := "fairlink/fairlinklaw45.MessageArrives", spec := "messageArrives", unfollowed := true, recurses := true, apart := false }
def MessageArrivesSaid : Prop := messageArrivesRow.holds Try.pinned (OpenSpec.ofChange messageArrivesSpec)

/-- ITS FALSE NEIGHBOUR: 'it returns false'. Refute it at one input. -/
def messageArrivesWrong : ChangeSpec := { name := "messageArrives", fn := fun _ => fun
  | [d] => { results := [.lit (.bool false)], args := [d] }
  | _ => none }
def MessageArrivesWrongFalsely : Prop := messageArrivesRow.holds Try.pinned (OpenSpec.ofChange messageArrivesWrong)

/- THE SECOND FORM. 'bulk': how many values and letters a reading holds, each counted each time it is reached (what is shared counts as often as it is met; a slice's spare places count too). A statement '..UptoSaid' is the law's where the arguments, and the package variables that the reading takes, are together of bulk at most 1048576: NARROWER than '..Said'. Prove '..Said' where nothing that the law and all that it calls make is longer than what came in: it says more and counts as full. Else prove '..UptoSaid'. A law counts once. -/
mutual
def uptoBulk {H : Type} : DataW H → Nat
  | .lit (.string bytes) => bytes.length + 1
  | .lit _ => 1
  | .nil => 1
  | .ptr d => uptoBulk d + 1
  | .slice elems spare => uptoBulkAll elems + uptoBulkAll spare + 1
  | .agg parts => uptoBulkAll parts + 1
  | .iface _ d => uptoBulk d + 1
  | .map entries => uptoBulkEntries entries + 1
  | .held _ => 1
def uptoBulkAll {H : Type} : List (DataW H) → Nat
  | [] => 0
  | d :: r => uptoBulk d + uptoBulkAll r
def uptoBulkEntries {H : Type} : List (Lit × DataW H) → Nat
  | [] => 0
  | x :: r => uptoBulkEntry x + uptoBulkEntries r
def uptoBulkEntry {H : Type} : Lit × DataW H → Nat
  | (.string bytes, d) => bytes.length + uptoBulk d + 1
  | (_, d) => uptoBulk d + 1
 end
def uptoSmall : (H : Type) → List (DataW H) → Bool := fun _ ds => decide (uptoBulkAll ds ≤ 1048576)
def OpenSpec.upto (s : _root_.Go.ChangeSpec) : _root_.Go.OpenSpec := { _root_.Go.OpenSpec.ofChange s with cond := some uptoSmall }

/-- 'fairlinklaw45.MessageDeadlines', WHERE WHAT IT READS IS OF BULK AT MOST 1048576: true; the input reads as it did. -/
def messageDeadlinesUptoRow : OpenClaim := { program := "ytjljjohoipnhhaa", sum := "d5a3005f4c6f5fed95dd9fa388baee432b1351ffc534f048adce74ffc8a91e05", func := "fairlink/fairlinklaw45.MessageDeadlines", spec := "messageDeadlines", unfollowed := true, recurses := true, apart := false, narrowed := true }
def MessageDeadlinesUptoSaid : Prop := messageDeadlinesUptoRow.holds Try.pinned (OpenSpec.upto messageDeadlinesSpec)

/-- 'fairlinklaw45.MessageRuns', WHERE WHAT IT READS IS OF BULK AT MOST 1048576: true; the input reads as it did. -/
def messageRunsUptoRow : OpenClaim := { program := "ytjljjohoipnhhaa", sum := "d5a3005f4c6f5fed95dd9fa388baee432b1351ffc534f048adce74ffc8a91e05", func := "fairlink/fairlinklaw45.MessageRuns", spec := "messageRuns", unfollowed := true, recurses := true, apart := false, narrowed := true }
def MessageRunsUptoSaid : Prop := messageRunsUptoRow.holds Try.pinned (OpenSpec.upto messageRunsSpec)

/-- 'fairlinklaw45.MessageStates', WHERE WHAT IT READS IS OF BULK AT MOST 1048576: true; the input reads as it did. -/
def messageStatesUptoRow : OpenClaim := { program := "ytjljjohoipnhhaa", sum := "d5a3005f4c6f5fed95dd9fa388baee432b1351ffc534f048adce74ffc8a91e05", func := "fairlink/fairlinklaw45.MessageStates", spec := "messageStates", unfollowed := true, recurses := true, apart := false, narrowed := true }
def MessageStatesUptoSaid : Prop := messageStatesUptoRow.holds Try.pinned (OpenSpec.upto messageStatesSpec)

/-- 'fairlinklaw45.MessagePieces', WHERE WHAT IT READS IS OF BULK AT MOST 1048576: true; the input reads as it did. -/
def messagePiecesUptoRow : OpenClaim := { program := "ytjljjohoipnhhaa", sum := "d5a3005f4c6f5fed95dd9fa388baee432b1351ffc534f048adce74ffc8a91e05", func := "fairlink/fairlinklaw45.MessagePieces", spec := "messagePieces", unfollowed := true, recurses := true, apart := false, narrowed := true }
def MessagePiecesUptoSaid : Prop := messagePiecesUptoRow.holds Try.pinned (OpenSpec.upto messagePiecesSpec)

/-- 'fairlinklaw45.MessageCuts', WHERE WHAT IT READS IS OF BULK AT MOST 1048576: true; the input reads as it did. -/
def messageCutsUptoRow : OpenClaim := { program := "ytjljjohoipnhhaa", sum := "d5a3005f4c6f5fed95dd9fa388baee432b1351ffc534f048adce74ffc8a91e05", func := "fairlink/fairlinklaw45.MessageCuts", spec := "messageCuts", unfollowed := true, recurses := true, apart := false, narrowed := true }
def MessageCutsUptoSaid : Prop := messageCutsUptoRow.holds Try.pinned (OpenSpec.upto messageCutsSpec)

/-- 'fairlinklaw45.MessageArrives', WHERE WHAT IT READS IS OF BULK AT MOST 1048576: true; the input reads as it did. -/
def messageArrivesUptoRow : OpenClaim := { program := "ytjljjohoipnhhaa", sum := "d5a3005f4c6f5fed95dd9fa388baee432b1351ffc534f048adce74ffc8a91e05", func := "fairlink/fairlinklaw45.MessageArrives", spec := "messageArrives", unfollowed := true, recurses := true, apart := false, narrowed := true }
def MessageArrivesUptoSaid : Prop := messageArrivesUptoRow.holds Try.pinned (OpenSpec.upto messageArrivesSpec)

end Rows
end Go.Proofs.Ytjljjohoipnhhaa
