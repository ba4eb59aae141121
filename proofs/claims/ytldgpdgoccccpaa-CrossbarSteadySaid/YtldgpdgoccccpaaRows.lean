/-
  No cell of these rows narrows 'for every input' (looked for: loops, veiled, ifaces, maps, wideKeys, modest, calm, conditions, laid).
  DERIVED. THE GIVEN ROWS OF THIS SEAT. 8 by the template 'for every input the law returns true; each argument reads behind the call as it read before'; 0 by the template 'total and deterministic' (their statements: YtldgpdgoccccpaaTotals.lean).
  GIVEN WITH THE SEED: the statements are not yours to turn. If you find one false, say at which input.
  Laid BY PROGRAM, IN A SANDBOX (cutbox-rows.mjs): the forced cells as the released guide's own fill.sh prints them over the translation 98e0957fa7bc82f0… (all of the seat's roots in one cut). By AI agents, Wed Nov 11 2026. No macro, syntax, notation, axiom, sorry.
-/
import Derived.Test.YtldgpdgoccccpaaChecked
import GoSem.Claim
import GoSem.ClaimJoined
import GoSem.ClaimMapViews
import Derived.JoinedTies
import Derived.KernelRfl
namespace Go.Proofs.Ytldgpdgoccccpaa
/- THE CELL 'sum', in the pinned program and in every row, IS THE sha256 OF THE DUMP (.gsa) THAT YtldgpdgoccccpaaProg.lean LOADS. Nothing in Lean hashes anything: it is a label: what it is worth is what the hold of that sum in a sandbox is worth. -/
noncomputable def Try.pinned : Pinned := { name := "ytldgpdgoccccpaa", sum := "98e0957fa7bc82f0099b259617971ca7104acd2b5d17e45578d7d63d6906c439", checked := Try.checked }
namespace Rows
def none {H : Type} : Left H := { results := [], args := [] }

/-- 'fairlinklaw26.CrossbarSteady': WHATEVER THE INPUT: true; the input reads as it did. -/
def crossbarSteadySpec : ChangeSpec := { name := "crossbarSteady", fn := fun _ => fun
  | [d1, d2, d3, d4] => { results := [.lit (.bool true)], args := [d1, d2, d3, d4] }
  | _ => none }
def crossbarSteadyRow : OpenClaim := { program := "ytldgpdgoccccpaa", sum := "98e0957fa7bc82f0099b259617971ca7104acd2b5d17e45578d7d63d6906c439", func := "fairlink/fairlinklaw26.CrossbarSteady", spec := "crossbarSteady", unfollowed := true, recurses := true, plainKeys := false, apart := false }
def CrossbarSteadySaid : Prop := crossbarSteadyRow.holds Try.pinned (OpenSpec.ofChange crossbarSteadySpec)

/-- ITS FALSE NEIGHBOUR: 'it returns false'. Refute it at one input. -/
def crossbarSteadyWrong : ChangeSpec := { name := "crossbarSteady", fn := fun _ => fun
  | [d1, d2, d3, d4] => { results := [.lit (.bool false)], args := [d1, d2, d3, d4] }
  | _ => none }
def CrossbarSteadyWrongFalsely : Prop := crossbarSteadyRow.holds Try.pinned (OpenSpec.ofChange crossbarSteadyWrong)

/-- 'fairlinklaw26.CrossbarNothing': WHATEVER THE INPUT: true; the input reads as it did. -/
def crossbarNothingSpec : ChangeSpec := { name := "crossbarNothing", fn := fun _ => fun
  | [d1, d2, d3] => { results := [.lit (.bool true)], args := [d1, d2, d3] }
  | _ => none }
def crossbarNothingRow : OpenClaim := { program := "ytldgpdgoccccpaa", sum := "98e0957fa7bc82f0099b259617971ca7104acd2b5d17e45578d7d63d6906c439", func := "fairlink/fairlinklaw26.CrossbarNothing", spec := "crossbarNothing", unfollowed := true, recurses := true, plainKeys := false, apart := false }
def CrossbarNothingSaid : Prop := crossbarNothingRow.holds Try.pinned (OpenSpec.ofChange crossbarNothingSpec)

/-- ITS FALSE NEIGHBOUR: 'it returns false'. Refute it at one input. -/
def crossbarNothingWrong : ChangeSpec := { name := "crossbarNothing", fn := fun _ => fun
  | [d1, d2, d3] => { results := [.lit (.bool false)], args := [d1, d2, d3] }
  | _ => none }
def CrossbarNothingWrongFalsely : Prop := crossbarNothingRow.holds Try.pinned (OpenSpec.ofChange crossbarNothingWrong)

/-- 'fairlinklaw26.CrossbarSaturates': WHATEVER THE INPUT: true; the input reads as it did. -/
def crossbarSaturatesSpec : ChangeSpec := { name := "crossbarSaturates", fn := fun _ => fun
  | [d1, d2] => { results := [.lit (.bool true)], args := [d1, d2] }
  | _ => none }
def crossbarSaturatesRow : OpenClaim := { program := "ytldgpdgoccccpaa", sum := "98e0957fa7bc82f0099b259617971ca7104acd2b5d17e45578d7d63d6906c439", func := "fairlink/fairlinklaw26.CrossbarSaturates", spec := "crossbarSaturates", unfollowed := true, recurses := true, plainKeys := false, apart := false }
def CrossbarSaturatesSaid : Prop := crossbarSaturatesRow.holds Try.pinned (OpenSpec.ofChange crossbarSaturatesSpec)

/-- ITS FALSE NEIGHBOUR: 'it returns false'. Refute it at one input. -/
def crossbarSaturatesWrong : ChangeSpec := { name := "crossbarSaturates", fn := fun _ => fun
  | [d1, d2] => { results := [.lit (.bool false)], args := [d1, d2] }
  | _ => none }
def CrossbarSaturatesWrongFalsely : Prop := crossbarSaturatesRow.holds Try.pinned (OpenSpec.ofChange crossbarSaturatesWrong)

/-- 'fairlinklaw26.CrossbarMatches': WHATEVER THE INPUT: true; the input reads as it did. -/
def crossbarMatchesSpec : ChangeSpec := { name := "crossbarMatches", fn := fun _ => fun
  | [d1, d2, d3] => { results := [.lit (.bool true)], args := [d1, d2, d3] }
  | _ => none }
def crossbarMatchesRow : OpenClaim := { program := "ytldgpdgoccccpaa", sum := "98e0957fa7bc82f0099b259617971ca7104acd2b5d17e45578d7d63d6906c439", func := "fairlink/fairlinklaw26.CrossbarMatches", spec := "crossbarMatches", unfollowed := true, recurses := true, plainKeys := false, apart := false }
def CrossbarMatchesSaid : Prop := crossbarMatchesRow.holds Try.pinned (OpenSpec.ofChange crossbarMatchesSpec)

/-- ITS FALSE NEIGHBOUR: 'it returns false'. Refute it at one input. -/
def crossbarMatchesWrong : ChangeSpec := { name := "crossbarMatches", fn := fun _ => fun
  | [d1, d2, d3] => { results := [.lit (.bool false)], args := [d1, d2, d3] }
  | _ => none }
def CrossbarMatchesWrongFalsely : Prop := crossbarMatchesRow.holds Try.pinned (OpenSpec.ofChange crossbarMatchesWrong)

/-- 'fairlinklaw26.CrossbarGreatest': WHATEVER THE INPUT: true; the input reads as it did. -/
def crossbarGreatestSpec : ChangeSpec := { name := "crossbarGreatest", fn := fun _ => fun
  | [d] => { results := [.lit (.bool true)], args := [d] }
  | _ => none }
def crossbarGreatestRow : OpenClaim := { program := "ytldgpdgoccccpaa", sum := "98e0957fa7bc82f0099b259617971ca7104acd2b5d17e45578d7d63d6906c439", func := "fairlink/fairlinklaw26.CrossbarGreatest", spec := "crossbarGreatest", unfollowed := true, recurses := true, plainKeys := false, apart := false }
def CrossbarGreatestSaid : Prop := crossbarGreatestRow.holds Try.pinned (OpenSpec.ofChange crossbarGreatestSpec)

/-- ITS FALSE NEIGHBOUR: 'it returns false'. Refute it at one input. -/
def crossbarGreatestWrong : ChangeSpec := { name := "crossbarGreatest", fn := fun _ => fun
  | [d] => { results := [.lit (.bool false)], args := [d] }
  | _ => none }
def CrossbarGreatestWrongFalsely : Prop := crossbarGreatestRow.holds Try.pinned (OpenSpec.ofChange crossbarGreatestWrong)

/-- 'fairlinklaw26.CrossbarMaximal': WHATEVER THE INPUT: true; the input reads as it did. -/
def crossbarMaximalSpec : ChangeSpec := { name := "crossbarMaximal", fn := fun _ => fun
  | [d1, d2] => { results := [.lit (.bool true)], args := [d1, d2] }
  | _ => none }
def crossbarMaximalRow : OpenClaim := { program := "ytldgpdgoccccpaa", sum := "98e0957fa7bc82f0099b259617971ca7104acd2b5d17e45578d7d63d6906c439", func := "fairlink/fairlinklaw26.CrossbarMaximal", spec := "crossbarMaximal", unfollowed := true, recurses := true, plainKeys := false, apart := false }
def CrossbarMaximalSaid : Prop := crossbarMaximalRow.holds Try.pinned (OpenSpec.ofChange crossbarMaximalSpec)

/-- ITS FALSE NEIGHBOUR: 'it returns false'. Refute it at one input. -/
def crossbarMaximalWrong : ChangeSpec := { name := "crossbarMaximal", fn := fun _ => fun
  | [d1, d2] => { results := [.lit (.bool false)], args := [d1, d2] }
  | _ => none }
def CrossbarMaximalWrongFalsely : Prop := crossbarMaximalRow.holds Try.pinned (OpenSpec.ofChange crossbarMaximalWrong)

/-- 'fairlinklaw26.CrossbarRounds': WHATEVER THE INPUT: true; the input reads as it did. -/
def crossbarRoundsSpec : ChangeSpec := { name := "crossbarRounds", fn := fun _ => fun
  | [d1, d2, d3] => { results := [.lit (.bool true)], args := [d1, d2, d3] }
  | _ => none }
def crossbarRoundsRow : OpenClaim := { program := "ytldgpdgoccccpaa", sum := "98e0957fa7bc82f0099b259617971ca7104acd2b5d17e45578d7d63d6906c439", func := "fairlink/fairlinklaw26.CrossbarRounds", spec := "crossbarRounds", unfollowed := true, recurses := true, plainKeys := false, apart := false }
def CrossbarRoundsSaid : Prop := crossbarRoundsRow.holds Try.pinned (OpenSpec.ofChange crossbarRoundsSpec)

/-- ITS FALSE NEIGHBOUR: 'it returns false'. Refute it at one input. -/
def crossbarRoundsWrong : ChangeSpec := { name := "crossbarRounds", fn := fun _ => fun
  | [d1, d2, d3] => { results := [.lit (.bool false)], args := [d1, d2, d3] }
  | _ => none }
def CrossbarRoundsWrongFalsely : Prop := crossbarRoundsRow.holds Try.pinned (OpenSpec.ofChange crossbarRoundsWrong)

/-- 'fairlinklaw26.CrossbarFills': WHATEVER THE INPUT: true; the input reads as it did. -/
def crossbarFillsSpec : ChangeSpec := { name := "crossbarFills", fn := fun _ => fun
  | [d] => { results := [.lit (.bool true)], args := [d] }
  | _ => none }
def crossbarFillsRow : OpenClaim := { program := "ytldgpdgoccccpaa", sum := "98e0957fa7bc82f0099b259617971ca7104acd2b5d17e45578d7d63d6906c439", func := "fairlink/fairlinklaw26.CrossbarFills", spec := "crossbarFills", unfollowed := true, recurses := true, plainKeys := false, apart := false }
def CrossbarFillsSaid : Prop := crossbarFillsRow.holds Try.pinned (OpenSpec.ofChange crossbarFillsSpec)

/-- ITS FALSE NEIGHBOUR: 'it returns false'. Refute it at one input. -/
def crossbarFillsWrong : ChangeSpec := { name := "crossbarFills", fn := fun _ => fun
  | [d] => { results := [.lit (.bool false)], args := [d] }
  | _ => none }
def CrossbarFillsWrongFalsely : Prop := crossbarFillsRow.holds Try.pinned (OpenSpec.ofChange crossbarFillsWrong)

/- THE SECOND FORM. 'bulk': how many values and letters a reading holds, each counted each time it is reached (what is shared counts as often as it is met; a slice's spare places count too). A statement '..UptoSaid' is the law's where the arguments, and the package variables that the reading takes, are together of bulk at most 1048576: NARROWER than '..Said'. Prove '..Said' where nothing that the law and all that it calls make is longer than what came in: it says more and counts as full. Else prove '..UptoSaid'. A law counts once. -/
mutual
def uptoBulk {H : Type} : DataW H → Nat
  | .lit (.string bytes) => bytes.length + 1
  | .lit _ => 1
  | .nil => 1
  | .ptr d => uptoBulk d + 1
  | .slice elems spare => uptoBulkAll elems + uptoBulkAll spare + 1
  | .agg parts => uptoBulkAll parts + 1
  | .iface _ d => uptoBulk d + 1
  | .map entries => uptoBulkEntries entries + 1
  | .held _ => 1
def uptoBulkAll {H : Type} : List (DataW H) → Nat
  | [] => 0
  | d :: r => uptoBulk d + uptoBulkAll r
def uptoBulkEntries {H : Type} : List (Lit × DataW H) → Nat
  | [] => 0
  | x :: r => uptoBulkEntry x + uptoBulkEntries r
def uptoBulkEntry {H : Type} : Lit × DataW H → Nat
  | (.string bytes, d) => bytes.length + uptoBulk d + 1
  | (_, d) => uptoBulk d + 1
 end
def uptoSmall : (H : Type) → List (DataW H) → Bool := fun _ ds => decide (uptoBulkAll ds ≤ 1048576)
def OpenSpec.upto (s : _root_.Go.ChangeSpec) : _root_.Go.OpenSpec := { _root_.Go.OpenSpec.ofChange s with cond := some uptoSmall }

/-- 'fairlinklaw26.CrossbarSteady', WHERE WHAT IT READS IS OF BULK AT MOST 1048576: true; the input reads as it did. -/
def crossbarSteadyUptoRow : OpenClaim := { program := "ytldgpdgoccccpaa", sum := "98e0957fa7bc82f0099b259617971ca7104acd2b5d17e45578d7d63d6906c439", func := "fairlink/fairlinklaw26.CrossbarSteady", spec := "crossbarSteady", unfollowed := true, recurses := true, plainKeys := false, apart := false, narrowed := true }
def CrossbarSteadyUptoSaid : Prop := crossbarSteadyUptoRow.holds Try.pinned (OpenSpec.upto crossbarSteadySpec)

/-- 'fairlinklaw26.CrossbarNothing', WHERE WHAT IT READS IS OF BULK AT MOST 1048576: true; the input reads as it did. -/
def crossbarNothingUptoRow : OpenClaim := { program := "ytldgpdgoccccpaa", sum := "98e0957fa7bc82f0099b259617971ca7104acd2b5d17e45578d7d63d6906c439", func := "fairlink/fairlinklaw26.CrossbarNothing", spec := "crossbarNothing", unfollowed := true, recurses := true, plainKeys := false, apart := false, narrowed := true }
def CrossbarNothingUptoSaid : Prop := crossbarNothingUptoRow.holds Try.pinned (OpenSpec.upto crossbarNothingSpec)

/-- 'fairlinklaw26.CrossbarSaturates', WHERE WHAT IT READS IS OF BULK AT MOST 1048576: true; the input reads as it did. -/
def crossbarSaturatesUptoRow : OpenClaim := { program := "ytldgpdgoccccpaa", sum := "98e0957fa7bc82f0099b259617971ca7104acd2b5d17e45578d7d63d6906c439", func := "fairlink/fairlinklaw26.CrossbarSaturates", spec := "crossbarSaturates", unfollowed := true, recurses := true, plainKeys := false, apart := false, narrowed := true }
def CrossbarSaturatesUptoSaid : Prop := crossbarSaturatesUptoRow.holds Try.pinned (OpenSpec.upto crossbarSaturatesSpec)

/-- 'fairlinklaw26.CrossbarMatches', WHERE WHAT IT READS IS OF BULK AT MOST 1048576: true; the input reads as it did. -/
def crossbarMatchesUptoRow : OpenClaim := { program := "ytldgpdgoccccpaa", sum := "98e0957fa7bc82f0099b259617971ca7104acd2b5d17e45578d7d63d6906c439", func := "fairlink/fairlinklaw26.CrossbarMatches", spec := "crossbarMatches", unfollowed := true, recurses := true, plainKeys := false, apart := false, narrowed := true }
def CrossbarMatchesUptoSaid : Prop := crossbarMatchesUptoRow.holds Try.pinned (OpenSpec.upto crossbarMatchesSpec)

/-- 'fairlinklaw26.CrossbarGreatest', WHERE WHAT IT READS IS OF BULK AT MOST 1048576: true; the input reads as it did. -/
def crossbarGreatestUptoRow : OpenClaim := { program := "ytldgpdgoccccpaa", sum := "98e0957fa7bc82f0099b259617971ca7104acd2b5d17e45578d7d63d6906c439", func := "fairlink/fairlinklaw26.CrossbarGreatest", spec := "crossbarGreatest", unfollowed := true, recurses := true, plainKeys := false, apart := false, narrowed := true }
def CrossbarGreatestUptoSaid : Prop := crossbarGreatestUptoRow.holds Try.pinned (OpenSpec.upto crossbarGreatestSpec)

/-- 'fairlinklaw26.CrossbarMaximal', WHERE WHAT IT READS IS OF BULK AT MOST 1048576: true; the input reads as it did. -/
def crossbarMaximalUptoRow : OpenClaim := { program := "ytldgpdgoccccpaa", sum := "98e0957fa7bc82f0099b259617971ca7104acd2b5d17e45578d7d63d6906c439", func := "fairlink/fairlinklaw26.CrossbarMaximal", spec := "crossbarMaximal", unfollowed := true, recurses := true, plainKeys := false, apart := false, narrowed := true }
def CrossbarMaximalUptoSaid : Prop := crossbarMaximalUptoRow.holds Try.pinned (OpenSpec.upto crossbarMaximalSpec)

/-- 'fairlinklaw26.CrossbarRounds', WHERE WHAT IT READS IS OF BULK AT MOST 1048576: true; the input reads as it did. -/
def crossbarRoundsUptoRow : OpenClaim := { program := "ytldgpdgoccccpaa", sum := "98e0957fa7bc82f0099b259617971ca7104acd2b5d17e45578d7d63d6906c439", func := "fairlink/fairlinklaw26.CrossbarRounds", spec := "crossbarRounds", unfollowed := true, recurses := true, plainKeys := false, apart := false, narrowed := true }
def CrossbarRoundsUptoSaid : Prop := crossbarRoundsUptoRow.holds Try.pinned (OpenSpec.upto crossbarRoundsSpec)

/-- 'fairlinklaw26.CrossbarFills', WHERE WHAT IT READS IS OF BULK AT MOST 1048576: true; the input reads as it did. -/
def crossbarFillsUptoRow : OpenClaim := { program := "ytldgpdgoccccpaa", sum := "98e0957fa7bc82f0099b259617971ca7104acd2b5d17e45578d7d63d6906c439", func := "fairlink/fairlinklaw26.CrossbarFills", spec := "crossbarFills", unfollowed := true, recurses := true, plainKeys := false, apart := false, narrowed := true }
def CrossbarFillsUptoSaid : Prop := crossbarFillsUptoRow.holds Try.pinned (OpenSpec.upto crossbarFillsSpec)

end Rows
end Go.Proofs.Ytldgpdgoccccpaa
