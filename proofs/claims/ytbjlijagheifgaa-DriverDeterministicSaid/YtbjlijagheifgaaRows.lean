/-
  No cell of these rows narrows 'for every input' (looked for: loops, veiled, ifaces, maps, wideKeys, modest, calm, conditions, laid).
  DERIVED. THE GIVEN ROWS OF THIS SEAT. 8 by the template 'for every input the law returns true; each argument reads behind the call as it read before'; 0 by the template 'total and deterministic' (their statements: YtbjlijagheifgaaTotals.lean).
  GIVEN WITH THE SEED: the statements are not yours to turn. If you find one false, say at which input.
  Laid BY PROGRAM, IN A SANDBOX (cutbox-rows.mjs): the forced cells as the released guide's own fill.sh prints them over the translation dbe19d5815e8a84e… (all of the seat's roots in one cut). By AI agents, Wed Nov 11 2026. No macro, syntax, notation, axiom, sorry.
-/
import Derived.Test.YtbjlijagheifgaaChecked
import GoSem.Claim
import GoSem.ClaimJoined
import GoSem.ClaimMapViews
import Derived.JoinedTies
import Derived.KernelRfl
namespace Go.Proofs.Ytbjlijagheifgaa
/- THE CELL 'sum', in the pinned program and in every row, IS THE sha256 OF THE DUMP (.gsa) THAT YtbjlijagheifgaaProg.lean LOADS. Nothing in Lean hashes anything: it is a label: what it is worth is what the hold of that sum in a sandbox is worth. -/
noncomputable def Try.pinned : Pinned := { name := "ytbjlijagheifgaa", sum := "dbe19d5815e8a84e1fc54696efe2717e560c577e619bc76a1c54c2096a690ff4", checked := Try.checked }
namespace Rows
def none {H : Type} : Left H := { results := [], args := [] }

/-- 'fairlinklaw32.DriverPipeline': WHATEVER THE INPUT: true; the input reads as it did. -/
def driverPipelineSpec : ChangeSpec := { name := "driverPipeline", fn := fun _ => fun
  | [d1, d2, d3] => { results := [.lit (.bool true)], args := [d1, d2, d3] }
  | _ => none }
def driverPipelineRow : OpenClaim := { program := "ytbjlijagheifgaa", sum := "dbe19d5815e8a84e1fc54696efe2717e560c577e619bc76a1c54c2096a690ff4", func := "fairlink/fairlinklaw32.DriverPipeline", spec := "driverPipeline", inPlace := ["(*sync.WaitGroup).Add", "internal/race.ReleaseMerge", "internal/race.Disable", "internal/race.Enable", "internal/synctest.IsInBubble", "internal/synctest.Associate[sync.WaitGroup]", "sync.fatal", "sync/atomic.OrUint64", "sync/atomic.AddUint64", "internal/race.Read", "sync/atomic.LoadUint64", "sync/atomic.StoreUint64", "internal/synctest.Disassociate[sync.WaitGroup]", "sync.runtime_Semrelease", "(*sync.WaitGroup).Done", "(*sync.WaitGroup).Wait", "internal/race.Acquire", "internal/synctest.IsAssociated[sync.WaitGroup]", "sync/atomic.CompareAndSwapUint64", "internal/race.Write", "sync.runtime_SemacquireWaitGroup"], unfollowed := true, recurses := true, leaving := true, apart := false }
def DriverPipelineSaid : Prop := driverPipelineRow.holds Try.pinned (OpenSpec.ofChange driverPipelineSpec)

/-- ITS FALSE NEIGHBOUR: 'it returns false'. Refute it at one input. -/
def driverPipelineWrong : ChangeSpec := { name := "driverPipeline", fn := fun _ => fun
  | [d1, d2, d3] => { results := [.lit (.bool false)], args := [d1, d2, d3] }
  | _ => none }
def DriverPipelineWrongFalsely : Prop := driverPipelineRow.holds Try.pinned (OpenSpec.ofChange driverPipelineWrong)

/-- 'fairlinklaw32.DriverCircle': WHATEVER THE INPUT: true; the input reads as it did. -/
def driverCircleSpec : ChangeSpec := { name := "driverCircle", fn := fun _ => fun
  | [d1, d2, d3, d4] => { results := [.lit (.bool true)], args := [d1, d2, d3, d4] }
  | _ => none }
def driverCircleRow : OpenClaim := { program := "ytbjlijagheifgaa", sum := "dbe19d5815e8a84e1fc54696efe2717e560c577e619bc76a1c54c2096a690ff4", func := "fairlink/fairlinklaw32.DriverCircle", spec := "driverCircle", inPlace := ["(*sync.WaitGroup).Add", "internal/race.ReleaseMerge", "internal/race.Disable", "internal/race.Enable", "internal/synctest.IsInBubble", "internal/synctest.Associate[sync.WaitGroup]", "sync.fatal", "sync/atomic.OrUint64", "sync/atomic.AddUint64", "internal/race.Read", "sync/atomic.LoadUint64", "sync/atomic.StoreUint64", "internal/synctest.Disassociate[sync.WaitGroup]", "sync.runtime_Semrelease", "(*sync.WaitGroup).Done", "(*sync.WaitGroup).Wait", "internal/race.Acquire", "internal/synctest.IsAssociated[sync.WaitGroup]", "sync/atomic.CompareAndSwapUint64", "internal/race.Write", "sync.runtime_SemacquireWaitGroup"], unfollowed := true, recurses := true, leaving := true, apart := false }
def DriverCircleSaid : Prop := driverCircleRow.holds Try.pinned (OpenSpec.ofChange driverCircleSpec)

/-- ITS FALSE NEIGHBOUR: 'it returns false'. Refute it at one input. -/
def driverCircleWrong : ChangeSpec := { name := "driverCircle", fn := fun _ => fun
  | [d1, d2, d3, d4] => { results := [.lit (.bool false)], args := [d1, d2, d3, d4] }
  | _ => none }
def DriverCircleWrongFalsely : Prop := driverCircleRow.holds Try.pinned (OpenSpec.ofChange driverCircleWrong)

/-- 'fairlinklaw32.DriverRuns': WHATEVER THE INPUT: true; the input reads as it did. -/
def driverRunsSpec : ChangeSpec := { name := "driverRuns", fn := fun _ => fun
  | [d1, d2, d3] => { results := [.lit (.bool true)], args := [d1, d2, d3] }
  | _ => none }
def driverRunsRow : OpenClaim := { program := "ytbjlijagheifgaa", sum := "dbe19d5815e8a84e1fc54696efe2717e560c577e619bc76a1c54c2096a690ff4", func := "fairlink/fairlinklaw32.DriverRuns", spec := "driverRuns", inPlace := ["(*sync.WaitGroup).Add", "internal/race.ReleaseMerge", "internal/race.Disable", "internal/race.Enable", "internal/synctest.IsInBubble", "internal/synctest.Associate[sync.WaitGroup]", "sync.fatal", "sync/atomic.OrUint64", "sync/atomic.AddUint64", "internal/race.Read", "sync/atomic.LoadUint64", "sync/atomic.StoreUint64", "internal/synctest.Disassociate[sync.WaitGroup]", "sync.runtime_Semrelease", "(*sync.WaitGroup).Done", "(*sync.WaitGroup).Wait", "internal/race.Acquire", "internal/synctest.IsAssociated[sync.WaitGroup]", "sync/atomic.CompareAndSwapUint64", "internal/race.Write", "sync.runtime_SemacquireWaitGroup"], unfollowed := true, recurses := true, leaving := true, apart := false }
def DriverRunsSaid : Prop := driverRunsRow.holds Try.pinned (OpenSpec.ofChange driverRunsSpec)

/-- ITS FALSE NEIGHBOUR: 'it returns false'. Refute it at one input. -/
def driverRunsWrong : ChangeSpec := { name := "driverRuns", fn := fun _ => fun
  | [d1, d2, d3] => { results := [.lit (.bool false)], args := [d1, d2, d3] }
  | _ => none }
def DriverRunsWrongFalsely : Prop := driverRunsRow.holds Try.pinned (OpenSpec.ofChange driverRunsWrong)

/-- 'fairlinklaw32.DriverReady': WHATEVER THE INPUT: true; the input reads as it did. -/
def driverReadySpec : ChangeSpec := { name := "driverReady", fn := fun _ => fun
  | [d1, d2, d3] => { results := [.lit (.bool true)], args := [d1, d2, d3] }
  | _ => none }
def driverReadyRow : OpenClaim := { program := "ytbjlijagheifgaa", sum := "dbe19d5815e8a84e1fc54696efe2717e560c577e619bc76a1c54c2096a690ff4", func := "fairlink/fairlinklaw32.DriverReady", spec := "driverReady", inPlace := ["(*sync.WaitGroup).Add", "internal/race.ReleaseMerge", "internal/race.Disable", "internal/race.Enable", "internal/synctest.IsInBubble", "internal/synctest.Associate[sync.WaitGroup]", "sync.fatal", "sync/atomic.OrUint64", "sync/atomic.AddUint64", "internal/race.Read", "sync/atomic.LoadUint64", "sync/atomic.StoreUint64", "internal/synctest.Disassociate[sync.WaitGroup]", "sync.runtime_Semrelease", "(*sync.WaitGroup).Done", "(*sync.WaitGroup).Wait", "internal/race.Acquire", "internal/synctest.IsAssociated[sync.WaitGroup]", "sync/atomic.CompareAndSwapUint64", "internal/race.Write", "sync.runtime_SemacquireWaitGroup"], unfollowed := true, recurses := true, leaving := true, apart := false }
def DriverReadySaid : Prop := driverReadyRow.holds Try.pinned (OpenSpec.ofChange driverReadySpec)

/-- ITS FALSE NEIGHBOUR: 'it returns false'. Refute it at one input. -/
def driverReadyWrong : ChangeSpec := { name := "driverReady", fn := fun _ => fun
  | [d1, d2, d3] => { results := [.lit (.bool false)], args := [d1, d2, d3] }
  | _ => none }
def DriverReadyWrongFalsely : Prop := driverReadyRow.holds Try.pinned (OpenSpec.ofChange driverReadyWrong)

/-- 'fairlinklaw32.DriverReplays': WHATEVER THE INPUT: true; the input reads as it did. -/
def driverReplaysSpec : ChangeSpec := { name := "driverReplays", fn := fun _ => fun
  | [d1, d2, d3] => { results := [.lit (.bool true)], args := [d1, d2, d3] }
  | _ => none }
def driverReplaysRow : OpenClaim := { program := "ytbjlijagheifgaa", sum := "dbe19d5815e8a84e1fc54696efe2717e560c577e619bc76a1c54c2096a690ff4", func := "fairlink/fairlinklaw32.DriverReplays", spec := "driverReplays", inPlace := ["(*sync.WaitGroup).Add", "internal/race.ReleaseMerge", "internal/race.Disable", "internal/race.Enable", "internal/synctest.IsInBubble", "internal/synctest.Associate[sync.WaitGroup]", "sync.fatal", "sync/atomic.OrUint64", "sync/atomic.AddUint64", "internal/race.Read", "sync/atomic.LoadUint64", "sync/atomic.StoreUint64", "internal/synctest.Disassociate[sync.WaitGroup]", "sync.runtime_Semrelease", "(*sync.WaitGroup).Done", "(*sync.WaitGroup).Wait", "internal/race.Acquire", "internal/synctest.IsAssociated[sync.WaitGroup]", "sync/atomic.CompareAndSwapUint64", "internal/race.Write", "sync.runtime_SemacquireWaitGroup"], unfollowed := true, recurses := true, leaving := true, apart := false }
def DriverReplaysSaid : Prop := driverReplaysRow.holds Try.pinned (OpenSpec.ofChange driverReplaysSpec)

/-- ITS FALSE NEIGHBOUR: 'it returns false'. Refute it at one input. -/
def driverReplaysWrong : ChangeSpec := { name := "driverReplays", fn := fun _ => fun
  | [d1, d2, d3] => { results := [.lit (.bool false)], args := [d1, d2, d3] }
  | _ => none }
def DriverReplaysWrongFalsely : Prop := driverReplaysRow.holds Try.pinned (OpenSpec.ofChange driverReplaysWrong)

/-- 'fairlinklaw32.DriverOnce': WHATEVER THE INPUT: true; the input reads as it did. -/
def driverOnceSpec : ChangeSpec := { name := "driverOnce", fn := fun _ => fun
  | [d1, d2, d3] => { results := [.lit (.bool true)], args := [d1, d2, d3] }
  | _ => none }
def driverOnceRow : OpenClaim := { program := "ytbjlijagheifgaa", sum := "dbe19d5815e8a84e1fc54696efe2717e560c577e619bc76a1c54c2096a690ff4", func := "fairlink/fairlinklaw32.DriverOnce", spec := "driverOnce", inPlace := ["(*sync.WaitGroup).Add", "internal/race.ReleaseMerge", "internal/race.Disable", "internal/race.Enable", "internal/synctest.IsInBubble", "internal/synctest.Associate[sync.WaitGroup]", "sync.fatal", "sync/atomic.OrUint64", "sync/atomic.AddUint64", "internal/race.Read", "sync/atomic.LoadUint64", "sync/atomic.StoreUint64", "internal/synctest.Disassociate[sync.WaitGroup]", "sync.runtime_Semrelease", "(*sync.WaitGroup).Done", "(*sync.WaitGroup).Wait", "internal/race.Acquire", "internal/synctest.IsAssociated[sync.WaitGroup]", "sync/atomic.CompareAndSwapUint64", "internal/race.Write", "sync.runtime_SemacquireWaitGroup"], unfollowed := true, recurses := true, leaving := true, apart := false }
def DriverOnceSaid : Prop := driverOnceRow.holds Try.pinned (OpenSpec.ofChange driverOnceSpec)

/-- ITS FALSE NEIGHBOUR: 'it returns false'. Refute it at one input. -/
def driverOnceWrong : ChangeSpec := { name := "driverOnce", fn := fun _ => fun
  | [d1, d2, d3] => { results := [.lit (.bool false)], args := [d1, d2, d3] }
  | _ => none }
def DriverOnceWrongFalsely : Prop := driverOnceRow.holds Try.pinned (OpenSpec.ofChange driverOnceWrong)

/-- 'fairlinklaw32.DriverDeterministic': WHATEVER THE INPUT: true; the input reads as it did. -/
def driverDeterministicSpec : ChangeSpec := { name := "driverDeterministic", fn := fun _ => fun
  | [d1, d2, d3, d4] => { results := [.lit (.bool true)], args := [d1, d2, d3, d4] }
  | _ => none }
def driverDeterministicRow : OpenClaim := { program := "ytbjlijagheifgaa", sum := "dbe19d5815e8a84e1fc54696efe2717e560c577e619bc76a1c54c2096a690ff4", func := "fairlink/fairlinklaw32.DriverDeterministic", spec := "driverDeterministic", inPlace := ["(*sync.WaitGroup).Add", "internal/race.ReleaseMerge", "internal/race.Disable", "internal/race.Enable", "internal/synctest.IsInBubble", "internal/synctest.Associate[sync.WaitGroup]", "sync.fatal", "sync/atomic.OrUint64", "sync/atomic.AddUint64", "internal/race.Read", "sync/atomic.LoadUint64", "sync/atomic.StoreUint64", "internal/synctest.Disassociate[sync.WaitGroup]", "sync.runtime_Semrelease", "(*sync.WaitGroup).Done", "(*sync.WaitGroup).Wait", "internal/race.Acquire", "internal/synctest.IsAssociated[sync.WaitGroup]", "sync/atomic.CompareAndSwapUint64", "internal/race.Write", "sync.runtime_SemacquireWaitGroup"], unfollowed := true, recurses := true, leaving := true, apart := false }
def DriverDeterministicSaid : Prop := driverDeterministicRow.holds Try.pinned (OpenSpec.ofChange driverDeterministicSpec)

/-- ITS FALSE NEIGHBOUR: 'it returns false'. Refute it at one input. -/
def driverDeterministicWrong : ChangeSpec := { name := "driverDeterministic", fn := fun _ => fun
  | [d1, d2, d3, d4] => { results := [.lit (.bool false)], args := [d1, d2, d3, d4] }
  | _ => none }
def DriverDeterministicWrongFalsely : Prop := driverDeterministicRow.holds Try.pinned (OpenSpec.ofChange driverDeterministicWrong)

/-- 'fairlinklaw32.DriverChoices': WHATEVER THE INPUT: true; the input reads as it did. -/
def driverChoicesSpec : ChangeSpec := { name := "driverChoices", fn := fun _ => fun
  | [d1, d2, d3, d4, d5] => { results := [.lit (.bool true)], args := [d1, d2, d3, d4, d5] }
  | _ => none }
def driverChoicesRow : OpenClaim := { program := "ytbjlijagheifgaa", sum := "dbe19d5815e8a84e1fc54696efe2717e560c577e619bc76a1c54c2096a690ff4", func := "fairlink/fairlinklaw32.DriverChoices", spec := "driverChoices", inPlace := ["(*sync.WaitGroup).Add", "internal/race.ReleaseMerge", "internal/race.Disable", "internal/race.Enable", "internal/synctest.IsInBubble", "internal/synctest.Associate[sync.WaitGroup]", "sync.fatal", "sync/atomic.OrUint64", "sync/atomic.AddUint64", "internal/race.Read", "sync/atomic.LoadUint64", "sync/atomic.StoreUint64", "internal/synctest.Disassociate[sync.WaitGroup]", "sync.runtime_Semrelease", "(*sync.WaitGroup).Done", "(*sync.WaitGroup).Wait", "internal/race.Acquire", "internal/synctest.IsAssociated[sync.WaitGroup]", "sync/atomic.CompareAndSwapUint64", "internal/race.Write", "sync.runtime_SemacquireWaitGroup"], unfollowed := true, recurses := true, leaving := true, apart := false }
def DriverChoicesSaid : Prop := driverChoicesRow.holds Try.pinned (OpenSpec.ofChange driverChoicesSpec)

/-- ITS FALSE NEIGHBOUR: 'it returns false'. Refute it at one input. -/
def driverChoicesWrong : ChangeSpec := { name := "driverChoices", fn := fun _ => fun
  | [d1, d2, d3, d4, d5] => { results := [.lit (.bool false)], args := [d1, d2, d3, d4, d5] }
  | _ => none }
def DriverChoicesWrongFalsely : Prop := driverChoicesRow.holds Try.pinned (OpenSpec.ofChange driverChoicesWrong)

/- THE SECOND FORM. 'bulk': how many values and letters a reading holds, each counted each time it is reached (what is shared counts as often as it is met; a slice's spare places count too). A statement '..UptoSaid' is the law's where the arguments, and the package variables that the reading takes, are together of bulk at most 1048576: NARROWER than '..Said'. Prove '..Said' where nothing that the law and all that it calls make is longer than what came in: it says more and counts as full. Else prove '..UptoSaid'. A law counts once. -/
mutual
def uptoBulk {H : Type} : DataW H → Nat
  | .lit (.string bytes) => bytes.length + 1
  | .lit _ => 1
  | .nil => 1
  | .ptr d => uptoBulk d + 1
  | .slice elems spare => uptoBulkAll elems + uptoBulkAll spare + 1
  | .agg parts => uptoBulkAll parts + 1
  | .iface _ d => uptoBulk d + 1
  | .map entries => uptoBulkEntries entries + 1
  | .held _ => 1
def uptoBulkAll {H : Type} : List (DataW H) → Nat
  | [] => 0
  | d :: r => uptoBulk d + uptoBulkAll r
def uptoBulkEntries {H : Type} : List (Lit × DataW H) → Nat
  | [] => 0
  | x :: r => uptoBulkEntry x + uptoBulkEntries r
def uptoBulkEntry {H : Type} : Lit × DataW H → Nat
  | (.string bytes, d) => bytes.length + uptoBulk d + 1
  | (_, d) => uptoBulk d + 1
 end
def uptoSmall : (H : Type) → List (DataW H) → Bool := fun _ ds => decide (uptoBulkAll ds ≤ 1048576)
def OpenSpec.upto (s : _root_.Go.ChangeSpec) : _root_.Go.OpenSpec := { _root_.Go.OpenSpec.ofChange s with cond := some uptoSmall }

/-- 'fairlinklaw32.DriverPipeline', WHERE WHAT IT READS IS OF BULK AT MOST 1048576: true; the input reads as it did. -/
def driverPipelineUptoRow : OpenClaim := { program := "ytbjlijagheifgaa", sum := "dbe19d5815e8a84e1fc54696efe2717e560c577e619bc76a1c54c2096a690ff4", func := "fairlink/fairlinklaw32.DriverPipeline", spec := "driverPipeline", inPlace := ["(*sync.WaitGroup).Add", "internal/race.ReleaseMerge", "internal/race.Disable", "internal/race.Enable", "internal/synctest.IsInBubble", "internal/synctest.Associate[sync.WaitGroup]", "sync.fatal", "sync/atomic.OrUint64", "sync/atomic.AddUint64", "internal/race.Read", "sync/atomic.LoadUint64", "sync/atomic.StoreUint64", "internal/synctest.Disassociate[sync.WaitGroup]", "sync.runtime_Semrelease", "(*sync.WaitGroup).Done", "(*sync.WaitGroup).Wait", "internal/race.Acquire", "internal/synctest.IsAssociated[sync.WaitGroup]", "sync/atomic.CompareAndSwapUint64", "internal/race.Write", "sync.runtime_SemacquireWaitGroup"], unfollowed := true, recurses := true, leaving := true, apart := false, narrowed := true }
def DriverPipelineUptoSaid : Prop := driverPipelineUptoRow.holds Try.pinned (OpenSpec.upto driverPipelineSpec)

/-- 'fairlinklaw32.DriverCircle', WHERE WHAT IT READS IS OF BULK AT MOST 1048576: true; the input reads as it did. -/
def driverCircleUptoRow : OpenClaim := { program := "ytbjlijagheifgaa", sum := "dbe19d5815e8a84e1fc54696efe2717e560c577e619bc76a1c54c2096a690ff4", func := "fairlink/fairlinklaw32.DriverCircle", spec := "driverCircle", inPlace := ["(*sync.WaitGroup).Add", "internal/race.ReleaseMerge", "internal/race.Disable", "internal/race.Enable", "internal/synctest.IsInBubble", "internal/synctest.Associate[sync.WaitGroup]", "sync.fatal", "sync/atomic.OrUint64", "sync/atomic.AddUint64", "internal/race.Read", "sync/atomic.LoadUint64", "sync/atomic.StoreUint64", "internal/synctest.Disassociate[sync.WaitGroup]", "sync.runtime_Semrelease", "(*sync.WaitGroup).Done", "(*sync.WaitGroup).Wait", "internal/race.Acquire", "internal/synctest.IsAssociated[sync.WaitGroup]", "sync/atomic.CompareAndSwapUint64", "internal/race.Write", "sync.runtime_SemacquireWaitGroup"], unfollowed := true, recurses := true, leaving := true, apart := false, narrowed := true }
def DriverCircleUptoSaid : Prop := driverCircleUptoRow.holds Try.pinned (OpenSpec.upto driverCircleSpec)

/-- 'fairlinklaw32.DriverRuns', WHERE WHAT IT READS IS OF BULK AT MOST 1048576: true; the input reads as it did. -/
def driverRunsUptoRow : OpenClaim := { program := "ytbjlijagheifgaa", sum := "dbe19d5815e8a84e1fc54696efe2717e560c577e619bc76a1c54c2096a690ff4", func := "fairlink/fairlinklaw32.DriverRuns", spec := "driverRuns", inPlace := ["(*sync.WaitGroup).Add", "internal/race.ReleaseMerge", "internal/race.Disable", "internal/race.Enable", "internal/synctest.IsInBubble", "internal/synctest.Associate[sync.WaitGroup]", "sync.fatal", "sync/atomic.OrUint64", "sync/atomic.AddUint64", "internal/race.Read", "sync/atomic.LoadUint64", "sync/atomic.StoreUint64", "internal/synctest.Disassociate[sync.WaitGroup]", "sync.runtime_Semrelease", "(*sync.WaitGroup).Done", "(*sync.WaitGroup).Wait", "internal/race.Acquire", "internal/synctest.IsAssociated[sync.WaitGroup]", "sync/atomic.CompareAndSwapUint64", "internal/race.Write", "sync.runtime_SemacquireWaitGroup"], unfollowed := true, recurses := true, leaving := true, apart := false, narrowed := true }
def DriverRunsUptoSaid : Prop := driverRunsUptoRow.holds Try.pinned (OpenSpec.upto driverRunsSpec)

/-- 'fairlinklaw32.DriverReady', WHERE WHAT IT READS IS OF BULK AT MOST 1048576: true; the input reads as it did. -/
def driverReadyUptoRow : OpenClaim := { program := "ytbjlijagheifgaa", sum := "dbe19d5815e8a84e1fc54696efe2717e560c577e619bc76a1c54c2096a690ff4", func := "fairlink/fairlinklaw32.DriverReady", spec := "driverReady", inPlace := ["(*sync.WaitGroup).Add", "internal/race.ReleaseMerge", "internal/race.Disable", "internal/race.Enable", "internal/synctest.IsInBubble", "internal/synctest.Associate[sync.WaitGroup]", "sync.fatal", "sync/atomic.OrUint64", "sync/atomic.AddUint64", "internal/race.Read", "sync/atomic.LoadUint64", "sync/atomic.StoreUint64", "internal/synctest.Disassociate[sync.WaitGroup]", "sync.runtime_Semrelease", "(*sync.WaitGroup).Done", "(*sync.WaitGroup).Wait", "internal/race.Acquire", "internal/synctest.IsAssociated[sync.WaitGroup]", "sync/atomic.CompareAndSwapUint64", "internal/race.Write", "sync.runtime_SemacquireWaitGroup"], unfollowed := true, recurses := true, leaving := true, apart := false, narrowed := true }
def DriverReadyUptoSaid : Prop := driverReadyUptoRow.holds Try.pinned (OpenSpec.upto driverReadySpec)

/-- 'fairlinklaw32.DriverReplays', WHERE WHAT IT READS IS OF BULK AT MOST 1048576: true; the input reads as it did. -/
def driverReplaysUptoRow : OpenClaim := { program := "ytbjlijagheifgaa", sum := "dbe19d5815e8a84e1fc54696efe2717e560c577e619bc76a1c54c2096a690ff4", func := "fairlink/fairlinklaw32.DriverReplays", spec := "driverReplays", inPlace := ["(*sync.WaitGroup).Add", "internal/race.ReleaseMerge", "internal/race.Disable", "internal/race.Enable", "internal/synctest.IsInBubble", "internal/synctest.Associate[sync.WaitGroup]", "sync.fatal", "sync/atomic.OrUint64", "sync/atomic.AddUint64", "internal/race.Read", "sync/atomic.LoadUint64", "sync/atomic.StoreUint64", "internal/synctest.Disassociate[sync.WaitGroup]", "sync.runtime_Semrelease", "(*sync.WaitGroup).Done", "(*sync.WaitGroup).Wait", "internal/race.Acquire", "internal/synctest.IsAssociated[sync.WaitGroup]", "sync/atomic.CompareAndSwapUint64", "internal/race.Write", "sync.runtime_SemacquireWaitGroup"], unfollowed := true, recurses := true, leaving := true, apart := false, narrowed := true }
def DriverReplaysUptoSaid : Prop := driverReplaysUptoRow.holds Try.pinned (OpenSpec.upto driverReplaysSpec)

/-- 'fairlinklaw32.DriverOnce', WHERE WHAT IT READS IS OF BULK AT MOST 1048576: true; the input reads as it did. -/
def driverOnceUptoRow : OpenClaim := { program := "ytbjlijagheifgaa", sum := "dbe19d5815e8a84e1fc54696efe2717e560c577e619bc76a1c54c2096a690ff4", func := "fairlink/fairlinklaw32.DriverOnce", spec := "driverOnce", inPlace := ["(*sync.WaitGroup).Add", "internal/race.ReleaseMerge", "internal/race.Disable", "internal/race.Enable", "internal/synctest.IsInBubble", "internal/synctest.Associate[sync.WaitGroup]", "sync.fatal", "sync/atomic.OrUint64", "sync/atomic.AddUint64", "internal/race.Read", "sync/atomic.LoadUint64", "sync/atomic.StoreUint64", "internal/synctest.Disassociate[sync.WaitGroup]", "sync.runtime_Semrelease", "(*sync.WaitGroup).Done", "(*sync.WaitGroup).Wait", "internal/race.Acquire", "internal/synctest.IsAssociated[sync.WaitGroup]", "sync/atomic.CompareAndSwapUint64", "internal/race.Write", "sync.runtime_SemacquireWaitGroup"], unfollowed := true, recurses := true, leaving := true, apart := false, narrowed := true }
def DriverOnceUptoSaid : Prop := driverOnceUptoRow.holds Try.pinned (OpenSpec.upto driverOnceSpec)

/-- 'fairlinklaw32.DriverDeterministic', WHERE WHAT IT READS IS OF BULK AT MOST 1048576: true; the input reads as it did. -/
def driverDeterministicUptoRow : OpenClaim := { program := "ytbjlijagheifgaa", sum := "dbe19d5815e8a84e1fc54696efe2717e560c577e619bc76a1c54c2096a690ff4", func := "fairlink/fairlinklaw32.DriverDeterministic", spec := "driverDeterministic", inPlace := ["(*sync.WaitGroup).Add", "internal/race.ReleaseMerge", "internal/race.Disable", "internal/race.Enable", "internal/synctest.IsInBubble", "internal/synctest.Associate[sync.WaitGroup]", "sync.fatal", "sync/atomic.OrUint64", "sync/atomic.AddUint64", "internal/race.Read", "sync/atomic.LoadUint64", "sync/atomic.StoreUint64", "internal/synctest.Disassociate[sync.WaitGroup]", "sync.runtime_Semrelease", "(*sync.WaitGroup).Done", "(*sync.WaitGroup).Wait", "internal/race.Acquire", "internal/synctest.IsAssociated[sync.WaitGroup]", "sync/atomic.CompareAndSwapUint64", "internal/race.Write", "sync.runtime_SemacquireWaitGroup"], unfollowed := true, recurses := true, leaving := true, apart := false, narrowed := true }
def DriverDeterministicUptoSaid : Prop := driverDeterministicUptoRow.holds Try.pinned (OpenSpec.upto driverDeterministicSpec)

/-- 'fairlinklaw32.DriverChoices', WHERE WHAT IT READS IS OF BULK AT MOST 1048576: true; the input reads as it did. -/
def driverChoicesUptoRow : OpenClaim := { program := "ytbjlijagheifgaa", sum := "dbe19d5815e8a84e1fc54696efe2717e560c577e619bc76a1c54c2096a690ff4", func := "fairlink/fairlinklaw32.DriverChoices", spec := "driverChoices", inPlace := ["(*sync.WaitGroup).Add", "internal/race.ReleaseMerge", "internal/race.Disable", "internal/race.Enable", "internal/synctest.IsInBubble", "internal/synctest.Associate[sync.WaitGroup]", "sync.fatal", "sync/atomic.OrUint64", "sync/atomic.AddUint64", "internal/race.Read", "sync/atomic.LoadUint64", "sync/atomic.StoreUint64", "internal/synctest.Disassociate[sync.WaitGroup]", "sync.runtime_Semrelease", "(*sync.WaitGroup).Done", "(*sync.WaitGroup).Wait", "internal/race.Acquire", "internal/synctest.IsAssociated[sync.WaitGroup]", "sync/atomic.CompareAndSwapUint64", "internal/race.Write", "sync.runtime_SemacquireWaitGroup"], unfollowed := true, recurses := true, leaving := true, apart := false, narrowed := true }
def DriverChoicesUptoSaid : Prop := driverChoicesUptoRow.holds Try.pinned (OpenSpec.upto driverChoicesSpec)

end Rows
end Go.Proofs.Ytbjlijagheifgaa
