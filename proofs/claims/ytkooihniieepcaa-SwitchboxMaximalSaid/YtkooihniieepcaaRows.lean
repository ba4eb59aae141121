/-
  No cell of these rows narrows 'for every input' (looked for: loops, veiled, ifaces, maps, wideKeys, modest, calm, conditions, laid).
  DERIVED. THE GIVEN ROWS OF THIS SEAT. 6 by the template 'for every input the law returns true; each argument reads behind the call as it read before'; 0 by the template 'total and deterministic' (their statements: YtkooihniieepcaaTotals.lean).
  GIVEN WITH THE SEED: the statements are not yours to turn. If you find one false, say at which input.
  Laid BY PROGRAM, IN A SANDBOX (cutbox-rows.mjs): the forced cells as the released guide's own fill.sh prints them over the translation 993e0e73ef15320a… (all of the seat's roots in one cut). By AI agents, Wed Nov 11 2026. No macro, syntax, notation, axiom, sorry.
-/
import Derived.Test.YtkooihniieepcaaChecked
import GoSem.Claim
import GoSem.ClaimJoined
import GoSem.ClaimMapViews
import Derived.JoinedTies
import Derived.KernelRfl
namespace Go.Proofs.Ytkooihniieepcaa
/- THE CELL 'sum', in the pinned program and in every row, IS THE sha256 OF THE DUMP (.gsa) THAT YtkooihniieepcaaProg.lean LOADS. Nothing in Lean hashes anything: it is a label: what it is worth is what the hold of that sum in a sandbox is worth. -/
noncomputable def Try.pinned : Pinned := { name := "ytkooihniieepcaa", sum := "993e0e73ef15320a28dfef353c07acc81453405c64d4d1d104988ec93d2c64ef", checked := Try.checked }
namespace Rows
def none {H : Type} : Left H := { results := [], args := [] }

/-- 'fairlinklaw27.SwitchboxOnce': WHATEVER THE INPUT: true; the input reads as it did. -/
def switchboxOnceSpec : ChangeSpec := { name := "switchboxOnce", fn := fun _ => fun
  | [d1, d2, d3, d4] => { results := [.lit (.bool true)], args := [d1, d2, d3, d4] }
  | _ => none }
def switchboxOnceRow : OpenClaim := { program := "ytkooihniieepcaa", sum := "993e0e73ef15320a28dfef353c07acc81453405c64d4d1d104988ec93d2c64ef", func := "fairlink/fairlinklaw27.SwitchboxOnce", spec := "switchboxOnce", unfollowed := true, recurses := true, plainKeys := false, apart := false }
def SwitchboxOnceSaid : Prop := switchboxOnceRow.holds Try.pinned (OpenSpec.ofChange switchboxOnceSpec)

/-- ITS FALSE NEIGHBOUR: 'it returns false'. Refute it at one input. -/
def switchboxOnceWrong : ChangeSpec := { name := "switchboxOnce", fn := fun _ => fun
  | [d1, d2, d3, d4] => { results := [.lit (.bool false)], args := [d1, d2, d3, d4] }
  | _ => none }
def SwitchboxOnceWrongFalsely : Prop := switchboxOnceRow.holds Try.pinned (OpenSpec.ofChange switchboxOnceWrong)

/-- 'fairlinklaw27.SwitchboxOrder': WHATEVER THE INPUT: true; the input reads as it did. -/
def switchboxOrderSpec : ChangeSpec := { name := "switchboxOrder", fn := fun _ => fun
  | [d1, d2, d3, d4] => { results := [.lit (.bool true)], args := [d1, d2, d3, d4] }
  | _ => none }
def switchboxOrderRow : OpenClaim := { program := "ytkooihniieepcaa", sum := "993e0e73ef15320a28dfef353c07acc81453405c64d4d1d104988ec93d2c64ef", func := "fairlink/fairlinklaw27.SwitchboxOrder", spec := "switchboxOrder", unfollowed := true, recurses := true, plainKeys := false, apart := false }
def SwitchboxOrderSaid : Prop := switchboxOrderRow.holds Try.pinned (OpenSpec.ofChange switchboxOrderSpec)

/-- ITS FALSE NEIGHBOUR: 'it returns false'. Refute it at one input. -/
def switchboxOrderWrong : ChangeSpec := { name := "switchboxOrder", fn := fun _ => fun
  | [d1, d2, d3, d4] => { results := [.lit (.bool false)], args := [d1, d2, d3, d4] }
  | _ => none }
def SwitchboxOrderWrongFalsely : Prop := switchboxOrderRow.holds Try.pinned (OpenSpec.ofChange switchboxOrderWrong)

/-- 'fairlinklaw27.SwitchboxTurns': WHATEVER THE INPUT: true; the input reads as it did. -/
def switchboxTurnsSpec : ChangeSpec := { name := "switchboxTurns", fn := fun _ => fun
  | [d1, d2, d3, d4, d5] => { results := [.lit (.bool true)], args := [d1, d2, d3, d4, d5] }
  | _ => none }
def switchboxTurnsRow : OpenClaim := { program := "ytkooihniieepcaa", sum := "993e0e73ef15320a28dfef353c07acc81453405c64d4d1d104988ec93d2c64ef", func := "fairlink/fairlinklaw27.SwitchboxTurns", spec := "switchboxTurns", unfollowed := true, recurses := true, plainKeys := false, apart := false }
def SwitchboxTurnsSaid : Prop := switchboxTurnsRow.holds Try.pinned (OpenSpec.ofChange switchboxTurnsSpec)

/-- ITS FALSE NEIGHBOUR: 'it returns false'. Refute it at one input. -/
def switchboxTurnsWrong : ChangeSpec := { name := "switchboxTurns", fn := fun _ => fun
  | [d1, d2, d3, d4, d5] => { results := [.lit (.bool false)], args := [d1, d2, d3, d4, d5] }
  | _ => none }
def SwitchboxTurnsWrongFalsely : Prop := switchboxTurnsRow.holds Try.pinned (OpenSpec.ofChange switchboxTurnsWrong)

/-- 'fairlinklaw27.SwitchboxMaximal': WHATEVER THE INPUT: true; the input reads as it did. -/
def switchboxMaximalSpec : ChangeSpec := { name := "switchboxMaximal", fn := fun _ => fun
  | [d1, d2, d3, d4] => { results := [.lit (.bool true)], args := [d1, d2, d3, d4] }
  | _ => none }
def switchboxMaximalRow : OpenClaim := { program := "ytkooihniieepcaa", sum := "993e0e73ef15320a28dfef353c07acc81453405c64d4d1d104988ec93d2c64ef", func := "fairlink/fairlinklaw27.SwitchboxMaximal", spec := "switchboxMaximal", unfollowed := true, recurses := true, plainKeys := false, apart := false }
def SwitchboxMaximalSaid : Prop := switchboxMaximalRow.holds Try.pinned (OpenSpec.ofChange switchboxMaximalSpec)

/-- ITS FALSE NEIGHBOUR: 'it returns false'. Refute it at one input. -/
def switchboxMaximalWrong : ChangeSpec := { name := "switchboxMaximal", fn := fun _ => fun
  | [d1, d2, d3, d4] => { results := [.lit (.bool false)], args := [d1, d2, d3, d4] }
  | _ => none }
def SwitchboxMaximalWrongFalsely : Prop := switchboxMaximalRow.holds Try.pinned (OpenSpec.ofChange switchboxMaximalWrong)

/-- 'fairlinklaw27.SwitchboxSafe': WHATEVER THE INPUT: true; the input reads as it did. -/
def switchboxSafeSpec : ChangeSpec := { name := "switchboxSafe", fn := fun _ => fun
  | [d1, d2, d3, d4] => { results := [.lit (.bool true)], args := [d1, d2, d3, d4] }
  | _ => none }
def switchboxSafeRow : OpenClaim := { program := "ytkooihniieepcaa", sum := "993e0e73ef15320a28dfef353c07acc81453405c64d4d1d104988ec93d2c64ef", func := "fairlink/fairlinklaw27.SwitchboxSafe", spec := "switchboxSafe", unfollowed := true, recurses := true, plainKeys := false, apart := false }
def SwitchboxSafeSaid : Prop := switchboxSafeRow.holds Try.pinned (OpenSpec.ofChange switchboxSafeSpec)

/-- ITS FALSE NEIGHBOUR: 'it returns false'. Refute it at one input. -/
def switchboxSafeWrong : ChangeSpec := { name := "switchboxSafe", fn := fun _ => fun
  | [d1, d2, d3, d4] => { results := [.lit (.bool false)], args := [d1, d2, d3, d4] }
  | _ => none }
def SwitchboxSafeWrongFalsely : Prop := switchboxSafeRow.holds Try.pinned (OpenSpec.ofChange switchboxSafeWrong)

/-- 'fairlinklaw27.SwitchboxNew': WHATEVER THE INPUT: true; the input reads as it did. -/
def switchboxNewSpec : ChangeSpec := { name := "switchboxNew", fn := fun _ => fun
  | [d1, d2, d3, d4] => { results := [.lit (.bool true)], args := [d1, d2, d3, d4] }
  | _ => none }
def switchboxNewRow : OpenClaim := { program := "ytkooihniieepcaa", sum := "993e0e73ef15320a28dfef353c07acc81453405c64d4d1d104988ec93d2c64ef", func := "fairlink/fairlinklaw27.SwitchboxNew", spec := "switchboxNew", unfollowed := true, recurses := true, plainKeys := false, apart := false }
def SwitchboxNewSaid : Prop := switchboxNewRow.holds Try.pinned (OpenSpec.ofChange switchboxNewSpec)

/-- ITS FALSE NEIGHBOUR: 'it returns false'. Refute it at one input. -/
def switchboxNewWrong : ChangeSpec := { name := "switchboxNew", fn := fun _ => fun
  | [d1, d2, d3, d4] => { results := [.lit (.bool false)], args := [d1, d2, d3, d4] }
  | _ => none }
def SwitchboxNewWrongFalsely : Prop := switchboxNewRow.holds Try.pinned (OpenSpec.ofChange switchboxNewWrong)

/- THE SECOND FORM. 'bulk': how many values and letters a reading holds, each counted each time it is reached (what is shared counts as often as it is met; a slice's spare places count too). A statement '..UptoSaid' is the law's where the arguments, and the package variables that the reading takes, are together of bulk at most 1048576: NARROWER than '..Said'. Prove '..Said' where nothing that the law and all that it calls make is longer than what came in: it says more and counts as full. Else prove '..UptoSaid'. A law counts once. -/
mutual
def uptoBulk {H : Type} : DataW H → Nat
  | .lit (.string bytes) => bytes.length + 1
  | .lit _ => 1
  | .nil => 1
  | .ptr d => uptoBulk d + 1
  | .slice elems spare => uptoBulkAll elems + uptoBulkAll spare + 1
  | .agg parts => uptoBulkAll parts + 1
  | .iface _ d => uptoBulk d + 1
  | .map entries => uptoBulkEntries entries + 1
  | .held _ => 1
def uptoBulkAll {H : Type} : List (DataW H) → Nat
  | [] => 0
  | d :: r => uptoBulk d + uptoBulkAll r
def uptoBulkEntries {H : Type} : List (Lit × DataW H) → Nat
  | [] => 0
  | x :: r => uptoBulkEntry x + uptoBulkEntries r
def uptoBulkEntry {H : Type} : Lit × DataW H → Nat
  | (.string bytes, d) => bytes.length + uptoBulk d + 1
  | (_, d) => uptoBulk d + 1
 end
def uptoSmall : (H : Type) → List (DataW H) → Bool := fun _ ds => decide (uptoBulkAll ds ≤ 1048576)
def OpenSpec.upto (s : _root_.Go.ChangeSpec) : _root_.Go.OpenSpec := { _root_.Go.OpenSpec.ofChange s with cond := some uptoSmall }

/-- 'fairlinklaw27.SwitchboxOnce', WHERE WHAT IT READS IS OF BULK AT MOST 1048576: true; the input reads as it did. -/
def switchboxOnceUptoRow : OpenClaim := { program := "ytkooihniieepcaa", sum := "993e0e73ef15320a28dfef353c07acc81453405c64d4d1d104988ec93d2c64ef", func := "fairlink/fairlinklaw27.SwitchboxOnce", spec := "switchboxOnce", unfollowed := true, recurses := true, plainKeys := false, apart := false, narrowed := true }
def SwitchboxOnceUptoSaid : Prop := switchboxOnceUptoRow.holds Try.pinned (OpenSpec.upto switchboxOnceSpec)

/-- 'fairlinklaw27.SwitchboxOrder', WHERE WHAT IT READS IS OF BULK AT MOST 1048576: true; the input reads as it did. -/
def switchboxOrderUptoRow : OpenClaim := { program := "ytkooihniieepcaa", sum := "993e0e73ef15320a28dfef353c07acc81453405c64d4d1d104988ec93d2c64ef", func := "fairlink/fairlinklaw27.SwitchboxOrder", spec := "switchboxOrder", unfollowed := true, recurses := true, plainKeys := false, apart := false, narrowed := true }
def SwitchboxOrderUptoSaid : Prop := switchboxOrderUptoRow.holds Try.pinned (OpenSpec.upto switchboxOrderSpec)

/-- 'fairlinklaw27.SwitchboxTurns', WHERE WHAT IT READS IS OF BULK AT MOST 1048576: true; the input reads as it did. -/
def switchboxTurnsUptoRow : OpenClaim := { program := "ytkooihniieepcaa", sum := "993e0e73ef15320a28dfef353c07acc81453405c64d4d1d104988ec93d2c64ef", func := "fairlink/fairlinklaw27.SwitchboxTurns", spec := "switchboxTurns", unfollowed := true, recurses := true, plainKeys := false, apart := false, narrowed := true }
def SwitchboxTurnsUptoSaid : Prop := switchboxTurnsUptoRow.holds Try.pinned (OpenSpec.upto switchboxTurnsSpec)

/-- 'fairlinklaw27.SwitchboxMaximal', WHERE WHAT IT READS IS OF BULK AT MOST 1048576: true; the input reads as it did. -/
def switchboxMaximalUptoRow : OpenClaim := { program := "ytkooihniieepcaa", sum := "993e0e73ef15320a28dfef353c07acc81453405c64d4d1d104988ec93d2c64ef", func := "fairlink/fairlinklaw27.SwitchboxMaximal", spec := "switchboxMaximal", unfollowed := true, recurses := true, plainKeys := false, apart := false, narrowed := true }
def SwitchboxMaximalUptoSaid : Prop := switchboxMaximalUptoRow.holds Try.pinned (OpenSpec.upto switchboxMaximalSpec)

/-- 'fairlinklaw27.SwitchboxSafe', WHERE WHAT IT READS IS OF BULK AT MOST 1048576: true; the input reads as it did. -/
def switchboxSafeUptoRow : OpenClaim := { program := "ytkooihniieepcaa", sum := "993e0e73ef15320a28dfef353c07acc81453405c64d4d1d104988ec93d2c64ef", func := "fairlink/fairlinklaw27.SwitchboxSafe", spec := "switchboxSafe", unfollowed := true, recurses := true, plainKeys := false, apart := false, narrowed := true }
def SwitchboxSafeUptoSaid : Prop := switchboxSafeUptoRow.holds Try.pinned (OpenSpec.upto switchboxSafeSpec)

/-- 'fairlinklaw27.SwitchboxNew', WHERE WHAT IT READS IS OF BULK AT MOST 1048576: true; the input reads as it did. -/
def switchboxNewUptoRow : OpenClaim := { program := "ytkooihniieepcaa", sum := "993e0e73ef15320a28dfef353c07acc81453405c64d4d1d104988ec93d2c64ef", func := "fairlink/fairlinklaw27.SwitchboxNew", spec := "switchboxNew", unfollowed := true, recurses := true, plainKeys := false, apart := false, narrowed := true }
def SwitchboxNewUptoSaid : Prop := switchboxNewUptoRow.holds Try.pinned (OpenSpec.upto switchboxNewSpec)

end Rows
end Go.Proofs.Ytkooihniieepcaa
