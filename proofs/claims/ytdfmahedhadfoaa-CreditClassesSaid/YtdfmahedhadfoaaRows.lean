/-
  No cell of these rows narrows 'for every input' (looked for: loops, veiled, ifaces, maps, wideKeys, modest, calm, conditions, laid).
  DERIVED. THE GIVEN ROWS OF THIS SEAT. 8 by the template 'for every input the law returns true; each argument reads behind the call as it read before'; 0 by the template 'total and deterministic' (their statements: YtdfmahedhadfoaaTotals.lean).
  GIVEN WITH THE SEED: the statements are not yours to turn. If you find one false, say at which input.
  Laid BY PROGRAM, IN A SANDBOX (cutbox-rows.mjs): the forced cells as the released guide's own fill.sh prints them over the translation 30ecb6bfd51befe3… (all of the seat's roots in one cut). By AI agents, Wed Nov 11 2026. No macro, syntax, notation, axiom, sorry.
-/
import Derived.Test.YtdfmahedhadfoaaChecked
import GoSem.Claim
import GoSem.ClaimJoined
import GoSem.ClaimMapViews
import Derived.JoinedTies
import Derived.KernelRfl
namespace Go.Proofs.Ytdfmahedhadfoaa
/- THE CELL 'sum', in the pinned program and in every row, IS THE sha256 OF THE DUMP (.gsa) THAT YtdfmahedhadfoaaProg.lean LOADS. Nothing in Lean hashes anything: it is a label: what it is worth is what the hold of that sum in a sandbox is worth. -/
noncomputable def Try.pinned : Pinned := { name := "ytdfmahedhadfoaa", sum := "30ecb6bfd51befe365dd6273f642f8293a99b6360b22b2a4cac7271d58fe0fdd", checked := Try.checked }
namespace Rows
def none {H : Type} : Left H := { results := [], args := [] }

/-- 'fairlinklaw07.CreditGiver': WHATEVER THE INPUT: true; the input reads as it did. -/
def creditGiverSpec : ChangeSpec := { name := "creditGiver", fn := fun _ => fun
  | [d1, d2] => { results := [.lit (.bool true)], args := [d1, d2] }
  | _ => none }
def creditGiverRow : OpenClaim := { program := "ytdfmahedhadfoaa", sum := "30ecb6bfd51befe365dd6273f642f8293a99b6360b22b2a4cac7271d58fe0fdd", func := "fairlink/fairlinklaw07.CreditGiver", spec := "creditGiver", unfollowed := true, recurses := true, apart := false }
def CreditGiverSaid : Prop := creditGiverRow.holds Try.pinned (OpenSpec.ofChange creditGiverSpec)

/-- ITS FALSE NEIGHBOUR: 'it returns false'. Refute it at one input. -/
def creditGiverWrong : ChangeSpec := { name := "creditGiver", fn := fun _ => fun
  | [d1, d2] => { results := [.lit (.bool false)], args := [d1, d2] }
  | _ => none }
def CreditGiverWrongFalsely : Prop := creditGiverRow.holds Try.pinned (OpenSpec.ofChange creditGiverWrong)

/-- 'fairlinklaw07.CreditAudits': WHATEVER THE INPUT: true; the input reads as it did. -/
def creditAuditsSpec : ChangeSpec := { name := "creditAudits", fn := fun _ => fun
  | [d1, d2, d3, d4, d5] => { results := [.lit (.bool true)], args := [d1, d2, d3, d4, d5] }
  | _ => none }
def creditAuditsRow : OpenClaim := { program := "ytdfmahedhadfoaa", sum := "30ecb6bfd51befe365dd6273f642f8293a99b6360b22b2a4cac7271d58fe0fdd", func := "fairlink/fairlinklaw07.CreditAudits", spec := "creditAudits", unfollowed := true, recurses := true, apart := false }
def CreditAuditsSaid : Prop := creditAuditsRow.holds Try.pinned (OpenSpec.ofChange creditAuditsSpec)

/-- ITS FALSE NEIGHBOUR: 'it returns false'. Refute it at one input. -/
def creditAuditsWrong : ChangeSpec := { name := "creditAudits", fn := fun _ => fun
  | [d1, d2, d3, d4, d5] => { results := [.lit (.bool false)], args := [d1, d2, d3, d4, d5] }
  | _ => none }
def CreditAuditsWrongFalsely : Prop := creditAuditsRow.holds Try.pinned (OpenSpec.ofChange creditAuditsWrong)

/-- 'fairlinklaw07.CreditClasses': WHATEVER THE INPUT: true; the input reads as it did. -/
def creditClassesSpec : ChangeSpec := { name := "creditClasses", fn := fun _ => fun
  | [d1, d2, d3] => { results := [.lit (.bool true)], args := [d1, d2, d3] }
  | _ => none }
def creditClassesRow : OpenClaim := { program := "ytdfmahedhadfoaa", sum := "30ecb6bfd51befe365dd6273f642f8293a99b6360b22b2a4cac7271d58fe0fdd", func := "fairlink/fairlinklaw07.CreditClasses", spec := "creditClasses", unfollowed := true, recurses := true, apart := false }
def CreditClassesSaid : Prop := creditClassesRow.holds Try.pinned (OpenSpec.ofChange creditClassesSpec)

/-- ITS FALSE NEIGHBOUR: 'it returns false'. Refute it at one input. -/
def creditClassesWrong : ChangeSpec := { name := "creditClasses", fn := fun _ => fun
  | [d1, d2, d3] => { results := [.lit (.bool false)], args := [d1, d2, d3] }
  | _ => none }
def CreditClassesWrongFalsely : Prop := creditClassesRow.holds Try.pinned (OpenSpec.ofChange creditClassesWrong)

/-- 'fairlinklaw07.CreditRaises': WHATEVER THE INPUT: true; the input reads as it did. -/
def creditRaisesSpec : ChangeSpec := { name := "creditRaises", fn := fun _ => fun
  | [d] => { results := [.lit (.bool true)], args := [d] }
  | _ => none }
def creditRaisesRow : OpenClaim := { program := "ytdfmahedhadfoaa", sum := "30ecb6bfd51befe365dd6273f642f8293a99b6360b22b2a4cac7271d58fe0fdd", func := "fairlink/fairlinklaw07.CreditRaises", spec := "creditRaises", unfollowed := true, recurses := true, apart := false }
def CreditRaisesSaid : Prop := creditRaisesRow.holds Try.pinned (OpenSpec.ofChange creditRaisesSpec)

/-- ITS FALSE NEIGHBOUR: 'it returns false'. Refute it at one input. -/
def creditRaisesWrong : ChangeSpec := { name := "creditRaises", fn := fun _ => fun
  | [d] => { results := [.lit (.bool false)], args := [d] }
  | _ => none }
def CreditRaisesWrongFalsely : Prop := creditRaisesRow.holds Try.pinned (OpenSpec.ofChange creditRaisesWrong)

/-- 'fairlinklaw07.CreditTaker': WHATEVER THE INPUT: true; the input reads as it did. -/
def creditTakerSpec : ChangeSpec := { name := "creditTaker", fn := fun _ => fun
  | [d1, d2] => { results := [.lit (.bool true)], args := [d1, d2] }
  | _ => none }
def creditTakerRow : OpenClaim := { program := "ytdfmahedhadfoaa", sum := "30ecb6bfd51befe365dd6273f642f8293a99b6360b22b2a4cac7271d58fe0fdd", func := "fairlink/fairlinklaw07.CreditTaker", spec := "creditTaker", unfollowed := true, recurses := true, apart := false }
def CreditTakerSaid : Prop := creditTakerRow.holds Try.pinned (OpenSpec.ofChange creditTakerSpec)

/-- ITS FALSE NEIGHBOUR: 'it returns false'. Refute it at one input. -/
def creditTakerWrong : ChangeSpec := { name := "creditTaker", fn := fun _ => fun
  | [d1, d2] => { results := [.lit (.bool false)], args := [d1, d2] }
  | _ => none }
def CreditTakerWrongFalsely : Prop := creditTakerRow.holds Try.pinned (OpenSpec.ofChange creditTakerWrong)

/-- 'fairlinklaw07.CreditNew': WHATEVER THE INPUT: true; the input reads as it did. -/
def creditNewSpec : ChangeSpec := { name := "creditNew", fn := fun _ => fun
  | [d1, d2, d3] => { results := [.lit (.bool true)], args := [d1, d2, d3] }
  | _ => none }
def creditNewRow : OpenClaim := { program := "ytdfmahedhadfoaa", sum := "30ecb6bfd51befe365dd6273f642f8293a99b6360b22b2a4cac7271d58fe0fdd", func := "fairlink/fairlinklaw07.CreditNew", spec := "creditNew", unfollowed := true, recurses := true, apart := false }
def CreditNewSaid : Prop := creditNewRow.holds Try.pinned (OpenSpec.ofChange creditNewSpec)

/-- ITS FALSE NEIGHBOUR: 'it returns false'. Refute it at one input. -/
def creditNewWrong : ChangeSpec := { name := "creditNew", fn := fun _ => fun
  | [d1, d2, d3] => { results := [.lit (.bool false)], args := [d1, d2, d3] }
  | _ => none }
def CreditNewWrongFalsely : Prop := creditNewRow.holds Try.pinned (OpenSpec.ofChange creditNewWrong)

/-- 'fairlinklaw07.CreditSafe': WHATEVER THE INPUT: true; the input reads as it did. -/
def creditSafeSpec : ChangeSpec := { name := "creditSafe", fn := fun _ => fun
  | [d1, d2] => { results := [.lit (.bool true)], args := [d1, d2] }
  | _ => none }
def creditSafeRow : OpenClaim := { program := "ytdfmahedhadfoaa", sum := "30ecb6bfd51befe365dd6273f642f8293a99b6360b22b2a4cac7271d58fe0fdd", func := "fairlink/fairlinklaw07.CreditSafe", spec := "creditSafe", unfollowed := true, recurses := true, apart := false }
def CreditSafeSaid : Prop := creditSafeRow.holds Try.pinned (OpenSpec.ofChange creditSafeSpec)

/-- ITS FALSE NEIGHBOUR: 'it returns false'. Refute it at one input. -/
def creditSafeWrong : ChangeSpec := { name := "creditSafe", fn := fun _ => fun
  | [d1, d2] => { results := [.lit (.bool false)], args := [d1, d2] }
  | _ => none }
def CreditSafeWrongFalsely : Prop := creditSafeRow.holds Try.pinned (OpenSpec.ofChange creditSafeWrong)

/-- 'fairlinklaw07.CreditWhole': WHATEVER THE INPUT: true; the input reads as it did. -/
def creditWholeSpec : ChangeSpec := { name := "creditWhole", fn := fun _ => fun
  | [d1, d2] => { results := [.lit (.bool true)], args := [d1, d2] }
  | _ => none }
def creditWholeRow : OpenClaim := { program := "ytdfmahedhadfoaa", sum := "30ecb6bfd51befe365dd6273f642f8293a99b6360b22b2a4cac7271d58fe0fdd", func := "fairlink/fairlinklaw07.CreditWhole", spec := "creditWhole", unfollowed := true, recurses := true, apart := false }
def CreditWholeSaid : Prop := creditWholeRow.holds Try.pinned (OpenSpec.ofChange creditWholeSpec)

/-- ITS FALSE NEIGHBOUR: 'it returns false'. Refute it at one input. -/
def creditWholeWrong : ChangeSpec := { name := "creditWhole", fn := fun _ => fun
  | [d1, d2] => { results := [.lit (.bool false)], args := [d1, d2] }
  | _ => none }
def CreditWholeWrongFalsely : Prop := creditWholeRow.holds Try.pinned (OpenSpec.ofChange creditWholeWrong)

/- THE SECOND FORM. 'bulk': how many values and letters a reading holds, each counted each time it is reached (what is shared counts as often as it is met; a slice's spare places count too). A statement '..UptoSaid' is the law's where the arguments, and the package variables that the reading takes, are together of bulk at most 1048576: NARROWER than '..Said'. Prove '..Said' where nothing that the law and all that it calls make is longer than what came in: it says more and counts as full. Else prove '..UptoSaid'. A law counts once. -/
mutual
def uptoBulk {H : Type} : DataW H → Nat
  | .lit (.string bytes) => bytes.length + 1
  | .lit _ => 1
  | .nil => 1
  | .ptr d => uptoBulk d + 1
  | .slice elems spare => uptoBulkAll elems + uptoBulkAll spare + 1
  | .agg parts => uptoBulkAll parts + 1
  | .iface _ d => uptoBulk d + 1
  | .map entries => uptoBulkEntries entries + 1
  | .held _ => 1
def uptoBulkAll {H : Type} : List (DataW H) → Nat
  | [] => 0
  | d :: r => uptoBulk d + uptoBulkAll r
def uptoBulkEntries {H : Type} : List (Lit × DataW H) → Nat
  | [] => 0
  | x :: r => uptoBulkEntry x + uptoBulkEntries r
def uptoBulkEntry {H : Type} : Lit × DataW H → Nat
  | (.string bytes, d) => bytes.length + uptoBulk d + 1
  | (_, d) => uptoBulk d + 1
 end
def uptoSmall : (H : Type) → List (DataW H) → Bool := fun _ ds => decide (uptoBulkAll ds ≤ 1048576)
def OpenSpec.upto (s : _root_.Go.ChangeSpec) : _root_.Go.OpenSpec := { _root_.Go.OpenSpec.ofChange s with cond := some uptoSmall }

/-- 'fairlinklaw07.CreditGiver', WHERE WHAT IT READS IS OF BULK AT MOST 1048576: true; the input reads as it did. -/
def creditGiverUptoRow : OpenClaim := { program := "ytdfmahedhadfoaa", sum := "30ecb6bfd51befe365dd6273f642f8293a99b6360b22b2a4cac7271d58fe0fdd", func := "fairlink/fairlinklaw07.CreditGiver", spec := "creditGiver", unfollowed := true, recurses := true, apart := false, narrowed := true }
def CreditGiverUptoSaid : Prop := creditGiverUptoRow.holds Try.pinned (OpenSpec.upto creditGiverSpec)

/-- 'fairlinklaw07.CreditAudits', WHERE WHAT IT READS IS OF BULK AT MOST 1048576: true; the input reads as it did. -/
def creditAuditsUptoRow : OpenClaim := { program := "ytdfmahedhadfoaa", sum := "30ecb6bfd51befe365dd6273f642f8293a99b6360b22b2a4cac7271d58fe0fdd", func := "fairlink/fairlinklaw07.CreditAudits", spec := "creditAudits", unfollowed := true, recurses := true, apart := false, narrowed := true }
def CreditAuditsUptoSaid : Prop := creditAuditsUptoRow.holds Try.pinned (OpenSpec.upto creditAuditsSpec)

/-- 'fairlinklaw07.CreditClasses', WHERE WHAT IT READS IS OF BULK AT MOST 1048576: true; the input reads as it did. -/
def creditClassesUptoRow : OpenClaim := { program := "ytdfmahedhadfoaa", sum := "30ecb6bfd51befe365dd6273f642f8293a99b6360b22b2a4cac7271d58fe0fdd", func := "fairlink/fairlinklaw07.CreditClasses", spec := "creditClasses", unfollowed := true, recurses := true, apart := false, narrowed := true }
def CreditClassesUptoSaid : Prop := creditClassesUptoRow.holds Try.pinned (OpenSpec.upto creditClassesSpec)

/-- 'fairlinklaw07.CreditRaises', WHERE WHAT IT READS IS OF BULK AT MOST 1048576: true; the input reads as it did. -/
def creditRaisesUptoRow : OpenClaim := { program := "ytdfmahedhadfoaa", sum := "30ecb6bfd51befe365dd6273f642f8293a99b6360b22b2a4cac7271d58fe0fdd", func := "fairlink/fairlinklaw07.CreditRaises", spec := "creditRaises", unfollowed := true, recurses := true, apart := false, narrowed := true }
def CreditRaisesUptoSaid : Prop := creditRaisesUptoRow.holds Try.pinned (OpenSpec.upto creditRaisesSpec)

/-- 'fairlinklaw07.CreditTaker', WHERE WHAT IT READS IS OF BULK AT MOST 1048576: true; the input reads as it did. -/
def creditTakerUptoRow : OpenClaim := { program := "ytdfmahedhadfoaa", sum := "30ecb6bfd51befe365dd6273f642f8293a99b6360b22b2a4cac7271d58fe0fdd", func := "fairlink/fairlinklaw07.CreditTaker", spec := "creditTaker", unfollowed := true, recurses := true, apart := false, narrowed := true }
def CreditTakerUptoSaid : Prop := creditTakerUptoRow.holds Try.pinned (OpenSpec.upto creditTakerSpec)

/-- 'fairlinklaw07.CreditNew', WHERE WHAT IT READS IS OF BULK AT MOST 1048576: true; the input reads as it did. -/
def creditNewUptoRow : OpenClaim := { program := "ytdfmahedhadfoaa", sum := "30ecb6bfd51befe365dd6273f642f8293a99b6360b22b2a4cac7271d58fe0fdd", func := "fairlink/fairlinklaw07.CreditNew", spec := "creditNew", unfollowed := true, recurses := true, apart := false, narrowed := true }
def CreditNewUptoSaid : Prop := creditNewUptoRow.holds Try.pinned (OpenSpec.upto creditNewSpec)

/-- 'fairlinklaw07.CreditSafe', WHERE WHAT IT READS IS OF BULK AT MOST 1048576: true; the input reads as it did. -/
def creditSafeUptoRow : OpenClaim := { program := "ytdfmahedhadfoaa", sum := "30ecb6bfd51befe365dd6273f642f8293a99b6360b22b2a4cac7271d58fe0fdd", func := "fairlink/fairlinklaw07.CreditSafe", spec := "creditSafe", unfollowed := true, recurses := true, apart := false, narrowed := true }
def CreditSafeUptoSaid : Prop := creditSafeUptoRow.holds Try.pinned (OpenSpec.upto creditSafeSpec)

/-- 'fairlinklaw07.CreditWhole', WHERE WHAT IT READS IS OF BULK AT MOST 1048576: true; the input reads as it did. -/
def creditWholeUptoRow : OpenClaim := { program := "ytdfmahedhadfoaa", sum := "30ecb6bfd51befe365dd6273f642f8293a99b6360b22b2a4cac7271d58fe0fdd", func := "fairlink/fairlinklaw07.CreditWhole", spec := "creditWhole", unfollowed := true, recurses := true, apart := false, narrowed := true }
def CreditWholeUptoSaid : Prop := creditWholeUptoRow.holds Try.pinned (OpenSpec.upto creditWholeSpec)

end Rows
end Go.Proofs.Ytdfmahedhadfoaa
