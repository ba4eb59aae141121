/-
  The rows of the table of types for int and bool.
-/
import Derived.Test.YtkooihniieepcaaBarRound
namespace Go.Proofs.Ytkooihniieepcaa
open Go.RowKit

theorem Try.infoInt : (Try.prog.info? 3).map (fun i => (i.zero, i.size, i.bytes)) = some (some (.int .i64 0), 1, 8) := by kernel_rfl
theorem Try.infoBool : (Try.prog.info? 4).map (fun i => (i.zero, i.size, i.bytes)) = some (some (.bool false), 1, 1) := by kernel_rfl
end Go.Proofs.Ytkooihniieepcaa
