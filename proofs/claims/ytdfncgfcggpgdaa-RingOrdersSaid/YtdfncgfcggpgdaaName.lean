/-
  Contract of the closure that names the values.
-/
import Derived.Test.YtdfncgfcggpgdaaLib
namespace Go.Proofs.Ytdfncgfcggpgdaa
open Go.RowKit

def encS (n : Int) : ByteArray := Utf8.encode n
theorem encS_size (n : Int) : (encS n).size ≤ 4 := by
  unfold encS Utf8.encode
  generalize (if Utf8.valid n = true then n.toNat else Utf8.runeError) = c
  dsimp only
  split
  · show 1 ≤ 4; omega
  · split
    · show 2 ≤ 4; omega
    · split
      · show 3 ≤ 4; omega
      · show 4 ≤ 4; omega
theorem conv_rune (w : World) (n : Int) : (convert 21 9 (.int .i32 n)).run Try.prog w = .ok (.string (encS n)) w :=
  run_convert_int_string w 21 9 .i32 n (by rw [Try.underlying21]; rfl) Try.underlying9

/-- The name of value k. -/
def nameS (k : Nat) : ByteArray := encS (97 + (k : Int) % 26) ++ encS (97 + (k : Int) / 26)

set_option maxHeartbeats 1000000 in
set_option maxRecDepth 100000 in
theorem name_any (k : Nat) (w : World) (hk : k ≤ 300) : Calls Try.prog 12 #[.int .i64 k] w fun e w' => e = .returned (.string (nameS k)) ∧ w = w' := by
  have hcv := conv_rune
  have h1 : (encS (97 + (k : Int) % 26)).size ≤ 4 := encS_size _
  have h2 : (encS (97 + (k : Int) / 26)).size ≤ 4 := encS_size _
  go_enter Try.func12, Try.ntmps12
  go_wp2
  go_ret
  exact ⟨rfl, rfl⟩
end Go.Proofs.Ytdfncgfcggpgdaa
