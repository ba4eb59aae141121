/-
  The walk of the law RingNil.
-/
import Derived.Test.YtdfncgfcggpgdaaVals
import Derived.Test.YtdfncgfcggpgdaaShelfC
import Derived.Test.YtdfncgfcggpgdaaOpen
namespace Go.Proofs.Ytdfncgfcggpgdaa
open Go.RowKit
set_option linter.unusedVariables false

set_option maxHeartbeats 4000000 in
set_option maxRecDepth 100000 in
theorem ringNil_walk (W : World) (cl : Int) (w0 : (Lit.int .i64 cl).wf = true) (vl : Int) (w1 : (Lit.int .i64 vl).wf = true) :
    Calls Try.prog 8 #[.int .i64 cl, .int .i64 vl] W fun e W' => e = .returned (.bool true) ∧ Below W.heap.size W W' := by
  have HAW := Lib.hid (awake_ok W)
  have V := Lib.hid values_nil
  have T1 := Lib.hid takeI_nil; have P1 := Lib.hid peekI_nil; have T2 := Lib.hid shtake_nil; have P2 := Lib.hid shpeek_nil
  have L1 := Lib.hid lenI_nil; have R1 := Lib.hid roomI_nil; have U1 := Lib.hid putI_nil; have U2 := Lib.hid shput_nil; have L2 := Lib.hid lens_nil
  clear w0 w1
  go_enter Try.func8, Try.ntmps8
  go_wp2_with fail
  refine HAW.out.mono ?_
  rintro e wa ⟨rfl, hb⟩
  have BA := Lib.hid hb; clear hb
  go_wp2_with fail
  refine (V.out wa).mono ?_
  rintro e wb ⟨v, rfl, hrw, hb⟩
  obtain ⟨a, c, rfl, hrest⟩ := hrw
  have BB := Lib.hid (BA.out.trans (hb.mono BA.out.size))
  clear hrest hb
  go_wp2_with fail
  refine (T1.out wb).mono ?_
  rintro e w2 ⟨rfl, rfl⟩
  go_wp2_with fail
  refine (P1.out _).mono ?_
  rintro e w2 ⟨rfl, rfl⟩
  go_wp2_with fail
  refine (T2.out _ cl).mono ?_
  rintro e w2 ⟨rfl, rfl⟩
  go_wp2_with fail
  refine (P2.out _ cl).mono ?_
  rintro e w2 ⟨rfl, rfl⟩
  go_wp2_with fail
  refine (L1.out _).mono ?_
  rintro e w2 ⟨rfl, rfl⟩
  go_wp2_with fail
  refine (R1.out _).mono ?_
  rintro e w2 ⟨rfl, rfl⟩
  go_wp2_with fail
  refine (U1.out _ vl).mono ?_
  rintro e w2 ⟨rfl, rfl⟩
  go_wp2_with fail
  refine (U2.out _ cl vl).mono ?_
  rintro e w2 ⟨rfl, rfl⟩
  go_wp2_with fail
  refine (L2.out _).mono ?_
  rintro e w2 ⟨rfl, rfl⟩
  go_wp2_with fail
  go_ret
  exact ⟨rfl, BB.out⟩
end Go.Proofs.Ytdfncgfcggpgdaa
