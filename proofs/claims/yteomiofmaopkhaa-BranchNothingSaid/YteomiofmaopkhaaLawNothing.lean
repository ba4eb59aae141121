/-
  The walk of the law BranchNothing.
-/
import Derived.Test.YteomiofmaopkhaaAwake
import Derived.Test.YteomiofmaopkhaaOpen
namespace Go.Proofs.Yteomiofmaopkhaa
open Go.RowKit
set_option linter.unusedVariables false

set_option maxHeartbeats 4000000 in
set_option maxRecDepth 100000 in
theorem branchNothing_walk (W : World) (nid : Int) (w0 : (Lit.int .i64 nid).wf = true) (a1 : Option Addr) (c1 : Nat) (outs : List Int) (s1 : SlI W a1 outs) (g1 : ∀ y ∈ outs, IntOk .i64 y) (m1 : outs.length ≤ maxLen)
    (a2 : Option Addr) (c2 : Nat) (rs : List Bool) (s2 : SlB W a2 rs) (g2 : ∀ y ∈ rs, True) (m2 : rs.length ≤ maxLen) :
    Calls Try.prog 5 #[.int .i64 nid, .slice a1 outs.length c1, .slice a2 rs.length c2] W fun e W' => e = .returned (.bool true) ∧ Below W.heap.size W W' := by
  have HAW := Lib.hid (awake_ok W)
  clear s1 s2 g1 g2 w0
  unfold maxLen at m1 m2
  by_cases hbig : (20 : Int) < (outs.length : Int)
  · go_enter Try.func5, Try.ntmps5
    go_wp2_with fail
    refine HAW.out.mono ?_
    rintro e w1 ⟨rfl, hb⟩
    have B1 := Lib.hid hb; clear hb
    go_wp2_with fail
    go_ret
    exact ⟨rfl, B1.out⟩
  by_cases hbig2 : (20 : Int) < (rs.length : Int)
  · go_enter Try.func5, Try.ntmps5
    go_wp2_with fail
    refine HAW.out.mono ?_
    rintro e w1 ⟨rfl, hb⟩
    have B1 := Lib.hid hb; clear hb
    go_wp2_with fail
    go_ret
    exact ⟨rfl, B1.out⟩
  have N1 := Lib.hid put_nil
  have N2 := Lib.hid step_nil
  have N3 := Lib.hid wait_nil
  have N4 := Lib.hid held_nil
  have N5 := Lib.hid freed_nil
  go_enter Try.func5, Try.ntmps5
  go_wp2_with fail
  refine HAW.out.mono ?_
  rintro e w1 ⟨rfl, hb⟩
  have B1 := Lib.hid hb; clear hb
  go_wp2_with fail
  refine (N1.out w1 nid a1 outs.length c1).mono ?_
  rintro e w2 ⟨rfl, hb⟩
  have B2 := Lib.hid (B1.out.trans (hb.mono B1.out.size)); clear hb
  go_wp2_with fail
  refine (N2.out w2 a2 rs.length c2).mono ?_
  rintro e w3 ⟨rfl, rfl⟩
  go_wp2_with fail
  refine (N3.out _ nid).mono ?_
  rintro e w3 ⟨rfl, rfl⟩
  go_wp2_with fail
  refine (N4.out _).mono ?_
  rintro e w3 ⟨rfl, rfl⟩
  go_wp2_with fail
  refine (N5.out _).mono ?_
  rintro e w3 ⟨rfl, rfl⟩
  go_wp2_with fail
  go_ret
  exact ⟨rfl, B2.out⟩
end Go.Proofs.Yteomiofmaopkhaa
