/-
  The walk of the law CreditSafe.
-/
import Derived.Test.YtdfmahedhadfoaaLawStory
namespace Go.Proofs.Ytdfmahedhadfoaa
open Go.RowKit
set_option linter.unusedVariables false

theorem u8_bounds {n : Int} (h : (Lit.int .u8 n).wf = true) : 0 ≤ n ∧ n ≤ 255 := by simpa [Lit.wf, IntKind.min, IntKind.max, IntKind.signed, IntKind.bits] using h

set_option maxHeartbeats 4000000 in
set_option maxRecDepth 100000 in
theorem creditSafe_walk (W : World) (rm : Int) (w0 : (Lit.int .u8 rm).wf = true) (a1 : Option Addr) (c1 : Nat) (es : List Int) (s1 : Sl (Value.int .u8) W a1 es) (g1 : ∀ y ∈ es, IntOk .u8 y) (m1 : es.length ≤ maxLen) :
    Calls Try.prog 9 #[.int .u8 rm, .slice a1 es.length c1] W fun e W' => e = .returned (.bool true) ∧ Below W.heap.size W W' := by
  have HAW := Lib.hid (awake_ok W)
  have S1 := Lib.hid s1; have G1' := Lib.hid fun e he => u8_bounds (g1 e he)
  obtain ⟨p0, p1⟩ := u8_bounds w0
  clear s1 g1 w0
  unfold maxLen at m1
  obtain ⟨n, hn⟩ : ∃ n : Nat, 1 + rm % 8 = n := ⟨(1 + rm % 8).toNat, by omega⟩
  have hn1 : 1 ≤ n := by omega
  have hn8 : n ≤ 8 := by omega
  have HN := Lib.hid hn; clear hn
  by_cases h60 : (60 : Int) < (es.length : Int)
  · go_enter Try.func9, Try.ntmps9
    go_wp2_with fail
    refine HAW.out.mono ?_
    rintro e w1 ⟨rfl, hb⟩
    have B1 := Lib.hid hb; clear hb
    go_wp2_with fail
    go_ret
    exact ⟨rfl, B1.out⟩
  go_enter Try.func9, Try.ntmps9
  go_wp2_with fail
  refine HAW.out.mono ?_
  rintro e w1 ⟨rfl, hb⟩
  have B1 := Lib.hid hb; clear hb
  have ST := Lib.hid (story_any w1 n a1 c1 es (S1.out.below B1.out) G1'.out hn1 hn8 (by omega))
  have hn := HN.out
  go_wp2_with fail
  clear hn
  refine ST.out.mono ?_
  rintro e w2 ⟨g, cb, t, ct, BL, b, c, s, m, fl, rfl, _, hS, _, _, _⟩
  have B2 := Lib.hid (B1.out.trans (hS.bel.mono B1.out.size)); clear hS
  go_wp2_with fail
  go_ret
  exact ⟨rfl, B2.out⟩
end Go.Proofs.Ytdfmahedhadfoaa
