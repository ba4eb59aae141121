/-
  The example of the chapter: awake returns true.
-/
import Derived.Test.YtdfncgfcggpgdaaRingI
namespace Go.Proofs.Ytdfncgfcggpgdaa
open Go.RowKit
set_option linter.unusedVariables false

theorem ring_below {α : Type} {f : α → Value} {TE TR : TypeId} {W w w' : World} {B base b room : Nat} {v : Value} {xs : List α} (hb : Below B W w) (hR : RingAt f TE TR w base b room v xs) (u : Upd (ringS b v) w w') (h1 : B ≤ base) (h2 : B ≤ b) (hB : B ≤ w.heap.size) :
    Below B W w' :=
  Upd.below hb u hB fun i hi => by
    rcases hi with h | h
    · omega
    · exact Nat.le_trans h1 (own_lt hR.own h).2

abbrev RI (w : World) (base b room : Nat) (v : Value) (xs : List Int) : Prop := RingAt (Value.int .i64) 3 88 w base b room v xs

set_option maxHeartbeats 1000000 in
set_option maxRecDepth 100000 in
theorem awake_ok (w : World) : Calls Try.prog 10 #[] w fun e w' => e = .returned (.bool true) ∧ Below w.heap.size w w' := by
  have N0 := Lib.hid (newI_ok 2 w.heap.size w (by decide) (by decide))
  go_enter Try.func10, Try.ntmps10
  go_wp2_with fail
  refine N0.out.mono ?_
  rintro e w1 ⟨rfl, hR, hB, hz⟩
  have R1 : Hid (RI w1 w.heap.size w.heap.size 2 (.slice none 0 0) []) := hR
  have B1 := Lib.hid hB
  clear hR hB hz
  have P1 := Lib.hid (putI_ok w1 w.heap.size w.heap.size 2 _ [] 5 R1.out (by decide) (by decide) B1.out.size)
  go_wp2_with fail
  refine P1.out.mono ?_
  rintro e w2 ⟨v2, rfl, hR, hU, hv⟩
  have B2 := Lib.hid (ring_below B1.out R1.out hU (Nat.le_refl _) (Nat.le_refl _) B1.out.size)
  have R2 : Hid (RI w2 w.heap.size w.heap.size 2 v2 [5]) := hR
  clear hR hU hv
  have P2 := Lib.hid (putI_ok w2 w.heap.size w.heap.size 2 _ [5] 7 R2.out (by decide) (by decide) B2.out.size)
  go_wp2_with fail
  refine P2.out.mono ?_
  rintro e w3 ⟨v3, rfl, hR, hU, hv⟩
  have B3 := Lib.hid (ring_below B2.out R2.out hU (Nat.le_refl _) (Nat.le_refl _) B2.out.size)
  have R3 : Hid (RI w3 w.heap.size w.heap.size 2 v3 [5, 7]) := hR
  clear hR hU hv
  have P3 := Lib.hid (putI_full w3 w.heap.size w.heap.size 2 _ [5, 7] 9 R3.out (by decide))
  go_wp2_with fail
  refine P3.out.mono ?_
  rintro e w4 ⟨rfl, hq⟩
  have R4 : Hid (RI w4 w.heap.size w.heap.size 2 v3 [5, 7]) := R3.out.qt hq
  have B4 := Lib.hid (B3.out.trans (hq.below _))
  clear hq
  have T4 := Lib.hid (takeI_some w4 w.heap.size w.heap.size 2 _ 5 [7] R4.out)
  go_wp2_with fail
  refine T4.out.mono ?_
  rintro e w5 ⟨v5, rfl, hR, hU, hv⟩
  have B5 := Lib.hid (ring_below B4.out R4.out hU (Nat.le_refl _) (Nat.le_refl _) B4.out.size)
  have R5 : Hid (RI w5 w.heap.size w.heap.size 2 v5 [7]) := hR
  clear hR hU hv
  have M5 := Lib.hid (roomI_any w5 w.heap.size w.heap.size 2 _ [7] R5.out (by decide) (by decide))
  go_wp2_with fail
  refine M5.out.mono ?_
  rintro e w6 ⟨rfl, hq⟩
  have R6 : Hid (RI w6 w.heap.size w.heap.size 2 v5 [7]) := R5.out.qt hq
  have B6 := Lib.hid (B5.out.trans (hq.below _))
  clear hq
  have P6 := Lib.hid (putI_ok w6 w.heap.size w.heap.size 2 _ [7] 9 R6.out (by decide) (by decide) B6.out.size)
  go_wp2_with fail
  refine P6.out.mono ?_
  rintro e w7 ⟨v7, rfl, hR, hU, hv⟩
  have B7 := Lib.hid (ring_below B6.out R6.out hU (Nat.le_refl _) (Nat.le_refl _) B6.out.size)
  have R7 : Hid (RI w7 w.heap.size w.heap.size 2 v7 [7, 9]) := hR
  clear hR hU hv
  have L7 := Lib.hid (lenI_any w7 w.heap.size w.heap.size 2 _ [7, 9] R7.out)
  go_wp2_with fail
  refine L7.out.mono ?_
  rintro e w8 ⟨rfl, rfl⟩
  go_wp2_with fail
  go_ret
  exact ⟨rfl, B7.out⟩
end Go.Proofs.Ytdfncgfcggpgdaa
