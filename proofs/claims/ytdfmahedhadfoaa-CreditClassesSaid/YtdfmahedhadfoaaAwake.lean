/-
  The example of the chapter: awake returns true.
-/
import Derived.Test.YtdfmahedhadfoaaCredNew
namespace Go.Proofs.Ytdfmahedhadfoaa
open Go.RowKit
set_option linter.unusedVariables false

theorem gput_below {W w w' : World} {B g cb : Nat} (hb : Below B W w) (u : Upd (fun k => k = cb) w w') (h1 : B ≤ cb) (hB : B ≤ w.heap.size) : Below B W w' :=
  Upd.below hb u hB fun i hi => by omega

theorem recX_full {x : I3} (h : x.a + x.c ≤ x.b) : recX x = x := if_pos h
theorem recX_ok {x : I3} (h : ¬ x.a + x.c ≤ x.b) : recX x = ⟨x.a, x.b + 1, x.c⟩ := if_neg h

set_option maxHeartbeats 2000000 in
set_option maxRecDepth 100000 in
theorem awake_ok (w : World) : Calls Try.prog 11 #[] w fun e w' => e = .returned (.bool true) ∧ Below w.heap.size w w' := by
  have SL : SlI (w.alloc (.cells #[.int .i64 2] 3)) (some ⟨w.heap.size, 0, none⟩) [2] := Blk.sl (f := Value.int .i64) (T := 3) (Blk.new w _ [.int .i64 2])
  have N0 := Lib.hid (newG_any (w.alloc (.cells #[.int .i64 2] 3)) (some ⟨w.heap.size, 0, none⟩) 1 [2] SL (by unfold maxLen; simp))
  have B0 : Hid (Below w.heap.size w (w.alloc (.cells #[.int .i64 2] 3))) := (Below.refl _ _).alloc (Nat.le_refl _) _
  have OK : OkRooms [2] := ⟨by decide, by decide, by decide⟩
  have HOK := Lib.hid OK
  clear SL OK
  go_enter Try.func11, Try.ntmps11
  go_wp2_with fail
  refine N0.out.mono ?_
  rintro e w1 (⟨_, rfl, hG, hB, hz⟩ | ⟨h, _⟩)
  rotate_left
  · exact absurd HOK.out h
  rw [World.size_alloc] at hG hB hz
  have G1 : Hid (GAt w1 (w.heap.size + 1) (w.heap.size + 2) (w.heap.size + 1) [⟨2, 0, 0⟩]) := hG
  have B1 : Hid (Below w.heap.size w w1) := B0.out.trans (hB.mono (by simp))
  have hsz := B1.out.size
  clear hG hB hz
  have L1 := Lib.hid (lim_ok w1 _ _ _ 0 _ ⟨2, 0, 0⟩ G1.out rfl ⟨by decide, by decide, by decide, by decide, by decide, by decide⟩ (by decide))
  go_wp2_with fail
  refine L1.out.mono ?_
  rintro e w2 ⟨rfl, hb⟩
  have G2 := Lib.hid (G1.out.below hb)
  have B2 := Lib.hid (B1.out.trans (hb.mono hsz))
  have R2 := Lib.hid (rec_ok w2 _ _ _ 0 _ ⟨2, 0, 0⟩ G2.out rfl ⟨by decide, by decide, by decide, by decide, by decide, by decide⟩ (by decide))
  clear hb
  go_wp2_with fail
  refine R2.out.mono ?_
  rintro e w3 ⟨rfl, hG, hU⟩
  have G3 : Hid (GAt w3 (w.heap.size + 1) (w.heap.size + 2) (w.heap.size + 1) [⟨2, 1, 0⟩]) := hG
  have B3 := Lib.hid (Upd.below B2.out hU B2.out.size (fun i hi => by omega))
  have R3 := Lib.hid (rec_ok w3 _ _ _ 0 _ ⟨2, 1, 0⟩ G3.out rfl ⟨by decide, by decide, by decide, by decide, by decide, by decide⟩ (by decide))
  clear hG hU
  go_wp2_with fail
  refine R3.out.mono ?_
  rintro e w4 ⟨rfl, hG, hU⟩
  have G4 : Hid (GAt w4 (w.heap.size + 1) (w.heap.size + 2) (w.heap.size + 1) [⟨2, 2, 0⟩]) := hG
  have B4 := Lib.hid (Upd.below B3.out hU B3.out.size (fun i hi => by omega))
  have H4 := Lib.hid (held_ok w4 _ _ _ 0 _ ⟨2, 2, 0⟩ G4.out rfl ⟨by decide, by decide, by decide, by decide, by decide, by decide⟩ (by decide))
  have e1 : recE ⟨2, 0, 0⟩ = 0 := rfl
  have e2 : recE ⟨2, 1, 0⟩ = 0 := rfl
  rw [e1, e2]
  clear hG hU e1 e2
  go_wp2_with fail
  refine H4.out.mono ?_
  rintro e w5 ⟨rfl, hb⟩
  have G5 := Lib.hid (G4.out.below hb)
  have B5 := Lib.hid (B4.out.trans (hb.mono B4.out.size))
  have L5 := Lib.hid (lim_ok w5 _ _ _ 0 _ ⟨2, 2, 0⟩ G5.out rfl ⟨by decide, by decide, by decide, by decide, by decide, by decide⟩ (by decide))
  clear hb
  go_wp2_with fail
  refine L5.out.mono ?_
  rintro e w6 ⟨rfl, hb⟩
  have G6 := Lib.hid (G5.out.below hb)
  have B6 := Lib.hid (B5.out.trans (hb.mono B5.out.size))
  have F6 := Lib.hid (fre_ok w6 _ _ _ 0 _ ⟨2, 2, 0⟩ G6.out rfl ⟨by decide, by decide, by decide, by decide, by decide, by decide⟩ (by decide))
  clear hb
  go_wp2_with fail
  refine F6.out.mono ?_
  rintro e w7 ⟨rfl, hG, hU⟩
  have G7 : Hid (GAt w7 (w.heap.size + 1) (w.heap.size + 2) (w.heap.size + 1) [⟨2, 2, 1⟩]) := hG
  have B7 := Lib.hid (Upd.below B6.out hU B6.out.size (fun i hi => by omega))
  have L7 := Lib.hid (lim_ok w7 _ _ _ 0 _ ⟨2, 2, 1⟩ G7.out rfl ⟨by decide, by decide, by decide, by decide, by decide, by decide⟩ (by decide))
  have e1 : freE ⟨2, 2, 0⟩ = 0 := rfl
  rw [e1]
  clear hG hU e1
  go_wp2_with fail
  refine L7.out.mono ?_
  rintro e w8 ⟨rfl, hb⟩
  have B8 := Lib.hid (B7.out.trans (hb.mono B7.out.size))
  clear hb
  go_wp2_with fail
  go_ret
  exact ⟨rfl, B8.out⟩
end Go.Proofs.Ytdfmahedhadfoaa
