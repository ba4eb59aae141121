/-
  The example of the chapter: awake returns true.
-/
import Derived.Test.YtjljjohoipnhhaaBoxM
namespace Go.Proofs.Ytjljjohoipnhhaa
open Go.RowKit
set_option linter.unusedVariables false

theorem bm_below {F S : Nat → Prop} {W w w' : World} {B base b : Nat} {room : Int} {ms : List Msg} (hb : Below B W w) (h : BoxM w base b room ms F) (u : Upd F w w') (h1 : B ≤ base) (hB : B ≤ w.heap.size) : Below B W w' :=
  Upd.below hb u hB fun i hi => Nat.le_trans h1 (h.lt i hi).1

set_option maxHeartbeats 2000000 in
set_option maxRecDepth 100000 in
theorem awake_ok (w : World) : Calls Try.prog 9 #[] w fun e w' => e = .returned (.bool true) ∧ Below w.heap.size w w' := by
  have N0 := Lib.hid (mnew_ok w 1 (by decide) (by decide))
  go_enter Try.func9, Try.ntmps9
  go_wp2_with fail
  refine N0.out.mono ?_
  rintro e w1 ⟨rfl, hM, hB⟩
  have B1 := Lib.hid hB
  have M1 := Lib.hid (hM.below ((Below.refl _ w1).alloc (Nat.le_refl _) (.cells #[.int .u8 7, .int .u8 8] 5)))
  have A1 : Hid (Below w.heap.size w (w1.alloc (.cells #[.int .u8 7, .int .u8 8] 5))) := hB.alloc hB.size _
  have hne : ∀ k, (fun k => k = w.heap.size) k → w1.heap.size ≠ k := fun k hk e => by have := hM.lt k hk; omega
  have P1 := Lib.hid (mput_any _ _ _ _ _ _ M1.out (by simp) (some ⟨w1.heap.size, 0, none⟩) 2 [7, 8] (Blk.sl (T := 5) (Blk.new w1 5 [.int .u8 7, .int .u8 8])) (by simp [maxLen]) (-1) (fun _ => hne) (by simp; have := hB.size; omega))
  clear hM hB hne N0
  go_wp2_with fail
  refine P1.out.mono ?_
  rintro e w2 ⟨rfl, hM, hU⟩
  have M2 : Hid (BoxM w2 w.heap.size w.heap.size 1 [⟨[7, 8], -1, 1, 0⟩] (frF (fun k => k = w.heap.size) (w1.alloc (.cells #[.int .u8 7, .int .u8 8] 5)) w2)) := hM
  have B2 := Lib.hid (bm_below (S := fun _ => False) A1.out M1.out hU (Nat.le_refl _) A1.out.size)
  have e1 : putN [] 1 [7, 8] (-1) = 0 := by decide
  have e2 : putE [] 1 [7, 8] (-1) = 0 := by decide
  rw [e1, e2]
  clear hM hU P1 e1 e2
  have N2 := Lib.hid (mnext_any w2 _ _ _ _ _ M2.out (by simp) 0 9 (by omega) B2.out.size)
  go_wp2_with fail
  refine N2.out.mono ?_
  rintro e w3 ⟨ov, rfl, hv, hM, hU⟩
  have e1 : nextW [⟨[7, 8], -1, 1, 0⟩] 0 9 = [0, 2, 0, 0, 0, 7, 8] := by decide
  have e2 : nextM [⟨[7, 8], -1, 1, 0⟩] 0 9 = [⟨[7, 8], -1, 3, 7⟩] := by rfl
  rw [e1] at hv
  rw [e2] at hM
  have V3 := Lib.hid hv; have M3 := Lib.hid hM
  have B3 := Lib.hid (bm_below (S := fun _ => False) B2.out M2.out hU (Nat.le_refl _) B2.out.size)
  obtain ⟨oa, oc, rfl⟩ := hv.shape
  clear hv hM hU N2 e1 e2
  have BL : Hid (Below w3.heap.size w3 (w3.alloc (.cells #[.int .u8 0, .int .u8 2, .int .u8 0, .int .u8 0, .int .u8 0, .int .u8 7, .int .u8 8] 5))) := (Below.refl _ _).alloc (Nat.le_refl _) _
  have EQ := Lib.hid (Calls.mono (R' := fun e w' => e = .returned (.bool true) ∧ Qt (w3.alloc (.cells #[.int .u8 0, .int .u8 2, .int .u8 0, .int .u8 0, .int .u8 0, .int .u8 7, .int .u8 8] 5)) w') (equalByte_any _ oa (some ⟨w3.heap.size, 0, none⟩) oc 7 [0, 2, 0, 0, 0, 7, 8] [0, 2, 0, 0, 0, 7, 8] (V3.out.below BL.out).sl (Blk.sl (T := 5) (Blk.new w3 5 [.int .u8 0, .int .u8 2, .int .u8 0, .int .u8 0, .int .u8 0, .int .u8 7, .int .u8 8])) (by simp [maxLen])) fun e w' h => ⟨by rw [h.1]; simp, h.2⟩)
  go_wp2_with fail
  refine EQ.out.mono ?_
  rintro e w4 ⟨rfl, hq⟩
  have M4 := Lib.hid ((M3.out.below BL.out).below hq.bel)
  have B4 := Lib.hid ((B3.out.trans (BL.out.mono B3.out.size)).trans (hq.below _))
  have S4 := Lib.hid (mstate_any w4 _ _ _ _ _ M4.out (by simp) 0)
  clear hq EQ
  go_wp2_with fail
  refine S4.out.mono ?_
  rintro e w5 ⟨rfl, rfl⟩
  have e1 : stOf ([⟨[7, 8], -1, 3, 7⟩].map Msg.st) 0 = 3 := by decide
  rw [e1]
  go_wp2_with fail
  go_ret
  exact ⟨rfl, B4.out⟩
end Go.Proofs.Ytjljjohoipnhhaa
