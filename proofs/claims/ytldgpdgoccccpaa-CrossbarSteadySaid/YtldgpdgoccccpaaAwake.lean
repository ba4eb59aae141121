/-
  The example of the chapter: awake returns true.
-/
import Derived.Test.YtldgpdgoccccpaaBarGreat
namespace Go.Proofs.Ytldgpdgoccccpaa
open Go.RowKit
set_option linter.unusedVariables false

theorem Fun.sl {w : World} {b n : Nat} {m : Nat → Int} (h : Fun w b 3 n (iF m)) : SlI w (some ⟨b, 0, none⟩) ((List.range n).map m) := by
  refine Blk.sl (T := 3) (f := Value.int .i64) ?_
  have e : ((List.range n).map m).map (Value.int .i64) = (List.range n).map (iF m) := by rw [List.map_map]; rfl
  rw [e]
  exact h
def aw0 (B : Nat) : List (RowOf Bool) := [⟨some ⟨B, 0, none⟩, 2, [true, true]⟩, ⟨some ⟨B + 1, 0, none⟩, 2, [true, true]⟩]
def awW (w : World) : World := ((w.alloc (.cells #[.bool true, .bool true] 4)).alloc (.cells #[.bool true, .bool true] 4)).alloc (.cells #[.slice (some ⟨w.heap.size, 0, none⟩) 2 2, .slice (some ⟨w.heap.size + 1, 0, none⟩) 2 2] 27)
theorem aw_req (w : World) : Req (awW w) (some ⟨w.heap.size + 1 + 1, 0, none⟩) (aw0 w.heap.size) := by
  have k1 : Blk (awW w) w.heap.size 4 ([true, true].map Value.bool) := ((Blk.new w 4 _).alloc _).alloc _
  have k2 : Blk (awW w) (w.heap.size + 1) 4 ([true, true].map Value.bool) := by
    have := (Blk.new (w.alloc (.cells #[.bool true, .bool true] 4)) 4 ([true, true].map Value.bool)).alloc (.cells #[.slice (some ⟨w.heap.size, 0, none⟩) 2 2, .slice (some ⟨w.heap.size + 1, 0, none⟩) 2 2] 27)
    rw [World.size_alloc] at this
    exact this
  have k3 : Blk (awW w) (w.heap.size + 1 + 1) 27 ((aw0 w.heap.size).map RowOf.val) := by
    have := Blk.new ((w.alloc (.cells #[.bool true, .bool true] 4)).alloc (.cells #[.bool true, .bool true] 4)) 27 ((aw0 w.heap.size).map RowOf.val)
    rw [World.size_alloc, World.size_alloc] at this
    exact this
  refine ⟨Blk.sl k3, fun r hr => ?_⟩
  simp only [aw0, List.mem_cons, List.not_mem_nil, or_false] at hr
  rcases hr with rfl | rfl
  · exact Blk.sl k1
  · exact Blk.sl k2
theorem aw_below (w : World) : Below w.heap.size w (awW w) := (((Below.refl _ _).alloc (Nat.le_refl _) _).alloc (by simp) _).alloc (by simp; omega) _
theorem aw_size (w : World) : (awW w).heap.size = w.heap.size + 1 + 1 + 1 := by simp [awW]
def st0 (B : Nat) : Bar.St := Bar.rounds (reqF (aw0 B)) 2 (Bar.start (fun _ => 0) (fun _ => 0)) 1
def st1 (B : Nat) : Bar.St := Bar.rounds (reqF (aw0 B)) 2 (Bar.start (st0 B).g (st0 B).a) 1
theorem st0_m (B : Nat) : (List.range 2).map (st0 B).m = [0, -1] := rfl
theorem st1_m (B : Nat) : (List.range 2).map (st1 B).m = [1, 0] := rfl
theorem aw_len (B : Nat) : Lens (aw0 B) := by
  refine ⟨by simp [aw0, maxLen], fun r hr => ?_⟩
  simp only [aw0, List.mem_cons, List.not_mem_nil, or_false] at hr
  rcases hr with rfl | rfl <;> simp [maxLen]
theorem aw_off (B cb : Nat) (h : cb < B) : Off (some ⟨B + 1 + 1, 0, none⟩) (aw0 B) (fun j => j = cb) := by
  refine ⟨fun _ => ?_, fun r hr _ => ?_⟩
  · show ¬ B + 1 + 1 = cb
    omega
  · simp only [aw0, List.mem_cons, List.not_mem_nil, or_false] at hr
    rcases hr with rfl | rfl
    · show ¬ B = cb; omega
    · show ¬ B + 1 = cb; omega

set_option maxHeartbeats 4000000 in
set_option maxRecDepth 100000 in
theorem awake_ok (w : World) : Calls Try.prog 11 #[] w fun e w' => e = .returned (.bool true) ∧ Below w.heap.size w w' := by
  have N0 := Lib.hid (barnew_ok 2 w (by decide) (by decide))
  go_enter Try.func11, Try.ntmps11
  go_wp2_with fail
  go_fit N0.out
  rintro e w1 ⟨rfl, hA, hB, hz⟩
  have A1 := Lib.hid hA; have B1 := Lib.hid hB; have Z1 := Lib.hid hz
  clear hA hB hz
  -- the first matching
  have hz1 : w.heap.size < w1.heap.size := by have := Z1.out; omega
  have R2 := Lib.hid (aw_req w1)
  have W2 := Lib.hid (aw_below w1)
  have A2 := Lib.hid (A1.out.below W2.out)
  have M2 := Lib.hid (match_ok (awW w1) w.heap.size 2 1 (fun _ => 0) (fun _ => 0) _ 2 _ A2.out R2.out (aw_len _).1 (aw_len _).2 rfl (by decide) (by decide) (by decide) (by decide) (fun _ _ => by decide) (fun _ _ => by decide) (aw_off _ _ (by omega)))
  have H2 : Hid (awW w1 = ((w1.alloc (.cells #[.bool true, .bool true] 4)).alloc (.cells #[.bool true, .bool true] 4)).alloc (.cells #[.slice (some ⟨w1.heap.size, 0, none⟩) 2 2, .slice (some ⟨w1.heap.size + 1, 0, none⟩) 2 2] 27)) := rfl
  go_wp2_with fail
  rw [← H2.out]
  clear H2
  have hsz2 : w1.heap.size + 1 + 1 < (awW w1).heap.size := by rw [aw_size]; omega
  generalize hw2 : awW w1 = w2 at *
  go_fit M2.out
  rintro e w3 ⟨rfl, hA, hF, hU⟩
  have hw23 := hU.size
  have A3 : Hid (BarAt w3 w.heap.size 2 (st0 w1.heap.size).g (st0 w1.heap.size).a) := hA
  have F3 : Hid (Fun w3 w2.heap.size 3 2 (iF (st0 w1.heap.size).m)) := hF
  have B3 : Hid (Below w.heap.size w w3) := Upd.below (B1.out.trans (W2.out.mono B1.out.size)) hU (by have := B1.out.size; have := W2.out.size; omega) fun i hi => by omega
  have R3 : Hid (Req w3 (some ⟨w1.heap.size + 1 + 1, 0, none⟩) (aw0 w1.heap.size)) := R2.out.upd hU (aw_off _ _ (by omega))
  have M3 := Lib.hid (match_ok w3 w.heap.size 2 1 (st0 w1.heap.size).g (st0 w1.heap.size).a _ 2 _ A3.out R3.out (aw_len _).1 (aw_len _).2 rfl (by decide) (by decide) (by decide) (by decide) (fun k hk => by match k, hk with | 0, _ => exact Nat.lt_of_sub_eq_succ rfl | 1, _ => exact Nat.lt_of_sub_eq_succ rfl) (fun k hk => by match k, hk with | 0, _ => exact Nat.lt_of_sub_eq_succ rfl | 1, _ => exact Nat.lt_of_sub_eq_succ rfl) (aw_off _ _ (by omega)))
  clear hA hF hU M2 A2 N0
  go_wp2_with fail
  go_fit M3.out
  rintro e w4 ⟨rfl, hA, hF, hU⟩
  have hw34 := hU.size
  have F4 : Hid (Fun w4 w3.heap.size 3 2 (iF (st1 w1.heap.size).m)) := hF
  have F3' : Hid (Fun w4 w2.heap.size 3 2 (iF (st0 w1.heap.size).m)) := F3.out.upd hU (by omega)
  have B4 : Hid (Below w.heap.size w w4) := Upd.below B3.out hU (by have := B3.out.size; omega) fun i hi => by omega
  clear hA hF hU M3
  -- the comparisons
  have EQ1 : Hid (Calls Try.prog 22 #[.slice (some ⟨w2.heap.size, 0, none⟩) 2 2, .slice (some ⟨w4.heap.size, 0, none⟩) 2 2] (w4.alloc (.cells #[.int .i64 0, .int .i64 (-1)] 3)) fun e w' => e = .returned (.bool true) ∧ Qt (w4.alloc (.cells #[.int .i64 0, .int .i64 (-1)] 3)) w') := by
    have := equalInt_any (w4.alloc (.cells #[.int .i64 0, .int .i64 (-1)] 3)) (some ⟨w2.heap.size, 0, none⟩) (some ⟨w4.heap.size, 0, none⟩) 2 2 ((List.range 2).map (st0 w1.heap.size).m) [0, -1] (F3'.out.below ((Below.refl _ _).alloc (Nat.le_refl _) _)).sl (Blk.sl (T := 3) (Blk.new w4 3 [.int .i64 0, .int .i64 (-1)])) (by simp [maxLen])
    rw [st0_m] at this
    exact this
  have EQ2 : Hid (∀ w5, Qt (w4.alloc (.cells #[.int .i64 0, .int .i64 (-1)] 3)) w5 → Calls Try.prog 22 #[.slice (some ⟨w3.heap.size, 0, none⟩) 2 2, .slice (some ⟨w5.heap.size, 0, none⟩) 2 2] (w5.alloc (.cells #[.int .i64 1, .int .i64 0] 3)) fun e w' => e = .returned (.bool true) ∧ Below w.heap.size w w') := by
    intro w5 hq
    have b5 : Below w4.heap.size w4 (w5.alloc (.cells #[.int .i64 1, .int .i64 0] 3)) := (((Below.refl _ w4).alloc (Nat.le_refl _) _).trans (hq.below _)).alloc (by have := hq.bel.size; simp at this; omega) _
    have := equalInt_any (w5.alloc (.cells #[.int .i64 1, .int .i64 0] 3)) (some ⟨w3.heap.size, 0, none⟩) (some ⟨w5.heap.size, 0, none⟩) 2 2 ((List.range 2).map (st1 w1.heap.size).m) [1, 0] (F4.out.below b5).sl (Blk.sl (T := 3) (Blk.new w5 3 [.int .i64 1, .int .i64 0])) (by simp [maxLen])
    rw [st1_m] at this
    exact this.mono fun e w' h => ⟨h.1, (B4.out.trans (b5.mono B4.out.size)).trans (h.2.below _)⟩
  go_wp2_with fail
  go_fit EQ1.out
  rintro e w5 ⟨rfl, hq⟩
  have E2 := Lib.hid (EQ2.out w5 hq)
  clear hq EQ2 EQ1
  go_wp2_with fail
  go_fit E2.out
  rintro e w6 ⟨rfl, hb⟩
  have B6 := Lib.hid hb; clear hb
  go_wp2_with fail
  go_ret
  exact ⟨rfl, B6.out⟩
end Go.Proofs.Ytldgpdgoccccpaa
