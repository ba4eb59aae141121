/-
  The example of the chapter: awake returns true.
-/
import Derived.Test.YthjlknomaoolaaaPick
import Derived.Test.YthjlknomaoolaaaRanked
namespace Go.Proofs.Ythjlknomaoolaaa
open Go.RowKit

def awP (k : Nat) : Nat := [0, 1, 0, 1, 0].getD k 0
def awA (k : Nat) : List Int := [[0, 0, 0], [0, 0, 1], [1, 0, 0], [0, 0, 1], [1, 0, 0]].getD k []
def awC (k : Nat) : Int := [0, 2, 0, 2].getD k 0

def AwRel (w : World) (B : Nat) (i : Value) (wr : World) : Prop :=
  ∃ k : Nat, k ≤ 4 ∧ i = .int .i64 k ∧ ArbAt 55 wr (w.heap.size + 1) w.heap.size (awP k) (awA k) ∧ Blk wr B 3 ([0, 2, 0, 2].map (Value.int .i64)) ∧ w.heap.size + 2 ≤ B ∧ Below w.heap.size w wr

theorem pick_three (w : World) (br b c : Nat) (k : Nat) (hk : k < 4) (hA : ArbAt 55 w b c (awP k) (awA k)) (hs : Blk w br 4 ([true, false, true].map Value.bool)) (h1 : br ≠ b) (h2 : br ≠ c) :
    Calls Try.prog 16 #[.pointer (some ⟨b, 0, none⟩), .slice (some ⟨br, 0, none⟩) 3 3] w fun e w' =>
      e = .returned (.tuple #[.int .i64 (awC k), .bool true]) ∧ PkMem 55 w (some ⟨br, 0, none⟩) b c (awP (k + 1)) (awA (k + 1)) [true, false, true] w' := by
  have C := pick_any w (some ⟨br, 0, none⟩) b c (awP k) 3 3 (awA k) [true, false, true] hA hs.sl (by match k, hk with | 0, _ | 1, _ | 2, _ | 3, _ => decide) (by decide) (by decide)
    (by match k, hk with | 0, _ | 1, _ | 2, _ | 3, _ => decide) rfl (by match k, hk with | 0, _ | 1, _ | 2, _ | 3, _ => decide) ⟨h1, h2⟩
  match k, hk with
  | 0, _ | 1, _ | 2, _ | 3, _ => exact C

theorem ranked_two (w : World) (p : Int) : Calls Try.prog 12 #[.slice (some ⟨w.heap.size, 0, none⟩) 2 2, .slice (some ⟨w.heap.size + 1, 0, none⟩) 2 2, .slice (some ⟨w.heap.size + 1 + 1, 0, none⟩) 2 2, .int .i64 p]
    (((w.alloc (.cells #[.int .i64 1, .int .i64 0] 3)).alloc (.cells #[.bool true, .bool true] 4)).alloc (.cells #[.int .i64 5, .int .i64 2] 3)) fun e w' =>
      e = .returned (.tuple #[.int .i64 (rk [1, 0] [true, true] [5, 2] p 2), .bool (decide (0 ≤ rk [1, 0] [true, true] [5, 2] p 2))]) ∧ Below w.heap.size w w' := by
  refine (ranked_any (((w.alloc (.cells #[.int .i64 1, .int .i64 0] 3)).alloc (.cells #[.bool true, .bool true] 4)).alloc (.cells #[.int .i64 5, .int .i64 2] 3)) (some ⟨w.heap.size, 0, none⟩) (some ⟨w.heap.size + 1, 0, none⟩) (some ⟨w.heap.size + 1 + 1, 0, none⟩) 2 2 2 2 p [1, 0] [true, true] [5, 2] (by omega) rfl rfl rfl
        (Blk.sl (T := 3) (((Blk.new w 3 _).alloc _).alloc _)) (Blk.sl (T := 4) ((by simpa using Blk.new (w.alloc (.cells #[.int .i64 1, .int .i64 0] 3)) 4 ([true, true].map Value.bool) : Blk _ (w.heap.size + 1) _ _).alloc _)) (Blk.sl (T := 3) (by simpa using Blk.new ((w.alloc (.cells #[.int .i64 1, .int .i64 0] 3)).alloc (.cells #[.bool true, .bool true] 4)) 3 ([5, 2].map (Value.int .i64))))).mono ?_
  rintro e w' ⟨rfl, hb⟩
  exact ⟨rfl, ((((Below.refl w.heap.size w).alloc (Nat.le_refl _) _).alloc (by simp) _).alloc (by simp; omega) _).trans (hb.mono (by simp; omega))⟩

set_option maxHeartbeats 1000000 in
set_option maxRecDepth 100000 in
theorem awake_ok (w : World) : Calls Try.prog 11 #[] w fun e w' => e = .returned (.bool true) ∧ Below w.heap.size w w' := by
  have C0 := new_ok 3 w (by decide) (by decide)
  have N0 := Lib.hid C0; clear C0
  go_enter Try.func11, Try.ntmps11
  go_wp2_with fail
  refine N0.out.mono ?_
  rintro e w1 ⟨rfl, hA, hB, hz⟩
  have A0 := Lib.hid hA; have B0 := Lib.hid hB; have Z0 := Lib.hid hz; clear hA hB hz
  go_wp2_with fail
  have R0 : Hid (AwRel w w1.heap.size (.int .i64 0) (w1.alloc (.cells #[.int .i64 0, .int .i64 2, .int .i64 0, .int .i64 2] 3))) :=
    ⟨0, by omega, rfl, A0.out.upd (S := fun _ => False) ((Upd.refl _ _).alloc _) id id, Blk.new w1 3 _, by have := Z0.out; omega, B0.out.alloc (by have := Z0.out; omega) _⟩
  go_loopw [23] (fun i wr => AwRel w w1.heap.size i wr) (fun i _ => 4 - (intOf i).toNat)
  case atStart => exact R0.out
  case round =>
    obtain ⟨k, hk, rfl, hA, hq, hB, hb⟩ := hrel
    have HA := Lib.hid hA; have HB := Lib.hid hB; have Hb := Lib.hid hb; have HQ := Lib.hid hq
    clear hA hB hb
    by_cases hlt : k < 4
    · have P := pick_three (wr.alloc (.cells #[.bool true, .bool false, .bool true] 4)) wr.heap.size (w.heap.size + 1) w.heap.size k hlt
        (HA.out.upd (S := fun _ => False) ((Upd.refl _ _).alloc _) id id) (Blk.new wr 4 _) (by have := HA.out.hb.lt; omega) (by have := HA.out.hb.lt; omega)
      have HP := Lib.hid P; clear P
      have hcell := hq.cell (i := k) (v := .int .i64 (awC k)) (by match k, hlt with | 0, _ | 1, _ | 2, _ | 3, _ => rfl)
      clear hq
      generalize hw : awC k = want at *
      clear hw
      go_wp2_with (go_at_call 16; refine HP.out.mono ?_; rintro e w2 ⟨rfl, hm⟩)
      go_roundw
      case rel =>
        have u0 : Upd (fun k => k = w.heap.size + 1 ∨ k = w.heap.size) wr w2 := Upd.trans ((Upd.refl _ _).alloc _) hm.2.2.1
        exact ⟨k + 1, by omega, by go_num, hm.1, HQ.out.upd u0 (by have := HB.out; omega), HB.out, Upd.below Hb.out u0 Hb.out.size (by intro i hi; omega)⟩
      case measure => simp [intOf]; omega
    · obtain rfl : k = 4 := by omega
      clear hq
      have HR := ranked_two wr 4
      have e1 : rk [1, 0] [true, true] [5, 2] 4 2 = 0 := by decide
      rw [e1] at HR
      have HP := Lib.hid HR; clear HR e1
      go_wp2_with fail
      refine HP.out.mono ?_
      rintro e w2 ⟨rfl, hm⟩
      have HM := Lib.hid (Hb.out.trans (hm.mono Hb.out.size)); clear hm
      have HR := ranked_two w2 6
      have e1 : rk [1, 0] [true, true] [5, 2] 6 2 = 1 := by decide
      rw [e1] at HR
      have HP2 := Lib.hid HR; clear HR e1
      go_wp2_with fail
      refine HP2.out.mono ?_
      rintro e w3 ⟨rfl, hm⟩
      have HM2 := Lib.hid (HM.out.trans (hm.mono HM.out.size)); clear hm
      go_wp2_with fail
      go_ret
      exact ⟨rfl, HM2.out⟩
end Go.Proofs.Ythjlknomaoolaaa
