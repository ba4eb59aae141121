/-
  Contract of fits.
-/
import Derived.Test.YteomiofmaopkhaaRun
namespace Go.Proofs.Yteomiofmaopkhaa
open Go.RowKit
set_option linter.unusedVariables false

def fitsB (o room : Int) (xs : List OpR) : Bool := decide (1 ≤ o) && decide (o ≤ 8) && decide (1 ≤ room) && decide (room ≤ 64) && !isGreat xs

set_option maxHeartbeats 4000000 in
set_option maxRecDepth 100000 in
theorem fits_any (W : World) (o room : Int) (a : Option Addr) (c : Nat) (xs : List OpR) (hs : SlOp W a xs) (hok : ∀ x ∈ xs, OpOk W x) (hl : xs.length ≤ maxLen) :
    Calls Try.prog 12 #[.int .i64 o, .int .i64 room, .slice a xs.length c] W fun e w => e = .returned (.bool (fitsB o room xs)) ∧ Below W.heap.size W w := by
  have G := Lib.hid (great_any W a c xs hs hok hl)
  clear hs hok hl
  go_enter Try.func12, Try.ntmps12
  by_cases h1 : 1 ≤ o
  · by_cases h2 : o ≤ 8
    · by_cases h3 : 1 ≤ room
      · by_cases h4 : room ≤ 64
        · have hr : Hid (fitsB o room xs = !isGreat xs) := by show _ = _; unfold fitsB; simp [h1, h2, h3, h4]
          go_wp2_with fail
          refine G.out.mono ?_
          rintro e w1 ⟨rfl, hb⟩
          have B := Lib.hid hb; clear hb
          go_wp2_with fail
          go_ret
          exact ⟨by rw [hr.out]; rfl, B.out⟩
        · have hr : Hid (fitsB o room xs = false) := by show _ = _; unfold fitsB; simp [h4]
          go_wp2_with fail
          go_ret
          exact ⟨by rw [hr.out]; rfl, Below.refl _ _⟩
      · have hr : Hid (fitsB o room xs = false) := by show _ = _; unfold fitsB; simp [h3]
        go_wp2_with fail
        go_ret
        exact ⟨by rw [hr.out]; rfl, Below.refl _ _⟩
    · have hr : Hid (fitsB o room xs = false) := by show _ = _; unfold fitsB; simp [h2]
      go_wp2_with fail
      go_ret
      exact ⟨by rw [hr.out]; rfl, Below.refl _ _⟩
  · have hr : Hid (fitsB o room xs = false) := by show _ = _; unfold fitsB; simp [h1]
    go_wp2_with fail
    go_ret
    exact ⟨by rw [hr.out]; rfl, Below.refl _ _⟩

theorem fits_hb {o room : Int} {xs : List OpR} (h : fitsB o room xs = true) : 1 ≤ o ∧ o ≤ 8 ∧ 1 ≤ room ∧ room ≤ 64 ∧ xs.length ≤ 200 ∧ ∀ x ∈ xs, x.outs.length ≤ 12 ∧ x.rdy.length ≤ 12 := by
  unfold fitsB at h
  simp only [Bool.and_eq_true, decide_eq_true_eq, Bool.not_eq_true'] at h
  obtain ⟨⟨⟨⟨h1, h2⟩, h3⟩, h4⟩, h5⟩ := h
  unfold isGreat at h5
  simp only [Bool.or_eq_false_iff, decide_eq_false_iff_not, List.any_eq_false] at h5
  refine ⟨h1, h2, h3, h4, by omega, fun x hx => ?_⟩
  have := h5.1 x hx
  unfold opBig at this
  simp at this
  exact this
end Go.Proofs.Yteomiofmaopkhaa
