/-
  Contracts of rational's wide.add at numbers of either sign, of result, and of Valid.
-/
import Derived.Test.YtbdaehcngmhhcaaWide
namespace Go.Proofs.Ytbdaehcngmhhcaa
open Go.RowKit
set_option linter.unusedVariables false

def vB (r : Rq) : Bool := r.ok
set_option maxRecDepth 100000 in
set_option maxHeartbeats 1000000 in
theorem valid_any (n d : Int) (w : World) (hn : -9223372036854775808 ≤ n ∧ n ≤ 9223372036854775807) (hd : -9223372036854775808 ≤ d ∧ d ≤ 9223372036854775807) :
    Calls Try.prog 15 #[.agg #[.int .i64 n, .int .i64 d]] w fun e w' => e = .returned (.bool (Rq.ok ⟨n, d⟩)) ∧ Below w.heap.size w w' := by
  have hcase : (n = 0 ∧ d = 0) ∨ (¬ (n = 0 ∧ d = 0) ∧ (d < 1 ∨ (1 ≤ d ∧ maxN < d) ∨ (1 ≤ d ∧ d ≤ maxN ∧ n < -maxN) ∨ (1 ≤ d ∧ d ≤ maxN ∧ -maxN ≤ n ∧ maxN < n) ∨ (1 ≤ d ∧ d ≤ maxN ∧ -maxN ≤ n ∧ n ≤ maxN))) := by unfold maxN; omega
  rcases hcase with ⟨rfl, rfl⟩ | ⟨hnz, hcase⟩
  · have e : Rq.ok ⟨0, 0⟩ = true := rfl
    rw [e]; clear e
    go_enter Try.func15, Try.ntmps15
    go_wp2
    go_ret
    exact ⟨rfl, by (repeat' (first | with_reducible assumption | with_reducible exact Below.refl _ _ | with_reducible refine Below.drewQ ?_ | with_reducible refine Below.drewNQ ?_ _ | with_reducible refine Below.setCell ?_ (by simp) _ | with_reducible refine Below.alloc ?_ (by simp <;> omega) _))⟩
  · have hz : ((n == 0) = false) ∨ ((n == 0) = true ∧ (d == 0) = false) := by simp; omega
    have e0 : (n == 0 && d == 0) = false := by rcases hz with h | ⟨h, h'⟩ <;> simp [*]
    unfold maxN at hcase
    rcases hcase with h1 | ⟨h1, h2⟩ | ⟨h1, h2, h3⟩ | ⟨h1, h2, h3, h4⟩ | ⟨h1, h2, h3, h4⟩
    · have e : Rq.ok ⟨n, d⟩ = false := by unfold Rq.ok maxN; simp only [e0, Bool.false_or]; simp; omega
      rw [e]
      have b1 : decide (1 ≤ d) = false := by simp; omega
      clear e e0
      rcases hz with hz | ⟨hz, hz'⟩
      all_goals
        go_enter Try.func15, Try.ntmps15
        go_wp2
        go_quiet (fail)
        go_wp2
        go_ret
        exact ⟨rfl, by (repeat' (first | with_reducible assumption | with_reducible exact Below.refl _ _ | with_reducible refine Below.drewQ ?_ | with_reducible refine Below.drewNQ ?_ _ | with_reducible refine Below.setCell ?_ (by simp) _ | with_reducible refine Below.alloc ?_ (by simp <;> omega) _))⟩
    · have e : Rq.ok ⟨n, d⟩ = false := by unfold Rq.ok maxN; simp only [e0, Bool.false_or]; simp; omega
      rw [e]
      have b1 : decide (1 ≤ d) = true := by simp; omega
      have b2 : decide (d ≤ 1152921504606846976) = false := by simp; omega
      have hz : (d == 0) = false := by simp; omega
      clear e e0
      go_enter Try.func15, Try.ntmps15
      go_wp2
      all_goals
        go_quiet (fail)
        go_wp2
        go_ret
        exact ⟨rfl, by (repeat' (first | with_reducible assumption | with_reducible exact Below.refl _ _ | with_reducible refine Below.drewQ ?_ | with_reducible refine Below.drewNQ ?_ _ | with_reducible refine Below.setCell ?_ (by simp) _ | with_reducible refine Below.alloc ?_ (by simp <;> omega) _))⟩
    · have e : Rq.ok ⟨n, d⟩ = false := by unfold Rq.ok maxN; simp only [e0, Bool.false_or]; simp; omega
      rw [e]
      have b1 : decide (1 ≤ d) = true := by simp; omega
      have b2 : decide (d ≤ 1152921504606846976) = true := by simp; omega
      have b3 : decide (-1152921504606846976 ≤ n) = false := by simp; omega
      have hz : (d == 0) = false := by simp; omega
      clear e e0
      go_enter Try.func15, Try.ntmps15
      go_wp2
      all_goals
        go_quiet (fail)
        go_wp2
        go_ret
        exact ⟨rfl, by (repeat' (first | with_reducible assumption | with_reducible exact Below.refl _ _ | with_reducible refine Below.drewQ ?_ | with_reducible refine Below.drewNQ ?_ _ | with_reducible refine Below.setCell ?_ (by simp) _ | with_reducible refine Below.alloc ?_ (by simp <;> omega) _))⟩
    · have e : Rq.ok ⟨n, d⟩ = false := by unfold Rq.ok maxN; simp only [e0, Bool.false_or]; simp; omega
      rw [e]
      have b1 : decide (1 ≤ d) = true := by simp; omega
      have b2 : decide (d ≤ 1152921504606846976) = true := by simp; omega
      have b3 : decide (-1152921504606846976 ≤ n) = true := by simp; omega
      have b4 : decide (n ≤ 1152921504606846976) = false := by simp; omega
      have hz : (d == 0) = false := by simp; omega
      clear e e0
      go_enter Try.func15, Try.ntmps15
      go_wp2
      all_goals
        go_quiet (fail)
        go_wp2
        go_ret
        exact ⟨rfl, by (repeat' (first | with_reducible assumption | with_reducible exact Below.refl _ _ | with_reducible refine Below.drewQ ?_ | with_reducible refine Below.drewNQ ?_ _ | with_reducible refine Below.setCell ?_ (by simp) _ | with_reducible refine Below.alloc ?_ (by simp <;> omega) _))⟩
    · have e : Rq.ok ⟨n, d⟩ = (Nat.gcd n.natAbs d.natAbs == 1) := by
        unfold Rq.ok maxN
        simp only [e0, Bool.false_or, decide_eq_true h1, decide_eq_true h2, decide_eq_true h3, decide_eq_true h4, Bool.true_and]
      rw [e]
      have b1 : decide (1 ≤ d) = true := by simp; omega
      have b2 : decide (d ≤ 1152921504606846976) = true := by simp; omega
      have b3 : decide (-1152921504606846976 ≤ n) = true := by simp; omega
      have b4 : decide (n ≤ 1152921504606846976) = true := by simp; omega
      have hz' : (d == 0) = false := by simp; omega
      have SN := fun w => (size_any n w h3 h4).mono fun e w' h => (⟨h.1, h.2.symm⟩ : _ ∧ w' = w)
      have SD := Lib.hid (fun w => (size_any d w (by omega) h2).mono fun e w' h => (⟨h.1, h.2.symm⟩ : _ ∧ w' = w))
      have GC := fun w => gcd_any n.natAbs d.natAbs w (by omega) (by omega)
      generalize Nat.gcd n.natAbs d.natAbs = z at *
      have e5 : (z == 1) = ((z : Int) == 1) := by rw [Bool.eq_iff_iff]; simp; omega
      rw [e5]
      clear e e0 e5
      by_cases hn0 : n = 0
      · subst hn0
        simp only [Int.natAbs_zero, Int.natCast_zero] at SN GC
        have SN := Lib.hid SN
        have GC := Lib.hid GC
        clear hz
        go_enter Try.func15, Try.ntmps15
        go_wp2
        go_quiet ((first | (go_at_call 18; first | with_reducible exact Calls.quiet_of_same (SN.out _) | with_reducible exact Calls.quiet_of_same (SD.out _)) | (go_at_call 17; exact Calls.quiet_of (GC.out _))))
        go_wp2
        go_ret
        exact ⟨rfl, by (repeat' (first | with_reducible assumption | with_reducible exact Below.refl _ _ | with_reducible refine Below.drewQ ?_ | with_reducible refine Below.drewNQ ?_ _ | with_reducible refine Below.setCell ?_ (by simp) _ | with_reducible refine Below.alloc ?_ (by simp <;> omega) _))⟩
      · have SN := Lib.hid SN
        have GC := Lib.hid GC
        have hz : (n == 0) = false := by simp [hn0]
        clear hn0
        go_enter Try.func15, Try.ntmps15
        go_wp2
        go_quiet ((first | (go_at_call 18; first | with_reducible exact Calls.quiet_of_same (SN.out _) | with_reducible exact Calls.quiet_of_same (SD.out _)) | (go_at_call 17; exact Calls.quiet_of (GC.out _))))
        go_wp2
        go_ret
        exact ⟨rfl, by (repeat' (first | with_reducible assumption | with_reducible exact Below.refl _ _ | with_reducible refine Below.drewQ ?_ | with_reducible refine Below.drewNQ ?_ _ | with_reducible refine Below.setCell ?_ (by simp) _ | with_reducible refine Below.alloc ?_ (by simp <;> omega) _))⟩
end Go.Proofs.Ytbdaehcngmhhcaa
