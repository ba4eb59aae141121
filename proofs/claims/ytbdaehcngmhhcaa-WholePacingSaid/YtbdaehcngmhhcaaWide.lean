/-
  Contracts of rational's wide integers (product, compare, add, divide, fits, signed), of result and normal.
-/
import Derived.Test.YtbdaehcngmhhcaaNum
import Derived.Test.YtbdaehcngmhhcaaRatM
namespace Go.Proofs.Ytbdaehcngmhhcaa
open Go.RowKit
set_option linter.unusedVariables false

/-- A wide integer by value: its sign, its upper and lower half. -/
def wV (g : Bool) (h l : Nat) : Value := .agg #[.bool g, .int .u64 h, .int .u64 l]
/-- A rational number by value. -/
def rV (r : Rq) : Value := .agg #[.int .i64 r.n, .int .i64 r.d]
def cmpW (h l h' l' : Nat) : Int := if h < h' ∨ (h = h' ∧ l < l') then -1 else if h = h' ∧ l = l' then 0 else 1

set_option maxHeartbeats 1000000 in
theorem product_any (n : Int) (f : Nat) (w : World) (h1 : -1152921504606846976 ≤ n) (h2 : n ≤ 1152921504606846976) (hf : f < 18446744073709551616) :
    Calls Try.prog 29 #[.int .i64 n, .int .u64 f] w fun e w' =>
      e = .returned (wV (decide (n < 0)) (n.natAbs * f / 18446744073709551616) (n.natAbs * f % 18446744073709551616)) ∧ Below w.heap.size w w' := by
  have SZ := Lib.hid (fun w => size_any n w h1 h2)
  have MU := fun w => mul64_any n.natAbs f w (by omega) hf
  generalize n.natAbs * f / 18446744073709551616 = x at *
  generalize n.natAbs * f % 18446744073709551616 = y at *
  have MU := Lib.hid MU
  unfold wV
  by_cases hn : n < 0
  · rw [decide_eq_true hn]
    go_enter Try.func29, Try.ntmps29
    go_wp2_with fail
    refine (SZ.out _).mono ?_
    rintro e w1 ⟨rfl, rfl⟩
    go_wp2_with fail
    refine (MU.out _).mono ?_
    rintro e w1 ⟨rfl, rfl⟩
    go_wp2_with fail
    exact bodyPost_ret (v := .agg #[.bool true, .int .u64 x, .int .u64 y]) (by simp [results, Try.results29, go_sem]) rfl ⟨rfl, (Below.refl _ _).alloc (Nat.le_refl _) _⟩
  · rw [decide_eq_false hn]
    go_enter Try.func29, Try.ntmps29
    go_wp2_with fail
    refine (SZ.out _).mono ?_
    rintro e w1 ⟨rfl, rfl⟩
    go_wp2_with fail
    refine (MU.out _).mono ?_
    rintro e w1 ⟨rfl, rfl⟩
    go_wp2_with fail
    exact bodyPost_ret (v := .agg #[.bool false, .int .u64 x, .int .u64 y]) (by simp [results, Try.results29, go_sem]; omega) rfl ⟨rfl, (Below.refl _ _).alloc (Nat.le_refl _) _⟩

set_option maxHeartbeats 1000000 in
theorem compare_any (a b : Bool) (h l h' l' : Nat) (w : World) :
    Calls Try.prog 52 #[wV a h l, wV b h' l'] w fun e w' => e = .returned (.int .i64 (cmpW h l h' l')) ∧ Below w.heap.size w w' := by
  unfold wV
  have hc : h < h' ∨ (h' < h ∧ ¬ h = h') ∨ (h = h' ∧ l < l') ∨ (h = h' ∧ l = l') ∨ (h = h' ∧ l' < l ∧ ¬ l = l') := by omega
  rcases hc with hc | ⟨hc, hc'⟩ | ⟨rfl, hc⟩ | ⟨rfl, rfl⟩ | ⟨rfl, hc, hc'⟩
  · have e : cmpW h l h' l' = -1 := by unfold cmpW; rw [if_pos (.inl hc)]
    rw [e]; clear e
    go_enter Try.func52, Try.ntmps52
    go_wp2
    go_ret
    exact ⟨rfl, ((Below.refl _ _).alloc (Nat.le_refl _) _).alloc (by simp) _⟩
  · have e : cmpW h l h' l' = 1 := by unfold cmpW; rw [if_neg (by omega), if_neg (by omega)]
    rw [e]; clear e
    have e1 : ¬ (h : Int) < h' := by omega
    have e2 : ((h : Int) == h') = false := by simp; omega
    go_enter Try.func52, Try.ntmps52
    go_wp2
    go_ret
    exact ⟨rfl, ((Below.refl _ _).alloc (Nat.le_refl _) _).alloc (by simp) _⟩
  · have e : cmpW h l h l' = -1 := by unfold cmpW; rw [if_pos (.inr ⟨rfl, hc⟩)]
    rw [e]; clear e
    go_enter Try.func52, Try.ntmps52
    go_wp2
    go_ret
    exact ⟨rfl, ((Below.refl _ _).alloc (Nat.le_refl _) _).alloc (by simp) _⟩
  · have e : cmpW h l h l = 0 := by unfold cmpW; rw [if_neg (by omega), if_pos ⟨rfl, rfl⟩]
    rw [e]; clear e
    go_enter Try.func52, Try.ntmps52
    go_wp2
    go_ret
    exact ⟨rfl, ((Below.refl _ _).alloc (Nat.le_refl _) _).alloc (by simp) _⟩
  · have e : cmpW h l h l' = 1 := by unfold cmpW; rw [if_neg (by omega), if_neg (by omega)]
    rw [e]; clear e
    have e1 : ¬ (l : Int) < l' := by omega
    have e2 : ((l : Int) == l') = false := by simp; omega
    go_enter Try.func52, Try.ntmps52
    go_wp2
    go_ret
    exact ⟨rfl, ((Below.refl _ _).alloc (Nat.le_refl _) _).alloc (by simp) _⟩
set_option maxHeartbeats 1000000 in
theorem fits_any (g : Bool) (l : Nat) (w : World) (h : l ≤ 1152921504606846976) :
    Calls Try.prog 35 #[wV g 0 l] w fun e w' => e = .returned (.bool true) ∧ Below w.heap.size w w' := by
  unfold wV
  have h1 : (l : Int) ≤ 1152921504606846976 := by omega
  go_enter Try.func35, Try.ntmps35
  go_wp2
  go_ret
  exact ⟨rfl, (Below.refl _ _).alloc (Nat.le_refl _) _⟩
set_option maxHeartbeats 1000000 in
theorem signed_any (g : Bool) (l : Nat) (w : World) (h : l ≤ 1152921504606846976) :
    Calls Try.prog 36 #[wV g 0 l] w fun e w' => e = .returned (.int .i64 (sgn g l)) ∧ Below w.heap.size w w' := by
  unfold wV
  have h1 : (l : Int) ≤ 1152921504606846976 := by omega
  have h0 : (0 : Int) ≤ (l : Int) := by omega
  cases g with
  | true =>
    show Calls _ _ _ _ (fun e w' => e = .returned (.int .i64 (-(l : Int))) ∧ Below w.heap.size w w')
    go_enter Try.func36, Try.ntmps36
    go_wp2
    go_ret
    exact ⟨rfl, (Below.refl _ _).alloc (Nat.le_refl _) _⟩
  | false =>
    show Calls _ _ _ _ (fun e w' => e = .returned (.int .i64 (l : Int)) ∧ Below w.heap.size w w')
    go_enter Try.func36, Try.ntmps36
    go_wp2
    go_ret
    exact ⟨rfl, (Below.refl _ _).alloc (Nat.le_refl _) _⟩
set_option maxHeartbeats 1000000 in
theorem normal_any (n d : Int) (w : World) :
    Calls Try.prog 16 #[.agg #[.int .i64 n, .int .i64 d]] w fun e w' => e = .returned (.agg #[.int .i64 n, .int .i64 (if d = 0 then 1 else d)]) ∧ Below w.heap.size w w' := by
  by_cases h : d = 0
  · rw [if_pos h]
    subst h
    go_enter Try.func16, Try.ntmps16
    go_wp2
    exact bodyPost_ret (v := .agg #[.int .i64 n, .int .i64 1]) (by simp [results, Try.results16, go_sem]) rfl ⟨rfl, ((Below.refl _ _).alloc (Nat.le_refl _) _).alloc (by simp) _⟩
  · rw [if_neg h]
    have e : (d == 0) = false := by simp; omega
    go_enter Try.func16, Try.ntmps16
    go_wp2
    exact bodyPost_ret (v := .agg #[.int .i64 n, .int .i64 d]) (by simp [results, Try.results16, go_sem]) rfl ⟨rfl, ((Below.refl _ _).alloc (Nat.le_refl _) _).alloc (by simp) _⟩
set_option maxHeartbeats 1000000 in
/-- Of numbers below 2^64: the sum of two wides. -/
theorem wadd_same (g : Bool) (l l' : Nat) (w : World) (h : l + l' < 18446744073709551616) :
    Calls Try.prog 30 #[wV g 0 l, wV g 0 l'] w fun e w' => e = .returned (wV g 0 (l + l')) ∧ Below w.heap.size w w' := by
  have k1 := fun w => run_add64_0 (l : Int) (l' : Int) (by omega) (by omega) (by omega) w
  have k2 := fun w => run_add64_0 0 0 (by omega) (by omega) (by omega) w
  unfold wV
  go_enter Try.func30, Try.ntmps30
  go_wp2_with (first | simp only [k1] | simp only [k2])
  exact bodyPost_ret (v := .agg #[.bool g, .int .u64 0, .int .u64 ((l : Int) + l')]) (by simp [results, Try.results30, go_sem]) rfl ⟨by simp, ((Below.refl _ _).alloc (Nat.le_refl _) _).alloc (by simp) _ |>.alloc (by simp; omega) _⟩
set_option maxHeartbeats 1000000 in
theorem divide_any (g : Bool) (l d : Nat) (w : World) (h : l < 18446744073709551616) (h0 : 0 < d) (hd : d < 18446744073709551616) :
    Calls Try.prog 31 #[wV g 0 l, .int .u64 d] w fun e w' => e = .returned (.tuple #[wV g 0 (l / d), .int .u64 ((l % d : Nat) : Int)]) ∧ Below w.heap.size w w' := by
  have DV := Lib.hid (fun w => div64_any l d w h h0 hd)
  unfold wV
  have e0 : ((d : Int) == 0) = false := by simp; omega
  go_enter Try.func31, Try.ntmps31
  go_wp2_with fail
  go_quiet ((go_at_call 50; exact Calls.quiet_of (DV.out _)))
  go_wp2_with fail
  go_region
  go_goals
  go_wp2_with fail
  exact bodyPost_ret (v := .tuple #[.agg #[.bool g, .int .u64 0, .int .u64 ((l / d : Nat) : Int)], .int .u64 ((l % d : Nat) : Int)]) (by simp [results, Try.results31, go_sem]) rfl ⟨rfl, by (repeat' (first | with_reducible assumption | with_reducible exact Below.refl _ _ | with_reducible refine Below.drewQ ?_ | with_reducible refine Below.drewNQ ?_ _ | with_reducible refine Below.setCell ?_ (by simp) _ | with_reducible refine Below.alloc ?_ (by simp <;> omega) _))⟩
end Go.Proofs.Ytbdaehcngmhhcaa
