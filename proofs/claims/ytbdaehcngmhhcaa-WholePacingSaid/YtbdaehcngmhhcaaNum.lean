/-
  Contracts of rational.size, gcd, and of math/bits' Mul64, Add64, Sub64, Div64 (at numbers below 2^64).
-/
import Derived.Test.YtbdaehcngmhhcaaLib
import Derived.Lib.Mul64
import Derived.Laws.Bits64b
import Derived.Shelf.Spec.BitsCarry
import Derived.IntWalk
namespace Go.Proofs.Ytbdaehcngmhhcaa
open Go.RowKit
set_option linter.unusedVariables false

theorem Below.drewQ {B : Nat} {a b : World} (h : Below B a b) : Below B a b.drew := h.trans ((Qt.refl b).drew.below B)
theorem Below.drewNQ {B : Nat} {a b : World} (h : Below B a b) (n : Nat) : Below B a (b.drewN n) := h.trans (((Qt.refl b).drewN n).below B)
theorem bcell {W w1 : World} (hb : Below W.heap.size W w1) : (∀ b o, b < W.heap.size → w1.cell? ⟨b, o, none⟩ = W.cell? ⟨b, o, none⟩) ∧ (∀ b o, b < W.heap.size → w1.frozen? ⟨b, o, none⟩ = W.frozen? ⟨b, o, none⟩) :=
  ⟨fun b o h => hb.cell (p := ⟨b, o, none⟩) h, fun b o h => hb.frozen (p := ⟨b, o, none⟩) h⟩
theorem run_add64_0 (x y : Int) (hx : 0 ≤ x) (hy : 0 ≤ y) (h : x + y < 18446744073709551616) (w : World) :
    (callFunc 51 #[.int .u64 x, .int .u64 y, .int .u64 0]).run Try.prog w = .ok (.value (.tuple #[.int .u64 (x + y), .int .u64 0])) w := by
  have e := Try.func51
  rw [run_callFunc_extern e (by kernel_rfl) (by kernel_rfl) (by kernel_rfl) (e := add64Entry) (by kernel_rfl), run_add64 x y 0 hx hy (by omega) (by omega)]
  simp only [Result.andThen]
  rw [show (x + y + 0) % 18446744073709551616 = x + y by omega, show (x + y + 0) / 18446744073709551616 = 0 by omega]
theorem run_sub64_0 (x y : Nat) (hx : x < 18446744073709551616) (h : y ≤ x) (w : World) :
    (callFunc 53 #[.int .u64 x, .int .u64 y, .int .u64 0]).run Try.prog w = .ok (.value (.tuple #[.int .u64 ((x - y : Nat) : Int), .int .u64 0])) w := by
  have e := Try.func53
  have := run_sub64 (P := Try.prog) x y 0 (by omega) w
  rw [run_callFunc_extern e (by kernel_rfl) (by kernel_rfl) (by kernel_rfl) (e := sub64Entry) (by kernel_rfl)]
  rw [show (Value.int .u64 0) = .int .u64 ((0 : Nat) : Int) from rfl, this]
  simp only [Result.andThen]
  rw [if_neg (by omega), show (x + 18446744073709551616 - y - 0) % 18446744073709551616 = x - y by omega]
set_option maxHeartbeats 1000000 in
theorem size_any (n : Int) (w : World) (h1 : -1152921504606846976 ≤ n) (h2 : n ≤ 1152921504606846976) :
    Calls Try.prog 18 #[.int .i64 n] w fun e w' => e = .returned (.int .u64 (n.natAbs : Nat)) ∧ w = w' := by
  by_cases h : n < 0
  · have e1 : IntKind.u64.wrap n = n + 18446744073709551616 := by rw [IntKind.wrap_u64]; omega
    have e2 : IntKind.u64.wrap (-(n + 18446744073709551616)) = -n := by rw [IntKind.wrap_u64]; omega
    have e3 : ((n.natAbs : Nat) : Int) = -n := by omega
    rw [e3]
    clear e3
    go_enter Try.func18, Try.ntmps18
    go_wp2
    go_ret
    exact ⟨rfl, rfl⟩
  · have e1 : IntKind.u64.wrap n = n := by rw [IntKind.wrap_u64]; omega
    have e3 : ((n.natAbs : Nat) : Int) = n := by omega
    rw [e3]
    clear e3
    go_enter Try.func18, Try.ntmps18
    go_wp2
    go_ret
    exact ⟨rfl, rfl⟩
set_option maxHeartbeats 1000000 in
theorem gcd_any (a b : Nat) (w : World) (h1 : a < 18446744073709551616) (h2 : b < 18446744073709551616) :
    Calls Try.prog 17 #[.int .u64 a, .int .u64 b] w fun e w' => e = .returned (.int .u64 (Nat.gcd a b : Nat)) ∧ Qt w w' := by
  go_enter Try.func17, Try.ntmps17
  go_wp2
  go_loopw [0, 1] (fun x y wr => ∃ p q : Nat, p < 18446744073709551616 ∧ q < 18446744073709551616 ∧ x = .int .u64 p ∧ y = .int .u64 q ∧ Hid (Nat.gcd p q = Nat.gcd a b) ∧ Qt w wr) (fun _ y _ => (intOf y).toNat)
  case atStart => exact ⟨a, b, h1, h2, rfl, rfl, rfl, Qt.refl w⟩
  case round =>
    obtain ⟨p, q, hp, hq, rfl, rfl, hg, hq2⟩ := hrel
    by_cases h0 : q = 0
    · have e1 : ((q : Int) == 0) = true := by simp; omega
      have e2 : ((q : Int) != 0) = false := by simp; omega
      have H0 := Lib.hid h0; clear h0
      go_wp2
      go_ret
      exact ⟨by rw [← hg.out, H0.out, Nat.gcd_zero_right]; rfl, hq2⟩
    · have hne : ((q : Int) == 0) = false := by simp; omega
      have hne' : ((q : Int) != 0) = true := by simp; omega
      have hm := Nat.mod_lt p (show 0 < q by omega)
      go_wp2
      go_quiet (fail)
      go_wp2
      go_roundw
      case rel => exact ⟨q, p % q, hq, by omega, rfl, by go_num, by show _ = _; rw [← hg.out, Nat.gcd_comm p q, Nat.gcd_rec q p, Nat.gcd_comm], by first | exact hq2.drewN _ | exact hq2.drew⟩
      case measure => simp [intOf]; omega
namespace Mul64
theorem maskN (a : Nat) (ha : a < 18446744073709551616) : bits .and .u64 (a : Int) 4294967295 = ((a % 4294967296 : Nat) : Int) := by
  have h := bits_and_u64_nat a 4294967295 ha (by omega)
  have e : a &&& 4294967295 = a % 4294967296 := Nat.and_two_pow_sub_one_eq_mod a 32
  rw [e] at h
  exact h
theorem divN (a : Nat) : (a : Int) / 4294967296 = ((a / 4294967296 : Nat) : Int) := by omega
theorem mulN (a b : Nat) : (a : Int) * (b : Int) = ((a * b : Nat) : Int) := (Int.natCast_mul a b).symm
theorem addN (a b : Nat) : (a : Int) + (b : Int) = ((a + b : Nat) : Int) := (Int.natCast_add a b).symm
theorem wrapN (a : Nat) (ha : a < 18446744073709551616) : IntKind.u64.wrap (a : Int) = (a : Int) := by rw [IntKind.wrap_u64]; omega
theorem wrapM (a : Nat) : IntKind.u64.wrap (a : Int) = ((a % 18446744073709551616 : Nat) : Int) := by rw [IntKind.wrap_u64]; omega
end Mul64
set_option maxHeartbeats 1000000 in
theorem mul64_any (x y : Nat) (w : World) (hx : x < 18446744073709551616) (hy : y < 18446744073709551616) :
    Calls Try.prog 19 #[.int .u64 x, .int .u64 y] w fun e w' => e = .returned (.tuple #[.int .u64 ((x * y / 18446744073709551616 : Nat) : Int), .int .u64 ((x * y % 18446744073709551616 : Nat) : Int)]) ∧ w = w' := by
  obtain ⟨bd, bt, bw, hhi⟩ := Lib.mul64_hi x y hx hy
  have ba := Lib.half_mul_le (a := x / 4294967296) (b := y / 4294967296) (by omega) (by omega)
  have bb := Lib.half_mul_le (a := x / 4294967296) (b := y % 4294967296) (by omega) (by omega)
  have bc := Lib.half_mul_le (a := x % 4294967296) (b := y / 4294967296) (by omega) (by omega)
  have ba' : x / 4294967296 * (y / 4294967296) < 18446744073709551616 := by omega
  have bb' : x / 4294967296 * (y % 4294967296) < 18446744073709551616 := by omega
  have bc' : x % 4294967296 * (y / 4294967296) < 18446744073709551616 := by omega
  have bh1 : x / 4294967296 * (y / 4294967296) + (x / 4294967296 * (y % 4294967296) + x % 4294967296 * (y % 4294967296) / 4294967296) / 4294967296 < 18446744073709551616 := by omega
  have bh : x / 4294967296 * (y / 4294967296) + (x / 4294967296 * (y % 4294967296) + x % 4294967296 * (y % 4294967296) / 4294967296) / 4294967296 + ((x / 4294967296 * (y % 4294967296) + x % 4294967296 * (y % 4294967296) / 4294967296) % 4294967296 + x % 4294967296 * (y / 4294967296)) / 4294967296 < 18446744073709551616 := by omega
  go_enter Try.func19, Try.ntmps19
  go_wp2
  simp only [Mul64.maskN x hx, Mul64.maskN y hy, Mul64.divN, Mul64.mulN, Mul64.addN, Mul64.wrapN _ bd, Mul64.wrapN _ bb', Mul64.wrapN _ bt, Mul64.maskN _ bt, Mul64.wrapN _ bc', Mul64.wrapN _ bw, Mul64.wrapN _ ba', Mul64.wrapN _ bh1, Mul64.wrapN _ bh, Mul64.wrapM (x * y)]
  rw [hhi]
  go_ret2
  exact ⟨rfl, rfl⟩
set_option maxHeartbeats 1000000 in
/-- The upper half is 0. -/
theorem div64_any (x y : Nat) (w : World) (hx : x < 18446744073709551616) (h0 : 0 < y) (hy : y < 18446744073709551616) :
    Calls Try.prog 50 #[.int .u64 0, .int .u64 x, .int .u64 y] w fun e w' => e = .returned (.tuple #[.int .u64 ((x / y : Nat) : Int), .int .u64 ((x % y : Nat) : Int)]) ∧ Qt w w' := by
  have e1 : ((y : Int) == 0) = false := by simp; omega
  have e2 : ¬ (y : Int) ≤ 0 := by omega
  go_enter Try.func50, Try.ntmps50
  go_wp2
  go_quiet (fail)
  go_wp2
  go_ret2
  have e3 := Nat.div_le_self x y
  have e4 : (((x / y : Nat) : Int)) = (x : Int) / (y : Int) := by simp
  have e5 : IntKind.u64.wrap ((x : Int) / (y : Int)) = (x : Int) / (y : Int) := by
    rw [← e4, IntKind.wrap_u64]
    clear e4
    generalize x / y = z at *
    omega
  exact ⟨by simp [e5], by first | exact (Qt.refl w).drewN _ | exact (Qt.refl w).drew⟩
end Go.Proofs.Ytbdaehcngmhhcaa
