/-
  Contracts of rational.size, gcd, and of math/bits' Mul64, Add64, Sub64, Div64 (at numbers below 2^64).
  The first blocks that a call makes (its parameters, its result), known whole.
-/
import Derived.Test.YtkaaoomliepijaaGreatQLib
import Derived.Lib.Mul64
import Derived.Laws.Bits64b
import Derived.Shelf.Spec.BitsCarry
import Derived.IntWalk
namespace Go.Proofs.YtkaaoomliepijaaGreat
open Go.RowKit
set_option linter.unusedVariables false

theorem Below.drewQ {B : Nat} {a b : World} (h : Below B a b) : Below B a b.drew := h.trans ((Qt.refl b).drew.below B)
theorem Below.drewNQ {B : Nat} {a b : World} (h : Below B a b) (n : Nat) : Below B a (b.drewN n) := h.trans (((Qt.refl b).drewN n).below B)
theorem bcell {W w1 : World} (hb : Below W.heap.size W w1) : (∀ b o, b < W.heap.size → w1.cell? ⟨b, o, none⟩ = W.cell? ⟨b, o, none⟩) ∧ (∀ b o, b < W.heap.size → w1.frozen? ⟨b, o, none⟩ = W.frozen? ⟨b, o, none⟩) :=
  ⟨fun b o h => hb.cell (p := ⟨b, o, none⟩) h, fun b o h => hb.frozen (p := ⟨b, o, none⟩) h⟩
theorem run_add64_0 (x y : Int) (hx : 0 ≤ x) (hy : 0 ≤ y) (h : x + y < 18446744073709551616) (w : World) :
    (callFunc 60 #[.int .u64 x, .int .u64 y, .int .u64 0]).run Tryz.prog w = .ok (.value (.tuple #[.int .u64 (x + y), .int .u64 0])) w := by
  have e := Tryz.func60
  rw [run_callFunc_extern e (by kernel_rfl) (by kernel_rfl) (by kernel_rfl) (e := add64Entry) (by kernel_rfl), run_add64 x y 0 hx hy (by omega) (by omega)]
  simp only [Result.andThen]
  rw [show (x + y + 0) % 18446744073709551616 = x + y by omega, show (x + y + 0) / 18446744073709551616 = 0 by omega]
theorem run_sub64_0 (x y : Nat) (hx : x < 18446744073709551616) (h : y ≤ x) (w : World) :
    (callFunc 62 #[.int .u64 x, .int .u64 y, .int .u64 0]).run Tryz.prog w = .ok (.value (.tuple #[.int .u64 ((x - y : Nat) : Int), .int .u64 0])) w := by
  have e := Tryz.func62
  have := run_sub64 (P := Tryz.prog) x y 0 (by omega) w
  rw [run_callFunc_extern e (by kernel_rfl) (by kernel_rfl) (by kernel_rfl) (e := sub64Entry) (by kernel_rfl)]
  rw [show (Value.int .u64 0) = .int .u64 ((0 : Nat) : Int) from rfl, this]
  simp only [Result.andThen]
  rw [if_neg (by omega), show (x + 18446744073709551616 - y - 0) % 18446744073709551616 = x - y by omega]
set_option maxHeartbeats 1000000 in
theorem size_any (n : Int) (w : World) (h1 : -1152921504606846976 ≤ n) (h2 : n ≤ 1152921504606846976) :
    Calls Tryz.prog 36 #[.int .i64 n] w fun e w' => e = .returned (.int .u64 (n.natAbs : Nat)) ∧ w = w' := by
  by_cases h : n < 0
  · have e1 : IntKind.u64.wrap n = n + 18446744073709551616 := by rw [IntKind.wrap_u64]; omega
    have e2 : IntKind.u64.wrap (-(n + 18446744073709551616)) = -n := by rw [IntKind.wrap_u64]; omega
    have e3 : ((n.natAbs : Nat) : Int) = -n := by omega
    rw [e3]
    clear e3
    go_enter Tryz.func36, Tryz.ntmps36
    go_wp2
    go_ret
    exact ⟨rfl, rfl⟩
  · have e1 : IntKind.u64.wrap n = n := by rw [IntKind.wrap_u64]; omega
    have e3 : ((n.natAbs : Nat) : Int) = n := by omega
    rw [e3]
    clear e3
    go_enter Tryz.func36, Tryz.ntmps36
    go_wp2
    go_ret
    exact ⟨rfl, rfl⟩
set_option maxHeartbeats 1000000 in
theorem gcd_any (a b : Nat) (w : World) (h1 : a < 18446744073709551616) (h2 : b < 18446744073709551616) :
    Calls Tryz.prog 35 #[.int .u64 a, .int .u64 b] w fun e w' => e = .returned (.int .u64 (Nat.gcd a b : Nat)) ∧ Qt w w' := by
  go_enter Tryz.func35, Tryz.ntmps35
  go_wp2
  go_loopw [0, 1] (fun x y wr => ∃ p q : Nat, p < 18446744073709551616 ∧ q < 18446744073709551616 ∧ x = .int .u64 p ∧ y = .int .u64 q ∧ Hid (Nat.gcd p q = Nat.gcd a b) ∧ Qt w wr) (fun _ y _ => (intOf y).toNat)
  case atStart => exact ⟨a, b, h1, h2, rfl, rfl, rfl, Qt.refl w⟩
  case round =>
    obtain ⟨p, q, hp, hq, rfl, rfl, hg, hq2⟩ := hrel
    by_cases h0 : q = 0
    · have e1 : ((q : Int) == 0) = true := by simp; omega
      have e2 : ((q : Int) != 0) = false := by simp; omega
      have H0 := Lib.hid h0; clear h0
      go_wp2
      go_ret
      exact ⟨by rw [← hg.out, H0.out, Nat.gcd_zero_right]; rfl, hq2⟩
    · have hne : ((q : Int) == 0) = false := by simp; omega
      have hne' : ((q : Int) != 0) = true := by simp; omega
      have hm := Nat.mod_lt p (show 0 < q by omega)
      go_wp2
      go_quiet (fail)
      go_wp2
      go_roundw
      case rel => exact ⟨q, p % q, hq, by omega, rfl, by go_num, by show _ = _; rw [← hg.out, Nat.gcd_comm p q, Nat.gcd_rec q p, Nat.gcd_comm], by first | exact hq2.drewN _ | exact hq2.drew⟩
      case measure => simp [intOf]; omega
namespace Mul64
theorem maskN (a : Nat) (ha : a < 18446744073709551616) : bits .and .u64 (a : Int) 4294967295 = ((a % 4294967296 : Nat) : Int) := by
  have h := bits_and_u64_nat a 4294967295 ha (by omega)
  have e : a &&& 4294967295 = a % 4294967296 := Nat.and_two_pow_sub_one_eq_mod a 32
  rw [e] at h
  exact h
theorem divN (a : Nat) : (a : Int) / 4294967296 = ((a / 4294967296 : Nat) : Int) := by omega
theorem mulN (a b : Nat) : (a : Int) * (b : Int) = ((a * b : Nat) : Int) := (Int.natCast_mul a b).symm
theorem addN (a b : Nat) : (a : Int) + (b : Int) = ((a + b : Nat) : Int) := (Int.natCast_add a b).symm
theorem wrapN (a : Nat) (ha : a < 18446744073709551616) : IntKind.u64.wrap (a : Int) = (a : Int) := by rw [IntKind.wrap_u64]; omega
theorem wrapM (a : Nat) : IntKind.u64.wrap (a : Int) = ((a % 18446744073709551616 : Nat) : Int) := by rw [IntKind.wrap_u64]; omega
end Mul64
set_option maxHeartbeats 1000000 in
theorem mul64_any (x y : Nat) (w : World) (hx : x < 18446744073709551616) (hy : y < 18446744073709551616) :
    Calls Tryz.prog 40 #[.int .u64 x, .int .u64 y] w fun e w' => e = .returned (.tuple #[.int .u64 ((x * y / 18446744073709551616 : Nat) : Int), .int .u64 ((x * y % 18446744073709551616 : Nat) : Int)]) ∧ w = w' := by
  obtain ⟨bd, bt, bw, hhi⟩ := Lib.mul64_hi x y hx hy
  have ba := Lib.half_mul_le (a := x / 4294967296) (b := y / 4294967296) (by omega) (by omega)
  have bb := Lib.half_mul_le (a := x / 4294967296) (b := y % 4294967296) (by omega) (by omega)
  have bc := Lib.half_mul_le (a := x % 4294967296) (b := y / 4294967296) (by omega) (by omega)
  have ba' : x / 4294967296 * (y / 4294967296) < 18446744073709551616 := by omega
  have bb' : x / 4294967296 * (y % 4294967296) < 18446744073709551616 := by omega
  have bc' : x % 4294967296 * (y / 4294967296) < 18446744073709551616 := by omega
  have bh1 : x / 4294967296 * (y / 4294967296) + (x / 4294967296 * (y % 4294967296) + x % 4294967296 * (y % 4294967296) / 4294967296) / 4294967296 < 18446744073709551616 := by omega
  have bh : x / 4294967296 * (y / 4294967296) + (x / 4294967296 * (y % 4294967296) + x % 4294967296 * (y % 4294967296) / 4294967296) / 4294967296 + ((x / 4294967296 * (y % 4294967296) + x % 4294967296 * (y % 4294967296) / 4294967296) % 4294967296 + x % 4294967296 * (y / 4294967296)) / 4294967296 < 18446744073709551616 := by omega
  go_enter Tryz.func40, Tryz.ntmps40
  go_wp2
  simp only [Mul64.maskN x hx, Mul64.maskN y hy, Mul64.divN, Mul64.mulN, Mul64.addN, Mul64.wrapN _ bd, Mul64.wrapN _ bb', Mul64.wrapN _ bt, Mul64.maskN _ bt, Mul64.wrapN _ bc', Mul64.wrapN _ bw, Mul64.wrapN _ ba', Mul64.wrapN _ bh1, Mul64.wrapN _ bh, Mul64.wrapM (x * y)]
  rw [hhi]
  go_ret2
  exact ⟨rfl, rfl⟩
set_option maxHeartbeats 1000000 in
/-- The upper half is 0. -/
theorem div64_any (x y : Nat) (w : World) (hx : x < 18446744073709551616) (h0 : 0 < y) (hy : y < 18446744073709551616) :
    Calls Tryz.prog 63 #[.int .u64 0, .int .u64 x, .int .u64 y] w fun e w' => e = .returned (.tuple #[.int .u64 ((x / y : Nat) : Int), .int .u64 ((x % y : Nat) : Int)]) ∧ Qt w w' := by
  have e1 : ((y : Int) == 0) = false := by simp; omega
  have e2 : ¬ (y : Int) ≤ 0 := by omega
  go_enter Tryz.func63, Tryz.ntmps63
  go_wp2
  go_quiet (fail)
  go_wp2
  go_ret2
  have e3 := Nat.div_le_self x y
  have e4 : (((x / y : Nat) : Int)) = (x : Int) / (y : Int) := by simp
  have e5 : IntKind.u64.wrap ((x : Int) / (y : Int)) = (x : Int) / (y : Int) := by
    rw [← e4, IntKind.wrap_u64]
    clear e4
    generalize x / y = z at *
    omega
  exact ⟨by simp [e5], by first | exact (Qt.refl w).drewN _ | exact (Qt.refl w).drew⟩
end Go.Proofs.YtkaaoomliepijaaGreat
namespace Go.Proofs.YtkaaoomliepijaaGreat
open Go.RowKit
set_option linter.unusedVariables false

theorem Blk.bel {w w' : World} {b : Nat} {T : TypeId} {xs : List Value} (h : Blk w b T xs) (k : Below w.heap.size w w') : Blk w' b T xs := h.upd (S := fun _ => False) (Upd.of_below k) id
theorem below_then {B : Nat} {a b c : World} (h : Below B a b) (k : Below b.heap.size b c) (hB : B ≤ b.heap.size) : Below B a c := h.trans (k.mono hB)
structure B2 (w w1 : World) (T1 T2 : TypeId) (c1 c2 : List Value) : Prop where
  a : Blk w1 w.heap.size T1 c1
  b : Blk w1 (w.heap.size + 1) T2 c2
  u : Below w.heap.size w w1
structure B3 (w w1 : World) (T1 T2 T3 : TypeId) (c1 c2 c3 : List Value) : Prop where
  a : Blk w1 w.heap.size T1 c1
  b : Blk w1 (w.heap.size + 1) T2 c2
  c : Blk w1 (w.heap.size + 1 + 1) T3 c3
  u : Below w.heap.size w w1
section
variable {w w1 w2 : World} {T1 T2 T3 : TypeId} {c1 c2 c3 : List Value}
theorem B2.mk_ (w : World) (T1 T2 : TypeId) (c1 c2 : List Value) : B2 w ((w.alloc (.cells c1.toArray T1)).alloc (.cells c2.toArray T2)) T1 T2 c1 c2 := by
  refine ⟨(Blk.new _ _ _).alloc _, ?_, ((Below.refl _ _).alloc (Nat.le_refl _) _).alloc (by simp) _⟩
  have := Blk.new (w.alloc (.cells c1.toArray T1)) T2 c2
  simpa using this
theorem B3.mk_ (w : World) (T1 T2 T3 : TypeId) (c1 c2 c3 : List Value) : B3 w (((w.alloc (.cells c1.toArray T1)).alloc (.cells c2.toArray T2)).alloc (.cells c3.toArray T3)) T1 T2 T3 c1 c2 c3 := by
  refine ⟨((Blk.new _ _ _).alloc _).alloc _, ?_, ?_, (((Below.refl _ _).alloc (Nat.le_refl _) _).alloc (by simp) _).alloc (by simp; omega) _⟩
  · have := (Blk.new (w.alloc (.cells c1.toArray T1)) T2 c2).alloc (.cells c3.toArray T3)
    simpa using this
  · have := Blk.new ((w.alloc (.cells c1.toArray T1)).alloc (.cells c2.toArray T2)) T3 c3
    simpa using this
theorem B2.lt (h : B2 w w1 T1 T2 c1 c2) : w.heap.size + 1 < w1.heap.size := h.b.lt
theorem B3.lt (h : B3 w w1 T1 T2 T3 c1 c2 c3) : w.heap.size + 1 + 1 < w1.heap.size := h.c.lt
theorem B2.bel (h : B2 w w1 T1 T2 c1 c2) (k : Below w1.heap.size w1 w2) : B2 w w2 T1 T2 c1 c2 := ⟨h.a.bel k, h.b.bel k, below_then h.u k (by have := h.lt; omega)⟩
theorem B3.bel (h : B3 w w1 T1 T2 T3 c1 c2 c3) (k : Below w1.heap.size w1 w2) : B3 w w2 T1 T2 T3 c1 c2 c3 := ⟨h.a.bel k, h.b.bel k, h.c.bel k, below_then h.u k (by have := h.lt; omega)⟩
theorem B2.alloc_ (h : B2 w w1 T1 T2 c1 c2) (o : Obj) : B2 w (w1.alloc o) T1 T2 c1 c2 := h.bel ((Below.refl _ _).alloc (Nat.le_refl _) _)
theorem B3.alloc_ (h : B3 w w1 T1 T2 T3 c1 c2 c3) (o : Obj) : B3 w (w1.alloc o) T1 T2 T3 c1 c2 c3 := h.bel ((Below.refl _ _).alloc (Nat.le_refl _) _)
theorem B2.far (h : B2 w w1 T1 T2 c1 c2) {p : Addr} (hp : w.heap.size + 1 < p.block) (v : Value) : B2 w (w1.setCell p v) T1 T2 c1 c2 := ⟨h.a.setO _ (by omega), h.b.setO _ (by omega), h.u.setCell (by omega) _⟩
theorem B3.far (h : B3 w w1 T1 T2 T3 c1 c2 c3) {p : Addr} (hp : w.heap.size + 1 + 1 < p.block) (v : Value) : B3 w (w1.setCell p v) T1 T2 T3 c1 c2 c3 := ⟨h.a.setO _ (by omega), h.b.setO _ (by omega), h.c.setO _ (by omega), h.u.setCell (by omega) _⟩
theorem B3.qt (h : B3 w w1 T1 T2 T3 c1 c2 c3) (k : Qt w1 w2) : B3 w w2 T1 T2 T3 c1 c2 c3 := h.bel k.bel
theorem B2.qt (h : B2 w w1 T1 T2 c1 c2) (k : Qt w1 w2) : B2 w w2 T1 T2 c1 c2 := h.bel k.bel
end
end Go.Proofs.YtkaaoomliepijaaGreat
