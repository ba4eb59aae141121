/-
  Contracts of pace.valid, count, Count, At.
-/
import Derived.Test.YtbdaehcngmhhcaaArith
import Derived.Test.YtbdaehcngmhhcaaPaceN
namespace Go.Proofs.Ytbdaehcngmhhcaa
open Go.RowKit
set_option linter.unusedVariables false

/-- A rate: small, from 0 to 1. -/
structure Rt (r : Rq) : Prop where
  s : Sm r
  n0 : 0 ≤ r.n
  nd : r.n ≤ r.d
theorem B1.mk {w : World} {T : TypeId} (c : List Value) : Blk (w.alloc (.cells c.toArray T)) w.heap.size T c := Blk.new _ _ _
set_option maxRecDepth 100000 in
set_option maxHeartbeats 2000000 in
theorem pvalid_any (r : Rq) (w : World) (h : Rt r) : Calls Try.prog 48 #[rV r] w fun e w' => e = .returned (.bool true) ∧ Below w.heap.size w w' := by
  have V1 := fun w => valid_any r.n r.d w (by have := h.s.n1; have := h.s.n2; omega) (by have := h.s.d1; have := h.s.d2; omega)
  have h' : Rq.ok ⟨r.n, r.d⟩ = true := h.s.ok
  rw [h'] at V1
  have n0 := h.n0
  have nd := h.nd
  clear h h'
  unfold rV
  obtain ⟨n, d⟩ := r
  dsimp only at *
  have HV := Lib.hid V1
  clear V1
  have M1 := Lib.hid (Blk.new w 29 [.int .i64 n, .int .i64 d])
  have z0 : w.heap.size < (w.alloc (.cells #[.int .i64 n, .int .i64 d] 29)).heap.size := by simp
  go_enter Try.func48, Try.ntmps48
  go_wp2_with fail
  refine (HV.out _).mono ?_
  rintro e w1 ⟨rfl, hb⟩
  have C := M1.out.bel hb
  have c0 := C.cell (i := 0) rfl
  have c1 := C.cell (i := 1) rfl
  have B := Lib.hid (((Below.refl _ _).alloc (Nat.le_refl _) _).trans (hb.mono (Nat.le_of_lt z0)))
  clear hb C z0
  go_wp2_with fail
  go_ret
  exact ⟨rfl, B.out⟩
theorem Rt.nat {r : Rq} (h : Rt r) : ∃ N D : Nat, r = ⟨(N : Int), (D : Int)⟩ ∧ N ≤ D ∧ 1 ≤ D ∧ D ≤ 536870912 ∧ r.D = D ∧ r.n.toNat = N := by
  have h1 := h.s.d1
  have h2 := h.n0
  have h3 := h.nd
  have h4 := h.s.d2
  refine ⟨r.n.toNat, r.d.toNat, ?_, by omega, by omega, by omega, ?_, rfl⟩
  · obtain ⟨n, d⟩ := r
    congr 1 <;> (dsimp only at *; omega)
  · have := h.s.D
    omega
set_option maxRecDepth 100000 in
set_option maxHeartbeats 2000000 in
theorem count_any (r : Rq) (t : Nat) (w : World) (h : Rt r) (ht : t ≤ 1000) : Calls Try.prog 49 #[rV r, .int .i64 t] w fun e w' => e = .returned (.int .i64 (cntR r t : Nat)) ∧ Below w.heap.size w w' := by
  obtain ⟨N, D, e0, hN, hD, hD2, eD, eN⟩ := h.nat
  have ec : cntR r t = N * t / D := by unfold cntR; rw [eD, eN]
  rw [ec]
  clear ec eD eN h
  subst e0
  unfold rV
  dsimp only
  have hx : N * t ≤ 536870912 * 1000 := Nat.mul_le_mul (by omega) ht
  have MU := fun w => mul64_any N t w (by omega) (by omega)
  rw [Nat.div_eq_of_lt (show N * t < 18446744073709551616 by omega), Nat.mod_eq_of_lt (show N * t < 18446744073709551616 by omega)] at MU
  have DV := fun w => div64_any (N * t) D w (by omega) (by omega) (by omega)
  have hq := Nat.div_le_self (N * t) D
  by_cases hz : N = 0
  · have e : N * t / D = 0 := by rw [hz]; simp
    rw [e]
    have k0 : ((N : Int) == 0) = true := by simp [hz]
    clear e hz MU DV
    go_enter Try.func49, Try.ntmps49
    go_wp2_with fail
    go_ret
    exact ⟨rfl, by (repeat' (first | with_reducible assumption | with_reducible exact Below.refl _ _ | with_reducible refine Below.drewQ ?_ | with_reducible refine Below.drewNQ ?_ _ | with_reducible refine Below.setCell ?_ (by dsimp only; omega) _ | with_reducible refine Below.alloc ?_ (by first | omega | (simp; done) | (simp; omega)) _))⟩
  · have k0 : ((N : Int) == 0) = false := by simp [hz]
    have wN : IntKind.u64.wrap (N : Int) = N := Mul64.wrapN N (by omega)
    have wt : IntKind.u64.wrap (t : Int) = t := Mul64.wrapN t (by omega)
    have wD : IntKind.u64.wrap (D : Int) = D := Mul64.wrapN D (by omega)
    generalize N * t / D = q at *
    have wq : IntKind.i64.wrap (q : Int) = q := IntWalk.i64_in _ (by omega)
    generalize N * t % D = q2 at *
    generalize N * t = x at *
    simp only [Int.natCast_zero] at MU
    replace MU := Lib.hid MU
    replace DV := Lib.hid DV
    go_enter Try.func49, Try.ntmps49
    go_wp2_with fail
    refine (MU.out _).mono ?_
    rintro e w1 ⟨rfl, rfl⟩
    go_wp2_with fail
    refine (DV.out _).mono ?_
    rintro e w1 ⟨rfl, hq⟩
    obtain ⟨nq, rfl⟩ := hq
    go_wp2_with fail
    go_ret
    exact ⟨rfl, by (repeat' (first | with_reducible assumption | with_reducible exact Below.refl _ _ | with_reducible refine Below.drewQ ?_ | with_reducible refine Below.drewNQ ?_ _ | with_reducible refine Below.setCell ?_ (by dsimp only; omega) _ | with_reducible refine Below.alloc ?_ (by first | omega | (simp; done) | (simp; omega)) _))⟩
set_option maxRecDepth 100000 in
set_option maxHeartbeats 2000000 in
theorem Count_any (r : Rq) (t : Nat) (w : World) (h : Rt r) (ht : t ≤ 1000) : Calls Try.prog 27 #[rV r, .int .i64 t] w fun e w' => e = .returned (.tuple #[.int .i64 (cntR r t : Nat), .int .i64 0]) ∧ Below w.heap.size w w' := by
  have PV := fun w => pvalid_any r w h
  have CT := fun w => count_any r t w h ht
  generalize cntR r t = q at *
  unfold rV at PV CT ⊢
  obtain ⟨n, d⟩ := r
  dsimp only at *
  have k1 : ¬ (t : Int) < 0 := by omega
  have k2 : ¬ (1073741824 : Int) < (t : Int) := by omega
  replace PV := Lib.hid PV
  replace CT := Lib.hid CT
  clear h
  have M1 := Lib.hid (Blk.new w 29 [.int .i64 n, .int .i64 d])
  have B0 : Below w.heap.size w (w.alloc (.cells #[.int .i64 n, .int .i64 d] 29)) := (Below.refl _ _).alloc (Nat.le_refl _) _
  have B0 := Lib.hid B0
  go_enter Try.func27, Try.ntmps27
  go_wp2_with fail
  refine (PV.out _).mono ?_
  rintro e w1 ⟨rfl, hb⟩
  have C := M1.out.bel hb
  have c0 := C.cell (i := 0) rfl
  have c1 := C.cell (i := 1) rfl
  have B := Lib.hid (below_then B0.out hb B0.out.size)
  clear hb C
  go_wp2_with fail
  refine (CT.out _).mono ?_
  rintro e w2 ⟨rfl, hb⟩
  have B2 := Lib.hid (below_then B.out hb B.out.size)
  clear hb
  go_wp2_with fail
  go_ret2
  exact ⟨rfl, B2.out⟩
set_option maxRecDepth 100000 in
set_option maxHeartbeats 2000000 in
theorem At_any (r : Rq) (k : Nat) (w : World) (h : Rt r) (h0 : 0 < r.n) (hk : 1 ≤ k) (hk2 : k ≤ 1000) (ha : atR r k ≤ 100000) :
    Calls Try.prog 28 #[rV r, .int .i64 k] w fun e w' => e = .returned (.tuple #[.int .i64 (atR r k : Nat), .int .i64 0]) ∧ Below w.heap.size w w' := by
  have PV := fun w => pvalid_any r w h
  obtain ⟨N, D, e0, hN, hD, hD2, eD, eN⟩ := h.nat
  have ec : atR r k = if 0 < (k * D) % N then k * D / N + 1 else k * D / N := by unfold atR; rw [eD, eN]
  rw [ec] at ha ⊢
  clear ec eD eN h
  subst e0
  dsimp only at h0
  unfold rV at PV ⊢
  dsimp only at PV ⊢
  have hx : k * D ≤ 1000 * 536870912 := Nat.mul_le_mul hk2 hD2
  have MU := fun w => mul64_any k D w (by omega) (by omega)
  rw [Nat.div_eq_of_lt (show k * D < 18446744073709551616 by omega), Nat.mod_eq_of_lt (show k * D < 18446744073709551616 by omega)] at MU
  have DV := fun w => div64_any (k * D) N w (by omega) (by omega) (by omega)
  generalize k * D / N = q at *
  generalize k * D % N = q2 at *
  generalize k * D = x at *
  have hq : q ≤ 100000 := by split at ha <;> omega
  have k0 : ((N : Int) == 0) = false := by simp; omega
  have k1 : ¬ (k : Int) < 1 := by omega
  have k2 : ¬ (1073741824 : Int) < (k : Int) := by omega
  have wN : IntKind.u64.wrap (N : Int) = N := Mul64.wrapN N (by omega)
  have wk : IntKind.u64.wrap (k : Int) = k := Mul64.wrapN k (by omega)
  have wD : IntKind.u64.wrap (D : Int) = D := Mul64.wrapN D (by omega)
  have k3 : ¬ (N : Int) ≤ 0 := by omega
  have k4 : ¬ (1073741824 : Int) < (q : Int) := by omega
  have k5 : ((q : Int) == 1073741824) = false := by simp; omega
  simp only [Int.natCast_zero] at MU
  replace PV := Lib.hid PV
  replace MU := Lib.hid MU
  replace DV := Lib.hid DV
  have M1 := Lib.hid (Blk.new w 29 [.int .i64 N, .int .i64 D])
  have B0 : Below w.heap.size w (w.alloc (.cells #[.int .i64 N, .int .i64 D] 29)) := (Below.refl _ _).alloc (Nat.le_refl _) _
  have B0 := Lib.hid B0
  have hcase : (0 < q2 ∧ (if 0 < q2 then q + 1 else q) = q + 1) ∨ (q2 = 0 ∧ (if 0 < q2 then q + 1 else q) = q) := by
    by_cases e : 0 < q2
    · exact .inl ⟨e, if_pos e⟩
    · exact .inr ⟨by omega, if_neg e⟩
  clear ha
  rcases hcase with ⟨h2, e2⟩ | ⟨h2, e2⟩
  · rw [e2]
    have k6 : (0 : Int) < (q2 : Int) := by omega
    have wq : IntKind.i64.wrap ((q : Int) + 1) = (q : Int) + 1 := IntWalk.i64_in _ (by omega)
    have wq' : IntKind.u64.wrap ((q : Int) + 1) = (q : Int) + 1 := by rw [IntKind.wrap_u64]; omega
    clear e2
    go_enter Try.func28, Try.ntmps28
    go_wp2_with fail
    refine (PV.out _).mono ?_
    rintro e w1 ⟨rfl, hb⟩
    have C := M1.out.bel hb
    have c0 := C.cell (i := 0) rfl
    have c1 := C.cell (i := 1) rfl
    have B := Lib.hid (below_then B0.out hb B0.out.size)
    clear hb C
    go_wp2_with fail
    refine (MU.out _).mono ?_
    rintro e w2 ⟨rfl, rfl⟩
    go_wp2_with fail
    refine (DV.out _).mono ?_
    rintro e w2 ⟨rfl, hq⟩
    obtain ⟨nq, rfl⟩ := hq
    go_wp2_with fail
    go_ret2
    exact ⟨by simp, Below.drewNQ B.out nq⟩
  · rw [e2]
    subst h2
    have wq : IntKind.i64.wrap (q : Int) = (q : Int) := IntWalk.i64_in _ (by omega)
    simp only [Int.natCast_zero] at DV
    clear e2
    go_enter Try.func28, Try.ntmps28
    go_wp2_with fail
    refine (PV.out _).mono ?_
    rintro e w1 ⟨rfl, hb⟩
    have C := M1.out.bel hb
    have c0 := C.cell (i := 0) rfl
    have c1 := C.cell (i := 1) rfl
    have B := Lib.hid (below_then B0.out hb B0.out.size)
    clear hb C
    go_wp2_with fail
    refine (MU.out _).mono ?_
    rintro e w2 ⟨rfl, rfl⟩
    go_wp2_with fail
    refine (DV.out _).mono ?_
    rintro e w2 ⟨rfl, hq⟩
    obtain ⟨nq, rfl⟩ := hq
    go_wp2_with fail
    go_ret2
    exact ⟨rfl, Below.drewNQ B.out nq⟩
end Go.Proofs.Ytbdaehcngmhhcaa
