/-
  Contracts of rational.Mul, Sub, Div at small numbers.
-/
import Derived.Test.YtbdaehcngmhhcaaAdd
namespace Go.Proofs.Ytbdaehcngmhhcaa
open Go.RowKit
set_option linter.unusedVariables false

/-- Small; the denominator may be 0. -/
structure Sm0 (r : Rq) : Prop where
  v : r.V
  d0 : 0 ≤ r.d
  d2 : r.d ≤ 536870912
  n1 : -536870912 ≤ r.n
  n2 : r.n ≤ 536870912
theorem Sm.zero {r : Rq} (h : Sm r) : Sm0 r := ⟨h.v, by have := h.d1; omega, h.d2, h.n1, h.n2⟩
theorem Sm0.ok {r : Rq} (h : Sm0 r) : r.ok = true := Rq.V_ok h.v (by have := h.d2; unfold maxN; omega) (by have := h.n1; unfold maxN; omega) (by have := h.n2; unfold maxN; omega)
def cFin (an ad : Int) (x : Int) : Prop := True
set_option maxRecDepth 100000 in
set_option maxHeartbeats 4000000 in
theorem mul_any (a b : Rq) (w : World) (ha : Sm0 a) (hb : Sm0 b) :
    Calls Try.prog 6 #[rV a, rV b] w fun e w' => e = .returned (.tuple #[rV (a.mul b), .int .i64 0]) ∧ Below w.heap.size w w' := by
  have V1 := fun w => valid_any a.n a.d w (by have := ha.n1; have := ha.n2; omega) (by have := ha.d0; have := ha.d2; omega)
  have V2 := fun w => valid_any b.n b.d w (by have := hb.n1; have := hb.n2; omega) (by have := hb.d0; have := hb.d2; omega)
  have ha' : Rq.ok ⟨a.n, a.d⟩ = true := ha.ok
  have hb' : Rq.ok ⟨b.n, b.d⟩ = true := hb.ok
  rw [ha'] at V1
  rw [hb'] at V2
  clear ha' hb'
  have N1 := fun w => normal_any a.n a.d w
  have N2 := fun w => normal_any b.n b.d w
  have eA := a.D_eq ha.ok
  have eB := b.D_eq hb.ok
  rw [← eA] at N1
  rw [← eB] at N2
  have a1 := ha.d0; have a2 := ha.d2; have a3 := ha.n1; have a4 := ha.n2
  have b1 := hb.d0; have b2 := hb.d2; have b3 := hb.n1; have b4 := hb.n2
  have lA : a.D ≤ 536870912 := by split at eA <;> omega
  have lB : b.D ≤ 536870912 := by split at eB <;> omega
  have pA := ha.v.pos
  have pB := hb.v.pos
  have M3 := Lib.hid (fun c1 c2 c3 => B3.mk_ w 29 29 29 c1 c2 c3)
  have Z1 := fun w => (size_any a.D w (by omega) (by omega)).mono fun e w' h => (⟨h.1, h.2.symm⟩ : _ ∧ w' = w)
  have Z2 := fun w => (size_any b.D w (by omega) (by omega)).mono fun e w' h => (⟨h.1, h.2.symm⟩ : _ ∧ w' = w)
  rw [Int.natAbs_natCast] at Z1 Z2
  have Z3 := fun w => (size_any a.n w (by omega) (by omega)).mono fun e w' h => (⟨h.1, h.2.symm⟩ : _ ∧ w' = w)
  have Z4 := fun w => (size_any b.n w (by omega) (by omega)).mono fun e w' h => (⟨h.1, h.2.symm⟩ : _ ∧ w' = w)
  have GA := fun w => gcd_any a.n.natAbs b.D w (by omega) (by omega)
  have GB := fun w => gcd_any b.n.natAbs a.D w (by omega) (by omega)
  have hf : 0 < Nat.gcd a.n.natAbs b.D := Nat.gcd_pos_of_pos_right _ pB
  have hs : 0 < Nat.gcd b.n.natAbs a.D := Nat.gcd_pos_of_pos_right _ pA
  have x1 := Nat.div_le_self a.n.natAbs (Nat.gcd a.n.natAbs b.D)
  have x2 := Nat.div_le_self b.n.natAbs (Nat.gcd b.n.natAbs a.D)
  have x3 := Nat.div_le_self a.D (Nat.gcd b.n.natAbs a.D)
  have x4 := Nat.div_le_self b.D (Nat.gcd a.n.natAbs b.D)
  have y1 : a.n.natAbs / Nat.gcd a.n.natAbs b.D * (b.n.natAbs / Nat.gcd b.n.natAbs a.D) ≤ 536870912 * 536870912 := Nat.mul_le_mul (by omega) (by omega)
  have y2 : a.D / Nat.gcd b.n.natAbs a.D * (b.D / Nat.gcd a.n.natAbs b.D) ≤ 536870912 * 536870912 := Nat.mul_le_mul (by omega) (by omega)
  have MA := fun w => (mul64_any (a.n.natAbs / Nat.gcd a.n.natAbs b.D) (b.n.natAbs / Nat.gcd b.n.natAbs a.D) w (by omega) (by omega)).mono fun e w' h => (⟨h.1, h.2.symm⟩ : _ ∧ w' = w)
  have MB := fun w => (mul64_any (a.D / Nat.gcd b.n.natAbs a.D) (b.D / Nat.gcd a.n.natAbs b.D) w (by omega) (by omega)).mono fun e w' h => (⟨h.1, h.2.symm⟩ : _ ∧ w' = w)
  have y1' := Nat.lt_of_le_of_lt y1 (show 536870912 * 536870912 < 18446744073709551616 by decide)
  have y2' := Nat.lt_of_le_of_lt y2 (show 536870912 * 536870912 < 18446744073709551616 by decide)
  rw [Nat.div_eq_of_lt y1', Nat.mod_eq_of_lt y1'] at MA
  rw [Nat.div_eq_of_lt y2', Nat.mod_eq_of_lt y2'] at MB
  have hr : ¬ (a.n = 0 ∨ b.n = 0) → a.n.natAbs / Nat.gcd a.n.natAbs b.D * (b.n.natAbs / Nat.gcd b.n.natAbs a.D) ≠ 0 := fun h e => by
    obtain ⟨k1, k2, -⟩ := prod_low pA pB (fun x => h (.inl x)) (fun x => h (.inr x)) ha.v.cop hb.v.cop
    omega
  have RS := fun (h : ¬ (a.n = 0 ∨ b.n = 0)) g w => result_any g (a.n.natAbs / Nat.gcd a.n.natAbs b.D * (b.n.natAbs / Nat.gcd b.n.natAbs a.D)) (a.D / Nat.gcd b.n.natAbs a.D * (b.D / Nat.gcd a.n.natAbs b.D)) w (by omega) (by omega) (hr h)
  have q1 : ((a.n.natAbs / Nat.gcd a.n.natAbs b.D : Nat) : Int) = (a.n.natAbs : Int) / (Nat.gcd a.n.natAbs b.D : Nat) := rfl
  have q2 : ((b.n.natAbs / Nat.gcd b.n.natAbs a.D : Nat) : Int) = (b.n.natAbs : Int) / (Nat.gcd b.n.natAbs a.D : Nat) := rfl
  have q3 : ((a.D / Nat.gcd b.n.natAbs a.D : Nat) : Int) = (a.D : Int) / (Nat.gcd b.n.natAbs a.D : Nat) := rfl
  have q4 : ((b.D / Nat.gcd a.n.natAbs b.D : Nat) : Int) = (b.D : Int) / (Nat.gcd a.n.natAbs b.D : Nat) := rfl
  have ED : ¬ (a.n = 0 ∨ b.n = 0) → a.mul b = ⟨sgn (decide (a.n < 0) != decide (b.n < 0)) (a.n.natAbs / Nat.gcd a.n.natAbs b.D * (b.n.natAbs / Nat.gcd b.n.natAbs a.D)), ((a.D / Nat.gcd b.n.natAbs a.D * (b.D / Nat.gcd a.n.natAbs b.D) : Nat) : Int)⟩ := fun h => by unfold Rq.mul; rw [if_neg h]
  have EZ : a.n = 0 ∨ b.n = 0 → a.mul b = ⟨0, 1⟩ := fun h => by unfold Rq.mul; rw [if_pos h]
  have i1 : a.n.natAbs / Nat.gcd a.n.natAbs b.D ≤ 536870912 := by omega
  have i2 : b.n.natAbs / Nat.gcd b.n.natAbs a.D ≤ 536870912 := by omega
  have i3 : a.D / Nat.gcd b.n.natAbs a.D ≤ 536870912 := by omega
  have i4 : b.D / Nat.gcd a.n.natAbs b.D ≤ 536870912 := by omega
  have i5 : a.n.natAbs ≤ 536870912 := by omega
  have i6 : b.n.natAbs ≤ 536870912 := by omega
  clear x1 x2 x3 x4 y1 y2 y1' y2' hr eA eB a1 a2 b1 b2 ha hb
  generalize a.mul b = R at *
  generalize Nat.gcd a.n.natAbs b.D = F at *
  generalize Nat.gcd b.n.natAbs a.D = G at *
  generalize a.n.natAbs / F = u1 at *
  generalize b.n.natAbs / G = u2 at *
  generalize a.D / G = u3 at *
  generalize b.D / F = u4 at *
  generalize a.D = p at *
  generalize b.D = q at *
  unfold rV
  unfold wV rV at RS
  simp only [Int.natCast_zero] at RS MA MB
  obtain ⟨an, ad⟩ := a
  obtain ⟨bn, bd⟩ := b
  dsimp only at *
  generalize an.natAbs = xa at *
  generalize hgg : (decide (an < 0) != decide (bn < 0)) = gg at *
  replace hgg := Lib.hid hgg.symm
  generalize bn.natAbs = xb at *
  replace V1 := Lib.hid V1; replace V2 := Lib.hid V2; replace N1 := Lib.hid N1; replace N2 := Lib.hid N2; replace Z1 := Lib.hid Z1; replace Z2 := Lib.hid Z2; replace Z3 := Lib.hid Z3; replace Z4 := Lib.hid Z4; replace GA := Lib.hid GA; replace GB := Lib.hid GB
  replace MA := Lib.hid MA; replace MB := Lib.hid MB; replace RS := Lib.hid RS; replace ED := Lib.hid ED; replace EZ := Lib.hid EZ; replace q1 := Lib.hid q1; replace q2 := Lib.hid q2; replace q3 := Lib.hid q3; replace q4 := Lib.hid q4
  go_enter Try.func6, Try.ntmps6
  go_wp2_with fail
  refine (V1.out _).mono ?_
  rintro e w1 ⟨rfl, hb⟩
  have T := Lib.hid ((M3.out _ _ _).bel hb)
  clear hb M3
  obtain ⟨c0, c1, d0, d1, -⟩ := T.out.S
  go_wp2_with fail
  refine (V2.out _).mono ?_
  rintro e w2 ⟨rfl, hb⟩
  have T2 := Lib.hid (T.out.bel hb)
  clear hb T c0 c1 d0 d1
  go_upto_region 3 with (fail)
  go_cut [] (fun wx => RCut w an p bn q wx)
  case first =>
    have TT : R3 w w2.drew an ad bn bd := T2.out.qt (Qt.refl w2).drew
    obtain ⟨c0, c1, d0, d1, -⟩ := T2.out.S
    have f0 := TT.a.free
    have f1 := TT.b.free
    go_region_with (first | (go_at_call 16; (with_reducible refine (N1.out _).mono ?_); rintro e w4 ⟨rfl, hb⟩; have TT := B3.bel (by with_reducible assumption) hb; obtain ⟨c0, c1, d0, d1, -⟩ := TT.S; have f0 := TT.a.free; have f1 := TT.b.free) | (go_at_call 16; (with_reducible refine (N2.out _).mono ?_); rintro e w4 ⟨rfl, hb⟩; have TT := B3.bel (by with_reducible assumption) hb; obtain ⟨c0, c1, d0, d1, -⟩ := TT.S; have f0 := TT.a.free; have f1 := TT.b.free))
    all_goals
      go_wp2_with fail
      go_meet
      have z := TT.lt
      have B := TT.u
      exact ⟨(((TT.a.set 0 _).set 1 _).setO _ (by dsimp only; omega)).setO _ (by dsimp only; omega), (((TT.b.setO _ (by dsimp only; omega)).setO _ (by dsimp only; omega)).set 0 _).set 1 _, (((TT.c.setO _ (by dsimp only; omega)).setO _ (by dsimp only; omega)).setO _ (by dsimp only; omega)).setO _ (by dsimp only; omega), by (repeat' (first | with_reducible assumption | with_reducible exact Below.refl _ _ | with_reducible refine Below.drewQ ?_ | with_reducible refine Below.drewNQ ?_ _ | with_reducible refine Below.setCell ?_ (by dsimp only; omega) _ | with_reducible refine Below.alloc ?_ (by simp <;> omega) _))⟩
  case rest =>
    have T3 : Hid (R3 w wc an p bn q) := Lib.hid hcut
    clear T2 hcut
    obtain ⟨c0, c1, d0, d1, o0, o1⟩ := T3.out.S
    obtain ⟨f0, f1, f2⟩ := T3.out.Fz
    obtain ⟨z0, z1, z2⟩ := T3.out.lts
    by_cases hz : an = 0 ∨ bn = 0
    · have e0 := EZ.out hz
      subst e0
      have UB := T3.out.u
      have hz' : an = 0 ∨ (¬ an = 0 ∧ bn = 0) := by omega
      clear hz
      rcases hz' with hz | ⟨hz, hz2⟩
      · have k0 : (an == 0) = true := by simp [hz]
        clear hz
        go_wp2_with fail
        exact bodyPost_ret (v := .tuple #[.agg #[.int .i64 0, .int .i64 1], .int .i64 0]) (by simp [results, Try.results6, go_sem, o0, o1]) rfl ⟨rfl, by (repeat' (first | with_reducible assumption | with_reducible exact Below.refl _ _ | with_reducible refine Below.drewQ ?_ | with_reducible refine Below.drewNQ ?_ _ | with_reducible refine Below.setCell ?_ (by dsimp only; omega) _ | with_reducible refine Below.alloc ?_ (by simp <;> omega) _))⟩
      · have k0 : (an == 0) = false := by simp [hz]
        have k1 : (bn == 0) = true := by simp [hz2]
        clear hz hz2
        go_wp2_with fail
        exact bodyPost_ret (v := .tuple #[.agg #[.int .i64 0, .int .i64 1], .int .i64 0]) (by simp [results, Try.results6, go_sem, o0, o1]) rfl ⟨rfl, by (repeat' (first | with_reducible assumption | with_reducible exact Below.refl _ _ | with_reducible refine Below.drewQ ?_ | with_reducible refine Below.drewNQ ?_ _ | with_reducible refine Below.setCell ?_ (by dsimp only; omega) _ | with_reducible refine Below.alloc ?_ (by simp <;> omega) _))⟩
    · have RS := Lib.hid (RS.out hz)
      have e0 := ED.out hz
      subst e0
      have k0 : (an == 0) = false := by simp; omega
      have k1 : (bn == 0) = false := by simp; omega
      clear ED EZ hz
      have kF : ((F : Int) == 0) = false := by simp; omega
      have kG : ((G : Int) == 0) = false := by simp; omega
      go_wp2_with fail
      go_quiet ((first | (go_at_call 18; first | with_reducible exact Calls.quiet_of_same (Z1.out _) | with_reducible exact Calls.quiet_of_same (Z2.out _) | with_reducible exact Calls.quiet_of_same (Z3.out _) | with_reducible exact Calls.quiet_of_same (Z4.out _)) | (go_at_call 17; exact Calls.quiet_of (GA.out _))))
      go_wp2_with fail
      have T4 : Hid (R3 w (wc.drewN nq) an p bn q) := Lib.hid (T3.out.qt ((Qt.refl wc).drewN nq))
      clear T3 c0 c1 d0 d1
      generalize wc.drewN nq = w4 at *
      obtain ⟨c0, c1, d0, d1, -⟩ := T4.out.S
      go_quiet ((first | (go_at_call 18; first | with_reducible exact Calls.quiet_of_same (Z1.out _) | with_reducible exact Calls.quiet_of_same (Z2.out _) | with_reducible exact Calls.quiet_of_same (Z3.out _) | with_reducible exact Calls.quiet_of_same (Z4.out _)) | (go_at_call 17; exact Calls.quiet_of (GB.out _))))
      go_wp2_with fail
      have T5 : Hid (R3 w (w4.drewN nq) an p bn q) := Lib.hid (T4.out.qt ((Qt.refl w4).drewN nq))
      clear T4 c0 c1 d0 d1
      generalize w4.drewN nq = w5 at *
      obtain ⟨c0, c1, d0, d1, -⟩ := T5.out.S
      go_quiet ((first | (go_at_call 18; first | with_reducible exact Calls.quiet_of_same (Z1.out _) | with_reducible exact Calls.quiet_of_same (Z2.out _) | with_reducible exact Calls.quiet_of_same (Z3.out _) | with_reducible exact Calls.quiet_of_same (Z4.out _)) | (go_at_call 19; rw [← q1.out, ← q2.out]; (try rw [Mul64.wrapN u1 (by omega)]); (try rw [Mul64.wrapN u2 (by omega)]); exact Calls.quiet_of_same (MA.out _))))
      have T6 : Hid (R3 w (w5.drewN nq) an p bn q) := Lib.hid (T5.out.qt ((Qt.refl w5).drewN nq))
      clear T5 c0 c1 d0 d1
      generalize w5.drewN nq = w6 at *
      obtain ⟨c0, c1, d0, d1, o0, o1⟩ := T6.out.S
      obtain ⟨f0, f1, f2⟩ := T6.out.Fz
      obtain ⟨z0, z1, z2⟩ := T6.out.lts
      have hsg : (an < 0 ∧ bn < 0 ∧ gg = false) ∨ (an < 0 ∧ ¬ bn < 0 ∧ gg = true) ∨ (¬ an < 0 ∧ bn < 0 ∧ gg = true) ∨ (¬ an < 0 ∧ ¬ bn < 0 ∧ gg = false) := by
        rw [hgg.out]
        by_cases s1 : an < 0 <;> by_cases s2 : bn < 0 <;> simp [s1, s2]
      clear hgg
      rcases hsg with ⟨s1, s2, rfl⟩ | ⟨s1, s2, rfl⟩ | ⟨s1, s2, rfl⟩ | ⟨s1, s2, rfl⟩
      all_goals
        go_wp2_with fail
        go_quiet ((first | (go_at_call 18; first | with_reducible exact Calls.quiet_of_same (Z1.out _) | with_reducible exact Calls.quiet_of_same (Z2.out _) | with_reducible exact Calls.quiet_of_same (Z3.out _) | with_reducible exact Calls.quiet_of_same (Z4.out _)) | (go_at_call 19; rw [← q3.out, ← q4.out]; (try rw [Mul64.wrapN u3 (by omega)]); (try rw [Mul64.wrapN u4 (by omega)]); exact Calls.quiet_of_same (MB.out _))))
        go_wp2_with fail
        refine (RS.out _ _).mono ?_
        rintro e w11 ⟨rfl, hb⟩
        have T9 := Lib.hid (((T6.out.alloc_ _).qt ⟨nq, rfl⟩).bel hb)
        obtain ⟨c0, c1, d0, d1, o0, o1⟩ := T9.out.S
        obtain ⟨f0, f1, f2⟩ := T9.out.Fz
        clear hb T6
        have UB := T9.out.u
        go_wp2_with fail
        exact bodyPost_ret (v := .tuple #[.agg #[.int .i64 (sgn _ (u1 * u2)), .int .i64 ((u3 * u4 : Nat) : Int)], .int .i64 0]) (by simp [results, Try.results6, go_sem, o0, o1]) rfl ⟨rfl, by (repeat' (first | with_reducible assumption | with_reducible exact Below.refl _ _ | with_reducible refine Below.drewQ ?_ | with_reducible refine Below.drewNQ ?_ _ | with_reducible refine Below.setCell ?_ (by dsimp only; omega) _ | with_reducible refine Below.alloc ?_ (by simp <;> omega) _))⟩
theorem sub_eq (a b : Rq) : True := trivial
end Go.Proofs.Ytbdaehcngmhhcaa
