/-
  Contract of rational.Add at small numbers.
-/
import Derived.Test.YtkaaoomliepijaaGreatQCmp
import Derived.Test.YtkaaoomliepijaaGreatQPar
import Derived.Shelf.Abstract
namespace Go.Proofs.YtkaaoomliepijaaGreat
open Go.RowKit
set_option linter.unusedVariables false

/-- Small, with a denominator. -/
structure Sm (r : Rq) : Prop where
  v : r.V
  d1 : 1 ≤ r.d
  d2 : r.d ≤ 536870912
  n1 : -536870912 ≤ r.n
  n2 : r.n ≤ 536870912
theorem Sm.ok {r : Rq} (h : Sm r) : r.ok = true := Rq.V_ok h.v (by have := h.d2; unfold maxN; omega) (by have := h.n1; unfold maxN; omega) (by have := h.n2; unfold maxN; omega)
theorem Sm.D {r : Rq} (h : Sm r) : (r.D : Int) = r.d := by
  have := h.d1
  unfold Rq.D
  rw [if_neg (by omega)]
  omega
theorem B3.S {w wx : World} {T T' : TypeId} {n d m e : Int} (h : B3 w wx T T T' [.int .i64 n, .int .i64 d] [.int .i64 m, .int .i64 e] [.int .i64 0, .int .i64 0]) :
    wx.cell? ⟨w.heap.size, 0, none⟩ = some (.int .i64 n) ∧ wx.cell? ⟨w.heap.size, 1, none⟩ = some (.int .i64 d) ∧ wx.cell? ⟨w.heap.size + 1, 0, none⟩ = some (.int .i64 m) ∧ wx.cell? ⟨w.heap.size + 1, 1, none⟩ = some (.int .i64 e) ∧
    wx.cell? ⟨w.heap.size + 1 + 1, 0, none⟩ = some (.int .i64 0) ∧ wx.cell? ⟨w.heap.size + 1 + 1, 1, none⟩ = some (.int .i64 0) :=
  ⟨h.a.cell rfl, h.a.cell rfl, h.b.cell rfl, h.b.cell rfl, h.c.cell rfl, h.c.cell rfl⟩
theorem B3.lts {w wx : World} {T T' T'' : TypeId} {c c' c'' : List Value} (h : B3 w wx T T' T'' c c' c'') : w.heap.size < wx.heap.size ∧ w.heap.size + 1 < wx.heap.size ∧ w.heap.size + 1 + 1 < wx.heap.size := by have := h.lt; omega
theorem B3.Fz {w wx : World} {T T' T'' : TypeId} {c c' c'' : List Value} (h : B3 w wx T T' T'' c c' c'') : (∀ i, wx.frozen? ⟨w.heap.size, i, none⟩ = false) ∧ (∀ i, wx.frozen? ⟨w.heap.size + 1, i, none⟩ = false) ∧ (∀ i, wx.frozen? ⟨w.heap.size + 1 + 1, i, none⟩ = false) := ⟨h.a.free, h.b.free, h.c.free⟩
abbrev R3 (w wx : World) (n d m e : Int) : Prop := B3 w wx 45 45 45 [.int .i64 n, .int .i64 d] [.int .i64 m, .int .i64 e] [.int .i64 0, .int .i64 0]
def RCut (w : World) (n d m e : Int) (wx : World) : Prop := R3 w wx n d m e
/-- A wide number in a block of its own, beside the others. -/
def WCut (w : World) (n d m e s : Int) (v : Value) (wx : World) : Prop :=
  ∃ (b : Nat) (g : Bool), v = .pointer (some ⟨b, 0, none⟩) ∧ w.heap.size + 1 + 1 < b ∧ sgn g s.natAbs = s ∧ Blk wx b 89 [.bool g, .int .u64 0, .int .u64 s.natAbs] ∧ R3 w wx n d m e
/-- What the operations of the sum leave. -/
def AddV (w0 : World) (ga gb : Bool) (u1 u2 : Nat) (s : Int) (i : Nat) (v : Value) (w : World) : Prop :=
  if i = 3 then v = .agg #[.bool ga, .int .u64 0, .int .u64 u1] else if i = 7 then v = .agg #[.bool gb, .int .u64 0, .int .u64 u2] else if i = 8 then ∃ g, sgn g s.natAbs = s ∧ v = .agg #[.bool g, .int .u64 0, .int .u64 s.natAbs]
  else ∃ b, v = .pointer (some ⟨b, 0, none⟩) ∧ w0.heap.size + 1 + 1 < b ∧ Blk w b 89 [.bool false, .int .u64 0, .int .u64 0]
theorem AddV.ext {w0 : World} {ga gb : Bool} {u1 u2 : Nat} {s : Int} {i : Nat} {v : Value} {w w' : World} (hb : Below w.heap.size w w') (h : AddV w0 ga gb u1 u2 s i v w) : AddV w0 ga gb u1 u2 s i v w' := by
  unfold AddV at *
  repeat' split
  all_goals simp only [*, if_true, if_false] at h
  all_goals first | exact h | (obtain ⟨b, h1, h2, h3⟩ := h; exact ⟨b, h1, h2, h3.bel hb⟩)
theorem AddV.apt {w0 : World} {ga gb : Bool} {u1 u2 : Nat} {s : Int} {i : Nat} {v : Value} {w : World} (h : AddV w0 ga gb u1 u2 s i v w) : Apt (.pointer (some ⟨w.heap.size, 0, none⟩)) v := by
  intro b c hb hc
  injection hb with hb; injection hb with hb; injection hb with hb
  subst hb
  subst hc
  unfold AddV at h
  by_cases e4 : i = 3
  · rw [if_pos e4] at h; cases h
  by_cases e5 : i = 7
  · rw [if_neg e4, if_pos e5] at h; cases h
  by_cases e10 : i = 8
  · rw [if_neg e4, if_neg e5, if_pos e10] at h
    obtain ⟨g, _, h⟩ := h
    cases h
  rw [if_neg e4, if_neg e5, if_neg e10] at h
  obtain ⟨x, h1, h2, h3⟩ := h
  injection h1 with h1; injection h1 with h1; injection h1 with h1
  have := h3.lt
  omega
def AddE (w w' : World) : Prop := Below w.heap.size w w'
theorem R3S_ {w wx : World} {n d m e : Int} (h : R3 w wx n d m e) : wx.cell? ⟨w.heap.size, 0, none⟩ = some (.int .i64 n) ∧ wx.cell? ⟨w.heap.size + 1, 0, none⟩ = some (.int .i64 m) ∧ R3 w wx n d m e := ⟨h.a.cell rfl, h.b.cell rfl, h⟩
theorem product_sm (n : Int) (f : Nat) (w : World) (h1 : -1152921504606846976 ≤ n) (h2 : n ≤ 1152921504606846976) (hf : n.natAbs * f < 18446744073709551616) (hf' : f < 18446744073709551616) :
    Calls Tryz.prog 37 #[.int .i64 n, .int .u64 f] w fun e w' => e = .returned (wV (decide (n < 0)) 0 (n.natAbs * f)) ∧ Below w.heap.size w w' := by
  have h := product_any n f w h1 h2 hf'
  rw [Nat.div_eq_of_lt hf, Nat.mod_eq_of_lt hf] at h
  exact h
set_option maxRecDepth 100000 in
set_option maxHeartbeats 4000000 in
theorem add_any (a b : Rq) (w : World) (ha : Sm a) (hb : Sm b) :
    Calls Tryz.prog 15 #[rV a, rV b] w fun e w' => e = .returned (.tuple #[rV (a.add b), .int .i64 0]) ∧ Below w.heap.size w w' := by
  obtain ⟨L1, L2, L3, L4, L5, -⟩ := sum_low ha.v.pos hb.v.pos ha.v.cop hb.v.cop (a.sm b) _ rfl rfl
  have V1 := fun w => ratv_any a.n a.d w (by have := ha.n1; have := ha.n2; omega) (by have := ha.d1; have := ha.d2; omega)
  have V2 := fun w => ratv_any b.n b.d w (by have := hb.n1; have := hb.n2; omega) (by have := hb.d1; have := hb.d2; omega)
  have ha' : Rq.ok ⟨a.n, a.d⟩ = true := ha.ok
  have hb' : Rq.ok ⟨b.n, b.d⟩ = true := hb.ok
  rw [ha'] at V1
  rw [hb'] at V2
  clear ha' hb'
  have N1 := fun w => normal_any a.n a.d w
  have N2 := fun w => normal_any b.n b.d w
  rw [if_neg (by have := ha.d1; omega)] at N1
  rw [if_neg (by have := hb.d1; omega)] at N2
  have eA := ha.D
  have eB := hb.D
  have a1 := ha.d1; have a2 := ha.d2; have a3 := ha.n1; have a4 := ha.n2
  have b1 := hb.d1; have b2 := hb.d2; have b3 := hb.n1; have b4 := hb.n2
  have Z1 := fun w => (size_any a.d w (by omega) (by omega)).mono fun e w' h => (⟨h.1, h.2.symm⟩ : _ ∧ w' = w)
  have Z2 := fun w => (size_any b.d w (by omega) (by omega)).mono fun e w' h => (⟨h.1, h.2.symm⟩ : _ ∧ w' = w)
  rw [show a.d.natAbs = a.D by omega] at Z1
  rw [show b.d.natAbs = b.D by omega] at Z2
  have bl := Nat.div_le_self a.D (Nat.gcd a.D b.D)
  have br := Nat.div_le_self b.D (Nat.gcd a.D b.D)
  have hG : 0 < Nat.gcd a.D b.D := Nat.gcd_pos_of_pos_left _ ha.v.pos
  have hG2 : Nat.gcd a.D b.D ≤ a.D := Nat.le_of_dvd ha.v.pos (Nat.gcd_dvd_left _ _)
  have GC := fun w => gcd_any a.D b.D w (by omega) (by omega)
  have hs : a.sm b = sgn (decide (a.n < 0)) (a.n.natAbs * (b.D / Nat.gcd a.D b.D)) + sgn (decide (b.n < 0)) (b.n.natAbs * (a.D / Nat.gcd a.D b.D)) := by
    rw [← sgn_mul, ← sgn_mul, sgn_of, sgn_of]; rfl
  have x1 : a.n.natAbs * (b.D / Nat.gcd a.D b.D) ≤ 536870912 * 536870912 := Nat.mul_le_mul (by omega) (by omega)
  have x2 : b.n.natAbs * (a.D / Nat.gcd a.D b.D) ≤ 536870912 * 536870912 := Nat.mul_le_mul (by omega) (by omega)
  have PR1 := fun w => product_sm a.n (b.D / Nat.gcd a.D b.D) w (by omega) (by omega) (by omega) (by omega)
  have PR2 := fun w => product_sm b.n (a.D / Nat.gcd a.D b.D) w (by omega) (by omega) (by omega) (by omega)
  have WA := fun w => wadd_any (decide (a.n < 0)) (decide (b.n < 0)) (a.n.natAbs * (b.D / Nat.gcd a.D b.D)) (b.n.natAbs * (a.D / Nat.gcd a.D b.D)) w (by omega)
  rw [← hs] at WA
  have hs2 : (a.sm b).natAbs ≤ 1152921504606846976 := by
    rw [hs]
    cases decide (a.n < 0) <;> cases decide (b.n < 0) <;> simp only [sgn, if_true, if_false, Bool.false_eq_true] <;> omega
  clear hs x1 x2
  have hc1 : Nat.gcd (Nat.gcd a.D b.D) (a.sm b).natAbs ≤ Nat.gcd a.D b.D := Nat.le_of_dvd hG (Nat.gcd_dvd_left _ _)
  have GC2 := fun w => gcd_any (Nat.gcd a.D b.D) ((a.sm b).natAbs % Nat.gcd a.D b.D) w (by omega) (by have := Nat.mod_lt (a.sm b).natAbs hG; omega)
  rw [show Nat.gcd (Nat.gcd a.D b.D) ((a.sm b).natAbs % Nat.gcd a.D b.D) = Nat.gcd (Nat.gcd a.D b.D) (a.sm b).natAbs by rw [Nat.gcd_comm, ← Nat.gcd_rec]] at GC2
  have DV1 := fun g w => divide_any g (a.sm b).natAbs (Nat.gcd a.D b.D) w (by omega) hG (by omega)
  have DV2 := fun g w => divide_any g (a.sm b).natAbs (Nat.gcd (Nat.gcd a.D b.D) (a.sm b).natAbs) w (by omega) L1 (by omega)
  have y1 := Nat.div_le_self (a.sm b).natAbs (Nat.gcd (Nat.gcd a.D b.D) (a.sm b).natAbs)
  have y2 := Nat.div_le_self b.D (Nat.gcd (Nat.gcd a.D b.D) (a.sm b).natAbs)
  have y3 : a.D / Nat.gcd a.D b.D * (b.D / Nat.gcd (Nat.gcd a.D b.D) (a.sm b).natAbs) ≤ 536870912 * 536870912 := Nat.mul_le_mul (by omega) (by omega)
  have MU := fun w => mul64_any (a.D / Nat.gcd a.D b.D) (b.D / Nat.gcd (Nat.gcd a.D b.D) (a.sm b).natAbs) w (by omega) (by omega)
  have y5 := Nat.lt_of_le_of_lt y3 (show 536870912 * 536870912 < 18446744073709551616 by decide)
  rw [Nat.div_eq_of_lt y5, Nat.mod_eq_of_lt y5] at MU
  clear y5
  have y4 : a.sm b ≠ 0 → (a.sm b).natAbs / Nat.gcd (Nat.gcd a.D b.D) (a.sm b).natAbs ≠ 0 := fun h e => by
    obtain ⟨x, hx⟩ := L2
    have e1 : (a.sm b).natAbs / Nat.gcd (Nat.gcd a.D b.D) (a.sm b).natAbs = x := Nat.div_eq_of_eq_mul_right L1 hx
    rw [e1] at e
    rw [e, Nat.mul_zero] at hx
    omega
  have RS := fun (h : a.sm b ≠ 0) g w => result_any g ((a.sm b).natAbs / Nat.gcd (Nat.gcd a.D b.D) (a.sm b).natAbs) (a.D / Nat.gcd a.D b.D * (b.D / Nat.gcd (Nat.gcd a.D b.D) (a.sm b).natAbs)) w (by omega) (by omega) (y4 h)
  have hcast1 : ∀ x y : Nat, (x : Int) / (y : Int) = ((x / y : Nat) : Int) := fun x y => rfl
  have ED : ∀ g : Bool, a.sm b ≠ 0 → sgn g (a.sm b).natAbs = a.sm b → a.add b = ⟨sgn g ((a.sm b).natAbs / Nat.gcd (Nat.gcd a.D b.D) (a.sm b).natAbs), ((a.D / Nat.gcd a.D b.D * (b.D / Nat.gcd (Nat.gcd a.D b.D) (a.sm b).natAbs) : Nat) : Int)⟩ := fun g h e => by
    have : g = decide (a.sm b < 0) := by cases g <;> simp only [sgn, if_true, if_false, Bool.false_eq_true] at e <;> simp <;> omega
    unfold Rq.add
    rw [if_neg h, this]
  have EZ : a.sm b = 0 → a.add b = ⟨0, 1⟩ := fun h => by unfold Rq.add; rw [if_pos h]
  have q1 : ((a.D / Nat.gcd a.D b.D : Nat) : Int) = (a.D : Int) / (Nat.gcd a.D b.D : Nat) := rfl
  have q2 : ((b.D / Nat.gcd a.D b.D : Nat) : Int) = (b.D : Int) / (Nat.gcd a.D b.D : Nat) := rfl
  have q3 : ((b.D / Nat.gcd (Nat.gcd a.D b.D) (a.sm b).natAbs : Nat) : Int) = (b.D : Int) / (Nat.gcd (Nat.gcd a.D b.D) (a.sm b).natAbs : Nat) := rfl
  generalize a.add b = R at *
  clear L2 L3 L4 L5 y4 hcast1
  have hl1 : a.D / Nat.gcd a.D b.D ≤ 536870912 := by omega
  have hr1 : b.D / Nat.gcd a.D b.D ≤ 536870912 := by omega
  have hm1 : b.D / Nat.gcd (Nat.gcd a.D b.D) (a.sm b).natAbs ≤ 536870912 := by omega
  have hG3 : Nat.gcd a.D b.D ≤ 536870912 := by omega
  have hc3 : Nat.gcd (Nat.gcd a.D b.D) (a.sm b).natAbs ≤ 536870912 := by omega
  clear bl br y1 y2 y3 hc1 hG2 eA eB ha hb a1 a2 a3 a4 b1 b2 b3 b4
  generalize Nat.gcd (Nat.gcd a.D b.D) (a.sm b).natAbs = c at *
  generalize a.sm b = s at *
  generalize Nat.gcd a.D b.D = G at *
  generalize a.D / G = l at *
  generalize b.D / G = r at *
  generalize b.D / c = m at *
  generalize a.D = p at *
  generalize b.D = q at *
  generalize s.natAbs / G = x1 at *
  generalize s.natAbs % G = x2 at *
  generalize s.natAbs / c = x3 at *
  generalize s.natAbs % c = x4 at *
  generalize a.n.natAbs * r = u1 at *
  generalize b.n.natAbs * l = u2 at *
  generalize decide (a.n < 0) = ga at *
  generalize decide (b.n < 0) = gb at *
  unfold rV
  unfold wV at PR1 PR2 WA DV1 DV2 RS
  unfold WaPost wV at WA
  unfold rV at RS
  simp only [Int.natCast_zero] at PR1 PR2 WA DV1 DV2 RS MU
  obtain ⟨an, ad⟩ := a
  obtain ⟨bn, bd⟩ := b
  dsimp only at *
  replace V1 := Lib.hid V1; replace V2 := Lib.hid V2; replace N1 := Lib.hid N1; replace N2 := Lib.hid N2; replace Z1 := Lib.hid Z1; replace Z2 := Lib.hid Z2; replace GC := Lib.hid GC; replace GC2 := Lib.hid GC2
  replace PR1 := Lib.hid PR1; replace PR2 := Lib.hid PR2; replace WA := Lib.hid WA; replace DV1 := Lib.hid DV1; replace DV2 := Lib.hid DV2; replace MU := Lib.hid MU; replace RS := Lib.hid RS; replace ED := Lib.hid ED; replace EZ := Lib.hid EZ
  replace q1 := Lib.hid q1; replace q2 := Lib.hid q2; replace q3 := Lib.hid q3
  have M3 := Lib.hid (fun c1 c2 c3 => B3.mk_ w 45 45 45 c1 c2 c3)
  go_enter Tryz.func15, Tryz.ntmps15
  go_wp2_with fail
  refine (V1.out _).mono ?_
  rintro e w1 ⟨rfl, hb⟩
  have T := Lib.hid ((M3.out _ _ _).bel hb)
  clear hb M3
  obtain ⟨c0, c1, d0, d1, -⟩ := T.out.S
  go_wp2_with fail
  refine (V2.out _).mono ?_
  rintro e w2 ⟨rfl, hb⟩
  have T2 := Lib.hid (T.out.bel hb)
  clear hb T c0 c1 d0 d1
  go_upto_region 3 with (fail)
  go_cut [] (fun wx => RCut w an ad bn bd wx)
  case first =>
    have TT : R3 w w2.drew an ad bn bd := T2.out.qt (Qt.refl w2).drew
    obtain ⟨c0, c1, d0, d1, -⟩ := T2.out.S
    have f0 := TT.a.free
    have f1 := TT.b.free
    go_region_with (first | (go_at_call 34; (with_reducible refine (N1.out _).mono ?_); rintro e w4 ⟨rfl, hb⟩; have TT := B3.bel (by with_reducible assumption) hb; obtain ⟨c0, c1, d0, d1, -⟩ := TT.S; have f0 := TT.a.free; have f1 := TT.b.free) | (go_at_call 34; (with_reducible refine (N2.out _).mono ?_); rintro e w4 ⟨rfl, hb⟩; have TT := B3.bel (by with_reducible assumption) hb; obtain ⟨c0, c1, d0, d1, -⟩ := TT.S; have f0 := TT.a.free; have f1 := TT.b.free))
    all_goals
      go_wp2_with fail
      go_meet
      have z := TT.lt
      have B := TT.u
      exact ⟨(((TT.a.set 0 _).set 1 _).setO _ (by dsimp only; omega)).setO _ (by dsimp only; omega), (((TT.b.setO _ (by dsimp only; omega)).setO _ (by dsimp only; omega)).set 0 _).set 1 _, (((TT.c.setO _ (by dsimp only; omega)).setO _ (by dsimp only; omega)).setO _ (by dsimp only; omega)).setO _ (by dsimp only; omega), by (repeat' (first | with_reducible assumption | with_reducible exact Below.refl _ _ | with_reducible refine Below.drewQ ?_ | with_reducible refine Below.drewNQ ?_ _ | with_reducible refine Below.setCell ?_ (by dsimp only; omega) _ | with_reducible refine Below.alloc ?_ (by simp <;> omega) _))⟩
  case rest =>
    have T3 : Hid (R3 w wc an ad bn bd) := Lib.hid hcut
    clear T2 hcut
    obtain ⟨c0, c1, d0, d1, -⟩ := T3.out.S
    go_wp2_with fail
    go_quiet ((first | (go_at_call 36; first | with_reducible exact Calls.quiet_of_same (Z1.out _) | with_reducible exact Calls.quiet_of_same (Z2.out _)) | (go_at_call 35; exact Calls.quiet_of (GC.out _))))
    go_wp2_with fail
    have T4 : Hid (R3 w (wc.drewN nq) an ad bn bd) := Lib.hid (T3.out.qt ((Qt.refl wc).drewN nq))
    clear T3 c0 c1 d0 d1
    generalize wc.drewN nq = w4 at *
    obtain ⟨c0, c1, d0, d1, -⟩ := T4.out.S
    have k1 : ((G : Int) == 0) = false := by simp; omega
    go_quiet ((first | (go_at_call 36; first | with_reducible exact Calls.quiet_of_same (Z1.out _) | with_reducible exact Calls.quiet_of_same (Z2.out _))))
    clear k1
    go_wp2_with fail
    have T5 : Hid (R3 w (w4.drewN nq) an ad bn bd) := Lib.hid (T4.out.qt ((Qt.refl w4).drewN nq))
    clear T4 c0 c1 d0 d1
    rw [← q1.out, ← q2.out, Mul64.wrapN l (by omega), Mul64.wrapN r (by omega)]
    generalize w4.drewN nq = w5 at *
    go_upto_region 6 with (fail)
    go_cut [9] (fun v wx => WCut w an ad bn bd s v wx)
    case first =>
      have TT' : R3 w w5.drew an ad bn bd := T5.out.qt (Qt.refl w5).drew
      clear V1 V2 N1 N2 Z1 Z2 GC GC2 DV1 DV2 MU RS ED EZ q1 q2 q3 T5
      refine wp_region_allH (fun wx => wx.cell? ⟨w.heap.size, 0, none⟩ = some (.int .i64 an) ∧ wx.cell? ⟨w.heap.size + 1, 0, none⟩ = some (.int .i64 bn) ∧ R3 w wx an ad bn bd) 11 (by kernel_rfl) rfl ?_ (fun hHeld => ?_)
      · (exact R3S_ TT')
      refine wpAnyH_takeG (i := 0) (v := ?_) rfl (by kernel_rfl) (by kernel_rfl) (by kernel_rfl) (fun _ _ _ h => h) rfl ?_ hHeld ?_
      rotate_left
      · intro w hSw
        try dsimp only at hSw
        go_simp
        all_goals with_reducible rfl
      try simp only [Act.put, List.setIfInBounds_toArray, List.set_cons_zero, List.set_cons_succ]
      refine wpAnyH_takeG (i := 1) (v := ?_) rfl (by kernel_rfl) (by kernel_rfl) (by kernel_rfl) (fun _ _ _ h => h) rfl ?_ hHeld ?_
      rotate_left
      · intro w hSw
        try dsimp only at hSw
        go_simp
        all_goals with_reducible rfl
      try simp only [Act.put, List.setIfInBounds_toArray, List.set_cons_zero, List.set_cons_succ]
      refine wpAnyH_takeG (i := 2) (v := ?_) rfl (by kernel_rfl) (by kernel_rfl) (by kernel_rfl) (fun _ _ _ h => h) rfl ?_ hHeld ?_
      rotate_left
      · intro w hSw
        try dsimp only at hSw
        go_simp
        all_goals with_reducible rfl
      try simp only [Act.put, List.setIfInBounds_toArray, List.set_cons_zero, List.set_cons_succ]
      refine wpAnyH_takeG (i := 4) (v := ?_) rfl (by kernel_rfl) (by kernel_rfl) (by kernel_rfl) (fun _ _ _ h => h) rfl ?_ hHeld ?_
      rotate_left
      · intro w hSw
        try dsimp only at hSw
        go_simp
        all_goals with_reducible rfl
      try simp only [Act.put, List.setIfInBounds_toArray, List.set_cons_zero, List.set_cons_succ]
      refine wpAnyH_takeG (i := 5) (v := ?_) rfl (by kernel_rfl) (by kernel_rfl) (by kernel_rfl) (fun _ _ _ h => h) rfl ?_ hHeld ?_
      rotate_left
      · intro w hSw
        try dsimp only at hSw
        go_simp
        all_goals with_reducible rfl
      try simp only [Act.put, List.setIfInBounds_toArray, List.set_cons_zero, List.set_cons_succ]
      refine wpAnyH_takeG (i := 6) (v := ?_) rfl (by kernel_rfl) (by kernel_rfl) (by kernel_rfl) (fun _ _ _ h => h) rfl ?_ hHeld ?_
      rotate_left
      · intro w hSw
        try dsimp only at hSw
        go_simp
        all_goals with_reducible rfl
      try simp only [Act.put, List.setIfInBounds_toArray, List.set_cons_zero, List.set_cons_succ]
      refine par_go (I := [3, 7, 8, 9]) (d := fun i => ([0, 0, 0, 50, 0, 0, 0, 54, 55, 9] : List Nat).getD i 0) (dep := fun i => ([[], [], [], [], [], [], [], [3], [3, 7], []] : List (List Nat)).getD i []) (V := AddV w ga gb u1 u2 s) (Ext := AddE) (fin := #[true, true, true, true, true, true, true, true, true, true, false]) 4 1 #[true, true, true, false, true, true, true, false, false, false, false] rfl (by kernel_rfl) (by kernel_rfl) (by kernel_rfl) ?_ ?_ ?_ hHeld ?_
      · intro i hi; simp only [List.mem_cons, List.not_mem_nil, or_false] at hi; rcases hi with rfl | rfl | rfl | rfl <;> simp
      · (exact fun i _ v w w' hb h => h.ext hb)
      · intro i hi; simp only [List.mem_cons, List.not_mem_nil, or_false] at hi
        rcases hi with rfl | rfl | rfl | rfl
        · intro a w hS hfr hdp K hK
          (exact op_call2 rfl (enters_of Tryz.func37 (by kernel_rfl) rfl) ((hfr 48 (by decide)).trans rfl) ((hfr 49 (by decide)).trans rfl) (PR1.out w) (fun e w' h => ⟨_, h.1, hK _ _ (R3S_ (hS.2.2.bel h.2)) rfl h.2 (fun _ _ _ _ _ b c hb _ => by cases hb)⟩))
        · intro a w hS hfr hdp K hK
          (exact op_call2 rfl (enters_of Tryz.func37 (by kernel_rfl) rfl) ((hfr 52 (by decide)).trans rfl) ((hfr 53 (by decide)).trans rfl) (PR2.out w) (fun e w' h => ⟨_, h.1, hK _ _ (R3S_ (hS.2.2.bel h.2)) rfl h.2 (fun _ _ _ _ _ b c hb _ => by cases hb)⟩))
        · intro a w hS hfr hdp K hK
          (exact op_call2 rfl (enters_of Tryz.func38 (by kernel_rfl) rfl) (hdp 3 (by simp)) (hdp 7 (by simp)) (WA.out w) (fun e w' ⟨g2, h1, h2, h3⟩ => ⟨_, h2, hK _ _ (R3S_ (hS.2.2.bel h3)) ⟨g2, h1, rfl⟩ h3 (fun _ _ _ _ _ b c hb _ => by cases hb)⟩))
        · intro a w hS hfr hdp K hK
          (exact op_valueQ (w' := w.alloc (.cells #[.bool false, .int .u64 0, .int .u64 0] 89)) (by first | kernel_rfl | rfl | go_simp) (hK _ _ (R3S_ (hS.2.2.alloc_ _)) ⟨_, rfl, hS.2.2.lt, Blk.new _ _ _⟩ ((Below.refl _ _).alloc (Nat.le_refl _) _) (fun _ _ _ _ hu => hu.apt)))
      intro x wp hHeld hV hA
      have hV3 := hV 3 (by simp)
      have hV7 := hV 7 (by simp)
      have hV8 := hV 8 (by simp)
      have hV9 := hV 9 (by simp)
      ((obtain ⟨b9, e9, l9, B9⟩ : ∃ b, x 9 = .pointer (some ⟨b, 0, none⟩) ∧ w.heap.size + 1 + 1 < b ∧ Blk wp b 89 [.bool false, .int .u64 0, .int .u64 0] := hV9); (obtain ⟨g2, hg2, e55⟩ : ∃ g, sgn g s.natAbs = s ∧ x 55 = .agg #[.bool g, .int .u64 0, .int .u64 s.natAbs] := hV8); have HG2 := Lib.hid hg2; clear hg2; simp only [List.map, List.getD_cons_zero, List.getD_cons_succ, putsD, e9, e55]; have BB := hHeld.2.2; clear hV hA hV3 hV7 e9 e55; have x0 := B9.cell (i := 0) rfl; have x1 := B9.cell (i := 1) rfl; have x2 := B9.cell (i := 2) rfl; have fx := B9.free)
      try simp only [List.map, List.getD_cons_zero, List.getD_cons_succ, putsD]
      try simp only [Act.put, List.setIfInBounds_toArray, List.set_cons_zero, List.set_cons_succ]
      refine wpAnyH_step (i := 10) (by kernel_rfl) rfl (fun KK hK => ?_)
      (go_simp)
      refine hK.out _ _ ?_ (fun hHeld => ?_)
      · (with_reducible exact R3S_ (((BB.far (p := ⟨b9, 0, none⟩) l9 _).far (p := ⟨b9, 1, none⟩) l9 _).far (p := ⟨b9, 2, none⟩) l9 _))
      clear hK KK
      try simp only [Act.put, List.setIfInBounds_toArray, List.set_cons_zero, List.set_cons_succ]
      refine wpAnyH_done (by kernel_rfl) ?_ _
      go_wp2_with fail
      go_meet
      exact ⟨b9, g2, rfl, l9, HG2.out, ((B9.set 0 (.bool g2)).set 1 (.int .u64 0)).set 2 (.int .u64 s.natAbs), hHeld.2.2⟩
    case rest =>
      obtain ⟨b9, g2, rfl, l9, hg2, B9, hT⟩ := hcut
      have T6 : Hid (R3 w wc an ad bn bd) := Lib.hid hT
      have HG2 := Lib.hid hg2
      clear hT hg2 T5
      have x0 := B9.cell (i := 0) rfl
      have x1 := B9.cell (i := 1) rfl
      have x2 := B9.cell (i := 2) rfl
      obtain ⟨c0, c1, d0, d1, o0, o1⟩ := T6.out.S
      obtain ⟨f0, f1, f2⟩ := T6.out.Fz
      obtain ⟨z0, z1, z2⟩ := T6.out.lts
      have B9 := Lib.hid B9
      by_cases hs0 : s = 0
      · have e0 := EZ.out hs0
        subst hs0
        subst e0
        simp only [Int.natAbs_zero, Int.natCast_zero] at x2
        have UB := T6.out.u
        go_wp2_with fail
        exact bodyPost_ret (v := .tuple #[.agg #[.int .i64 0, .int .i64 1], .int .i64 0]) (by simp [results, Tryz.results15, go_sem, o0, o1]) rfl ⟨rfl, by (repeat' (first | with_reducible assumption | with_reducible exact Below.refl _ _ | with_reducible refine Below.drewQ ?_ | with_reducible refine Below.drewNQ ?_ _ | with_reducible refine Below.setCell ?_ (by dsimp only; omega) _ | with_reducible refine Below.alloc ?_ (by simp <;> omega) _))⟩
      · have RS := Lib.hid (RS.out hs0)
        have k0 : ((s.natAbs : Int) == 0) = false := by simp; omega
        have kc : ((c : Int) == 0) = false := by simp; omega
        have e0 := ED.out g2 hs0 HG2.out
        subst e0
        clear ED EZ HG2 hs0
        generalize s.natAbs = sa at *
        go_wp2_with fail
        refine (DV1.out g2 _).mono ?_
        rintro e w6 ⟨rfl, hb⟩
        have T7 := Lib.hid (T6.out.bel hb)
        have B9' := Lib.hid (B9.out.bel hb)
        have x0 := B9'.out.cell (i := 0) rfl
        have x1 := B9'.out.cell (i := 1) rfl
        have x2 := B9'.out.cell (i := 2) rfl
        obtain ⟨c0, c1, d0, d1, o0, o1⟩ := T7.out.S
        obtain ⟨f0, f1, f2⟩ := T7.out.Fz
        obtain ⟨z0, z1, z2⟩ := T7.out.lts
        have z9 := B9'.out.lt
        clear hb T6 B9
        go_wp2_with fail
        refine (GC2.out _).mono ?_
        rintro e w7 ⟨rfl, hq⟩
        obtain ⟨nq, rfl⟩ := hq
        go_wp2_with fail
        refine (DV2.out g2 _).mono ?_
        rintro e w8 ⟨rfl, hb⟩
        have T8 := Lib.hid (((T7.out.alloc_ _).qt ⟨nq, rfl⟩).bel hb)
        obtain ⟨c0, c1, d0, d1, o0, o1⟩ := T8.out.S
        obtain ⟨f0, f1, f2⟩ := T8.out.Fz
        obtain ⟨z0, z1, z2⟩ := T8.out.lts
        clear hb T7 B9' x0 x1 x2
        go_wp2_with fail
        refine (Z2.out _).mono ?_
        rintro e w9 ⟨rfl, hw⟩
        subst hw
        go_wp2_with fail
        rw [← q3.out]
        try rw [Mul64.wrapN m (by omega)]
        refine (MU.out _).mono ?_
        rintro e w10 ⟨rfl, rfl⟩
        go_wp2_with fail
        refine (RS.out g2 _).mono ?_
        rintro e w11 ⟨rfl, hb⟩
        have T9 := Lib.hid ((T8.out.alloc_ _).bel hb)
        obtain ⟨c0, c1, d0, d1, o0, o1⟩ := T9.out.S
        obtain ⟨f0, f1, f2⟩ := T9.out.Fz
        clear hb T8
        have UB := T9.out.u
        go_wp2_with fail
        exact bodyPost_ret (v := .tuple #[.agg #[.int .i64 (sgn g2 x3), .int .i64 ((l * m : Nat) : Int)], .int .i64 0]) (by simp [results, Tryz.results15, go_sem, o0, o1]) rfl ⟨rfl, by (repeat' (first | with_reducible assumption | with_reducible exact Below.refl _ _ | with_reducible refine Below.drewQ ?_ | with_reducible refine Below.drewNQ ?_ _ | with_reducible refine Below.setCell ?_ (by dsimp only; omega) _ | with_reducible refine Below.alloc ?_ (by simp <;> omega) _))⟩
end Go.Proofs.YtkaaoomliepijaaGreat
