/-
  Contracts of rational's wide.add at numbers of either sign, of result.
  Contracts of rational's wide.add in one form, of result, of Cmp.
  Contract of rational.Cmp.
-/
import Derived.Test.YtkaaoomliepijaaGreatQValid
import Derived.Test.YtkaaoomliepijaaGreatQThree
import Derived.Test.YtkaaoomliepijaaGreatQPar
import Derived.Shelf.Abstract
namespace Go.Proofs.YtkaaoomliepijaaGreat
open Go.RowKit
set_option linter.unusedVariables false

set_option maxRecDepth 100000 in
set_option maxHeartbeats 1000000 in
theorem wadd_diff (g g' : Bool) (l l' : Nat) (w : World) (hg : (g == g') = false) (h : l < 18446744073709551616) (h' : l' < 18446744073709551616) :
    Calls Tryz.prog 38 #[wV g 0 l, wV g' 0 l'] w fun e w' => e = .returned (if l < l' then wV g' 0 (l' - l) else wV g 0 (l - l')) ∧ Below w.heap.size w w' := by
  have CP := fun w => compare_any g g' 0 l 0 l' w
  have M3 := Lib.hid (fun c1 c2 c3 => B3.mk_ w 89 89 89 c1 c2 c3)
  by_cases hl : l < l'
  · have e : cmpW 0 l 0 l' = -1 := by unfold cmpW; rw [if_pos (.inr ⟨rfl, hl⟩)]
    rw [e] at CP
    rw [if_pos hl]
    have k1 := fun w => run_sub64_0 l' l h' (Nat.le_of_lt hl) w
    have k2 : ∀ w, (callFunc 62 #[.int .u64 0, .int .u64 0, .int .u64 0]).run Tryz.prog w = .ok (.value (.tuple #[.int .u64 0, .int .u64 0])) w := fun w => run_sub64_0 0 0 (by omega) (by omega) w
    clear e hl h h'
    unfold wV at CP ⊢
    generalize l' - l = m at *
    have CP := Lib.hid CP
    go_enter Tryz.func38, Tryz.ntmps38
    go_wp2_with fail
    refine (CP.out _).mono ?_
    rintro e w1 ⟨rfl, hb⟩
    have T := Lib.hid ((M3.out _ _ _).bel hb)
    clear hb M3
    have c0 := T.out.a.cell (i := 0) rfl
    have c1 := T.out.a.cell (i := 1) rfl
    have c2 := T.out.a.cell (i := 2) rfl
    have d0 := T.out.b.cell (i := 0) rfl
    have d1 := T.out.b.cell (i := 1) rfl
    have d2 := T.out.b.cell (i := 2) rfl
    have q0 := T.out.c.cell (i := 0) rfl
    have q1 := T.out.c.cell (i := 1) rfl
    have q2 := T.out.c.cell (i := 2) rfl
    have f0 := T.out.a.free
    have f1 := T.out.b.free
    have f2 := T.out.c.free
    have z := T.out.lt
    go_wp2_with (first | simp only [k1] | simp only [k2])
    refine bodyPost_ret (v := .agg #[.bool g', .int .u64 0, .int .u64 m]) ?_ ?_ ?_
    · trace "a"
      simp [results, Tryz.results38, go_sem, q0, q1, q2]
    · trace "b"
      rfl
    · trace "c"
      refine ⟨rfl, ?_⟩
      have B := T.out.u; clear T; (repeat' (first | with_reducible assumption | with_reducible exact Below.refl _ _ | with_reducible refine Below.drewQ ?_ | with_reducible refine Below.drewNQ ?_ _ | with_reducible refine Below.setCell ?_ (by dsimp only; omega) _ | with_reducible refine Below.alloc ?_ (by simp <;> omega) _))
  · have e : 0 ≤ cmpW 0 l 0 l' ∧ cmpW 0 l 0 l' ≤ 1 := by unfold cmpW; rw [if_neg (by omega)]; split <;> omega
    generalize cmpW 0 l 0 l' = cc at *
    obtain ⟨e1, e2⟩ := e
    have e3 : ¬ cc < 0 := by omega
    rw [if_neg hl]
    have k1 := fun w => run_sub64_0 l l' h (by omega) w
    have k2 : ∀ w, (callFunc 62 #[.int .u64 0, .int .u64 0, .int .u64 0]).run Tryz.prog w = .ok (.value (.tuple #[.int .u64 0, .int .u64 0])) w := fun w => run_sub64_0 0 0 (by omega) (by omega) w
    clear hl h h'
    unfold wV at CP ⊢
    generalize l - l' = m at *
    have CP := Lib.hid CP
    go_enter Tryz.func38, Tryz.ntmps38
    go_wp2_with fail
    refine (CP.out _).mono ?_
    rintro e w1 ⟨rfl, hb⟩
    have T := Lib.hid ((M3.out _ _ _).bel hb)
    clear hb M3
    have c0 := T.out.a.cell (i := 0) rfl
    have c1 := T.out.a.cell (i := 1) rfl
    have c2 := T.out.a.cell (i := 2) rfl
    have d0 := T.out.b.cell (i := 0) rfl
    have d1 := T.out.b.cell (i := 1) rfl
    have d2 := T.out.b.cell (i := 2) rfl
    have q0 := T.out.c.cell (i := 0) rfl
    have q1 := T.out.c.cell (i := 1) rfl
    have q2 := T.out.c.cell (i := 2) rfl
    have f0 := T.out.a.free
    have f1 := T.out.b.free
    have f2 := T.out.c.free
    have z := T.out.lt
    go_wp2_with (first | simp only [k1] | simp only [k2])
    exact bodyPost_ret (v := .agg #[.bool g, .int .u64 0, .int .u64 m]) (by simp [results, Tryz.results38, go_sem, q0, q1, q2]) rfl ⟨by simp, by have B := T.out.u; clear T; (repeat' (first | with_reducible assumption | with_reducible exact Below.refl _ _ | with_reducible refine Below.drewQ ?_ | with_reducible refine Below.drewNQ ?_ _ | with_reducible refine Below.setCell ?_ (by dsimp only; omega) _ | with_reducible refine Below.alloc ?_ (by simp <;> omega) _))⟩
end Go.Proofs.YtkaaoomliepijaaGreat
namespace Go.Proofs.YtkaaoomliepijaaGreat
open Go.RowKit
set_option linter.unusedVariables false

def WaPost (w : World) (s : Int) (e : Ending) (w' : World) : Prop := ∃ g2, sgn g2 s.natAbs = s ∧ e = .returned (wV g2 0 s.natAbs) ∧ Below w.heap.size w w'
theorem wadd_any (g g' : Bool) (l l' : Nat) (w : World) (h : l + l' < 18446744073709551616) :
    Calls Tryz.prog 38 #[wV g 0 l, wV g' 0 l'] w (WaPost w (sgn g l + sgn g' l')) := by
  by_cases hg : g = g'
  · subst hg
    refine (wadd_same g l l' w h).mono fun e w' ⟨h1, h2⟩ => ?_
    have e1 : (sgn g l + sgn g l').natAbs = l + l' := by cases g <;> simp [sgn] <;> omega
    refine ⟨g, ?_, by rw [e1]; exact h1, h2⟩
    rw [e1]
    cases g <;> simp [sgn] <;> omega
  · refine (wadd_diff g g' l l' w (by simpa using hg) (by omega) (by omega)).mono fun e w' ⟨h1, h2⟩ => ?_
    by_cases hl : l < l'
    · rw [if_pos hl] at h1
      have e1 : (sgn g l + sgn g' l').natAbs = l' - l := by cases g <;> cases g' <;> simp [sgn] at hg ⊢ <;> omega
      refine ⟨g', ?_, by rw [e1]; exact h1, h2⟩
      rw [e1]
      cases g <;> cases g' <;> simp [sgn] at hg ⊢ <;> omega
    · rw [if_neg hl] at h1
      have e1 : (sgn g l + sgn g' l').natAbs = l - l' := by cases g <;> cases g' <;> simp [sgn] at hg ⊢ <;> omega
      refine ⟨g, ?_, by rw [e1]; exact h1, h2⟩
      rw [e1]
      cases g <;> cases g' <;> simp [sgn] at hg ⊢ <;> omega
theorem wvS (g : Bool) (l : Nat) (w : World) (h : l ≤ 1152921504606846976) (B : Nat) (hB : B ≤ w.heap.size) :
    Calls Tryz.prog 65 #[wV g 0 l] w fun e w' => e = .returned (.int .i64 (sgn g l)) ∧ Below B w w' :=
  (signed_any g l w h).mono fun e w' h => ⟨h.1, h.2.mono hB⟩
def ResCut (w : World) (b : Nat) (n d : Int) (s : Value) (wx : World) : Prop := s = .int .i64 0 ∧ Blk wx b 45 [.int .i64 n, .int .i64 d] ∧ Below w.heap.size w wx
set_option maxRecDepth 100000 in
set_option maxHeartbeats 2000000 in
theorem result_any (g : Bool) (l d : Nat) (w : World) (hl : l ≤ 1152921504606846976) (hd : d ≤ 1152921504606846976) (h0 : l ≠ 0) :
    Calls Tryz.prog 41 #[wV g 0 l, wV false 0 d] w fun e w' => e = .returned (.tuple #[rV ⟨sgn g l, d⟩, .int .i64 0]) ∧ Below w.heap.size w w' := by
  have F1 := fun w => fits_any g l w hl
  have F2 := fun w => fits_any false d w hd
  have S1 := fun w => signed_any g l w hl
  have S2 := fun w => signed_any false d w hd
  have e2 : sgn false d = (d : Int) := rfl
  rw [e2] at S2
  generalize sgn g l = n at *
  have hz : ((l : Int) == 0) = false := by simp; omega
  unfold wV at F1 F2 S1 S2 ⊢
  simp only [Int.natCast_zero] at F1 F2 S1 S2
  unfold rV
  have F1 := Lib.hid F1; have F2 := Lib.hid F2; have S1 := Lib.hid S1; have S2 := Lib.hid S2
  have M3 := Lib.hid (fun c1 c2 c3 => B3.mk_ w 89 89 45 c1 c2 c3)
  clear hl hd h0 e2
  go_enter Tryz.func41, Tryz.ntmps41
  go_wp2_with fail
  refine (F1.out _).mono ?_
  rintro e w1 ⟨rfl, hb⟩
  have T := Lib.hid ((M3.out _ _ _).bel hb)
  clear hb M3
  have c0 := T.out.a.cell (i := 0) rfl
  have c1 := T.out.a.cell (i := 1) rfl
  have c2 := T.out.a.cell (i := 2) rfl
  have d0 := T.out.b.cell (i := 0) rfl
  have d1 := T.out.b.cell (i := 1) rfl
  have d2 := T.out.b.cell (i := 2) rfl
  go_wp2_with fail
  refine (F2.out _).mono ?_
  rintro e w2 ⟨rfl, hb⟩
  have T2 := Lib.hid (T.out.bel hb)
  clear hb T c0 c1 c2 d0 d1 d2
  go_upto_region 5 with (fail)
  go_cut [5] (fun s wx => ResCut w (w.heap.size + 1 + 1) n d s wx)
  case first =>
    have c0 := T2.out.a.cell (i := 0) rfl
    have c1 := T2.out.a.cell (i := 1) rfl
    have c2 := T2.out.a.cell (i := 2) rfl
    have d0 := T2.out.b.cell (i := 0) rfl
    have d1 := T2.out.b.cell (i := 1) rfl
    have d2 := T2.out.b.cell (i := 2) rfl
    have q0 := T2.out.c.cell (i := 0) rfl
    have q1 := T2.out.c.cell (i := 1) rfl
    have f2 := T2.out.c.free
    have B := T2.out.u
    have z := T2.out.lt
    have z1 : w.heap.size + 1 < w2.heap.size := by omega
    have z0 : w.heap.size < w2.heap.size := by omega
    have T3 := T2.out.qt (Qt.refl w2).drew
    go_region_with (first | (go_at_call 65; (with_reducible refine (S1.out _).mono ?_); rintro e w4 ⟨rfl, hb⟩; have TT := B3.bel (by with_reducible assumption) hb; have c0 := TT.a.cell (i := 0) rfl; have c1 := TT.a.cell (i := 1) rfl; have c2 := TT.a.cell (i := 2) rfl; have d0 := TT.b.cell (i := 0) rfl; have d1 := TT.b.cell (i := 1) rfl; have d2 := TT.b.cell (i := 2) rfl; have q0 := TT.c.cell (i := 0) rfl; have q1 := TT.c.cell (i := 1) rfl; have f2 := TT.c.free; have B := TT.u) | (go_at_call 65; (with_reducible refine (S2.out _).mono ?_); rintro e w4 ⟨rfl, hb⟩; have TT := B3.bel (by with_reducible assumption) hb; have c0 := TT.a.cell (i := 0) rfl; have c1 := TT.a.cell (i := 1) rfl; have c2 := TT.a.cell (i := 2) rfl; have d0 := TT.b.cell (i := 0) rfl; have d1 := TT.b.cell (i := 1) rfl; have d2 := TT.b.cell (i := 2) rfl; have q0 := TT.c.cell (i := 0) rfl; have q1 := TT.c.cell (i := 1) rfl; have f2 := TT.c.free; have B := TT.u))
    all_goals
      go_wp2_with fail
      go_meet
      exact ⟨rfl, (TT.c.set 0 _).set 1 _, by (repeat' (first | with_reducible assumption | with_reducible exact Below.refl _ _ | with_reducible refine Below.drewQ ?_ | with_reducible refine Below.drewNQ ?_ _ | with_reducible refine Below.setCell ?_ (by dsimp only; omega) _ | with_reducible refine Below.alloc ?_ (by simp <;> omega) _))⟩
  case rest =>
    obtain ⟨rfl, hB, hb⟩ := hcut
    have c0 := hB.cell (i := 0) rfl
    have c1 := hB.cell (i := 1) rfl
    have H := Lib.hid hb
    clear hB hb
    go_wp2_with fail
    exact bodyPost_ret (v := .tuple #[.agg #[.int .i64 n, .int .i64 d], .int .i64 0]) (by simp [results, Tryz.results41, go_sem, c0, c1]) rfl ⟨rfl, H.out⟩
end Go.Proofs.YtkaaoomliepijaaGreat
namespace Go.Proofs.YtkaaoomliepijaaGreat
open Go.RowKit
set_option linter.unusedVariables false

theorem size_drewQ (w : World) : w.drew.heap.size = w.heap.size := rfl
theorem ltQ {b n m : Nat} (h : b < n) (k : n ≤ m) : b < m ∧ b < m + 1 ∧ b < m + 1 + 1 ∧ b < m + 2 := by omega
def cmpI (x y : Int) : Int := if x < y then -1 else if x = y then 0 else 1
def Rq.cmp (a b : Rq) : Int := cmpI (a.n * b.D) (b.n * a.D)
theorem cmpW_eq (x y : Nat) : cmpW (x / 18446744073709551616) (x % 18446744073709551616) (y / 18446744073709551616) (y % 18446744073709551616) = cmpI x y := by
  unfold cmpW cmpI
  split
  · rw [if_pos (by omega)]
  · split
    · rw [if_neg (by omega), if_pos (by omega)]
    · rw [if_neg (by omega), if_neg (by omega)]
theorem cmp_signs (a b : Rq) (ha : a.V) (hb : b.V) : a.cmp b =
    (if decide (a.n < 0) then (if decide (b.n < 0) then cmpI (b.n.natAbs * a.D : Nat) (a.n.natAbs * b.D : Nat) else -1) else if decide (b.n < 0) then 1 else cmpI (a.n.natAbs * b.D : Nat) (b.n.natAbs * a.D : Nat)) := by
  have h1 : (0 : Int) < a.D := by have := ha.pos; omega
  have h2 : (0 : Int) < b.D := by have := hb.pos; omega
  unfold Rq.cmp
  generalize (a.D : Nat) = x at *
  generalize (b.D : Nat) = y at *
  simp only [decide_eq_true_eq, Int.natCast_mul]
  by_cases ha : a.n < 0
  · have e1 : ((a.n.natAbs : Nat) : Int) = -a.n := by omega
    have k1 : a.n * (y : Int) < 0 := Int.mul_neg_of_neg_of_pos ha h2
    rw [if_pos ha]
    by_cases hb : b.n < 0
    · have e2 : ((b.n.natAbs : Nat) : Int) = -b.n := by omega
      rw [if_pos hb, e1, e2, Int.neg_mul, Int.neg_mul]
      unfold cmpI
      generalize a.n * (y : Int) = u at *
      generalize b.n * (x : Int) = v at *
      by_cases h : u < v
      · rw [if_pos h, if_pos (by omega)]
      · by_cases h' : u = v
        · rw [if_neg h, if_pos h', if_neg (by omega), if_pos (by omega)]
        · rw [if_neg h, if_neg h', if_neg (by omega), if_neg (by omega)]
    · have k2 : 0 ≤ b.n * (x : Int) := Int.mul_nonneg (by omega) (by omega)
      rw [if_neg hb]
      unfold cmpI
      rw [if_pos (by omega)]
  · have e1 : ((a.n.natAbs : Nat) : Int) = a.n := by omega
    have k1 : 0 ≤ a.n * (y : Int) := Int.mul_nonneg (by omega) (by omega)
    rw [if_neg ha]
    by_cases hb : b.n < 0
    · have k2 : b.n * (x : Int) < 0 := Int.mul_neg_of_neg_of_pos hb h1
      rw [if_pos hb]
      unfold cmpI
      rw [if_neg (by omega), if_neg (by omega)]
    · have e2 : ((b.n.natAbs : Nat) : Int) = b.n := by omega
      rw [if_neg hb, e1, e2]
theorem Rq.D_eq (a : Rq) (h : a.ok = true) : (a.D : Int) = if a.d = 0 then 1 else a.d := by
  have := Rq.ok_bd h
  unfold Rq.D
  split
  · rfl
  · omega
theorem B2.S {w wx : World} {T : TypeId} {n d m e : Int} (h : B2 w wx T T [.int .i64 n, .int .i64 d] [.int .i64 m, .int .i64 e]) :
    wx.cell? ⟨w.heap.size, 0, none⟩ = some (.int .i64 n) ∧ wx.cell? ⟨w.heap.size, 1, none⟩ = some (.int .i64 d) ∧ wx.cell? ⟨w.heap.size + 1, 0, none⟩ = some (.int .i64 m) ∧ wx.cell? ⟨w.heap.size + 1, 1, none⟩ = some (.int .i64 e) ∧ B2 w wx T T [.int .i64 n, .int .i64 d] [.int .i64 m, .int .i64 e] :=
  ⟨h.a.cell rfl, h.a.cell rfl, h.b.cell rfl, h.b.cell rfl, h⟩
/-- What the operations of Cmp's two products leave. -/
def CmpV (w0 : World) (p q xh xl yh yl : Nat) (gx gy : Bool) (i : Nat) (v : Value) (w : World) : Prop :=
  if i = 4 then v = .int .u64 q else if i = 5 then v = .agg #[.bool gx, .int .u64 xh, .int .u64 xl] else if i = 10 then v = .int .u64 p else if i = 11 then v = .agg #[.bool gy, .int .u64 yh, .int .u64 yl]
  else ∃ b, v = .pointer (some ⟨b, 0, none⟩) ∧ w0.heap.size + 1 < b ∧ Blk w b 89 [.bool false, .int .u64 0, .int .u64 0]
theorem CmpV.ext {w0 : World} {p q xh xl yh yl : Nat} {gx gy : Bool} {i : Nat} {v : Value} {w w' : World} (hb : Below w.heap.size w w') (h : CmpV w0 p q xh xl yh yl gx gy i v w) : CmpV w0 p q xh xl yh yl gx gy i v w' := by
  unfold CmpV at *
  repeat' split
  all_goals simp only [*, if_true, if_false] at h
  all_goals first | exact h | (obtain ⟨b, h1, h2, h3⟩ := h; exact ⟨b, h1, h2, h3.bel hb⟩)
theorem CmpV.apt {w0 : World} {p q xh xl yh yl : Nat} {gx gy : Bool} {i : Nat} {v : Value} {w : World} (h : CmpV w0 p q xh xl yh yl gx gy i v w) : Apt (.pointer (some ⟨w.heap.size, 0, none⟩)) v := by
  intro b c hb hc
  injection hb with hb; injection hb with hb; injection hb with hb
  subst hb
  subst hc
  unfold CmpV at h
  by_cases e4 : i = 4
  · rw [if_pos e4] at h; cases h
  by_cases e5 : i = 5
  · rw [if_neg e4, if_pos e5] at h; cases h
  by_cases e10 : i = 10
  · rw [if_neg e4, if_neg e5, if_pos e10] at h; cases h
  by_cases e11 : i = 11
  · rw [if_neg e4, if_neg e5, if_neg e10, if_pos e11] at h; cases h
  rw [if_neg e4, if_neg e5, if_neg e10, if_neg e11] at h
  obtain ⟨x, h1, h2, h3⟩ := h
  injection h1 with h1; injection h1 with h1; injection h1 with h1
  have := h3.lt
  omega
def CmpE (w w' : World) : Prop := Below w.heap.size w w'
def st6 (wp : World) (b5 b6 : Nat) (gx : Bool) (xh xl : Nat) (gy : Bool) (yh yl : Nat) : World := ((((((wp.setCell ⟨b5, 0, none⟩ (.bool gx)).setCell ⟨b5, 1, none⟩ (.int .u64 xh)).setCell ⟨b5, 2, none⟩ (.int .u64 xl)).setCell ⟨b6, 0, none⟩ (.bool gy)).setCell ⟨b6, 1, none⟩ (.int .u64 yh)).setCell ⟨b6, 2, none⟩ (.int .u64 yl))
structure St6 (w W : World) (b5 b6 : Nat) (gx : Bool) (xh xl : Nat) (gy : Bool) (yh yl : Nat) : Prop where
  a : Blk W b5 89 [.bool gx, .int .u64 xh, .int .u64 xl]
  b : Blk W b6 89 [.bool gy, .int .u64 yh, .int .u64 yl]
  u : Below w.heap.size w W
theorem st6_ok {w wp : World} {b5 b6 : Nat} (gx : Bool) (xh xl : Nat) (gy : Bool) (yh yl : Nat) (hne : b5 ≠ b6) (l5 : w.heap.size + 1 < b5) (l6 : w.heap.size + 1 < b6) (u : Below w.heap.size w wp)
    (B5 : Blk wp b5 89 [.bool false, .int .u64 0, .int .u64 0]) (B6 : Blk wp b6 89 [.bool false, .int .u64 0, .int .u64 0]) : St6 w (st6 wp b5 b6 gx xh xl gy yh yl) b5 b6 gx xh xl gy yh yl := by
  have hne' := hne.symm
  refine ⟨?_, ?_, ?_⟩
  · exact ((((((B5.set 0 (.bool gx)).set 1 (.int .u64 xh)).set 2 (.int .u64 xl)).setO (a := ⟨b6, 0, none⟩) (.bool gy) hne).setO (a := ⟨b6, 1, none⟩) (.int .u64 yh) hne).setO (a := ⟨b6, 2, none⟩) (.int .u64 yl) hne)
  · exact ((((((B6.setO (a := ⟨b5, 0, none⟩) (.bool gx) hne').setO (a := ⟨b5, 1, none⟩) (.int .u64 xh) hne').setO (a := ⟨b5, 2, none⟩) (.int .u64 xl) hne').set 0 (.bool gy)).set 1 (.int .u64 yh)).set 2 (.int .u64 yl))
  · exact (((((u.setCell (by dsimp only; omega) _).setCell (by dsimp only; omega) _).setCell (by dsimp only; omega) _).setCell (by dsimp only; omega) _).setCell (by dsimp only; omega) _).setCell (by dsimp only; omega) _
def CmpCut (w : World) (n d m e : Int) (wx : World) : Prop := B2 w wx 45 45 [.int .i64 n, .int .i64 d] [.int .i64 m, .int .i64 e]
end Go.Proofs.YtkaaoomliepijaaGreat
