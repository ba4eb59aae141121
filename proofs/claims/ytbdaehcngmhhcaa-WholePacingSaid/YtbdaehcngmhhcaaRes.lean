/-
  Contracts of rational's wide.add in one form, of result, of Cmp.
-/
import Derived.Test.YtbdaehcngmhhcaaWadd
namespace Go.Proofs.Ytbdaehcngmhhcaa
open Go.RowKit
set_option linter.unusedVariables false

def WaPost (w : World) (s : Int) (e : Ending) (w' : World) : Prop := ∃ g2, sgn g2 s.natAbs = s ∧ e = .returned (wV g2 0 s.natAbs) ∧ Below w.heap.size w w'
theorem wadd_any (g g' : Bool) (l l' : Nat) (w : World) (h : l + l' < 18446744073709551616) :
    Calls Try.prog 30 #[wV g 0 l, wV g' 0 l'] w (WaPost w (sgn g l + sgn g' l')) := by
  by_cases hg : g = g'
  · subst hg
    refine (wadd_same g l l' w h).mono fun e w' ⟨h1, h2⟩ => ?_
    have e1 : (sgn g l + sgn g l').natAbs = l + l' := by cases g <;> simp [sgn] <;> omega
    refine ⟨g, ?_, by rw [e1]; exact h1, h2⟩
    rw [e1]
    cases g <;> simp [sgn] <;> omega
  · refine (wadd_diff g g' l l' w (by simpa using hg) (by omega) (by omega)).mono fun e w' ⟨h1, h2⟩ => ?_
    by_cases hl : l < l'
    · rw [if_pos hl] at h1
      have e1 : (sgn g l + sgn g' l').natAbs = l' - l := by cases g <;> cases g' <;> simp [sgn] at hg ⊢ <;> omega
      refine ⟨g', ?_, by rw [e1]; exact h1, h2⟩
      rw [e1]
      cases g <;> cases g' <;> simp [sgn] at hg ⊢ <;> omega
    · rw [if_neg hl] at h1
      have e1 : (sgn g l + sgn g' l').natAbs = l - l' := by cases g <;> cases g' <;> simp [sgn] at hg ⊢ <;> omega
      refine ⟨g, ?_, by rw [e1]; exact h1, h2⟩
      rw [e1]
      cases g <;> cases g' <;> simp [sgn] at hg ⊢ <;> omega
theorem wvS (g : Bool) (l : Nat) (w : World) (h : l ≤ 1152921504606846976) (B : Nat) (hB : B ≤ w.heap.size) :
    Calls Try.prog 36 #[wV g 0 l] w fun e w' => e = .returned (.int .i64 (sgn g l)) ∧ Below B w w' :=
  (signed_any g l w h).mono fun e w' h => ⟨h.1, h.2.mono hB⟩
def ResCut (w : World) (b : Nat) (n d : Int) (s : Value) (wx : World) : Prop := s = .int .i64 0 ∧ Blk wx b 29 [.int .i64 n, .int .i64 d] ∧ Below w.heap.size w wx
set_option maxRecDepth 100000 in
set_option maxHeartbeats 2000000 in
theorem result_any (g : Bool) (l d : Nat) (w : World) (hl : l ≤ 1152921504606846976) (hd : d ≤ 1152921504606846976) (h0 : l ≠ 0) :
    Calls Try.prog 20 #[wV g 0 l, wV false 0 d] w fun e w' => e = .returned (.tuple #[rV ⟨sgn g l, d⟩, .int .i64 0]) ∧ Below w.heap.size w w' := by
  have F1 := fun w => fits_any g l w hl
  have F2 := fun w => fits_any false d w hd
  have S1 := fun w => signed_any g l w hl
  have S2 := fun w => signed_any false d w hd
  have e2 : sgn false d = (d : Int) := rfl
  rw [e2] at S2
  generalize sgn g l = n at *
  have hz : ((l : Int) == 0) = false := by simp; omega
  unfold wV at F1 F2 S1 S2 ⊢
  simp only [Int.natCast_zero] at F1 F2 S1 S2
  unfold rV
  have F1 := Lib.hid F1; have F2 := Lib.hid F2; have S1 := Lib.hid S1; have S2 := Lib.hid S2
  have M3 := Lib.hid (fun c1 c2 c3 => B3.mk_ w 51 51 29 c1 c2 c3)
  clear hl hd h0 e2
  go_enter Try.func20, Try.ntmps20
  go_wp2_with fail
  refine (F1.out _).mono ?_
  rintro e w1 ⟨rfl, hb⟩
  have T := Lib.hid ((M3.out _ _ _).bel hb)
  clear hb M3
  have c0 := T.out.a.cell (i := 0) rfl
  have c1 := T.out.a.cell (i := 1) rfl
  have c2 := T.out.a.cell (i := 2) rfl
  have d0 := T.out.b.cell (i := 0) rfl
  have d1 := T.out.b.cell (i := 1) rfl
  have d2 := T.out.b.cell (i := 2) rfl
  go_wp2_with fail
  refine (F2.out _).mono ?_
  rintro e w2 ⟨rfl, hb⟩
  have T2 := Lib.hid (T.out.bel hb)
  clear hb T c0 c1 c2 d0 d1 d2
  go_upto_region 5 with (fail)
  go_cut [5] (fun s wx => ResCut w (w.heap.size + 1 + 1) n d s wx)
  case first =>
    have c0 := T2.out.a.cell (i := 0) rfl
    have c1 := T2.out.a.cell (i := 1) rfl
    have c2 := T2.out.a.cell (i := 2) rfl
    have d0 := T2.out.b.cell (i := 0) rfl
    have d1 := T2.out.b.cell (i := 1) rfl
    have d2 := T2.out.b.cell (i := 2) rfl
    have q0 := T2.out.c.cell (i := 0) rfl
    have q1 := T2.out.c.cell (i := 1) rfl
    have f2 := T2.out.c.free
    have B := T2.out.u
    have z := T2.out.lt
    have z1 : w.heap.size + 1 < w2.heap.size := by omega
    have z0 : w.heap.size < w2.heap.size := by omega
    have T3 := T2.out.qt (Qt.refl w2).drew
    go_region_with (first | (go_at_call 36; (with_reducible refine (S1.out _).mono ?_); rintro e w4 ⟨rfl, hb⟩; have TT := B3.bel (by with_reducible assumption) hb; have c0 := TT.a.cell (i := 0) rfl; have c1 := TT.a.cell (i := 1) rfl; have c2 := TT.a.cell (i := 2) rfl; have d0 := TT.b.cell (i := 0) rfl; have d1 := TT.b.cell (i := 1) rfl; have d2 := TT.b.cell (i := 2) rfl; have q0 := TT.c.cell (i := 0) rfl; have q1 := TT.c.cell (i := 1) rfl; have f2 := TT.c.free; have B := TT.u) | (go_at_call 36; (with_reducible refine (S2.out _).mono ?_); rintro e w4 ⟨rfl, hb⟩; have TT := B3.bel (by with_reducible assumption) hb; have c0 := TT.a.cell (i := 0) rfl; have c1 := TT.a.cell (i := 1) rfl; have c2 := TT.a.cell (i := 2) rfl; have d0 := TT.b.cell (i := 0) rfl; have d1 := TT.b.cell (i := 1) rfl; have d2 := TT.b.cell (i := 2) rfl; have q0 := TT.c.cell (i := 0) rfl; have q1 := TT.c.cell (i := 1) rfl; have f2 := TT.c.free; have B := TT.u))
    all_goals
      go_wp2_with fail
      go_meet
      exact ⟨rfl, (TT.c.set 0 _).set 1 _, by (repeat' (first | with_reducible assumption | with_reducible exact Below.refl _ _ | with_reducible refine Below.drewQ ?_ | with_reducible refine Below.drewNQ ?_ _ | with_reducible refine Below.setCell ?_ (by dsimp only; omega) _ | with_reducible refine Below.alloc ?_ (by simp <;> omega) _))⟩
  case rest =>
    obtain ⟨rfl, hB, hb⟩ := hcut
    have c0 := hB.cell (i := 0) rfl
    have c1 := hB.cell (i := 1) rfl
    have H := Lib.hid hb
    clear hB hb
    go_wp2_with fail
    exact bodyPost_ret (v := .tuple #[.agg #[.int .i64 n, .int .i64 d], .int .i64 0]) (by simp [results, Try.results20, go_sem, c0, c1]) rfl ⟨rfl, H.out⟩
end Go.Proofs.Ytbdaehcngmhhcaa
