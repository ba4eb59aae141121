/-
  Contracts of rational's wide.add at numbers of either sign, of result.
-/
import Derived.Test.YtbdaehcngmhhcaaValid
import Derived.Test.YtbdaehcngmhhcaaThree
namespace Go.Proofs.Ytbdaehcngmhhcaa
open Go.RowKit
set_option linter.unusedVariables false

set_option maxRecDepth 100000 in
set_option maxHeartbeats 1000000 in
theorem wadd_diff (g g' : Bool) (l l' : Nat) (w : World) (hg : (g == g') = false) (h : l < 18446744073709551616) (h' : l' < 18446744073709551616) :
    Calls Try.prog 30 #[wV g 0 l, wV g' 0 l'] w fun e w' => e = .returned (if l < l' then wV g' 0 (l' - l) else wV g 0 (l - l')) ∧ Below w.heap.size w w' := by
  have CP := fun w => compare_any g g' 0 l 0 l' w
  have M3 := Lib.hid (fun c1 c2 c3 => B3.mk_ w 51 51 51 c1 c2 c3)
  by_cases hl : l < l'
  · have e : cmpW 0 l 0 l' = -1 := by unfold cmpW; rw [if_pos (.inr ⟨rfl, hl⟩)]
    rw [e] at CP
    rw [if_pos hl]
    have k1 := fun w => run_sub64_0 l' l h' (Nat.le_of_lt hl) w
    have k2 : ∀ w, (callFunc 53 #[.int .u64 0, .int .u64 0, .int .u64 0]).run Try.prog w = .ok (.value (.tuple #[.int .u64 0, .int .u64 0])) w := fun w => run_sub64_0 0 0 (by omega) (by omega) w
    clear e hl h h'
    unfold wV at CP ⊢
    generalize l' - l = m at *
    have CP := Lib.hid CP
    go_enter Try.func30, Try.ntmps30
    go_wp2_with fail
    refine (CP.out _).mono ?_
    rintro e w1 ⟨rfl, hb⟩
    have T := Lib.hid ((M3.out _ _ _).bel hb)
    clear hb M3
    have c0 := T.out.a.cell (i := 0) rfl
    have c1 := T.out.a.cell (i := 1) rfl
    have c2 := T.out.a.cell (i := 2) rfl
    have d0 := T.out.b.cell (i := 0) rfl
    have d1 := T.out.b.cell (i := 1) rfl
    have d2 := T.out.b.cell (i := 2) rfl
    have q0 := T.out.c.cell (i := 0) rfl
    have q1 := T.out.c.cell (i := 1) rfl
    have q2 := T.out.c.cell (i := 2) rfl
    have f0 := T.out.a.free
    have f1 := T.out.b.free
    have f2 := T.out.c.free
    have z := T.out.lt
    go_wp2_with (first | simp only [k1] | simp only [k2])
    refine bodyPost_ret (v := .agg #[.bool g', .int .u64 0, .int .u64 m]) ?_ ?_ ?_
    · trace "a"
      simp [results, Try.results30, go_sem, q0, q1, q2]
    · trace "b"
      rfl
    · trace "c"
      refine ⟨rfl, ?_⟩
      have B := T.out.u; clear T; (repeat' (first | with_reducible assumption | with_reducible exact Below.refl _ _ | with_reducible refine Below.drewQ ?_ | with_reducible refine Below.drewNQ ?_ _ | with_reducible refine Below.setCell ?_ (by dsimp only; omega) _ | with_reducible refine Below.alloc ?_ (by simp <;> omega) _))
  · have e : 0 ≤ cmpW 0 l 0 l' ∧ cmpW 0 l 0 l' ≤ 1 := by unfold cmpW; rw [if_neg (by omega)]; split <;> omega
    generalize cmpW 0 l 0 l' = cc at *
    obtain ⟨e1, e2⟩ := e
    have e3 : ¬ cc < 0 := by omega
    rw [if_neg hl]
    have k1 := fun w => run_sub64_0 l l' h (by omega) w
    have k2 : ∀ w, (callFunc 53 #[.int .u64 0, .int .u64 0, .int .u64 0]).run Try.prog w = .ok (.value (.tuple #[.int .u64 0, .int .u64 0])) w := fun w => run_sub64_0 0 0 (by omega) (by omega) w
    clear hl h h'
    unfold wV at CP ⊢
    generalize l - l' = m at *
    have CP := Lib.hid CP
    go_enter Try.func30, Try.ntmps30
    go_wp2_with fail
    refine (CP.out _).mono ?_
    rintro e w1 ⟨rfl, hb⟩
    have T := Lib.hid ((M3.out _ _ _).bel hb)
    clear hb M3
    have c0 := T.out.a.cell (i := 0) rfl
    have c1 := T.out.a.cell (i := 1) rfl
    have c2 := T.out.a.cell (i := 2) rfl
    have d0 := T.out.b.cell (i := 0) rfl
    have d1 := T.out.b.cell (i := 1) rfl
    have d2 := T.out.b.cell (i := 2) rfl
    have q0 := T.out.c.cell (i := 0) rfl
    have q1 := T.out.c.cell (i := 1) rfl
    have q2 := T.out.c.cell (i := 2) rfl
    have f0 := T.out.a.free
    have f1 := T.out.b.free
    have f2 := T.out.c.free
    have z := T.out.lt
    go_wp2_with (first | simp only [k1] | simp only [k2])
    exact bodyPost_ret (v := .agg #[.bool g, .int .u64 0, .int .u64 m]) (by simp [results, Try.results30, go_sem, q0, q1, q2]) rfl ⟨by simp, by have B := T.out.u; clear T; (repeat' (first | with_reducible assumption | with_reducible exact Below.refl _ _ | with_reducible refine Below.drewQ ?_ | with_reducible refine Below.drewNQ ?_ _ | with_reducible refine Below.setCell ?_ (by dsimp only; omega) _ | with_reducible refine Below.alloc ?_ (by simp <;> omega) _))⟩
end Go.Proofs.Ytbdaehcngmhhcaa
