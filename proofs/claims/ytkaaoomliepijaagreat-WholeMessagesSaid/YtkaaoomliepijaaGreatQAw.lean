/-
  Contracts of rational.Sub, Div, and of awake; numbers in whole units that have a denominator.
-/
import Derived.Test.YtkaaoomliepijaaGreatQAdd
namespace Go.Proofs.YtkaaoomliepijaaGreat
open Go.RowKit
set_option linter.unusedVariables false

section
variable {U : Nat} {a b : Rq} {j k : Int}
end
theorem half_third : Rq.add ⟨1, 2⟩ ⟨1, 3⟩ = ⟨5, 6⟩ := by
  have h : (Rq.add ⟨1, 2⟩ ⟨1, 3⟩).n = 5 ∧ (Rq.add ⟨1, 2⟩ ⟨1, 3⟩).d = 6 := by decide +kernel
  generalize Rq.add ⟨1, 2⟩ ⟨1, 3⟩ = r at *
  obtain ⟨n, d⟩ := r
  obtain ⟨rfl, rfl⟩ := h
  rfl
theorem sm_lit {n d : Nat} (h1 : n = 1) (h2 : 1 ≤ d) (h3 : d ≤ 1000) : Sm ⟨(n : Int), (d : Int)⟩ :=
  ⟨.inr ⟨by show (1 : Int) ≤ (d : Int); omega, by subst h1; exact Nat.coprime_one_left _⟩, by dsimp only; omega, by dsimp only; omega, by dsimp only; omega, by dsimp only; omega⟩
set_option maxRecDepth 100000 in
set_option maxHeartbeats 2000000 in
theorem awake_any (w : World) : Calls Tryz.prog 4 #[] w fun e w' => e = .returned (.bool true) ∧ Below w.heap.size w w' := by
  have AD := fun w => add_any ⟨1, 2⟩ ⟨1, 3⟩ w (sm_lit (n := 1) (d := 2) rfl (by omega) (by omega)) (sm_lit (n := 1) (d := 3) rfl (by omega) (by omega))
  rw [half_third] at AD
  unfold rV at AD
  replace AD := Lib.hid AD
  go_enter Tryz.func4, Tryz.ntmps4
  go_wp2_with fail
  refine (AD.out _).mono ?_
  rintro e w3 ⟨rfl, hb⟩
  have hz := hb.size
  go_wp2_with fail
  go_ret
  exact ⟨rfl, by (repeat' (first | with_reducible assumption | with_reducible exact Below.refl _ _ | with_reducible refine Below.drewQ ?_ | with_reducible refine Below.drewNQ ?_ _ | with_reducible refine Below.setCell ?_ (by dsimp only; omega) _ | with_reducible refine Below.alloc ?_ (by first | omega | (simp; done) | (simp; omega)) _))⟩
end Go.Proofs.YtkaaoomliepijaaGreat
