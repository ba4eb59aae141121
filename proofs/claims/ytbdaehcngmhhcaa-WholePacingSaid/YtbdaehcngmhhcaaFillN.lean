/-
  Capacities and demands divided by twelve are whole multiples, plainly.
-/
import Derived.Test.YtbdaehcngmhhcaaRatM
import Derived.Test.YtbdaehcngmhhcaaFillM
namespace Go.Proofs.Ytbdaehcngmhhcaa
set_option linter.unusedVariables false

theorem scale12 {c : Rq} (hc : c.V) (h0 : 0 ≤ c.n) (h12 : c.n ≤ 12) (h4 : c.d ≤ 4) : ∃ K, Rp uU (c.mul ⟨1, 12⟩) K ∧ uV 0 ∣ K ∧ 0 ≤ K ∧ K ≤ uU := by
  have hD : c.D = 1 ∨ c.D = 2 ∨ c.D = 3 ∨ c.D = 4 := by
    unfold Rq.D
    rcases hc with h | h
    · rw [if_pos h.2]; omega
    · rw [if_neg (by omega)]; omega
  have key : ∀ m : Nat, c.D * m = 12 → ∃ K, Rp uU (c.mul ⟨1, 12⟩) K ∧ uV 0 ∣ K ∧ 0 ≤ K ∧ K ≤ uU := fun m hm => by
    refine ⟨c.n * (8640 * m), Rp.div (by decide) (j := c.n * (103680 * m)) ⟨hc, ?_⟩ (by decide) (by rw [Int.mul_assoc]; congr 1; show _ = 8640 * (m : Int) * ((12 : Nat) : Int); omega), ⟨c.n * m, ?_⟩, ?_, ?_⟩
    · rw [Int.mul_assoc]
      congr 1
      have : ((c.D * m : Nat) : Int) = 12 := by omega
      rw [Int.natCast_mul] at this
      show ((1244160 : Nat) : Int) = _
      grind
    · show _ = 8640 * (c.n * m); grind
    · exact Int.mul_nonneg h0 (by omega)
    · have : c.n * (8640 * m) ≤ 12 * (8640 * m) := Int.mul_le_mul_of_nonneg_right h12 (by omega)
      have hm12 : m ≤ 12 := by
        rcases hD with e | e | e | e <;> rw [e] at hm <;> omega
      show _ ≤ ((1244160 : Nat) : Int)
      omega
  rcases hD with e | e | e | e <;> rw [e] at key
  · exact key 12 rfl
  · exact key 6 rfl
  · exact key 4 rfl
  · exact key 3 rfl
theorem sI_mono {f : Nat → Int} {m : Nat} (h : ∀ j < m, 0 ≤ f j) : ∀ {n : Nat}, n ≤ m → sI f n ≤ sI f m := by
  induction m with
  | zero => intro n hn; obtain rfl : n = 0 := by omega
            exact Int.le_refl _
  | succ m ih =>
    intro n hn
    by_cases e : n = m + 1
    · subst e; exact Int.le_refl _
    · have h1 := ih (fun j hj => h j (by omega)) (n := n) (by omega)
      have h2 := h m (by omega)
      simp only [sI]; omega
end Go.Proofs.Ytbdaehcngmhhcaa
