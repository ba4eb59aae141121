/-
  Which outputs Put refuses, in plain lists.
-/
import Derived.Test.YteomiofmaopkhaaFits
namespace Go.Proofs.Yteomiofmaopkhaa
open Go.RowKit

theorem hasB_testBit (m k : Nat) : hasB m k = m.testBit k := by
  unfold hasB
  cases h : m.testBit k
  · have e : m &&& 2 ^ k = 0 := by
      apply Nat.eq_of_testBit_eq
      intro i
      rw [Nat.testBit_and, Nat.testBit_two_pow]
      by_cases e : k = i
      · subst e; simp [h]
      · simp [e]
    simp [e]
  · have e : m &&& 2 ^ k ≠ 0 := by
      intro e
      have e2 := congrArg (fun n => Nat.testBit n k) e
      simp [Nat.testBit_and, h] at e2
    simp [e]
theorem hasB_setB (m i j : Nat) : hasB (setB m i) j = (hasB m j || decide (i = j)) := by
  unfold setB
  rw [hasB_testBit, hasB_testBit, Nat.testBit_or, Nat.testBit_two_pow]
/-- An output is wrong: out of range, or seen before. -/
def wrongL (o : Int) : List Int → List Int → Bool
  | _, [] => false
  | seen, z :: zs => decide (z < 0) || decide (o ≤ z) || decide (z ∈ seen) || wrongL o (seen ++ [z]) zs
theorem putMask_wrong {o : Int} : ∀ (l seen : List Int) (m : Nat), (∀ j : Nat, hasB m j = decide ((j : Int) ∈ seen)) → (putMask o l m).isNone = wrongL o seen l
  | [], _, _, _ => rfl
  | z :: zs, seen, m, h => by
    unfold putMask wrongL
    by_cases h0 : z < 0
    · simp [h0]
    · by_cases h1 : o ≤ z
      · simp [h1]
      · have hz : ((z.toNat : Nat) : Int) = z := Int.toNat_of_nonneg (by omega)
        have h2 := h z.toNat
        rw [hz] at h2
        by_cases h3 : z ∈ seen
        · simp [h2, h3]
        · have h4 : hasB m z.toNat = false := by rw [h2]; simp [h3]
          rw [if_neg (by simp [h0, h1, h4])]
          have ih := putMask_wrong (o := o) zs (seen ++ [z]) (setB m z.toNat) (fun j => by
            rw [hasB_setB, h j]
            by_cases h5 : z.toNat = j
            · have : (j : Int) = z := by omega
              simp [h5, this]
            · have : ¬ (j : Int) = z := by omega
              simp [h5, this])
          rw [ih]
          simp [h0, h1, h3]
end Go.Proofs.Yteomiofmaopkhaa
