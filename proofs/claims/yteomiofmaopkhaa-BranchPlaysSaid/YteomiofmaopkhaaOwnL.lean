/-
  Contract of own (the frames that are to leave at an output).
-/
import Derived.Test.YteomiofmaopkhaaBrMask
namespace Go.Proofs.Yteomiofmaopkhaa
open Go.RowKit
set_option linter.unusedVariables false

/-- The numbers of the lists that hold x, counted from n. -/
def ownIds (x : Int) : Nat → List (List Int) → List Int
  | _, [] => []
  | n, l :: ls => if x ∈ l then (n : Int) :: ownIds x (n + 1) ls else ownIds x (n + 1) ls
theorem ownIds_app (x : Int) : ∀ (ls : List (List Int)) (n : Nat) (l : List Int), ownIds x n (ls ++ [l]) = ownIds x n ls ++ if x ∈ l then [((n + ls.length : Nat) : Int)] else []
  | [], n, l => by simp [ownIds]
  | a :: ls, n, l => by
    have ih := ownIds_app x ls (n + 1) l
    have e : n + 1 + ls.length = n + (ls.length + 1) := by omega
    rw [e] at ih
    unfold ownIds
    rw [List.cons_append]
    simp only [List.length_cons]
    split <;> simp_all [ownIds]
theorem ownIds_len (x : Int) : ∀ (ls : List (List Int)) (n : Nat), (ownIds x n ls).length ≤ ls.length
  | [], _ => by simp [ownIds]
  | a :: ls, n => by
    have := ownIds_len x ls (n + 1)
    unfold ownIds
    split <;> simp <;> omega
theorem ownIds_step {x : Int} {ls : List (List Int)} {k : Nat} {l : List Int} (h : ls[k]? = some l) : ownIds x 0 (ls.take (k + 1)) = ownIds x 0 (ls.take k) ++ if x ∈ l then [(k : Int)] else [] := by
  have hk : k < ls.length := get_lt h
  rw [List.take_add_one, h]
  have := ownIds_app x (ls.take k) 0 l
  rw [List.length_take, Nat.min_eq_left (by omega), Nat.zero_add] at this
  exact this
end Go.Proofs.Yteomiofmaopkhaa
