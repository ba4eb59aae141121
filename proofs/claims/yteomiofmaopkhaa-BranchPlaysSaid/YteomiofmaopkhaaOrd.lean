/-
  The order at each output, in plain lists.
-/
import Derived.Test.YteomiofmaopkhaaOwnA
namespace Go.Proofs.Yteomiofmaopkhaa
open Go.RowKit

theorem putMask_bits {o : Int} : ∀ (l : List Int) (m r : Nat), putMask o l m = some r → ∀ j : Nat, hasB r j = (hasB m j || decide ((j : Int) ∈ l))
  | [], m, r, h, j => by simp [putMask] at h; simp [h]
  | z :: zs, m, r, h, j => by
    unfold putMask at h
    split at h
    · simp at h
    · rename_i hc
      rw [putMask_bits zs _ r h j, hasB_setB]
      have hz : 0 ≤ z := by omega
      by_cases e : z.toNat = j
      · have : (j : Int) = z := by omega
        simp [e, this]
      · have : ¬ (j : Int) = z := by omega
        simp [e, this]
/-- What has left at output k, and what waits there, is what was put for it. -/
def OrdSt (o : Nat) (st : RunSt) : Prop := ∀ k : Nat, k < o → ∃ l, st.left[k]? = some l ∧ l ++ wIds st.fs k = ownIds k 0 st.put
theorem OrdSt.init (o : Nat) : OrdSt o ⟨[], List.replicate o [], [], 0⟩ := fun k hk => ⟨[], by simp [hk], by simp [wIds, ownIds]⟩
theorem OrdSt.put {o : Nat} {st : RunSt} (h : OrdSt o st) (room : Int) (outs : List Int) : OrdSt o (putSt o room outs st) := by
  unfold putSt
  split
  · exact h
  · rename_i m hm
    split
    · intro k hk
      obtain ⟨l, h1, h2⟩ := h k hk
      refine ⟨l, h1, ?_⟩
      have hb := putMask_bits _ _ _ hm k
      have h0 : hasB 0 k = false := by unfold hasB; simp
      rw [h0, Bool.false_or] at hb
      show l ++ wIds (st.fs ++ [⟨st.put.length, m⟩]) k = ownIds k 0 (st.put ++ [outs])
      rw [ownIds_app, ← h2, Nat.zero_add, List.append_assoc]
      congr 1
      unfold wIds
      rw [List.filter_append, List.map_append]
      congr 1
      by_cases hk2 : (k : Int) ∈ outs <;> simp [hb, hk2]
    · exact h
end Go.Proofs.Yteomiofmaopkhaa
