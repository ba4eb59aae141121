/-
  switchbox: the requests as Match reads them.
-/
import Derived.Test.YtkooihniieepcaaSwI
namespace Go.Proofs.Ytkooihniieepcaa
open Go.RowKit
set_option linter.unusedVariables false

section
variable {w w' : World} {base lb P : Nat} {rb : Nat → Nat} {q : Nat → Nat → Bool}
def rqRows (rb : Nat → Nat) (q : Nat → Nat → Bool) (P : Nat) : List (RowOf Bool) := (List.range P).map fun i => ⟨some ⟨rb i, 0, none⟩, P, (List.range P).map (q i)⟩
theorem rq_req (h : St w base (rqC lb rb q P P)) : Req w (some ⟨lb, 0, none⟩) (rqRows rb q P) := by
  refine ⟨Blk.sl (T := 32) ?_, fun r hr => ?_⟩
  · have h1 := h.blk (r := none) rfl
    have e : (rqRows rb q P).map RowOf.val = (List.range P).map fun i => if i < P then Value.slice (some ⟨rb i, 0, none⟩) P P else .slice none 0 0 := by
      unfold rqRows
      rw [List.map_map]
      apply List.map_congr_left
      intro i hi
      rw [if_pos (List.mem_range.1 hi)]
      show Value.slice _ ((List.range P).map (q i)).length P = _
      rw [List.length_map, List.length_range]
    rw [e]
    exact h1
  · obtain ⟨i, hi, rfl⟩ := List.mem_map.1 hr
    have hi := List.mem_range.1 hi
    refine Blk.sl (T := 4) ?_
    have h1 := h.blk (r := some i) (if_pos hi)
    rw [List.map_map]
    exact h1
theorem rq_sq : sqB (rqRows rb q P) P = true := by
  unfold sqB
  refine decide_eq_true ⟨by simp [rqRows], fun r hr => ?_⟩
  obtain ⟨i, hi, rfl⟩ := List.mem_map.1 hr
  simp
theorem rq_F {i k : Nat} (hi : i < P) (hk : k < P) : reqF (rqRows rb q P) i k = q i k := by
  unfold reqF rqRows
  rw [List.getElem?_map, List.getElem?_range hi]
  simp [hk]
end
end Go.Proofs.Ytkooihniieepcaa
