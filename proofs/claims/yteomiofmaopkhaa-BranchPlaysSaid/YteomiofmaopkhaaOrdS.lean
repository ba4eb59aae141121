/-
  The order at each output: a step.
-/
import Derived.Test.YteomiofmaopkhaaOrd
namespace Go.Proofs.Yteomiofmaopkhaa
open Go.RowKit

theorem hasB_clrB (m k j : Nat) (hk : k < 8) (hj : j < 8) : hasB (clrB m k) j = (hasB m j && !decide (k = j)) := by
  unfold clrB
  rw [hasB_testBit, hasB_testBit, Nat.testBit_and]
  have e : 18446744073709551615 - 2 ^ k = 2 ^ 64 - (2 ^ k + 1) := by omega
  have hlt : 2 ^ k < 2 ^ 64 := Nat.pow_lt_pow_right (by decide) (by omega)
  rw [e, Nat.testBit_two_pow_sub_succ hlt, Nat.testBit_two_pow]
  have h64 : j < 64 := by omega
  rw [decide_eq_true h64, Bool.true_and]
theorem wIds_cons (x : Fr) (xs : List Fr) (k : Nat) : wIds (x :: xs) k = if hasB x.bits k = true then x.id :: wIds xs k else wIds xs k := by
  unfold wIds
  rw [List.filter_cons]
  split <;> simp
theorem takeK_no {k : Nat} : ∀ {fs : List Fr}, takeK k fs = none → wIds fs k = []
  | [], _ => rfl
  | x :: xs, h => by
    unfold takeK at h
    split at h
    · simp at h
    · rename_i hb
      rw [wIds_cons, if_neg hb]
      cases e : takeK k xs with
      | none => exact takeK_no e
      | some p => rw [e] at h; simp at h
theorem takeK_yes {k : Nat} (hk : k < 8) : ∀ {fs : List Fr} {p : Int × List Fr}, takeK k fs = some p → wIds fs k = p.1 :: wIds p.2 k ∧ ∀ j, j < 8 → j ≠ k → wIds p.2 j = wIds fs j
  | [], p, h => by simp [takeK] at h
  | x :: xs, p, h => by
    unfold takeK at h
    split at h
    · rename_i hb
      simp at h
      subst h
      refine ⟨?_, fun j hj hjk => ?_⟩
      · rw [wIds_cons, if_pos hb]
        show _ = _ :: wIds (⟨x.id, clrB x.bits k⟩ :: xs) k
        rw [wIds_cons, if_neg (by simp [hasB_clrB _ _ _ hk hk])]
      · show wIds (⟨x.id, clrB x.bits k⟩ :: xs) j = _
        rw [wIds_cons, wIds_cons]
        have : hasB (clrB x.bits k) j = hasB x.bits j := by rw [hasB_clrB _ _ _ hk hj]; simp [Ne.symm hjk]
        simp only [this]
    · rename_i hb
      cases e : takeK k xs with
      | none => rw [e] at h; simp at h
      | some q =>
        rw [e] at h
        simp at h
        subst h
        obtain ⟨h1, h2⟩ := takeK_yes hk e
        refine ⟨?_, fun j hj hjk => ?_⟩
        · rw [wIds_cons, if_neg hb, h1]
          show _ = _ :: wIds (x :: q.2) k
          rw [wIds_cons, if_neg hb]
        · show wIds (x :: q.2) j = _
          rw [wIds_cons, wIds_cons, h2 j hj hjk]
theorem stepK_ord {k : Nat} (hk : k < 8) (rd : Bool) (fs : List Fr) (h0 : ∀ x ∈ fs, 0 ≤ x.id) :
    (wIds fs k = (if 0 ≤ (stepK k rd fs).1 then [(stepK k rd fs).1] else []) ++ wIds (stepK k rd fs).2 k) ∧ ∀ j, j < 8 → j ≠ k → wIds (stepK k rd fs).2 j = wIds fs j := by
  unfold stepK
  split
  · cases e : takeK k fs with
    | none => exact ⟨by simp, fun _ _ _ => rfl⟩
    | some p =>
      obtain ⟨h1, h2⟩ := takeK_yes hk e
      have hp : 0 ≤ p.1 := by
        have hm : p.1 ∈ wIds fs k := by rw [h1]; simp
        unfold wIds at hm
        obtain ⟨x, hx, e2⟩ := List.mem_map.1 hm
        rw [← e2]
        exact h0 x (List.mem_filter.1 hx).1
      refine ⟨?_, h2⟩
      show wIds fs k = (if 0 ≤ p.1 then [p.1] else []) ++ wIds p.2 k
      rw [if_pos hp, h1]
      rfl
  · exact ⟨by simp, fun _ _ _ => rfl⟩
theorem stepK_id0 {k : Nat} {rd : Bool} {fs : List Fr} (h0 : ∀ x ∈ fs, 0 ≤ x.id) : ∀ x ∈ (stepK k rd fs).2, 0 ≤ x.id := fun x hx => by
  obtain ⟨y, hy, e, _⟩ := stepK_mem x hx
  rw [← e]
  exact h0 y hy
theorem stepAll_ord : ∀ (rs : List Bool) (k : Nat) (fs : List Fr), k + rs.length ≤ 8 → (∀ x ∈ fs, 0 ≤ x.id) →
    (∀ (j : Nat) (i : Int), (stepAll rs k fs).1[j]? = some i → wIds fs (k + j) = (if 0 ≤ i then [i] else []) ++ wIds (stepAll rs k fs).2 (k + j)) ∧
    ∀ j, j < 8 → j < k ∨ k + rs.length ≤ j → wIds (stepAll rs k fs).2 j = wIds fs j
  | [], k, fs, _, _ => ⟨fun j i h => by simp [stepAll] at h, fun _ _ _ => rfl⟩
  | r :: rs, k, fs, hl, h0 => by
    simp only [List.length_cons] at hl
    have hk : k < 8 := by omega
    obtain ⟨s1, s2⟩ := stepK_ord hk r fs h0
    obtain ⟨i1, i2⟩ := stepAll_ord rs (k + 1) (stepK k r fs).2 (by omega) (stepK_id0 h0)
    refine ⟨fun j i h => ?_, fun j hj hjk => ?_⟩
    · cases j with
      | zero =>
        simp [stepAll] at h
        subst h
        show wIds fs k = _ ++ wIds (stepAll rs (k + 1) (stepK k r fs).2).2 k
        rw [i2 k hk (by omega)]
        exact s1
      | succ j =>
        have hj : (stepAll rs (k + 1) (stepK k r fs).2).1[j]? = some i := by simpa [stepAll] using h
        have hlen : j < rs.length := by have := get_lt hj; rw [(stepAll_len _ _ _).2] at this; exact this
        have := i1 j i hj
        have e : k + (j + 1) = k + 1 + j := by omega
        rw [e, ← s2 (k + 1 + j) (by omega) (by omega)]
        exact this
    · simp only [List.length_cons] at hjk
      show wIds (stepAll rs (k + 1) (stepK k r fs).2).2 j = wIds fs j
      rw [i2 j hj (by omega), s2 j hj (by omega)]
theorem wIds_keep (fs : List Fr) (k : Nat) : wIds (keepF fs) k = wIds fs k := by
  unfold wIds keepF
  rw [List.filter_filter]
  congr 1
  apply List.filter_congr
  intro x _
  by_cases h : x.bits = 0
  · simp [h, hasB]
  · simp [h]
theorem addLeft_get : ∀ (ls : List (List Int)) (is : List Int) (j : Nat) (l : List Int) (i : Int), ls[j]? = some l → is[j]? = some i → (addLeft ls is)[j]? = some (if 0 ≤ i then l ++ [i] else l)
  | [], _, j, l, i, h, _ => by simp at h
  | _ :: _, [], j, l, i, _, h => by simp at h
  | a :: ls, c :: is, 0, l, i, h, g => by simp at h g; subst h g; simp [addLeft]
  | a :: ls, c :: is, j + 1, l, i, h, g => by
    have := addLeft_get ls is j l i (by simpa using h) (by simpa using g)
    simpa [addLeft] using this
theorem OrdSt.step {o : Nat} {st : RunSt} (h : OrdSt o st) (ho : o ≤ 8) (h0 : ∀ x ∈ st.fs, 0 ≤ x.id) (rs : List Bool) (hr : rs.length = o) : OrdSt o (stepSt rs st) := by
  intro k hk
  obtain ⟨l, h1, h2⟩ := h k hk
  obtain ⟨i, hi⟩ : ∃ i, (stepAll rs 0 st.fs).1[k]? = some i := ⟨_, List.getElem?_eq_getElem (by rw [(stepAll_len _ _ _).2]; omega)⟩
  have a := (stepAll_ord rs 0 st.fs (by omega) h0).1 k i hi
  rw [Nat.zero_add] at a
  refine ⟨_, addLeft_get _ _ k l i h1 hi, ?_⟩
  show _ ++ wIds (keepF (stepAll rs 0 st.fs).2) k = ownIds k 0 st.put
  rw [wIds_keep, ← h2, a]
  split <;> simp
theorem OrdSt.op {o : Nat} {room : Int} {k : Nat} {st : RunSt} (h : OrdSt o st) (hi : RunInv o room k st) (ho : o ≤ 8) (x : OpR) : OrdSt o (runOp o room st x) := by
  unfold runOp
  split
  · exact h.put room x.outs
  · split
    · rename_i hr
      exact h.step ho (fun y hy => (hi.ids y hy).1) x.rdy hr
    · exact h
theorem runAll_ord {o : Nat} {room : Int} (ho : o ≤ 8) (hr : 0 ≤ room) (xs : List OpR) : ∀ n, n ≤ xs.length → OrdSt o (runAll o room (xs.take n)) ∧ RunInv o room n (runAll o room (xs.take n))
  | 0, _ => ⟨OrdSt.init o, RunInv.init o room (by omega)⟩
  | n + 1, hn => by
    obtain ⟨h1, h2⟩ := runAll_ord ho hr xs n (by omega)
    obtain ⟨x, hx⟩ : ∃ x, xs[n]? = some x := ⟨_, List.getElem?_eq_getElem (by omega)⟩
    rw [runAll_step hx]
    exact ⟨h1.op h2 ho x, h2.op ho x⟩
end Go.Proofs.Yteomiofmaopkhaa
