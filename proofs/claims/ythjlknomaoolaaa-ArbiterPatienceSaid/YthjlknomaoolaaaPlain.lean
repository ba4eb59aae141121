/-
  Plain laws of the arbiter's model: what the first request behind the pointer is, and how long a request waits.
-/
import Derived.Test.YthjlknomaoolaaaPick
namespace Go.Proofs.Ythjlknomaoolaaa
set_option linter.unusedVariables false

/-- Steps from p to j, cyclically. -/
def dst (n p j : Nat) : Nat := if p ≤ j then j - p else j + n - p

theorem mod_two (n x : Nat) (h : x < 2 * n) : x % n = if x < n then x else x - n := by
  split
  · rename_i h1; exact Nat.mod_eq_of_lt h1
  · rename_i h1
    rw [Nat.mod_eq_sub_mod (by omega)]
    exact Nat.mod_eq_of_lt (by omega)

theorem dst_lt {n p j : Nat} (hp : p < n) (hj : j < n) : dst n p j < n := by unfold dst; split <;> omega
theorem add_dst {n p j : Nat} (hp : p < n) (hj : j < n) : (p + dst n p j) % n = j := by
  rw [mod_two n _ (by have := dst_lt hp hj; omega)]
  unfold dst
  split <;> split <;> omega
theorem dst_add {n p i : Nat} (hp : p < n) (hi : i < n) : dst n p ((p + i) % n) = i := by
  rw [mod_two n _ (by omega)]
  unfold dst
  split <;> split <;> omega

theorem pkf_spec (n p : Nat) (rs : List Bool) : ∀ m, m ≤ n → (pkf n p rs m = -1 ∧ ∀ i, n - m ≤ i → i < n → rs.getD ((p + i) % n) false = false) ∨
    ∃ i, n - m ≤ i ∧ i < n ∧ pkf n p rs m = (((p + i) % n : Nat) : Int) ∧ rs.getD ((p + i) % n) false = true ∧ ∀ j, n - m ≤ j → j < i → rs.getD ((p + j) % n) false = false
  | 0, _ => .inl ⟨rfl, fun i h1 h2 => by omega⟩
  | m + 1, hm => by
    rw [pkf]
    by_cases h : rs.getD ((p + (n - (m + 1))) % n) false = true
    · right
      exact ⟨n - (m + 1), Nat.le_refl _, by omega, by rw [if_pos h], h, fun j h1 h2 => by omega⟩
    · rw [if_neg h]
      have hf : rs.getD ((p + (n - (m + 1))) % n) false = false := by simpa using h
      rcases pkf_spec n p rs m (by omega) with ⟨h1, h2⟩ | ⟨i, h1, h2, h3, h4, h5⟩
      · left
        refine ⟨h1, fun i hi hn => ?_⟩
        by_cases e : i = n - (m + 1)
        · rw [e]; exact hf
        · exact h2 i (by omega) hn
      · right
        refine ⟨i, by omega, h2, h3, h4, fun j hj hji => ?_⟩
        by_cases e : j = n - (m + 1)
        · rw [e]; exact hf
        · exact h5 j (by omega) hji

/-- The choice among all requests. -/
theorem pkf_all {n p : Nat} (rs : List Bool) (hp : p < n) : (pkf n p rs n = -1 ∧ ∀ j, j < n → rs.getD j false = false) ∨
    ∃ c : Nat, c < n ∧ pkf n p rs n = c ∧ rs.getD c false = true ∧ ∀ j, j < n → rs.getD j false = true → dst n p c ≤ dst n p j := by
  rcases pkf_spec n p rs n (Nat.le_refl _) with ⟨h1, h2⟩ | ⟨i, h1, h2, h3, h4, h5⟩
  · left
    refine ⟨h1, fun j hj => ?_⟩
    have := h2 (dst n p j) (by omega) (dst_lt hp hj)
    rwa [add_dst hp hj] at this
  · right
    refine ⟨(p + i) % n, Nat.mod_lt _ (by omega), h3, h4, fun j hj hr => ?_⟩
    rw [dst_add hp h2]
    rcases Nat.lt_or_ge (dst n p j) i with h | h
    · have := h5 (dst n p j) (by omega) h
      rw [add_dst hp hj, hr] at this
      simp at this
    · exact h

theorem pkf_mem {n p : Nat} (rs : List Bool) (hp : p < n) (hl : rs.length = n) : (0 ≤ pkf n p rs n) ↔ true ∈ rs := by
  rcases pkf_all rs hp with ⟨h1, h2⟩ | ⟨c, h1, h2, h3, _⟩
  · rw [h1]
    constructor
    · intro h; omega
    · intro h
      obtain ⟨j, hj, e⟩ := List.mem_iff_getElem.1 h
      have := h2 j (by omega)
      rw [List.getD_eq_getElem?_getD, List.getElem?_eq_getElem hj, e] at this
      simp at this
  · rw [h2]
    constructor
    · intro _
      rw [List.getD_eq_getElem?_getD, List.getElem?_eq_getElem (by omega)] at h3
      have h4 : rs[c]'(by omega) = true := by simpa using h3
      rw [← h4]
      exact List.getElem_mem _
    · intro _; omega

theorem nextP_eq {n p c : Nat} : nextP p n c = (c + 1) % n := by
  unfold nextP
  rw [if_neg (by omega)]
  have : ((c : Int) + 1) % (n : Int) = (((c + 1) % n : Nat) : Int) := by simp
  rw [this, Int.toNat_natCast]

theorem dst_next {n p c j : Nat} (hp : p < n) (hc : c < n) (hj : j < n) (hne : j ≠ c) (h : dst n p c ≤ dst n p j) : dst n ((c + 1) % n) j + dst n p c + 1 = dst n p j := by
  rw [mod_two n _ (by omega)]
  unfold dst at *
  repeat' split at h
  all_goals (repeat' split) <;> omega

theorem dst_self {n c : Nat} (hc : c < n) : dst n ((c + 1) % n) c = n - 1 := by
  rw [mod_two n _ (by omega)]
  unfold dst
  repeat' split
  all_goals omega

/-- No age and no way to the pointer is longer than the round. -/
def waitInv (n p : Nat) (ages : List Int) : Prop := ages.length = n ∧ ∀ j a, ages[j]? = some a → 0 ≤ a ∧ a + (dst n p j : Int) + 1 ≤ n

theorem wait_zero (n : Nat) (hn : 1 ≤ n) : waitInv n 0 (List.replicate n 0) := by
  refine ⟨by simp, fun j a h => ?_⟩
  rw [List.getElem?_replicate] at h
  split at h
  · rename_i hj
    obtain rfl := Option.some.inj h
    have := dst_lt (show 0 < n by omega) hj
    omega
  · simp at h

theorem ag_all (rs : List Bool) (c : Int) (ages : List Int) (n : Nat) (hl : ages.length = n) (j : Nat) : (ag rs c ages n)[j]? = (ages[j]?).map (fun a => agv (rs.getD j false) j c a) := by
  rw [ag_get]
  split
  · rfl
  · rw [List.getElem?_eq_none (by omega)]; rfl

theorem wait_step {n p : Nat} {ages : List Int} (rs : List Bool) (hp : p < n) (hn : n ≤ 64) (h : waitInv n p ages) : waitInv n (nextP p n (pkf n p rs n)) (ag rs (pkf n p rs n) ages n) := by
  obtain ⟨hl, hw⟩ := h
  refine ⟨by rw [ag_len, hl], fun j a hj => ?_⟩
  rw [ag_all _ _ _ _ hl] at hj
  obtain ⟨b, hb, rfl⟩ := Option.map_eq_some_iff.1 hj
  have hjn : j < n := by
    rcases Nat.lt_or_ge j n with h | h
    · exact h
    · rw [List.getElem?_eq_none (by omega)] at hb; simp at hb
  obtain ⟨h0, h1⟩ := hw j b hb
  rcases pkf_all rs hp with ⟨e1, e2⟩ | ⟨c, hc, e, hr, hmin⟩
  · rw [e1]
    have hnx : nextP p n (-1) = p := by unfold nextP; rw [if_pos (by omega)]
    rw [hnx, e2 j hjn]
    simp only [agv, Bool.false_and]
    have := dst_lt hp hjn
    simp; omega
  · rw [e, nextP_eq]
    have hnx := Nat.mod_lt (c + 1) (show 0 < n by omega)
    by_cases hjc : j = c
    · subst hjc
      have : ((j : Int) != (j : Int)) = false := by simp
      simp only [agv, this, Bool.and_false]
      rw [dst_self hc]
      simp; omega
    · have hne : ((j : Int) != (c : Int)) = true := by rw [bne_iff_ne]; omega
      cases hrj : rs.getD j false with
      | false =>
        simp only [agv, Bool.false_and]
        have := dst_lt hnx hjn
        simp; omega
      | true =>
        have hd := dst_next hp hc hjn hjc (hmin j hjn hrj)
        simp only [agv, hne, Bool.and_self, if_true]
        rw [if_neg (by omega)]
        omega
theorem ag_bd (rs : List Bool) (c : Int) (ages : List Int) (h : ∀ a ∈ ages, 0 ≤ a ∧ a ≤ 1073741824) : ∀ k, ∀ a ∈ ag rs c ages k, 0 ≤ a ∧ a ≤ 1073741824
  | 0 => h
  | k + 1 => by
    intro a ha
    rw [ag] at ha
    rcases List.mem_or_eq_of_mem_set ha with h1 | rfl
    · exact ag_bd rs c ages h k a h1
    · unfold agv
      split
      · have h2 : 0 ≤ ages.getD k 0 := by
          rw [List.getD_eq_getElem?_getD]
          rcases Nat.lt_or_ge k ages.length with h3 | h3
          · rw [List.getElem?_eq_getElem h3]; exact (h _ (List.getElem_mem h3)).1
          · rw [List.getElem?_eq_none h3]; exact Int.le_refl _
        split <;> omega
      · omega

theorem nextP_lt (p n : Nat) (ch : Int) (hp : p < n) (h : ch = -1 ∨ (0 ≤ ch ∧ ch < n)) : nextP p n ch < n := by
  unfold nextP
  split
  · exact hp
  · have h1 := Int.emod_nonneg (ch + 1) (show (n : Int) ≠ 0 by omega)
    have h2 := Int.emod_lt_of_pos (ch + 1) (show (0 : Int) < n by omega)
    omega
end Go.Proofs.Ythjlknomaoolaaa
