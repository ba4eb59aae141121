/-
  Plain laws: the choice by ranks is the best request; how long requests wait; how often they are chosen in turn.
-/
import Derived.Test.YthjlknomaoolaaaRanked
import Derived.Test.YthjlknomaoolaaaPlain
namespace Go.Proofs.Ythjlknomaoolaaa

theorem befV_iff (ci ck ai ak p i k : Int) : befV ci ck ai ak p i k = true ↔
    (p ≤ ai ∧ ak < p) ∨ ((p ≤ ai ∧ p ≤ ak ∨ ai < p ∧ ak < p) ∧ ((ai < p ∧ ci < ck) ∨ ((p ≤ ai ∨ ci = ck) ∧ (ak < ai ∨ (ai = ak ∧ i < k))))) := by
  unfold befV
  by_cases h1 : p ≤ ai <;> by_cases h2 : p ≤ ak <;> by_cases h3 : ci = ck <;> by_cases h4 : ai = ak <;> simp [h1, h2, h3, h4] <;> omega

def isBest (cs : List Int) (rs : List Bool) (ages : List Int) (p : Int) (k c : Nat) : Prop :=
  c < k ∧ rs.getD c false = true ∧ ∀ j, j < k → j ≠ c → rs.getD j false = true → befV (cs.getD c 0) (cs.getD j 0) (ages.getD c 0) (ages.getD j 0) p c j = true

theorem rk_best (cs : List Int) (rs : List Bool) (ages : List Int) (p : Int) : ∀ k, (rk cs rs ages p k = -1 ∧ ∀ j, j < k → rs.getD j false = false) ∨ ∃ c : Nat, rk cs rs ages p k = c ∧ isBest cs rs ages p k c
  | 0 => .inl ⟨rfl, fun j h => by omega⟩
  | k + 1 => by
    simp only [rk]
    cases hr : rs.getD k false with
    | false =>
      simp only [Bool.false_and, Bool.false_eq_true, if_false]
      rcases rk_best cs rs ages p k with ⟨h1, h2⟩ | ⟨c, h1, h2, h3, h4⟩
      · left
        refine ⟨h1, fun j hj => ?_⟩
        by_cases e : j = k
        · rw [e]; exact hr
        · exact h2 j (by omega)
      · right
        refine ⟨c, h1, by omega, h3, fun j hj hne hrj => ?_⟩
        by_cases e : j = k
        · rw [e, hr] at hrj; simp at hrj
        · exact h4 j (by omega) hne hrj
    | true =>
      simp only [Bool.true_and]
      rcases rk_best cs rs ages p k with ⟨h1, h2⟩ | ⟨c, h1, h2, h3, h4⟩
      · right
        rw [h1]
        refine ⟨k, by simp, by omega, hr, fun j hj hne hrj => ?_⟩
        rw [h2 j (by omega)] at hrj
        simp at hrj
      · right
        rw [h1]
        have hneg : ¬ ((c : Int) < 0) := by omega
        simp only [hneg, decide_false, Bool.false_or, Int.toNat_natCast]
        cases hb : befV (cs.getD k 0) (cs.getD c 0) (ages.getD k 0) (ages.getD c 0) p k c with
        | true =>
          refine ⟨k, by simp, by omega, hr, fun j hj hne hrj => ?_⟩
          by_cases e : j = c
          · rw [e]; exact hb
          · have h5 := h4 j (by omega) e hrj
            rw [befV_iff] at *
            omega
        | false =>
          refine ⟨c, by simp, by omega, h3, fun j hj hne hrj => ?_⟩
          by_cases e : j = k
          · subst e
            have hb' : ¬ befV (cs.getD j 0) (cs.getD c 0) (ages.getD j 0) (ages.getD c 0) p j c = true := by rw [hb]; simp
            rw [befV_iff] at *
            omega
          · exact h4 j (by omega) hne hrj

/-- If another request is withdrawn, the choice stays. -/
theorem rk_less (cs : List Int) (rs : List Bool) (ages : List Int) (p : Int) (n d c : Nat) (hl : rs.length = n) (h : rk cs rs ages p n = c) : rk cs ((rs.set d false).set c true) ages p n = c := by
  rcases rk_best cs rs ages p n with ⟨h1, _⟩ | ⟨c', h1, h2, h3, h4⟩
  · omega
  · obtain rfl : c' = c := by omega
    have hget : ∀ j, j ≠ c' → ((rs.set d false).set c' true).getD j false = true → rs.getD j false = true := by
      intro j hj hr
      simp only [List.getD_eq_getElem?_getD, List.getElem?_set, List.length_set] at hr ⊢
      rw [if_neg (by omega)] at hr
      split at hr
      · split at hr <;> simp at hr
      · exact hr
    have hself : ((rs.set d false).set c' true).getD c' false = true := by
      simp only [List.getD_eq_getElem?_getD, List.getElem?_set, List.length_set]
      simp [hl, h2]
    rcases rk_best cs ((rs.set d false).set c' true) ages p n with ⟨h5, h6⟩ | ⟨c2, h5, h6, h7, h8⟩
    · rw [h6 c' h2] at hself; simp at hself
    · by_cases e : c2 = c'
      · rw [h5, e]
      · have a1 := h4 c2 h6 e (hget c2 e h7)
        have a2 := h8 c' h2 (Ne.symm e) hself
        rw [befV_iff] at a1 a2
        omega

theorem rk_mem (cs : List Int) (rs : List Bool) (ages : List Int) (p : Int) (n : Nat) (hl : rs.length = n) : 0 ≤ rk cs rs ages p n ↔ true ∈ rs := by
  rcases rk_best cs rs ages p n with ⟨h1, h2⟩ | ⟨c, h1, h2, h3, _⟩
  · rw [h1]
    refine ⟨fun h => by omega, fun h => ?_⟩
    obtain ⟨j, hj, e⟩ := List.mem_iff_getElem.1 h
    have := h2 j (by omega)
    rw [List.getD_eq_getElem?_getD, List.getElem?_eq_getElem hj, e] at this
    simp at this
  · rw [h1]
    refine ⟨fun _ => ?_, fun _ => by omega⟩
    rw [List.getD_eq_getElem?_getD, List.getElem?_eq_getElem (by omega)] at h3
    have h4 : rs[c]'(by omega) = true := by simpa using h3
    rw [← h4]
    exact List.getElem_mem _

/-- As many requests at least as old as p + m as there are places behind m. -/
def patInv (n : Nat) (p : Int) (ages : List Int) : Prop := ages.length = n ∧ (∀ a ∈ ages, 0 ≤ a) ∧ ∀ m : Nat, ages.countP (fun a => decide (p + m ≤ a)) ≤ n - m

theorem pat_zero (n : Nat) (p : Int) (hp : 0 ≤ p) : patInv n p (List.replicate n 0) := by
  refine ⟨by simp, by simp, fun m => ?_⟩
  rw [List.countP_replicate]
  split
  · rename_i h
    have : p + m ≤ 0 := by simpa using h
    omega
  · omega

theorem pat_lt {n : Nat} {p : Int} {ages : List Int} (h : patInv n p ages) : ∀ a ∈ ages, 0 ≤ a ∧ a < p + n := by
  intro a ha
  refine ⟨h.2.1 a ha, ?_⟩
  have h1 := h.2.2 n
  rw [Nat.sub_self] at h1
  have h2 := List.countP_eq_zero.1 (Nat.le_zero.1 h1) a ha
  simp at h2
  omega

theorem pat_step {n : Nat} {p : Int} {cs ages : List Int} (hp : 0 ≤ p) (hn : 1 ≤ n) (h : patInv n p ages) :
    ∃ c : Nat, c < n ∧ rk cs (List.replicate n true) ages p n = c ∧ patInv n p ((ages.map (· + 1)).set c 0) := by
  obtain ⟨hl, h0, hc⟩ := h
  have hrep : ∀ j, j < n → (List.replicate n true).getD j false = true := by
    intro j hj
    rw [List.getD_eq_getElem?_getD, List.getElem?_replicate, if_pos hj]; rfl
  rcases rk_best cs (List.replicate n true) ages p n with ⟨h1, h2⟩ | ⟨c, h1, h2, h3, h4⟩
  · have := h2 0 (by omega)
    rw [hrep 0 (by omega)] at this
    simp at this
  · refine ⟨c, h2, h1, by simp [hl], ?_, fun m => ?_⟩
    · intro a ha
      rcases List.mem_or_eq_of_mem_set ha with h | rfl
      · obtain ⟨b, hb, rfl⟩ := List.mem_map.1 h
        have := h0 b hb
        omega
      · omega
    · cases m with
      | zero =>
        refine Nat.le_trans List.countP_le_length ?_
        simp [hl]
      | succ m =>
        have hcl : c < (ages.map (· + 1)).length := by simpa [hl] using h2
        have hmap : (ages.map (· + 1)).countP (fun a => decide (p + ((m + 1 : Nat) : Int) ≤ a)) = ages.countP (fun a => decide (p + m ≤ a)) := by
          rw [List.countP_map]
          refine List.countP_congr fun a _ => ?_
          simp
          omega
        have hz : decide (p + ((m + 1 : Nat) : Int) ≤ 0) = false := by simp; omega
        have hset := List.countP_set (p := fun a => decide (p + ((m + 1 : Nat) : Int) ≤ a)) (l := ages.map (· + 1)) (i := c) (a := 0) hcl
        rw [hset, hmap]
        simp only [hz]
        have hcm := hc m
        have hac : (ages.map (· + 1))[c] = ages[c]'(by omega) + 1 := by simp
        by_cases hq : p + m ≤ ages[c]'(by omega)
        · have : decide (p + ((m + 1 : Nat) : Int) ≤ (ages.map (· + 1))[c]) = true := by rw [hac]; simp; omega
          rw [this]
          simp
          omega
        · have hnone : ages.countP (fun a => decide (p + m ≤ a)) = 0 := by
            rw [List.countP_eq_zero]
            intro a ha
            obtain ⟨j, hj, rfl⟩ := List.mem_iff_getElem.1 ha
            simp
            by_cases e : j = c
            · subst e; omega
            · have hb := h4 j (by omega) e (hrep j (by omega))
              rw [befV_iff] at hb
              simp only [List.getD_eq_getElem?_getD, List.getElem?_eq_getElem hj, List.getElem?_eq_getElem (show c < ages.length by omega), Option.getD_some] at hb
              omega
          rw [hnone]
          simp

/-- How often each request has been chosen: q times, or once more up to the pointer. -/
def eqInv (n p0 p : Nat) (rs : List Bool) (q : Int) (t : Nat) (cnt : List Int) : Prop :=
  cnt.length = n ∧ 0 ≤ q ∧ q ≤ t ∧ (∀ (j : Nat) (a : Int), cnt[j]? = some a → 0 ≤ a ∧ a ≤ t) ∧
  ∀ (j : Nat) (a : Int), cnt[j]? = some a → a = if rs.getD j false then q + (if dst n p0 j < dst n p0 p then 1 else 0) else 0

theorem dst_id (n p : Nat) : dst n p p = 0 := by unfold dst; simp

theorem eq_zero (n p0 : Nat) (rs : List Bool) : eqInv n p0 p0 rs 0 0 (List.replicate n 0) := by
  refine ⟨by simp, by omega, by omega, ?_, ?_⟩
  · intro j a h
    rw [List.getElem?_replicate] at h
    split at h
    · obtain rfl := Option.some.inj h; omega
    · simp at h
  · intro j a h
    rw [List.getElem?_replicate] at h
    split at h
    · obtain rfl := Option.some.inj h
      rw [dst_id]
      simp
    · simp at h

theorem dst_shift {n p0 p j : Nat} (h0 : p0 < n) (hp : p < n) (hj : j < n) : dst n p j = if dst n p0 p ≤ dst n p0 j then dst n p0 j - dst n p0 p else dst n p0 j + n - dst n p0 p := by
  unfold dst
  repeat' split
  all_goals omega
theorem dst_succ {n p0 c : Nat} (h0 : p0 < n) (hc : c < n) : dst n p0 ((c + 1) % n) = if dst n p0 c + 1 < n then dst n p0 c + 1 else 0 := by
  rw [mod_two n _ (by omega)]
  unfold dst
  repeat' split
  all_goals omega
theorem dst_inj {n p0 j c : Nat} (h0 : p0 < n) (hj : j < n) (hc : c < n) (h : dst n p0 j = dst n p0 c) : j = c := by
  unfold dst at h
  repeat' split at h
  all_goals omega

theorem eq_step {n p0 p t : Nat} {rs : List Bool} {q : Int} {cnt : List Int} {c : Nat} (h0 : p0 < n) (hp : p < n) (hc : c < n) (h : eqInv n p0 p rs q t cnt) (hr : rs.getD c false = true)
    (hmin : ∀ j, j < n → rs.getD j false = true → dst n p c ≤ dst n p j) : ∃ q', eqInv n p0 ((c + 1) % n) rs q' (t + 1) (cnt.set c (cnt.getD c 0 + 1)) := by
  obtain ⟨hl, hq0, hqt, hb, hv⟩ := h
  have hcl : c < cnt.length := by omega
  have hcb := hb c cnt[c] (List.getElem?_eq_getElem hcl)
  have hcv := hv c cnt[c] (List.getElem?_eq_getElem hcl)
  have hgd : cnt.getD c 0 = cnt[c] := by rw [List.getD_eq_getElem?_getD, List.getElem?_eq_getElem hcl]; rfl
  rw [hgd]
  have hlt := fun j (hj : j < n) => dst_lt h0 hj
  have hDp := hlt p hp
  have hDc := hlt c hc
  have hsc := dst_shift h0 hp hc
  have hbd : ∀ (j : Nat) (a : Int), (cnt.set c (cnt[c] + 1))[j]? = some a → 0 ≤ a ∧ a ≤ ((t + 1 : Nat) : Int) := by
    intro j a hj
    rw [List.getElem?_set] at hj
    split at hj
    · obtain rfl := Option.some.inj hj; omega
    · have := hb j a hj; omega
  rw [hr, if_pos rfl] at hcv
  by_cases hA : dst n p0 p ≤ dst n p0 c
  · by_cases hw : dst n p0 c + 1 < n
    · refine ⟨q, by simp [hl], hq0, by omega, hbd, fun j a hj => ?_⟩
      rw [dst_succ h0 hc, if_pos hw]
      rw [List.getElem?_set] at hj
      split at hj
      · rename_i e
        subst e
        obtain rfl := Option.some.inj hj
        rw [hr, if_pos rfl, if_pos (by omega)]
        rw [if_neg (by omega)] at hcv
        omega
      · rename_i e
        have hjn : j < n := by
          rcases Nat.lt_or_ge j n with h | h
          · exact h
          · rw [List.getElem?_eq_none (by omega)] at hj; simp at hj
        rw [hv j a hj]
        cases hrj : rs.getD j false with
        | false => rfl
        | true =>
          simp only [if_true]
          have hm := hmin j hjn hrj
          rw [hsc, dst_shift h0 hp hjn, if_pos hA] at hm
          have hne : dst n p0 j ≠ dst n p0 c := fun h => e (dst_inj h0 hjn hc h).symm
          have hj' := hlt j hjn
          by_cases h1 : dst n p0 j < dst n p0 p
          · rw [if_pos h1, if_pos (by omega)]
          · rw [if_pos (by omega)] at hm
            rw [if_neg h1, if_neg (by omega)]
    · refine ⟨q + 1, by simp [hl], by omega, by omega, hbd, fun j a hj => ?_⟩
      rw [dst_succ h0 hc, if_neg hw]
      rw [List.getElem?_set] at hj
      split at hj
      · rename_i e
        subst e
        obtain rfl := Option.some.inj hj
        rw [hr, if_pos rfl, if_neg (by omega)]
        rw [if_neg (by omega)] at hcv
        omega
      · rename_i e
        have hjn : j < n := by
          rcases Nat.lt_or_ge j n with h | h
          · exact h
          · rw [List.getElem?_eq_none (by omega)] at hj; simp at hj
        rw [hv j a hj]
        cases hrj : rs.getD j false with
        | false => rfl
        | true =>
          simp only [if_true]
          have hm := hmin j hjn hrj
          rw [hsc, dst_shift h0 hp hjn, if_pos hA] at hm
          have hne : dst n p0 j ≠ dst n p0 c := fun h => e (dst_inj h0 hjn hc h).symm
          have hj' := hlt j hjn
          by_cases h1 : dst n p0 j < dst n p0 p
          · rw [if_pos h1, if_neg (by omega)]; omega
          · rw [if_pos (by omega)] at hm
            omega
  · have hw : dst n p0 c + 1 < n := by omega
    refine ⟨q + 1, by simp [hl], by omega, by omega, hbd, fun j a hj => ?_⟩
    rw [dst_succ h0 hc, if_pos hw]
    rw [List.getElem?_set] at hj
    split at hj
    · rename_i e
      subst e
      obtain rfl := Option.some.inj hj
      rw [hr, if_pos rfl, if_pos (by omega)]
      rw [if_pos (by omega)] at hcv
      omega
    · rename_i e
      have hjn : j < n := by
        rcases Nat.lt_or_ge j n with h | h
        · exact h
        · rw [List.getElem?_eq_none (by omega)] at hj; simp at hj
      rw [hv j a hj]
      cases hrj : rs.getD j false with
      | false => rfl
      | true =>
        simp only [if_true]
        have hm := hmin j hjn hrj
        rw [hsc, dst_shift h0 hp hjn, if_neg hA] at hm
        have hne : dst n p0 j ≠ dst n p0 c := fun h => e (dst_inj h0 hjn hc h).symm
        have hj' := hlt j hjn
        by_cases h1 : dst n p0 p ≤ dst n p0 j
        · rw [if_pos h1] at hm; omega
        · rw [if_neg h1] at hm
          rw [if_pos (by omega), if_neg (by omega)]
          omega

/-- All ages up to q raised by one. -/
def bump (ages : List Int) : Nat → List Int
  | 0 => ages
  | k + 1 => (bump ages k).set k (ages.getD k 0 + 1)
theorem bump_get (ages : List Int) : ∀ k j, (bump ages k)[j]? = if j < k then (ages[j]?).map (· + 1) else ages[j]?
  | 0, j => by simp [bump]
  | k + 1, j => by
    have ih := bump_get ages k
    have hlen : (bump ages k).length = ages.length := by
      have h1 := fun j => ih j
      refine Nat.le_antisymm ?_ ?_
      · rcases Nat.lt_or_ge ages.length (bump ages k).length with h | h
        · have := h1 ages.length
          rw [List.getElem?_eq_getElem h] at this
          simp at this
        · exact h
      · rcases Nat.lt_or_ge (bump ages k).length ages.length with h | h
        · have := h1 (bump ages k).length
          rw [List.getElem?_eq_none (Nat.le_refl _), List.getElem?_eq_getElem h] at this
          split at this <;> simp at this
        · exact h
    rw [bump, List.getElem?_set, hlen, ih j]
    by_cases h : k = j
    · subst h
      by_cases hl : k < ages.length
      · simp [hl]
      · simp [hl]
    · rw [if_neg h]
      have : j < k + 1 ↔ j < k := by omega
      simp only [this]
theorem bump_len (ages : List Int) : ∀ k, (bump ages k).length = ages.length
  | 0 => rfl
  | k + 1 => by rw [bump, List.length_set, bump_len ages k]
theorem bump_all (ages : List Int) : bump ages ages.length = ages.map (· + 1) := by
  apply List.ext_getElem?
  intro j
  rw [bump_get, List.getElem?_map]
  split
  · rfl
  · rw [List.getElem?_eq_none (by omega)]; rfl
end Go.Proofs.Ythjlknomaoolaaa
