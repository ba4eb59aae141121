/-
  Pigeonholes; the first suitable number, cyclically; distances on a circle. Plain Lean: no program in sight.
-/
namespace Go.Proofs.Ytkooihniieepcaa.Bar
set_option linter.unusedVariables false

theorem sub_len {α : Type} [DecidableEq α] : ∀ (l m : List α), l.Nodup → (∀ x ∈ l, x ∈ m) → l.length ≤ m.length
  | [], _, _, _ => Nat.zero_le _
  | x :: l, m, h, hs => by
    have hx : x ∈ m := hs x (by simp)
    have h1 := sub_len l (m.erase x) (List.nodup_cons.1 h).2 (fun y hy => by
      have hne : y ≠ x := fun e => (List.nodup_cons.1 h).1 (e ▸ hy)
      exact (List.mem_erase_of_ne hne).2 (hs y (by simp [hy])))
    rw [List.length_erase_of_mem hx] at h1
    have : 0 < m.length := List.length_pos_of_mem hx
    simp; omega

theorem map_nodup {α β : Type} (g : α → β) : ∀ (l : List α), l.Nodup → (∀ x ∈ l, ∀ y ∈ l, g x = g y → x = y) → (l.map g).Nodup
  | [], _, _ => by simp
  | x :: l, h, hi => by
    rw [List.map_cons, List.nodup_cons]
    refine ⟨fun hm => ?_, map_nodup g l (List.nodup_cons.1 h).2 (fun a ha b hb => hi a (by simp [ha]) b (by simp [hb]))⟩
    obtain ⟨y, hy, e⟩ := List.mem_map.1 hm
    have := hi y (by simp [hy]) x (by simp) e
    subst this
    exact (List.nodup_cons.1 h).1 hy

theorem inj_surj (n : Nat) (g : Nat → Nat) (hg : ∀ k < n, g k < n) (hi : ∀ k < n, ∀ q < n, g k = g q → k = q) : ∀ i < n, ∃ k < n, g k = i := by
  intro i hin
  refine Classical.byContradiction fun hno => ?_
  have h1 := sub_len ((List.range n).map g) ((List.range n).erase i) (map_nodup g _ List.nodup_range (fun a ha b hb => hi a (by simpa using ha) b (by simpa using hb))) (fun x hx => by
    obtain ⟨k, hk, rfl⟩ := List.mem_map.1 hx
    have hk : k < n := by simpa using hk
    exact (List.mem_erase_of_ne (fun e => hno ⟨k, hk, e⟩)).2 (by simpa using hg k hk))
  rw [List.length_erase_of_mem (by simpa using hin)] at h1
  simp at h1
  omega

theorem surj_inj (n : Nat) (g : Nat → Nat) (hs : ∀ i < n, ∃ k < n, g k = i) : ∀ k < n, ∀ q < n, g k = g q → k = q := by
  intro k hk q hq e
  refine Classical.byContradiction fun hne => ?_
  have h1 := sub_len (List.range n) (((List.range n).erase k).map g) List.nodup_range (fun i hi => by
    obtain ⟨r, hr, rfl⟩ := hs i (by simpa using hi)
    by_cases hrk : r = k
    · subst hrk
      exact List.mem_map.2 ⟨q, (List.mem_erase_of_ne (Ne.symm hne)).2 (by simpa using hq), e.symm⟩
    · exact List.mem_map.2 ⟨r, (List.mem_erase_of_ne hrk).2 (by simpa using hr), rfl⟩)
  rw [List.length_map, List.length_erase_of_mem (by simpa using hk)] at h1
  simp at h1
  omega

/-- The first suitable number among the last k steps of n, cyclically from f; -1 if there is none. -/
def fv (p : Nat → Bool) (n f : Nat) : Nat → Int
  | 0 => -1
  | k + 1 => if p ((f + (n - (k + 1))) % n) then (((f + (n - (k + 1))) % n : Nat) : Int) else fv p n f k
def fst (p : Nat → Bool) (n f : Nat) : Int := fv p n f n

theorem fv_cases (p : Nat → Bool) (n f : Nat) : ∀ k ≤ n, (fv p n f k = -1 ∧ ∀ s, n - k ≤ s → s < n → p ((f + s) % n) = false) ∨
    ∃ s, n - k ≤ s ∧ s < n ∧ fv p n f k = (((f + s) % n : Nat) : Int) ∧ p ((f + s) % n) = true ∧ ∀ t, n - k ≤ t → t < s → p ((f + t) % n) = false
  | 0, _ => .inl ⟨rfl, fun s h1 h2 => by omega⟩
  | k + 1, hk => by
    by_cases hp : p ((f + (n - (k + 1))) % n) = true
    · refine .inr ⟨n - (k + 1), Nat.le_refl _, by omega, by simp [fv, hp], hp, fun t h1 h2 => by omega⟩
    · have hp' : p ((f + (n - (k + 1))) % n) = false := by simpa using hp
      have e : fv p n f (k + 1) = fv p n f k := by simp [fv, hp']
      rw [e]
      rcases fv_cases p n f k (by omega) with ⟨h1, h2⟩ | ⟨s, h1, h2, h3, h4, h5⟩
      · refine .inl ⟨h1, fun s hs1 hs2 => ?_⟩
        by_cases hs : s = n - (k + 1)
        · subst hs; exact hp'
        · exact h2 s (by omega) hs2
      · refine .inr ⟨s, by omega, h2, h3, h4, fun t ht1 ht2 => ?_⟩
        by_cases ht : t = n - (k + 1)
        · subst ht; exact hp'
        · exact h5 t (by omega) ht2

/-- The distance from f on to x, cyclically. -/
def dist (n f x : Nat) : Nat := (x + n - f) % n
theorem dist_lt {n f x : Nat} (h : 0 < n) : dist n f x < n := Nat.mod_lt _ h
theorem add_dist {n f x : Nat} (hf : f < n) (hx : x < n) : (f + dist n f x) % n = x := by
  unfold dist
  by_cases h : f ≤ x
  · rw [show x + n - f = (x - f) + n by omega, Nat.add_mod_right, Nat.mod_eq_of_lt (show x - f < n by omega), show f + (x - f) = x by omega, Nat.mod_eq_of_lt hx]
  · rw [Nat.mod_eq_of_lt (show x + n - f < n by omega), show f + (x + n - f) = x + n by omega, Nat.add_mod_right, Nat.mod_eq_of_lt hx]
theorem dist_add {n f s : Nat} (hf : f < n) (hs : s < n) : dist n f ((f + s) % n) = s := by
  unfold dist
  by_cases h : f + s < n
  · rw [Nat.mod_eq_of_lt h, show f + s + n - f = s + n by omega, Nat.add_mod_right, Nat.mod_eq_of_lt hs]
  · rw [show f + s = (f + s - n) + n by omega, Nat.add_mod_right, Nat.mod_eq_of_lt (show f + s - n < n by omega), show f + s - n + n - f = s by omega, Nat.mod_eq_of_lt hs]
theorem dist_inj {n f x y : Nat} (hf : f < n) (hx : x < n) (hy : y < n) (h : dist n f x = dist n f y) : x = y := by
  rw [← add_dist hf hx, ← add_dist hf hy, h]
/-- Behind an element that is nearer the distance is less. -/
theorem dist_next {n f x y : Nat} (hf : f < n) (hx : x < n) (hy : y < n) (h : dist n f y < dist n f x) : dist n ((y + 1) % n) x < dist n f x ∧ dist n ((y + 1) % n) x + dist n f y + 1 = dist n f x := by
  have hn : 0 < n := by omega
  have e : dist n ((y + 1) % n) x = dist n f x - dist n f y - 1 := by
    have h1 : (y + 1) % n = (f + (dist n f y + 1)) % n := by
      conv => lhs; rw [← add_dist hf hy]
      rw [Nat.mod_add_mod]; congr 1
    have hd := dist_lt (f := f) (x := x) hn
    have h2 : x = ((y + 1) % n + (dist n f x - dist n f y - 1)) % n := by
      rw [h1, Nat.mod_add_mod, show f + (dist n f y + 1) + (dist n f x - dist n f y - 1) = f + dist n f x by omega, add_dist hf hx]
    conv => lhs; rw [h2]
    exact dist_add (Nat.mod_lt _ hn) (by omega)
  omega

theorem fst_none {p : Nat → Bool} {n f : Nat} (hf : f < n) (h : fst p n f = -1) : ∀ x < n, p x = false := by
  intro x hx
  rcases fv_cases p n f n (Nat.le_refl _) with ⟨_, h2⟩ | ⟨s, _, h2, h3, _⟩
  · have := h2 (dist n f x) (by omega) (dist_lt (by omega))
    rwa [add_dist hf hx] at this
  · have h3 : fst p n f = _ := h3
    rw [h] at h3; omega
theorem fst_cases (p : Nat → Bool) {n f : Nat} (hf : f < n) : (fst p n f = -1 ∧ ∀ x < n, p x = false) ∨
    ∃ x, x < n ∧ fst p n f = (x : Int) ∧ p x = true ∧ ∀ y < n, p y = true → dist n f x ≤ dist n f y := by
  rcases fv_cases p n f n (Nat.le_refl _) with ⟨h1, _⟩ | ⟨s, _, h2, h3, h4, h5⟩
  · exact .inl ⟨h1, fst_none hf h1⟩
  · refine .inr ⟨(f + s) % n, Nat.mod_lt _ (by omega), h3, h4, fun y hy hp => ?_⟩
    rw [dist_add hf h2]
    refine Nat.le_of_not_lt fun hlt => ?_
    have := h5 (dist n f y) (by omega) hlt
    rw [add_dist hf hy, hp] at this
    exact absurd this (by simp)
end Go.Proofs.Ytkooihniieepcaa.Bar
