/-
  The greatest matching by trying everything. Plain Lean: no program in sight.
-/
import Derived.Test.YtldgpdgoccccpaaBarD
namespace Go.Proofs.Ytldgpdgoccccpaa.Bar
set_option linter.unusedVariables false

/-- The best choice for one input: none, or one of the first k outputs. -/
def gl (rec : (Nat → Bool) → Nat) (row : Nat → Bool) (taken : Nat → Bool) : Nat → Nat
  | 0 => rec taken
  | k + 1 => if !row k || taken k then gl rec row taken k else max (gl rec row taken k) (1 + rec (upd taken k true))
/-- The greatest number of the last d inputs that can be matched. -/
def gm (req : Nat → Nat → Bool) (n : Nat) : Nat → (Nat → Bool) → Nat
  | 0, _ => 0
  | d + 1, taken => gl (gm req n d) (req (n - (d + 1))) taken n

theorem gl_base (rec : (Nat → Bool) → Nat) (row taken : Nat → Bool) : ∀ k, rec taken ≤ gl rec row taken k
  | 0 => Nat.le_refl _
  | k + 1 => by
    have := gl_base rec row taken k
    unfold gl; split <;> omega
theorem gl_one (rec : (Nat → Bool) → Nat) (row taken : Nat → Bool) : ∀ k, ∀ q < k, row q = true → taken q = false → 1 + rec (upd taken q true) ≤ gl rec row taken k
  | 0, q, hq, _, _ => by omega
  | k + 1, q, hq, h1, h2 => by
    by_cases e : q = k
    · subst e
      unfold gl; simp [h1, h2]; omega
    · have := gl_one rec row taken k q (by omega) h1 h2
      unfold gl; split <;> omega
theorem gl_is (rec : (Nat → Bool) → Nat) (row taken : Nat → Bool) : ∀ k, gl rec row taken k = rec taken ∨ ∃ q, q < k ∧ row q = true ∧ taken q = false ∧ gl rec row taken k = 1 + rec (upd taken q true)
  | 0 => .inl rfl
  | k + 1 => by
    have ih := gl_is rec row taken k
    by_cases hc : (!row k || taken k) = true
    · have e : gl rec row taken (k + 1) = gl rec row taken k := by show (if _ then _ else _) = _; rw [if_pos hc]
      rw [e]
      exact ih.imp id fun ⟨q, h1, h2⟩ => ⟨q, by omega, h2⟩
    · have e : gl rec row taken (k + 1) = max (gl rec row taken k) (1 + rec (upd taken k true)) := by show (if _ then _ else _) = _; rw [if_neg hc]
      have hc' : row k = true ∧ taken k = false := by simpa using hc
      by_cases hm : gl rec row taken k ≤ 1 + rec (upd taken k true)
      · exact .inr ⟨k, by omega, hc'.1, hc'.2, by rw [e]; omega⟩
      · have e' : gl rec row taken (k + 1) = gl rec row taken k := by rw [e]; omega
        rw [e']
        exact ih.imp id fun ⟨q, h1, h2⟩ => ⟨q, by omega, h2⟩

def szd (f : Nat → Int) (n : Nat) : Nat → Nat
  | 0 => 0
  | d + 1 => (if 0 ≤ f (n - (d + 1)) then 1 else 0) + szd f n d
theorem szd_eq (f : Nat → Int) (n : Nat) : ∀ d ≤ n, szd f n d = ((List.range' (n - d) d).filter fun i => decide (0 ≤ f i)).length
  | 0, _ => rfl
  | d + 1, h => by
    have ih := szd_eq f n d (by omega)
    have e : n - (d + 1) + 1 = n - d := by omega
    rw [List.range'_succ, List.filter_cons, e]
    unfold szd
    rw [ih]
    split <;> rename_i hp <;> simp [hp] <;> omega
theorem szd_full (f : Nat → Int) (n : Nat) : szd f n n = fsz n f := by
  rw [szd_eq f n n (Nat.le_refl _), Nat.sub_self, ← List.range_eq_range']
  rfl
theorem szd_congr {f g : Nat → Int} {n : Nat} : ∀ d ≤ n, (∀ i, n - d ≤ i → i < n → f i = g i) → szd f n d = szd g n d
  | 0, _, _ => rfl
  | d + 1, h, he => by
    unfold szd
    rw [szd_congr d (by omega) fun i h1 h2 => he i (by omega) h2, he (n - (d + 1)) (Nat.le_refl _) (by omega)]

/-- f matches the last d inputs with outputs that are not taken. -/
structure MatD (req : Nat → Nat → Bool) (n d : Nat) (taken : Nat → Bool) (f : Nat → Int) : Prop where
  m : ∀ i, n - d ≤ i → i < n → f i < 0 ∨ ∃ k, k < n ∧ f i = (k : Int) ∧ req i k = true ∧ taken k = false
  inj : ∀ i, n - d ≤ i → i < n → ∀ j, n - d ≤ j → j < n → ∀ k : Nat, f i = (k : Int) → f j = (k : Int) → i = j

theorem gm_up (req : Nat → Nat → Bool) (n : Nat) : ∀ d ≤ n, ∀ taken f, MatD req n d taken f → szd f n d ≤ gm req n d taken
  | 0, _, _, _, _ => Nat.le_refl _
  | d + 1, h, taken, f, hf => by
    show (if 0 ≤ f (n - (d + 1)) then 1 else 0) + szd f n d ≤ gl (gm req n d) (req (n - (d + 1))) taken n
    rcases hf.m (n - (d + 1)) (Nat.le_refl _) (by omega) with h0 | ⟨k, hk, e, hr, ht⟩
    · rw [if_neg (by omega)]
      have := gm_up req n d (by omega) taken f ⟨fun i h1 h2 => hf.m i (by omega) h2, fun i h1 h2 j h3 h4 => hf.inj i (by omega) h2 j (by omega) h4⟩
      have := gl_base (gm req n d) (req (n - (d + 1))) taken n
      omega
    · rw [if_pos (by omega)]
      have := gm_up req n d (by omega) (upd taken k true) f ⟨fun i h1 h2 => by
        rcases hf.m i (by omega) h2 with h3 | ⟨q, h3, h4, h5, h6⟩
        · exact .inl h3
        · refine .inr ⟨q, h3, h4, h5, ?_⟩
          have : q ≠ k := fun eq => by
            have := hf.inj i (by omega) h2 (n - (d + 1)) (Nat.le_refl _) (by omega) k (by omega) e
            omega
          rw [upd_ne _ _ this]; exact h6, fun i h1 h2 j h3 h4 => hf.inj i (by omega) h2 j (by omega) h4⟩
      have := gl_one (gm req n d) (req (n - (d + 1))) taken n k hk hr ht
      omega
theorem gm_at (req : Nat → Nat → Bool) (n : Nat) : ∀ d ≤ n, ∀ taken, ∃ f, MatD req n d taken f ∧ szd f n d = gm req n d taken
  | 0, _, taken => ⟨fun _ => -1, ⟨fun i h1 h2 => by omega, fun i h1 h2 => by omega⟩, rfl⟩
  | d + 1, h, taken => by
    have ne : ∀ i, n - d ≤ i → i ≠ n - (d + 1) := fun i h1 => by omega
    rcases gl_is (gm req n d) (req (n - (d + 1))) taken n with e | ⟨q, hq, hr, ht, e⟩
    · obtain ⟨f, hf, hs⟩ := gm_at req n d (by omega) taken
      refine ⟨upd f (n - (d + 1)) (-1), ⟨fun i h1 h2 => ?_, fun i h1 h2 j h3 h4 k e1 e2 => ?_⟩, ?_⟩
      · by_cases a : i = n - (d + 1)
        · subst a; rw [upd_same]; exact .inl (by omega)
        · rw [upd_ne _ _ a]; exact hf.m i (by omega) h2
      · by_cases a : i = n - (d + 1)
        · subst a; rw [upd_same] at e1; omega
        · by_cases b : j = n - (d + 1)
          · subst b; rw [upd_same] at e2; omega
          · rw [upd_ne _ _ a] at e1; rw [upd_ne _ _ b] at e2
            exact hf.inj i (by omega) h2 j (by omega) h4 k e1 e2
      · show (if 0 ≤ upd f (n - (d + 1)) (-1) (n - (d + 1)) then 1 else 0) + szd (upd f (n - (d + 1)) (-1)) n d = gl _ _ _ _
        rw [upd_same, e, if_neg (by omega), szd_congr d (by omega) fun i h1 _ => upd_ne f (-1) (ne i h1), hs]
        omega
    · obtain ⟨f, hf, hs⟩ := gm_at req n d (by omega) (upd taken q true)
      have nq : ∀ i, n - d ≤ i → i < n → f i ≠ (q : Int) := by
        intro i h1 h2 e'
        rcases hf.m i h1 h2 with h3 | ⟨k, h3, h4, h5, h6⟩
        · omega
        · obtain rfl : k = q := by omega
          rw [upd_same] at h6; exact absurd h6 (by simp)
      refine ⟨upd f (n - (d + 1)) (q : Int), ⟨fun i h1 h2 => ?_, fun i h1 h2 j h3 h4 k e1 e2 => ?_⟩, ?_⟩
      · by_cases a : i = n - (d + 1)
        · subst a; rw [upd_same]; exact .inr ⟨q, hq, rfl, hr, ht⟩
        · rw [upd_ne _ _ a]
          rcases hf.m i (by omega) h2 with h3 | ⟨k, h3, h4, h5, h6⟩
          · exact .inl h3
          · refine .inr ⟨k, h3, h4, h5, ?_⟩
            have : k ≠ q := fun e' => by subst e'; rw [upd_same] at h6; exact absurd h6 (by simp)
            rwa [upd_ne _ _ this] at h6
      · by_cases a : i = n - (d + 1) <;> by_cases b : j = n - (d + 1)
        · omega
        · subst a; rw [upd_same] at e1; rw [upd_ne _ _ b] at e2
          exact absurd (by omega : f j = (q : Int)) (nq j (by omega) h4)
        · subst b; rw [upd_same] at e2; rw [upd_ne _ _ a] at e1
          exact absurd (by omega : f i = (q : Int)) (nq i (by omega) h2)
        · rw [upd_ne _ _ a] at e1; rw [upd_ne _ _ b] at e2
          exact hf.inj i (by omega) h2 j (by omega) h4 k e1 e2
      · show (if 0 ≤ upd f (n - (d + 1)) (q : Int) (n - (d + 1)) then 1 else 0) + szd (upd f (n - (d + 1)) (q : Int)) n d = gl _ _ _ _
        rw [upd_same, e, if_pos (by omega), szd_congr d (by omega) fun i h1 _ => upd_ne f (q : Int) (ne i h1), hs]
theorem gm_great (req : Nat → Nat → Bool) (n : Nat) : Great req n (gm req n n fun _ => false) := by
  refine ⟨?_, fun f hf => ?_⟩
  · obtain ⟨f, hf, hs⟩ := gm_at req n n (Nat.le_refl _) fun _ => false
    refine ⟨f, ⟨fun i hi => (hf.m i (by omega) hi).imp id fun ⟨k, h1, h2, h3, _⟩ => ⟨k, h1, h2, h3⟩, fun i hi j hj => hf.inj i (by omega) hi j (by omega) hj⟩, by rw [← szd_full, hs]⟩
  · rw [← szd_full]
    exact gm_up req n n (Nat.le_refl _) _ f ⟨fun i _ hi => (hf.m i hi).imp id fun ⟨k, h1, h2, h3⟩ => ⟨k, h1, h2, h3, rfl⟩, fun i _ hi j _ hj => hf.inj i hi j hj⟩
end Go.Proofs.Ytldgpdgoccccpaa.Bar
