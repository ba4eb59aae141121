/-
  Schedules merged onto one line, plainly: the backlog, and how late a frame is sent.
-/
import Derived.Test.YtbdaehcngmhhcaaLib
namespace Go.Proofs.Ytbdaehcngmhhcaa
set_option linter.unusedVariables false

/-- Frames of rate k/U that are due up to tick t. -/
def cntP (U : Nat) (k t : Nat) : Nat := k * t / U
def sN (f : Nat → Nat) : Nat → Nat
  | 0 => 0
  | n + 1 => sN f n + f n
theorem sN_congr {f g : Nat → Nat} : ∀ {n : Nat}, (∀ i < n, f i = g i) → sN f n = sN g n
  | 0, _ => rfl
  | n + 1, h => by rw [sN, sN, sN_congr (fun i hi => h i (by omega)), h n (by omega)]
theorem sN_add (f g : Nat → Nat) : ∀ n, sN (fun i => f i + g i) n = sN f n + sN g n
  | 0 => rfl
  | n + 1 => by simp only [sN, sN_add f g n]; omega
theorem sN_le {f g : Nat → Nat} : ∀ {n : Nat}, (∀ i < n, f i ≤ g i) → sN f n ≤ sN g n
  | 0, _ => Nat.le_refl _
  | n + 1, h => by have := sN_le (f := f) (g := g) (n := n) fun i hi => h i (by omega); have := h n (by omega); simp only [sN]; omega
theorem sN_mul (c : Nat) (f : Nat → Nat) : ∀ n, sN (fun i => c * f i) n = c * sN f n
  | 0 => by simp [sN]
  | n + 1 => by simp only [sN, sN_mul c f n, Nat.mul_add]
theorem sN_lt {f g : Nat → Nat} {c : Nat} : ∀ {n : Nat}, (∀ i < n, f i < g i + c) → 0 < n → sN f n < sN g n + n * c
  | 0, _, h => by omega
  | 1, h, _ => by have := h 0 (by omega); simp only [sN]; omega
  | n + 2, h, _ => by
    have := sN_lt (f := f) (g := g) (c := c) (n := n + 1) (fun i hi => h i (by omega)) (by omega)
    have := h (n + 1) (by omega)
    simp only [sN] at *
    have e : (n + 2) * c = (n + 1) * c + c := by rw [Nat.succ_mul]
    omega
section
variable {U : Nat}
theorem cnt_mono (hU : 0 < U) {k s t : Nat} (h : s ≤ t) : cntP U k s ≤ cntP U k t := Nat.div_le_div_right (Nat.mul_le_mul_left _ h)
/-- At most one frame of a flow a tick. -/
theorem cnt_succ (hU : 0 < U) {k t : Nat} (hk : k ≤ U) : cntP U k (t + 1) ≤ cntP U k t + 1 := by
  unfold cntP
  rw [Nat.mul_add, Nat.mul_one]
  have : (k * t + k) / U ≤ (k * t + U) / U := Nat.div_le_div_right (by omega)
  rw [Nat.add_div_right _ hU] at this
  exact this
theorem cnt_ge (hU : 0 < U) {k t j : Nat} : j ≤ cntP U k t ↔ j * U ≤ k * t := by unfold cntP; exact Nat.le_div_iff_mul_le hU
/-- Fewer than t - s + n frames of all flows in the ticks s + 1 to t. -/
theorem burst (hU : 0 < U) {n : Nat} {k : Nat → Nat} (hk : sN k n ≤ U) (hn : 0 < n) {s t : Nat} (h : s ≤ t) : sN (fun i => cntP U (k i) t) n < sN (fun i => cntP U (k i) s) n + (t - s) + n := by
  have h1 : ∀ i < n, U * cntP U (k i) t < (U * cntP U (k i) s + k i * (t - s)) + U := fun i _ => by
    have a : U * cntP U (k i) t ≤ k i * t := by unfold cntP; exact Nat.mul_div_le _ _
    have b : k i * s < U * cntP U (k i) s + U := by
      have := Nat.lt_mul_div_succ (k i * s) hU
      unfold cntP
      rw [Nat.mul_add, Nat.mul_one] at this
      exact this
    have c : k i * t = k i * s + k i * (t - s) := by rw [← Nat.mul_add]; congr 1; omega
    omega
  have h2 := sN_lt (f := fun i => U * cntP U (k i) t) (g := fun i => U * cntP U (k i) s + k i * (t - s)) (c := U) (n := n) h1 hn
  rw [sN_add, sN_mul, sN_mul] at h2
  have h3 : sN (fun i => k i * (t - s)) n = (t - s) * sN k n := by
    rw [← sN_mul]
    exact sN_congr fun i _ => Nat.mul_comm _ _
  rw [h3] at h2
  have h4 : (t - s) * sN k n ≤ (t - s) * U := Nat.mul_le_mul_left _ hk
  have h5 : U * sN (fun i => cntP U (k i) t) n < U * (sN (fun i => cntP U (k i) s) n + (t - s) + n) := by
    rw [Nat.mul_add, Nat.mul_add, Nat.mul_comm U (t - s), Nat.mul_comm U n]
    omega
  exact Nat.lt_of_mul_lt_mul_left h5
end
/-- A frame that waits: its flow, its number from 1 on. -/
structure Fq where
  i : Nat
  k : Nat
/-- The frames of the flows below n that come up in tick t, in order. -/
def newQ (U : Nat) (k : Nat → Nat) (t : Nat) : Nat → List Fq
  | 0 => []
  | n + 1 => newQ U k t n ++ (if cntP U (k n) (t - 1) < cntP U (k n) t then [⟨n, cntP U (k n) t⟩] else [])
/-- The state behind a tick: the queue, what was sent of each flow, the greatest backlog. -/
structure Mg where
  q : List Fq
  sent : Nat → List Nat
  bl : Nat
def Mg.tick (U : Nat) (k : Nat → Nat) (n t : Nat) (s : Mg) : Mg :=
  match s.q ++ newQ U k t n with
  | [] => ⟨[], s.sent, max s.bl 0⟩
  | f :: r => ⟨r, fun i => if i = f.i then s.sent i ++ [t] else s.sent i, max s.bl r.length⟩
def Mg.run (U : Nat) (k : Nat → Nat) (n : Nat) : Nat → Mg
  | 0 => ⟨[], fun _ => [], 0⟩
  | t + 1 => (Mg.run U k n t).tick U k n (t + 1)
/-- The arrival tick's bounds of frame j of a flow. -/
def atOk (U k j t : Nat) : Prop := j ≤ cntP U k t ∧ cntP U k (t - 1) < j ∧ 1 ≤ t
structure MgI (U : Nat) (k : Nat → Nat) (n t : Nat) (s : Mg) : Prop where
  lt : ∀ f ∈ s.q, f.i < n
  len : ∃ b ≤ t, s.q.length + (t - b) + sN (fun i => cntP U (k i) b) n = sN (fun i => cntP U (k i) t) n
  wait : ∀ (p : Nat) f, s.q[p]? = some f → ∃ a, atOk U (k f.i) f.k a ∧ a ≤ t ∧ t + p + 2 ≤ a + n
  num : ∀ i < n, (s.q.filter (fun f => f.i == i)).map (·.k) = List.range' ((s.sent i).length + 1) (cntP U (k i) t - (s.sent i).length) ∧ (s.sent i).length ≤ cntP U (k i) t
  snt : ∀ i < n, ∀ (j : Nat) x, (s.sent i)[j]? = some x → ∃ a, atOk U (k i) (j + 1) a ∧ a ≤ x ∧ x < a + n
  bl : s.q.length ≤ s.bl ∧ s.bl + 1 ≤ max n 1
section
variable {U : Nat} {k : Nat → Nat}
theorem newQ_mem {t : Nat} {f : Fq} : ∀ {n : Nat}, f ∈ newQ U k t n → f.i < n ∧ f.k = cntP U (k f.i) t ∧ cntP U (k f.i) (t - 1) < f.k
  | 0, h => by cases h
  | n + 1, h => by
    unfold newQ at h
    rcases List.mem_append.1 h with h | h
    · have := newQ_mem h
      exact ⟨by omega, this.2⟩
    · split at h
      · rw [List.mem_singleton.1 h]
        exact ⟨Nat.lt_succ_self n, rfl, by assumption⟩
      · cases h
theorem newQ_len (hU : 0 < U) {t : Nat} : ∀ {n : Nat}, (∀ i < n, k i ≤ U) → (newQ U k (t + 1) n).length + sN (fun i => cntP U (k i) t) n = sN (fun i => cntP U (k i) (t + 1)) n
  | 0, _ => rfl
  | n + 1, h => by
    have h1 := newQ_len hU (t := t) (n := n) fun i hi => h i (by omega)
    have h2 := cnt_succ hU (t := t) (h n (by omega))
    have h3 := cnt_mono hU (k := k n) (show t ≤ t + 1 by omega)
    simp only [sN, newQ, Nat.add_sub_cancel, List.length_append]
    split
    · simp only [List.length_singleton]; omega
    · simp only [List.length_nil]; omega
theorem newQ_filter {t i : Nat} : ∀ {n : Nat}, (newQ U k t n).filter (fun f => f.i == i) = if i < n ∧ cntP U (k i) (t - 1) < cntP U (k i) t then [⟨i, cntP U (k i) t⟩] else []
  | 0 => by simp [newQ]
  | n + 1 => by
    rw [newQ, List.filter_append, newQ_filter]
    by_cases e : n = i
    · subst e
      rw [if_neg (by omega)]
      by_cases h : cntP U (k n) (t - 1) < cntP U (k n) t
      · rw [if_pos h, if_pos ⟨by omega, h⟩]; simp
      · rw [if_neg h, if_neg (fun x => h x.2)]; simp
    · have : (if cntP U (k n) (t - 1) < cntP U (k n) t then [(⟨n, cntP U (k n) t⟩ : Fq)] else []).filter (fun f => f.i == i) = [] := by
        split
        · simp [e]
        · rfl
      rw [this, List.append_nil]
      by_cases h : cntP U (k i) (t - 1) < cntP U (k i) t
      · by_cases h2 : i < n
        · rw [if_pos ⟨h2, h⟩, if_pos ⟨by omega, h⟩]
        · rw [if_neg (fun x => h2 x.1), if_neg (fun x => by omega)]
      · rw [if_neg (fun x => h x.2), if_neg (fun x => h x.2)]
theorem MgI.start (n : Nat) : MgI U k n 0 ⟨[], fun _ => [], 0⟩ := by
  refine ⟨fun f h => (by cases h), ⟨0, Nat.le_refl _, by simp⟩, fun p f h => (by simp at h), fun i _ => ?_, fun i _ j x h => (by simp at h), (by simp; omega)⟩
  have : cntP U (k i) 0 = 0 := by simp [cntP]
  rw [this]
  exact ⟨rfl, Nat.le_refl _⟩
theorem MgI.step (hU : 0 < U) {n t : Nat} {s : Mg} (hk : sN k n ≤ U) (h : MgI U k n t s) : MgI U k n (t + 1) (s.tick U k n (t + 1)) := by
  have hki : ∀ i < n, k i ≤ U := fun i hi => by
    have : ∀ m, i < m → k i ≤ sN k m := by
      intro m
      induction m with
      | zero => intro h; omega
      | succ m ih =>
        intro hm
        simp only [sN]
        by_cases e : i = m
        · subst e; omega
        · have := ih (by omega); omega
    exact Nat.le_trans (this n hi) hk
  obtain ⟨b, hb, hl⟩ := h.len
  have hnl := newQ_len hU (k := k) (t := t) (n := n) hki
  have hQl : (s.q ++ newQ U k (t + 1) n).length + (t - b) + sN (fun i => cntP U (k i) b) n = sN (fun i => cntP U (k i) (t + 1)) n := by
    rw [List.length_append]; omega
  have hlt : ∀ f ∈ s.q ++ newQ U k (t + 1) n, f.i < n := fun f hf => by
    rcases List.mem_append.1 hf with hf | hf
    · exact h.lt f hf
    · exact (newQ_mem hf).1
  have hQn : (s.q ++ newQ U k (t + 1) n).length ≤ n := by
    rcases Nat.eq_zero_or_pos n with e | e
    · subst e
      cases hq : s.q ++ newQ U k (t + 1) 0 with
      | nil => exact Nat.le_refl _
      | cons f r => exact absurd (hlt f (by rw [hq]; exact List.mem_cons_self)) (by omega)
    · have := burst hU hk e (show b ≤ t + 1 by omega)
      omega
  have hw : ∀ (p : Nat) f, (s.q ++ newQ U k (t + 1) n)[p]? = some f → ∃ a, atOk U (k f.i) f.k a ∧ a ≤ t + 1 ∧ t + 1 + p + 1 ≤ a + n := by
    intro p f hp
    by_cases e : p < s.q.length
    · rw [List.getElem?_append_left e] at hp
      obtain ⟨a, h1, h2, h3⟩ := h.wait p f hp
      exact ⟨a, h1, by omega, by omega⟩
    · have hpl : p < (s.q ++ newQ U k (t + 1) n).length := by
        rcases Nat.lt_or_ge p (s.q ++ newQ U k (t + 1) n).length with x | x
        · exact x
        · rw [List.getElem?_eq_none x] at hp; cases hp
      rw [List.getElem?_append_right (by omega)] at hp
      obtain ⟨h1, h2, h3⟩ := newQ_mem (List.mem_of_getElem? hp)
      exact ⟨t + 1, ⟨by omega, by rw [Nat.add_sub_cancel] at h3 ⊢; exact h3, by omega⟩, Nat.le_refl _, by omega⟩
  have hnum : ∀ i < n, ((s.q ++ newQ U k (t + 1) n).filter (fun f => f.i == i)).map (·.k) = List.range' ((s.sent i).length + 1) (cntP U (k i) (t + 1) - (s.sent i).length) ∧ (s.sent i).length ≤ cntP U (k i) (t + 1) := by
    intro i hi
    obtain ⟨h1, h2⟩ := h.num i hi
    have c1 := cnt_succ hU (t := t) (hki i hi)
    have c2 := cnt_mono hU (k := k i) (show t ≤ t + 1 by omega)
    rw [List.filter_append, List.map_append, h1, newQ_filter, Nat.add_sub_cancel]
    refine ⟨?_, by omega⟩
    by_cases e : cntP U (k i) t < cntP U (k i) (t + 1)
    · rw [if_pos ⟨hi, e⟩]
      have e2 : cntP U (k i) (t + 1) - (s.sent i).length = cntP U (k i) t - (s.sent i).length + 1 := by omega
      rw [e2, List.range'_concat]
      simp only [List.map_cons, List.map_nil]
      congr 2
      omega
    · rw [if_neg (fun x => e x.2)]
      have e2 : cntP U (k i) (t + 1) = cntP U (k i) t := by omega
      rw [e2]; simp
  unfold Mg.tick
  generalize s.q ++ newQ U k (t + 1) n = Q at *
  cases Q with
  | nil =>
    dsimp only
    refine ⟨fun f hf => (by cases hf), ⟨t + 1, Nat.le_refl _, by simp⟩, fun p f hp => (by simp at hp), hnum, h.snt, ?_⟩
    have := h.bl
    simp only [List.length_nil]
    omega
  | cons f0 r =>
    dsimp only
    have hf0 := hlt f0 List.mem_cons_self
    obtain ⟨a0, ha1, ha2, ha3⟩ := hw 0 f0 rfl
    simp only [List.length_cons] at hQl hQn
    refine ⟨fun f hf => hlt f (List.mem_cons_of_mem _ hf), ⟨b, by omega, by dsimp only; omega⟩, fun p f hp => ?_, fun i hi => ?_, fun i hi j x hx => ?_, ?_⟩
    · obtain ⟨a, h1, h2, h3⟩ := hw (p + 1) f (by simpa using hp)
      exact ⟨a, h1, h2, by omega⟩
    · dsimp only
      obtain ⟨h1, h2⟩ := hnum i hi
      by_cases e : i = f0.i
      · have e' : (f0.i == i) = true := by simp [e]
        rw [List.filter_cons, if_pos e', List.map_cons] at h1
        rw [if_pos e, List.length_append, List.length_singleton]
        cases hc : cntP U (k i) (t + 1) - (s.sent i).length with
        | zero => rw [hc] at h1; simp at h1
        | succ c =>
          rw [hc, List.range'_succ] at h1
          injection h1 with h3 h4
          refine ⟨?_, by omega⟩
          rw [h4]
          congr 1
          omega
      · have e' : ¬ (f0.i == i) = true := by simp; exact fun x => e x.symm
        rw [List.filter_cons, if_neg e'] at h1
        rw [if_neg e]
        exact ⟨h1, h2⟩
    · dsimp only at hx
      by_cases e : i = f0.i
      · rw [if_pos e] at hx
        by_cases hj : j < (s.sent i).length
        · rw [List.getElem?_append_left hj] at hx
          exact h.snt i hi j x hx
        · have hj' : j = (s.sent i).length := by
            have := (List.getElem?_eq_some_iff.1 hx).1
            rw [List.length_append, List.length_singleton] at this
            omega
          subst hj'
          rw [List.getElem?_append_right (Nat.le_refl _), Nat.sub_self] at hx
          simp at hx
          subst hx
          obtain ⟨h1, h2⟩ := hnum i hi
          have e' : (f0.i == i) = true := by simp [e]
          rw [List.filter_cons, if_pos e', List.map_cons] at h1
          have hk0 : f0.k = (s.sent i).length + 1 := by
            cases hc : cntP U (k i) (t + 1) - (s.sent i).length with
            | zero => rw [hc] at h1; simp at h1
            | succ c =>
              rw [hc, List.range'_succ] at h1
              injection h1 with h3 h4
          rw [← hk0, e]
          exact ⟨a0, ha1, by omega, by omega⟩
      · rw [if_neg e] at hx
        exact h.snt i hi j x hx
    · have := h.bl
      have : 1 ≤ n := by omega
      simp only [List.length_cons] at *
      omega
theorem mg_run (hU : 0 < U) {n : Nat} (hk : sN k n ≤ U) : ∀ t, MgI U k n t (Mg.run U k n t)
  | 0 => MgI.start n
  | t + 1 => (mg_run hU hk t).step hU hk
end
end Go.Proofs.Ytbdaehcngmhhcaa
