/-
  With all requests the pointers come apart; a request that stays is matched in time. Plain Lean: no program in sight.
-/
import Derived.Test.YtldgpdgoccccpaaBarB
namespace Go.Proofs.Ytldgpdgoccccpaa.Bar
set_option linter.unusedVariables false

/-- Pointers move in the first round alone. -/
theorem rounds_ptr {req : Nat → Nat → Bool} {n : Nat} {s : St} (h : Ok req n s) : ∀ r, (∀ k < n, (rounds req n s (r + 1)).g k = (round req n true s).g k) ∧ ∀ k < n, (rounds req n s (r + 1)).a k = (round req n true s).a k
  | 0 => ⟨fun _ _ => rfl, fun _ _ => rfl⟩
  | r + 1 => by
    have ih := rounds_ptr h r
    have A := round_acc (rounds_ok h (r + 1)) false
    refine ⟨fun k hk => ?_, fun k hk => ?_⟩
    · rw [← ih.1 k hk]
      show (round req n false (rounds req n s (r + 1))).g k = _
      by_cases hx : ∃ x, x < n ∧ kkv n (grv req n (rounds req n s (r + 1))) (rounds req n s (r + 1)).a x = (k : Int)
      · obtain ⟨x, hx, e⟩ := hx
        rw [A.g1 x k hx e]; simp
      · exact A.g0 k fun x hx' e => hx ⟨x, hx', e⟩
    · rw [← ih.2 k hk]
      show (round req n false (rounds req n s (r + 1))).a k = _
      rw [A.a k]; simp

def all (_ _ : Nat) : Bool := true
theorem sat_gr {n : Nat} {g a : Nat → Nat} (hg : ∀ k < n, g k < n) (ha : ∀ i < n, a i < n) {k : Nat} (hk : k < n) : grv all n (start g a) k = (g k : Int) := by
  rcases gr_cases (start_ok (req := all) hg ha) hk with ⟨_, h | h⟩ | ⟨i, hi, h1, _, _, _, h2⟩
  · simp [start] at h
  · have := h (g k) (hg k hk) (by simp [start])
    simp [all] at this
  · have h3 := h2 (g k) (hg k hk) (by simp [start]) rfl
    have h4 : dist n (g k) (g k) = 0 := by
      have := dist_add (n := n) (f := g k) (s := 0) (hg k hk) (by have := hg k hk; omega)
      rwa [Nat.add_zero, Nat.mod_eq_of_lt (hg k hk)] at this
    have h5 : dist n (g k) i = dist n (g k) (g k) := by
      have h3' : dist n (g k) i ≤ dist n (g k) (g k) := h3
      omega
    rw [h1, dist_inj (hg k hk) hi (hg k hk) h5]

/-- The pointers behind a matching with all requests. -/
def nxt (n : Nat) (p : (Nat → Nat) × (Nat → Nat)) : (Nat → Nat) × (Nat → Nat) := ((round all n true (start p.1 p.2)).g, (round all n true (start p.1 p.2)).a)
structure Rg (n : Nat) (p : (Nat → Nat) × (Nat → Nat)) : Prop where
  g : ∀ k < n, p.1 k < n
  a : ∀ i < n, p.2 i < n
theorem nxt_rg {n : Nat} {p : (Nat → Nat) × (Nat → Nat)} (h : Rg n p) : Rg n (nxt n p) :=
  have o := round_ok (start_ok (req := all) h.g h.a) true
  ⟨o.g, o.a⟩
/-- Of the outputs that point to one input one moves on; the others stay. -/
theorem nxt_move {n : Nat} {p : (Nat → Nat) × (Nat → Nat)} (h : Rg n p) {k : Nat} (hk : k < n) :
    ∃ c, c < n ∧ p.1 c = p.1 k ∧ (nxt n p).1 c = (p.1 k + 1) % n ∧ kkv n (grv all n (start p.1 p.2)) p.2 (p.1 k) = (c : Int) ∧ ∀ q < n, p.1 q = p.1 k → q ≠ c → (nxt n p).1 q = p.1 q := by
  have o := start_ok (req := all) h.g h.a
  have A := round_acc o true
  have hik := h.g k hk
  rcases fst_cases (fun q => grv all n (start p.1 p.2) q == ((p.1 k : Nat) : Int)) (h.a (p.1 k) hik) with ⟨h1, h2⟩ | ⟨c, hc, h1, h2, h3⟩
  · have := h2 k hk
    simp [sat_gr h.g h.a hk] at this
  · have e : p.1 c = p.1 k := by
      have : grv all n (start p.1 p.2) c = ((p.1 k : Nat) : Int) := by simpa using h2
      rw [sat_gr h.g h.a hc] at this; omega
    have hkc : kkv n (grv all n (start p.1 p.2)) p.2 (p.1 k) = (c : Int) := h1
    refine ⟨c, hc, e, ?_, hkc, fun q hq eq hne => ?_⟩
    · have := A.g1 (p.1 k) c hik hkc
      show (round all n true (start p.1 p.2)).g c = _
      simpa using this
    · refine A.g0 q fun x hx ex => ?_
      have hq' := kk_gr (h.a x hx) ex
      rw [sat_gr h.g h.a hq] at hq'
      obtain rfl : p.1 q = x := by omega
      rw [eq] at ex
      have ex' : kkv n (grv all n (start p.1 p.2)) p.2 (p.1 k) = (q : Int) := ex
      omega

def iter (n : Nat) (p : (Nat → Nat) × (Nat → Nat)) : Nat → (Nat → Nat) × (Nat → Nat)
  | 0 => p
  | t + 1 => nxt n (iter n p t)
theorem iter_rg {n : Nat} {p : (Nat → Nat) × (Nat → Nat)} (h : Rg n p) : ∀ t, Rg n (iter n p t)
  | 0 => h
  | t + 1 => nxt_rg (iter_rg h t)
def Hole (n : Nat) (g : Nat → Nat) (i : Nat) : Prop := ∀ k < n, g k ≠ i
def One (n : Nat) (g : Nat → Nat) (i : Nat) : Prop := ∀ k < n, ∀ q < n, g k = i → g q = i → k = q
/-- An input to which at most one output points stays so. -/
theorem one_nxt {n : Nat} {p : (Nat → Nat) × (Nat → Nat)} (h : Rg n p) {i : Nat} (ho : One n p.1 i) : One n (nxt n p).1 i := by
  have key : ∀ k < n, (nxt n p).1 k = i → ∃ c, c < n ∧ p.1 c = p.1 k ∧ c = k ∧ (p.1 k + 1) % n = i ∧ kkv n (grv all n (start p.1 p.2)) p.2 (p.1 k) = (k : Int) := by
    intro k hk e
    obtain ⟨c, hc, h1, h2, h3, h4⟩ := nxt_move h hk
    by_cases hkc : k = c
    · subst hkc; exact ⟨k, hk, rfl, rfl, by rw [← e, h2], h3⟩
    · have h5 := h4 k hk rfl hkc
      have h6 : p.1 k = i := by rw [← h5, e]
      exact absurd (ho k hk c hc h6 (by rw [h1, h6])) hkc
  intro k hk q hq ek eq
  obtain ⟨_, _, _, _, h1, h2⟩ := key k hk ek
  obtain ⟨_, _, _, _, h3, h4⟩ := key q hq eq
  have hkn := h.g k hk
  have hqn := h.g q hq
  have : p.1 k = p.1 q := by
    have hm : (p.1 k + 1) % n = (p.1 q + 1) % n := by rw [h1, h3]
    by_cases a1 : p.1 k + 1 < n <;> by_cases a2 : p.1 q + 1 < n
    · rw [Nat.mod_eq_of_lt a1, Nat.mod_eq_of_lt a2] at hm; omega
    · rw [Nat.mod_eq_of_lt a1, show p.1 q + 1 = n by omega, Nat.mod_self] at hm; omega
    · rw [Nat.mod_eq_of_lt a2, show p.1 k + 1 = n by omega, Nat.mod_self] at hm; omega
    · omega
  rw [this, h4] at h2
  omega
/-- A gap comes from the gap behind it. -/
theorem hole_nxt {n : Nat} {p : (Nat → Nat) × (Nat → Nat)} (h : Rg n p) {i : Nat} (ho : Hole n (nxt n p).1 ((i + 1) % n)) : Hole n p.1 i := by
  intro k hk e
  obtain ⟨c, hc, h1, h2, _⟩ := nxt_move h hk
  exact ho c hc (by rw [h2, e])
theorem hole_one {n : Nat} {g : Nat → Nat} {i : Nat} (h : Hole n g i) : One n g i := fun k hk _ _ e _ => absurd e (h k hk)
theorem one_iter {n : Nat} {p : (Nat → Nat) × (Nat → Nat)} (h : Rg n p) {i t : Nat} (ho : One n (iter n p t).1 i) : ∀ u, One n (iter n p (t + u)).1 i
  | 0 => ho
  | u + 1 => one_nxt (iter_rg h (t + u)) (one_iter h ho u)
theorem hole_back {n : Nat} {p : (Nat → Nat) × (Nat → Nat)} (h : Rg n p) {t : Nat} : ∀ u i, i < n → Hole n (iter n p (t + u)).1 ((i + u) % n) → Hole n (iter n p t).1 i
  | 0, i, hi, ho => by rwa [Nat.add_zero, Nat.add_zero, Nat.mod_eq_of_lt hi] at ho
  | u + 1, i, hi, ho => by
    refine hole_back h u i hi (hole_nxt (iter_rg h (t + u)) ?_)
    rw [Nat.mod_add_mod]
    exact ho
/-- Behind n matchings with all requests no two outputs point to the same input. -/
theorem sat_inj {n : Nat} {p : (Nat → Nat) × (Nat → Nat)} (h : Rg n p) {t : Nat} (ht : n ≤ t) : ∀ k < n, ∀ q < n, (iter n p t).1 k = (iter n p t).1 q → k = q := by
  refine surj_inj n _ fun i hi => ?_
  refine Classical.byContradiction fun hno => ?_
  have hole : Hole n (iter n p t).1 i := fun k hk e => hno ⟨k, hk, e⟩
  have h1 : ∀ q < n, One n (iter n p t).1 q := by
    intro q hq
    -- the gap was at q at time t - u
    have e : (q + dist n q i) % n = i := add_dist hq hi
    have hd := dist_lt (n := n) (f := q) (x := i) (by omega)
    have h2 : Hole n (iter n p (t - dist n q i)).1 q := by
      refine hole_back h (dist n q i) q hq ?_
      rw [e, show t - dist n q i + dist n q i = t by omega]
      exact hole
    have := one_iter h (hole_one h2) (dist n q i)
    rwa [show t - dist n q i + dist n q i = t by omega] at this
  have := inj_surj n (iter n p t).1 (iter_rg h t).g (fun k hk q hq e => h1 ((iter n p t).1 k) ((iter_rg h t).g k hk) k hk q hq rfl e.symm) i hi
  exact hno this

/-- With different pointers each output is matched with its input, and all pointers move on. -/
theorem nxt_inj {n : Nat} {p : (Nat → Nat) × (Nat → Nat)} (h : Rg n p) (hi : ∀ k < n, ∀ q < n, p.1 k = p.1 q → k = q) {k : Nat} (hk : k < n) :
    (nxt n p).1 k = (p.1 k + 1) % n ∧ (round all n true (start p.1 p.2)).m (p.1 k) = (k : Int) := by
  obtain ⟨c, hc, h1, h2, h3, h4⟩ := nxt_move h hk
  obtain rfl : c = k := hi c hc k hk h1
  refine ⟨h2, ?_⟩
  rw [(round_acc (start_ok (req := all) h.g h.a) true).m (p.1 c)]
  have h3' : kkv n (grv all n (start p.1 p.2)) (start p.1 p.2).a (p.1 c) = (c : Int) := h3
  rw [h3', if_pos ⟨h.g c hk, by omega⟩]
theorem iter_inj {n : Nat} {p : (Nat → Nat) × (Nat → Nat)} (h : Rg n p) (hi : ∀ k < n, ∀ q < n, p.1 k = p.1 q → k = q) : ∀ t, ∀ k < n, (iter n p t).1 k = (p.1 k + t) % n
  | 0, k, hk => by show p.1 k = _; rw [Nat.add_zero, Nat.mod_eq_of_lt (h.g k hk)]
  | t + 1, k, hk => by
    have ih := iter_inj h hi t
    have hinj : ∀ k < n, ∀ q < n, (iter n p t).1 k = (iter n p t).1 q → k = q := by
      intro k hk q hq e
      rw [ih k hk, ih q hq] at e
      refine hi k hk q hq ?_
      have a1 := dist_add (n := n) (f := t % n) (s := p.1 k) (Nat.mod_lt _ (by omega)) (h.g k hk)
      have a2 := dist_add (n := n) (f := t % n) (s := p.1 q) (Nat.mod_lt _ (by omega)) (h.g q hq)
      rw [Nat.mod_add_mod, Nat.add_comm] at a1 a2
      rw [← a1, ← a2, e]
    have := (nxt_inj (iter_rg h t) hinj hk).1
    show (nxt n (iter n p t)).1 k = _
    rw [this, ih k hk, Nat.mod_add_mod]; rfl
/-- The pairs of the matchings number t: each output k with the input to which it points. -/
theorem sat_match {n : Nat} {p : (Nat → Nat) × (Nat → Nat)} (h : Rg n p) (hi : ∀ k < n, ∀ q < n, p.1 k = p.1 q → k = q) (t : Nat) {k : Nat} (hk : k < n) :
    (round all n true (start (iter n p t).1 (iter n p t).2)).m ((p.1 k + t) % n) = (k : Int) := by
  have ih := iter_inj h hi t
  have hinj : ∀ k < n, ∀ q < n, (iter n p t).1 k = (iter n p t).1 q → k = q := by
    intro k hk q hq e
    rw [ih k hk, ih q hq] at e
    refine hi k hk q hq ?_
    have a1 := dist_add (n := n) (f := t % n) (s := p.1 k) (Nat.mod_lt _ (by omega)) (h.g k hk)
    have a2 := dist_add (n := n) (f := t % n) (s := p.1 q) (Nat.mod_lt _ (by omega)) (h.g q hq)
    rw [Nat.mod_add_mod, Nat.add_comm] at a1 a2
    rw [← a1, ← a2, e]
  have := (nxt_inj (iter_rg h t) hinj hk).2
  rwa [ih k hk] at this
/-- A maximal matching of all requests matches every input. -/
theorem all_full {n : Nat} {s : St} (h : Ok all n s) (hx : Maxi all n s) : ∀ i < n, 0 ≤ s.m i := by
  intro i hi
  refine Classical.byContradiction fun hneg => ?_
  have h1 := sub_len (List.range n) (((List.range n).erase i).map fun j => (s.m j).toNat) List.nodup_range (fun k hk => by
    have hk : k < n := by simpa using hk
    rcases hx i hi k hk rfl with h1 | h1
    · omega
    · obtain ⟨j, hj, e⟩ := (h.t k hk).1 h1
      exact List.mem_map.2 ⟨j, (List.mem_erase_of_ne (fun e' => by subst e'; omega)).2 (by simpa using hj), by omega⟩)
  rw [List.length_map, List.length_erase_of_mem (by simpa using hi)] at h1
  simp at h1
  omega

/-- How long a request may still wait: one output, one input. -/
def wt (n : Nat) (s : St) (i o : Nat) (x : Nat) : Nat := dist n (s.g o) i * (n * n) + dist n (s.g o) x * n + dist n (s.a x) o
theorem steady_round {P Q : Nat → Nat → Bool} {n : Nat} {g a : Nat → Nat} (hg : ∀ k < n, g k < n) (ha : ∀ i < n, a i < n) {i o x : Nat} (hi : i < n) (ho : o < n) (hx : x < n)
    (hP : P i o = true) (hPx : P x o = true) (hnx : dist n (g o) x ≤ dist n (g o) i) (hm : (round P n true (start g a)).m i ≠ (o : Int))
    (hQ : ∀ j < n, P j o = true → (round P n true (start g a)).m j ≠ (o : Int) → Q j o = true) :
    ∃ y, y < n ∧ Q y o = true ∧ dist n ((round P n true (start g a)).g o) y ≤ dist n ((round P n true (start g a)).g o) i ∧ wt n (round P n true (start g a)) i o y < wt n (start g a) i o x := by
  have O := start_ok (req := P) hg ha
  have A := round_acc O true
  have hn : 0 < n := by omega
  have hQi : Q i o = true := hQ i hi hP hm
  rcases gr_cases O ho with ⟨_, h | h⟩ | ⟨c, hc, h1, _, _, h3, h2⟩
  · simp [start] at h
  · have := h i hi (by simp [start]); rw [hP] at this; exact absurd this (by simp)
  · have hcx : dist n (g o) c ≤ dist n (g o) x := h2 x hx (by simp [start]) hPx
    have hci : dist n (g o) c ≤ dist n (g o) i := h2 i hi (by simp [start]) hP
    have hdi := dist_lt (n := n) (f := g o) (x := i) hn
    have hdx := dist_lt (n := n) (f := g o) (x := x) hn
    rcases fst_cases (fun k => grv P n (start g a) k == (c : Int)) (ha c hc) with ⟨_, h4⟩ | ⟨k, hk, h4, h5, h6⟩
    · have := h4 o ho; simp [h1] at this
    · have hkc : kkv n (grv P n (start g a)) (start g a).a c = (k : Int) := h4
      have hmc := A.m c
      rw [if_pos ⟨hc, by omega⟩, hkc] at hmc
      by_cases hko : k = o
      · subst hko
        have hne : c ≠ i := fun e => hm (by rw [← e, hmc])
        have hlt : dist n (g k) c < dist n (g k) i := by
          rcases Nat.lt_or_ge (dist n (g k) c) (dist n (g k) i) with h | h
          · exact h
          · exact absurd (dist_inj (hg k hk) hc hi (Nat.le_antisymm hci h)) hne
        have hg' : (round P n true (start g a)).g k = (c + 1) % n := by
          have := A.g1 c k hc hkc
          simpa using this
        have hd := dist_next (hg k hk) hi hc hlt
        refine ⟨i, hi, hQi, Nat.le_refl _, ?_⟩
        show dist n ((round P n true (start g a)).g k) i * (n * n) + dist n ((round P n true (start g a)).g k) i * n + dist n ((round P n true (start g a)).a i) k < dist n (g k) i * (n * n) + dist n (g k) x * n + dist n (a x) k
        rw [hg']
        have b1 := dist_lt (n := n) (f := (c + 1) % n) (x := i) hn
        have b2 := dist_lt (n := n) (f := (round P n true (start g a)).a i) (x := k) hn
        have b3 : (dist n ((c + 1) % n) i + 1) * (n * n) ≤ dist n (g k) i * (n * n) := Nat.mul_le_mul_right _ hd.1
        have b4 : (dist n ((c + 1) % n) i + 1) * n ≤ n * n := Nat.mul_le_mul_right _ b1
        rw [Nat.add_mul, Nat.one_mul] at b3 b4
        omega
      · have hg' : (round P n true (start g a)).g o = g o := by
          refine A.g0 o fun z hz ez => ?_
          have := kk_gr (O.a z hz) ez
          have hzc : z = c := by omega
          subst hzc
          omega
        have ha' : (round P n true (start g a)).a c = (k + 1) % n := by
          have := A.a c
          rw [if_pos ⟨rfl, hc, by omega⟩, hkc] at this
          simpa using this
        have hlt : dist n (a c) k < dist n (a c) o := by
          have hle : dist n (a c) k ≤ dist n (a c) o := h6 o ho (by simp [h1])
          rcases Nat.lt_or_ge (dist n (a c) k) (dist n (a c) o) with h | h
          · exact h
          · exact absurd (dist_inj (ha c hc) hk ho (Nat.le_antisymm hle h)) hko
        have hd := dist_next (ha c hc) ho hk hlt
        refine ⟨c, hc, hQ c hc h3 (by rw [hmc]; omega), by rw [hg']; exact hci, ?_⟩
        show dist n ((round P n true (start g a)).g o) i * (n * n) + dist n ((round P n true (start g a)).g o) c * n + dist n ((round P n true (start g a)).a c) o < dist n (g o) i * (n * n) + dist n (g o) x * n + dist n (a x) o
        rw [hg', ha']
        by_cases hcx' : c = x
        · subst hcx'; omega
        · have hlt' : dist n (g o) c < dist n (g o) x := by
            rcases Nat.lt_or_ge (dist n (g o) c) (dist n (g o) x) with h | h
            · exact h
            · exact absurd (dist_inj (hg o ho) hc hx (Nat.le_antisymm hcx h)) hcx'
          have b1 : (dist n (g o) c + 1) * n ≤ dist n (g o) x * n := Nat.mul_le_mul_right _ hlt'
          have b2 := dist_lt (n := n) (f := (k + 1) % n) (x := o) hn
          rw [Nat.add_mul, Nat.one_mul] at b1
          omega
theorem wt_lt {n : Nat} {s : St} {i o x : Nat} (hn : 0 < n) : wt n s i o x < n * n * n := by
  unfold wt
  have b1 := dist_lt (n := n) (f := s.g o) (x := i) hn
  have b2 := dist_lt (n := n) (f := s.g o) (x := x) hn
  have b3 := dist_lt (n := n) (f := s.a x) (x := o) hn
  have c1 : (dist n (s.g o) i + 1) * (n * n) ≤ n * (n * n) := Nat.mul_le_mul_right _ b1
  have c2 : (dist n (s.g o) x + 1) * n ≤ n * n := Nat.mul_le_mul_right _ b2
  rw [Nat.add_mul, Nat.one_mul] at c1 c2
  rw [Nat.mul_assoc]
  omega
end Go.Proofs.Ytldgpdgoccccpaa.Bar
