/-
  Rational numbers in lowest terms, plainly: sum, product, comparison; numbers in whole units of 1/U.
  Contracts of rational's wide integers (product, compare, add, divide, fits, signed), of result and normal.
  Contracts of rational's wide.add at numbers of either sign, of result, and of Valid.
-/
import Derived.Test.YtkaaoomliepijaaGreatQLib
import Derived.Test.YtkaaoomliepijaaGreatQThree
namespace Go.Proofs.YtkaaoomliepijaaGreat
set_option linter.unusedVariables false

theorem cop_sum {A B : Int} {p l r : Nat} (ha : Nat.Coprime A.natAbs p) (hl : l ∣ p) (hlr : Nat.Coprime l r) : Nat.Coprime (A * r + B * l).natAbs l := by
  refine Nat.Coprime.symm ?_
  rw [Nat.coprime_iff_gcd_eq_one]
  have hk1 : Nat.gcd l (A * r + B * l).natAbs ∣ l := Nat.gcd_dvd_left _ _
  have hk2 : ((Nat.gcd l (A * r + B * l).natAbs : Nat) : Int) ∣ A * r + B * l := Int.ofNat_dvd_left.2 (Nat.gcd_dvd_right _ _)
  generalize Nat.gcd l (A * r + B * l).natAbs = k at hk1 hk2 ⊢
  have h3 : (k : Int) ∣ B * l := Int.dvd_trans (Int.natCast_dvd_natCast.2 hk1) (Int.dvd_mul_left _ _)
  have h4 : (k : Int) ∣ A * r := (Int.dvd_add_left h3).1 hk2
  have h5 : k ∣ A.natAbs * r := by
    have := Int.ofNat_dvd_left.1 h4
    rwa [Int.natAbs_mul, Int.natAbs_natCast] at this
  have h6 : Nat.Coprime k r := Nat.Coprime.coprime_dvd_left hk1 hlr
  have h7 : k ∣ A.natAbs := h6.dvd_of_dvd_mul_right h5
  have h8 : k ∣ p := Nat.dvd_trans hk1 hl
  exact Nat.Coprime.eq_one_of_dvd (Nat.Coprime.coprime_dvd_left h7 ha) h8
/-- The sum's numerator and denominator in lowest terms. -/
theorem sum_low {A B : Int} {p q : Nat} (hp : 0 < p) (hq : 0 < q) (ha : Nat.Coprime A.natAbs p) (hb : Nat.Coprime B.natAbs q) (s : Int) (c : Nat)
    (hs : s = A * (q / Nat.gcd p q : Nat) + B * (p / Nat.gcd p q : Nat)) (hc : c = Nat.gcd (Nat.gcd p q) s.natAbs) :
    0 < c ∧ c ∣ s.natAbs ∧ c ∣ q ∧ 0 < p / Nat.gcd p q * (q / c) ∧ Nat.Coprime (s.natAbs / c) (p / Nat.gcd p q * (q / c)) ∧
    (s * (p * q : Nat)) = (A * q + B * p) * (p / Nat.gcd p q * q : Nat) := by
  have hg : 0 < Nat.gcd p q := Nat.gcd_pos_of_pos_left _ hp
  obtain ⟨l, hl⟩ : Nat.gcd p q ∣ p := Nat.gcd_dvd_left _ _
  obtain ⟨r, hr⟩ : Nat.gcd p q ∣ q := Nat.gcd_dvd_right _ _
  have hlr : Nat.Coprime l r := by
    have h := Nat.coprime_div_gcd_div_gcd (m := p) (n := q) hg
    have e1 : p / Nat.gcd p q = l := by
      apply Nat.div_eq_of_eq_mul_right hg hl
    have e2 : q / Nat.gcd p q = r := by
      apply Nat.div_eq_of_eq_mul_right hg hr
    rw [e1, e2] at h; exact h
  have e1 : p / Nat.gcd p q = l := Nat.div_eq_of_eq_mul_right hg hl
  have e2 : q / Nat.gcd p q = r := Nat.div_eq_of_eq_mul_right hg hr
  rw [e1, e2] at hs
  rw [e1]
  generalize Nat.gcd p q = g at *
  have hc0 : 0 < c := by rw [hc]; exact Nat.gcd_pos_of_pos_left _ hg
  have hcg : c ∣ g := by rw [hc]; exact Nat.gcd_dvd_left _ _
  have hcs : c ∣ s.natAbs := by rw [hc]; exact Nat.gcd_dvd_right _ _
  have hcq : c ∣ q := by rw [hr]; exact Nat.dvd_trans hcg (Nat.dvd_mul_right _ _)
  have hl0 : 0 < l := by rcases Nat.eq_zero_or_pos l with h | h; (· subst h; omega); exact h
  have hr0 : 0 < r := by rcases Nat.eq_zero_or_pos r with h | h; (· subst h; omega); exact h
  obtain ⟨h, hh⟩ := hcg
  have hqc : q / c = r * h := by
    apply Nat.div_eq_of_eq_mul_right hc0
    rw [hr, hh, Nat.mul_assoc, Nat.mul_comm h r]
  have hh0 : 0 < h := by rcases Nat.eq_zero_or_pos h with e | e; (· subst e; omega); exact e
  refine ⟨hc0, hcs, hcq, ?_, ?_, ?_⟩
  · rw [hqc]; exact Nat.mul_pos hl0 (Nat.mul_pos hr0 hh0)
  · rw [hqc]
    have k1 : Nat.Coprime s.natAbs l := by
      rw [hs]; exact cop_sum ha ⟨g, by rw [hl, Nat.mul_comm]⟩ hlr
    have k2 : Nat.Coprime s.natAbs r := by
      rw [hs, Int.add_comm]; exact cop_sum hb ⟨g, by rw [hr, Nat.mul_comm]⟩ hlr.symm
    have k3 : Nat.Coprime (s.natAbs / c) h := by
      have := Nat.coprime_div_gcd_div_gcd (m := g) (n := s.natAbs) (by rw [← hc]; exact hc0)
      rw [← hc] at this
      rw [hh, Nat.mul_div_cancel_left _ hc0] at this
      exact this.symm
    have d1 : s.natAbs / c ∣ s.natAbs := Nat.div_dvd_of_dvd hcs
    exact (Nat.Coprime.coprime_dvd_left d1 k1).mul_right ((Nat.Coprime.coprime_dvd_left d1 k2).mul_right k3)
  · rw [hs, hl, hr]
    simp only [Int.natCast_mul]
    grind
theorem prod_low {A B : Int} {p q : Nat} (hp : 0 < p) (hq : 0 < q) (hA : A ≠ 0) (hB : B ≠ 0) (ha : Nat.Coprime A.natAbs p) (hb : Nat.Coprime B.natAbs q) :
    0 < p / Nat.gcd B.natAbs p * (q / Nat.gcd A.natAbs q) ∧ 0 < A.natAbs / Nat.gcd A.natAbs q * (B.natAbs / Nat.gcd B.natAbs p) ∧
    Nat.Coprime (A.natAbs / Nat.gcd A.natAbs q * (B.natAbs / Nat.gcd B.natAbs p)) (p / Nat.gcd B.natAbs p * (q / Nat.gcd A.natAbs q)) ∧
    A.natAbs / Nat.gcd A.natAbs q * (B.natAbs / Nat.gcd B.natAbs p) * (p * q) = A.natAbs * B.natAbs * (p / Nat.gcd B.natAbs p * (q / Nat.gcd A.natAbs q)) := by
  have hA' : 0 < A.natAbs := by omega
  have hB' : 0 < B.natAbs := by omega
  generalize A.natAbs = a at *
  generalize B.natAbs = b at *
  have g1 : 0 < Nat.gcd a q := Nat.gcd_pos_of_pos_left _ hA'
  have g2 : 0 < Nat.gcd b p := Nat.gcd_pos_of_pos_left _ hB'
  have c1 := Nat.coprime_div_gcd_div_gcd (m := a) (n := q) g1
  have c2 := Nat.coprime_div_gcd_div_gcd (m := b) (n := p) g2
  obtain ⟨x, hx⟩ : Nat.gcd a q ∣ a := Nat.gcd_dvd_left _ _
  obtain ⟨y, hy⟩ : Nat.gcd a q ∣ q := Nat.gcd_dvd_right _ _
  obtain ⟨z, hz⟩ : Nat.gcd b p ∣ b := Nat.gcd_dvd_left _ _
  obtain ⟨v, hv⟩ : Nat.gcd b p ∣ p := Nat.gcd_dvd_right _ _
  have e1 : a / Nat.gcd a q = x := Nat.div_eq_of_eq_mul_right g1 hx
  have e2 : q / Nat.gcd a q = y := Nat.div_eq_of_eq_mul_right g1 hy
  have e3 : b / Nat.gcd b p = z := Nat.div_eq_of_eq_mul_right g2 hz
  have e4 : p / Nat.gcd b p = v := Nat.div_eq_of_eq_mul_right g2 hv
  rw [e1, e2] at c1
  rw [e3, e4] at c2
  rw [e1, e2, e3, e4]
  generalize Nat.gcd a q = m at *
  generalize Nat.gcd b p = n at *
  have x0 : 0 < x := Nat.pos_of_ne_zero fun e => by subst e; omega
  have y0 : 0 < y := Nat.pos_of_ne_zero fun e => by subst e; omega
  have z0 : 0 < z := Nat.pos_of_ne_zero fun e => by subst e; omega
  have v0 : 0 < v := Nat.pos_of_ne_zero fun e => by subst e; omega
  have k1 : Nat.Coprime x v := Nat.Coprime.coprime_dvd_left ⟨m, by rw [hx, Nat.mul_comm]⟩ (Nat.Coprime.coprime_dvd_right ⟨n, by rw [hv, Nat.mul_comm]⟩ ha)
  have k2 : Nat.Coprime z y := Nat.Coprime.coprime_dvd_left ⟨n, by rw [hz, Nat.mul_comm]⟩ (Nat.Coprime.coprime_dvd_right ⟨m, by rw [hy, Nat.mul_comm]⟩ hb)
  refine ⟨Nat.mul_pos v0 y0, Nat.mul_pos x0 z0, (k1.mul_right c1).mul_left (c2.mul_right k2), ?_⟩
  rw [hx, hv, hy, hz]
  grind
structure Rq where
  n : Int
  d : Int
/-- The denominator, 1 for the zero value. -/
def Rq.D (r : Rq) : Nat := if r.d = 0 then 1 else r.d.toNat
def maxN : Int := 1152921504606846976
def Rq.ok (r : Rq) : Bool := (r.n == 0 && r.d == 0) || (decide (1 ≤ r.d) && decide (r.d ≤ maxN) && decide (-maxN ≤ r.n) && decide (r.n ≤ maxN) && Nat.gcd r.n.natAbs r.d.natAbs == 1)
/-- In lowest terms. -/
def Rq.V (r : Rq) : Prop := (r.n = 0 ∧ r.d = 0) ∨ (1 ≤ r.d ∧ Nat.Coprime r.n.natAbs r.d.toNat)
section
variable {a b r : Rq}
theorem Rq.ok_V (h : r.ok = true) : r.V := by
  unfold Rq.ok at h
  simp only [Bool.or_eq_true, Bool.and_eq_true, beq_iff_eq, decide_eq_true_eq] at h
  rcases h with h | h
  · exact .inl h
  · refine .inr ⟨h.1.1.1.1, ?_⟩
    have e : r.d.toNat = r.d.natAbs := by omega
    rw [e]
    exact h.2
theorem Rq.V_ok (h : r.V) (hd : r.d ≤ maxN) (h1 : -maxN ≤ r.n) (h2 : r.n ≤ maxN) : r.ok = true := by
  unfold Rq.ok
  simp only [Bool.or_eq_true, Bool.and_eq_true, beq_iff_eq, decide_eq_true_eq]
  rcases h with h | h
  · exact .inl h
  · refine .inr ⟨⟨⟨⟨h.1, hd⟩, h1⟩, h2⟩, ?_⟩
    have e : r.d.natAbs = r.d.toNat := by have := h.1; omega
    rw [e]
    exact h.2
theorem Rq.ok_bd (h : r.ok = true) : 0 ≤ r.d ∧ r.d ≤ maxN ∧ -maxN ≤ r.n ∧ r.n ≤ maxN := by
  unfold Rq.ok at h
  simp only [Bool.or_eq_true, Bool.and_eq_true, beq_iff_eq, decide_eq_true_eq] at h
  unfold maxN at *
  rcases h with h | h <;> omega
theorem Rq.V.pos (h : r.V) : 0 < r.D := by
  unfold Rq.D
  rcases h with h | h
  · rw [if_pos h.2]; omega
  · rw [if_neg (by omega)]; omega
theorem Rq.V.cop (h : r.V) : Nat.Coprime r.n.natAbs r.D := by
  unfold Rq.D
  rcases h with h | h
  · rw [if_pos h.2]; exact Nat.coprime_one_right _
  · rw [if_neg (by omega)]; exact h.2
theorem Rq.D_mk (n : Int) {d : Nat} (h : 0 < d) : (Rq.mk n d).D = d := by
  unfold Rq.D
  show (if (d : Int) = 0 then 1 else (d : Int).toNat) = d
  rw [if_neg (by omega)]; omega
theorem Rq.V_mk {n : Int} {d : Nat} (h : 0 < d) (hc : Nat.Coprime n.natAbs d) : (Rq.mk n d).V := .inr ⟨by show (1 : Int) ≤ (d : Int); omega, by show Nat.Coprime n.natAbs (d : Int).toNat; rw [Int.toNat_natCast]; exact hc⟩
end
def sgn (neg : Bool) (m : Nat) : Int := if neg then -(m : Int) else m
theorem sgn_abs (b : Bool) (m : Nat) : (sgn b m).natAbs = m := by cases b <;> simp [sgn]
theorem sgn_of (s : Int) : sgn (decide (s < 0)) s.natAbs = s := by
  unfold sgn
  by_cases h : s < 0
  · rw [if_pos (by simpa using h)]; omega
  · rw [if_neg (by simpa using h)]; omega
theorem sgn_mul (b : Bool) (m n : Nat) : sgn b m * (n : Int) = sgn b (m * n) := by
  cases b <;> simp [sgn, Int.neg_mul]
theorem sgn_prod (A B : Int) : sgn (decide (A < 0) != decide (B < 0)) (A.natAbs * B.natAbs) = A * B := by
  unfold sgn
  by_cases x : A < 0
  · have e1 : ((A.natAbs : Nat) : Int) = -A := by omega
    by_cases y : B < 0
    · have e2 : ((B.natAbs : Nat) : Int) = -B := by omega
      rw [if_neg (by simp [x, y]), Int.natCast_mul, e1, e2, Int.neg_mul_neg]
    · have e2 : ((B.natAbs : Nat) : Int) = B := by omega
      rw [if_pos (by simp [x, y]), Int.natCast_mul, e1, e2, Int.neg_mul, Int.neg_neg]
  · have e1 : ((A.natAbs : Nat) : Int) = A := by omega
    by_cases y : B < 0
    · have e2 : ((B.natAbs : Nat) : Int) = -B := by omega
      rw [if_pos (by simp [x, y]), Int.natCast_mul, e1, e2, Int.mul_neg, Int.neg_neg]
    · have e2 : ((B.natAbs : Nat) : Int) = B := by omega
      rw [if_neg (by simp [x, y]), Int.natCast_mul, e1, e2]
def Rq.sm (a b : Rq) : Int := a.n * (b.D / Nat.gcd a.D b.D : Nat) + b.n * (a.D / Nat.gcd a.D b.D : Nat)
def Rq.add (a b : Rq) : Rq :=
  if a.sm b = 0 then ⟨0, 1⟩
  else ⟨sgn (decide (a.sm b < 0)) ((a.sm b).natAbs / Nat.gcd (Nat.gcd a.D b.D) (a.sm b).natAbs), ((a.D / Nat.gcd a.D b.D * (b.D / Nat.gcd (Nat.gcd a.D b.D) (a.sm b).natAbs) : Nat) : Int)⟩
def Rq.mul (a b : Rq) : Rq :=
  if a.n = 0 ∨ b.n = 0 then ⟨0, 1⟩
  else ⟨sgn (decide (a.n < 0) != decide (b.n < 0)) (a.n.natAbs / Nat.gcd a.n.natAbs b.D * (b.n.natAbs / Nat.gcd b.n.natAbs a.D)), ((a.D / Nat.gcd b.n.natAbs a.D * (b.D / Nat.gcd a.n.natAbs b.D) : Nat) : Int)⟩
section
variable {a b r : Rq}
theorem Rq.add_V (ha : a.V) (hb : b.V) : (a.add b).V := by
  unfold Rq.add
  by_cases h : a.sm b = 0
  · rw [if_pos h]
    exact .inr ⟨Int.le_refl _, Nat.coprime_one_right _⟩
  · rw [if_neg h]
    obtain ⟨h1, h2, h3, h4, h5, h6⟩ := sum_low ha.pos hb.pos ha.cop hb.cop (a.sm b) _ rfl rfl
    exact Rq.V_mk h4 (by rw [sgn_abs]; exact h5)
theorem Rq.add_val (ha : a.V) (hb : b.V) : (a.add b).n * (a.D * b.D : Nat) = (a.n * b.D + b.n * a.D) * ((a.add b).D : Int) := by
  obtain ⟨h1, h2, h3, h4, h5, h6⟩ := sum_low ha.pos hb.pos ha.cop hb.cop (a.sm b) _ rfl rfl
  unfold Rq.add
  by_cases h : a.sm b = 0
  · rw [if_pos h]
    rw [h, Int.zero_mul] at h6
    have h7 : ((a.D / Nat.gcd a.D b.D * b.D : Nat) : Int) ≠ 0 := by
      have e1 : 0 < a.D / Nat.gcd a.D b.D := by
        rcases Nat.eq_zero_or_pos (a.D / Nat.gcd a.D b.D) with e | e
        · rw [e, Nat.zero_mul] at h4; omega
        · exact e
      have := Nat.mul_pos e1 hb.pos
      omega
    have h8 : a.n * b.D + b.n * a.D = 0 := by
      rcases Int.mul_eq_zero.1 h6.symm with e | e
      · exact e
      · exact absurd e h7
    rw [h8]; simp
  · rw [if_neg h, Rq.D_mk _ h4]
    generalize Nat.gcd (Nat.gcd a.D b.D) (a.sm b).natAbs = c at *
    obtain ⟨x, hx⟩ := h2
    obtain ⟨y, hy⟩ := h3
    have e1 : (a.sm b).natAbs / c = x := Nat.div_eq_of_eq_mul_right h1 hx
    have e2 : b.D / c = y := Nat.div_eq_of_eq_mul_right h1 hy
    rw [e1, e2]
    have e3 : sgn (decide (a.sm b < 0)) x * (c : Int) = a.sm b := by rw [sgn_mul, Nat.mul_comm, ← hx, sgn_of]
    have hc : (c : Int) ≠ 0 := by omega
    refine Int.eq_of_mul_eq_mul_right hc ?_
    have e4 : ((a.D / Nat.gcd a.D b.D * b.D : Nat) : Int) = ((a.D / Nat.gcd a.D b.D * y : Nat) : Int) * c := by
      rw [← Int.natCast_mul]; congr 1
      rw [Nat.mul_assoc, Nat.mul_comm y c, ← hy]
    rw [e4] at h6
    calc sgn (decide (a.sm b < 0)) x * ((a.D * b.D : Nat) : Int) * c = (sgn (decide (a.sm b < 0)) x * c) * ((a.D * b.D : Nat) : Int) := by rw [Int.mul_assoc, Int.mul_comm _ (c : Int), ← Int.mul_assoc]
      _ = _ := by rw [e3, h6, Int.mul_assoc]
theorem Rq.mul_V (ha : a.V) (hb : b.V) : (a.mul b).V := by
  unfold Rq.mul
  by_cases h : a.n = 0 ∨ b.n = 0
  · rw [if_pos h]; exact .inr ⟨Int.le_refl _, Nat.coprime_one_right _⟩
  · rw [if_neg h]
    obtain ⟨h1, h2, h3, h4⟩ := prod_low ha.pos hb.pos (fun e => h (.inl e)) (fun e => h (.inr e)) ha.cop hb.cop
    exact Rq.V_mk h1 (by rw [sgn_abs]; exact h3)
theorem Rq.mul_val (ha : a.V) (hb : b.V) : (a.mul b).n * (a.D * b.D : Nat) = a.n * b.n * ((a.mul b).D : Int) := by
  unfold Rq.mul
  by_cases h : a.n = 0 ∨ b.n = 0
  · rw [if_pos h]
    rcases h with h | h <;> rw [h] <;> simp
  · rw [if_neg h]
    obtain ⟨h1, h2, h3, h4⟩ := prod_low ha.pos hb.pos (fun e => h (.inl e)) (fun e => h (.inr e)) ha.cop hb.cop
    rw [Rq.D_mk _ h1, sgn_mul, h4, ← sgn_mul]
    congr 1
    rw [sgn_prod]
end
/-- r is k / U. -/
def Rp (U : Nat) (r : Rq) (k : Int) : Prop := r.V ∧ r.n * U = k * r.D
section
variable {a b r : Rq} {U : Nat} {j k : Int}
theorem Rp.add (hU : 0 < U) (ha : Rp U a j) (hb : Rp U b k) : Rp U (a.add b) (j + k) := by
  refine ⟨Rq.add_V ha.1 hb.1, ?_⟩
  have h := Rq.add_val ha.1 hb.1
  have hp : ((a.D * b.D : Nat) : Int) ≠ 0 := by have := Nat.mul_pos ha.1.pos hb.1.pos; omega
  refine Int.eq_of_mul_eq_mul_right hp ?_
  have e1 := ha.2
  have e2 := hb.2
  rw [Int.natCast_mul] at h ⊢
  grind
theorem Rp.neg (ha : Rp U a j) : Rp U ⟨-a.n, a.d⟩ (-j) := by
  have eD : (Rq.mk (-a.n) a.d).D = a.D := rfl
  refine ⟨?_, ?_⟩
  · rcases ha.1 with h | h
    · exact .inl ⟨by show -a.n = 0; omega, h.2⟩
    · exact .inr ⟨h.1, by show Nat.Coprime (-a.n).natAbs _; rw [Int.natAbs_neg]; exact h.2⟩
  · rw [eD]; have := ha.2; show -a.n * (U : Int) = _; rw [Int.neg_mul, Int.neg_mul, this]
theorem Rp.dvd (ha : Rp U a j) : a.D ∣ U := by
  have h : (a.D : Int) ∣ a.n * U := ⟨j, by rw [ha.2, Int.mul_comm]⟩
  have h2 := Int.ofNat_dvd_left.1 h
  rw [Int.natAbs_mul, Int.natAbs_natCast] at h2
  exact ha.1.cop.symm.dvd_of_dvd_mul_left h2
theorem Rp.le (hU : 0 < U) (ha : Rp U a j) : a.D ≤ U ∧ a.n.natAbs ≤ j.natAbs := by
  have h1 := Nat.le_of_dvd hU ha.dvd
  refine ⟨h1, ?_⟩
  have h2 := congrArg Int.natAbs ha.2
  rw [Int.natAbs_mul, Int.natAbs_mul, Int.natAbs_natCast, Int.natAbs_natCast] at h2
  have h3 : j.natAbs * a.D ≤ j.natAbs * U := Nat.mul_le_mul_left _ h1
  exact Nat.le_of_mul_le_mul_right (by omega) hU
theorem Rp.d_le (hU : 0 < U) (ha : Rp U a j) : 0 ≤ a.d ∧ a.d ≤ U := by
  have h1 := (ha.le hU).1
  unfold Rq.D at h1
  rcases ha.1 with h | h
  · omega
  · rw [if_neg (by omega)] at h1; omega
theorem Rp.ok (hU : 0 < U) (hU2 : U ≤ 1000000000) (hj : j.natAbs ≤ 1000000000) (ha : Rp U a j) : a.ok = true := by
  have h1 := ha.le hU
  have h2 := ha.d_le hU
  refine Rq.V_ok ha.1 ?_ ?_ ?_ <;> unfold maxN <;> omega
theorem Rp.zero (U : Nat) : Rp U ⟨0, 1⟩ 0 := ⟨.inr ⟨Int.le_refl _, Nat.coprime_one_right _⟩, by simp⟩
theorem Rp.zero' (U : Nat) : Rp U ⟨0, 0⟩ 0 := ⟨.inl ⟨rfl, rfl⟩, by simp⟩
theorem Rp.n_zero (hU : 0 < U) (ha : Rp U a j) : a.n = 0 ↔ j = 0 := by
  have h := ha.2
  have hp := ha.1.pos
  constructor
  · intro e
    rw [e, Int.zero_mul] at h
    rcases Int.mul_eq_zero.1 h.symm with x | x
    · exact x
    · omega
  · intro e
    rw [e, Int.zero_mul] at h
    rcases Int.mul_eq_zero.1 h with x | x
    · exact x
    · omega
theorem Rp.n_nonneg (hU : 0 < U) (ha : Rp U a j) : 0 ≤ a.n ↔ 0 ≤ j := by
  have h := ha.2
  have hp := ha.1.pos
  have hU' : (0 : Int) < U := by omega
  have hp' : (0 : Int) < a.D := by omega
  constructor
  · intro e
    rcases Int.lt_or_le j 0 with x | x
    · have h1 : j * a.D < 0 := Int.mul_neg_of_neg_of_pos x hp'
      have h2 : 0 ≤ a.n * U := Int.mul_nonneg e (Int.le_of_lt hU')
      omega
    · exact x
  · intro e
    rcases Int.lt_or_le a.n 0 with x | x
    · have h1 : a.n * U < 0 := Int.mul_neg_of_neg_of_pos x hU'
      have h2 : 0 ≤ j * a.D := Int.mul_nonneg e (Int.le_of_lt hp')
      omega
    · exact x
/-- Comparing the cross products compares the numbers. -/
theorem Rp.cmp (hU : 0 < U) (ha : Rp U a j) (hb : Rp U b k) : (a.n * b.D < b.n * a.D ↔ j < k) ∧ (a.n * b.D = b.n * a.D ↔ j = k) := by
  have h1 := ha.2
  have h2 := hb.2
  have hU' : (0 : Int) < U := by omega
  have hp : (0 : Int) < a.D * b.D := by
    have := Nat.mul_pos ha.1.pos hb.1.pos
    rw [← Int.natCast_mul]; omega
  have e1 : (a.n * b.D) * U = j * (a.D * b.D) := by grind
  have e2 : (b.n * a.D) * U = k * (a.D * b.D) := by grind
  constructor
  · constructor
    · intro h
      have h3 := Int.mul_lt_mul_of_pos_right h hU'
      rw [e1, e2] at h3
      exact Int.lt_of_mul_lt_mul_right h3 (Int.le_of_lt hp)
    · intro h
      have h3 := Int.mul_lt_mul_of_pos_right h hp
      rw [← e1, ← e2] at h3
      exact Int.lt_of_mul_lt_mul_right h3 (Int.le_of_lt hU')
  · constructor
    · intro h
      rw [h, e2] at e1
      exact (Int.eq_of_mul_eq_mul_right (by omega) e1).symm
    · intro h
      rw [h, ← e2] at e1
      exact Int.eq_of_mul_eq_mul_right (by omega) e1
/-- Divided by a whole number. -/
theorem Rp.div (hU : 0 < U) (ha : Rp U a j) {o : Nat} (ho : 0 < o) {q : Int} (hq : j = q * o) : Rp U (a.mul ⟨1, o⟩) q := by
  have hb : (Rq.mk 1 o).V := .inr ⟨by show (1 : Int) ≤ (o : Int); omega, Nat.coprime_one_left _⟩
  refine ⟨Rq.mul_V ha.1 hb, ?_⟩
  have h := Rq.mul_val ha.1 hb
  rw [Rq.D_mk _ ho] at h
  have h1 := ha.2
  have hp : ((a.D * o : Nat) : Int) ≠ 0 := by have := Nat.mul_pos ha.1.pos ho; omega
  refine Int.eq_of_mul_eq_mul_right hp ?_
  have h2 : (Rq.mk 1 (o : Int)).n = 1 := rfl
  rw [h2, Int.mul_one] at h
  rw [hq] at h1
  rw [Int.natCast_mul] at h ⊢
  generalize (a.mul ⟨1, o⟩).n = x at *
  generalize ((a.mul ⟨1, o⟩).D : Int) = y at *
  grind
end
end Go.Proofs.YtkaaoomliepijaaGreat
namespace Go.Proofs.YtkaaoomliepijaaGreat
open Go.RowKit
set_option linter.unusedVariables false

/-- A wide integer by value: its sign, its upper and lower half. -/
def wV (g : Bool) (h l : Nat) : Value := .agg #[.bool g, .int .u64 h, .int .u64 l]
/-- A rational number by value. -/
def rV (r : Rq) : Value := .agg #[.int .i64 r.n, .int .i64 r.d]
def cmpW (h l h' l' : Nat) : Int := if h < h' ∨ (h = h' ∧ l < l') then -1 else if h = h' ∧ l = l' then 0 else 1

set_option maxHeartbeats 1000000 in
theorem product_any (n : Int) (f : Nat) (w : World) (h1 : -1152921504606846976 ≤ n) (h2 : n ≤ 1152921504606846976) (hf : f < 18446744073709551616) :
    Calls Tryz.prog 37 #[.int .i64 n, .int .u64 f] w fun e w' =>
      e = .returned (wV (decide (n < 0)) (n.natAbs * f / 18446744073709551616) (n.natAbs * f % 18446744073709551616)) ∧ Below w.heap.size w w' := by
  have SZ := Lib.hid (fun w => size_any n w h1 h2)
  have MU := fun w => mul64_any n.natAbs f w (by omega) hf
  generalize n.natAbs * f / 18446744073709551616 = x at *
  generalize n.natAbs * f % 18446744073709551616 = y at *
  have MU := Lib.hid MU
  unfold wV
  by_cases hn : n < 0
  · rw [decide_eq_true hn]
    go_enter Tryz.func37, Tryz.ntmps37
    go_wp2_with fail
    refine (SZ.out _).mono ?_
    rintro e w1 ⟨rfl, rfl⟩
    go_wp2_with fail
    refine (MU.out _).mono ?_
    rintro e w1 ⟨rfl, rfl⟩
    go_wp2_with fail
    exact bodyPost_ret (v := .agg #[.bool true, .int .u64 x, .int .u64 y]) (by simp [results, Tryz.results37, go_sem]) rfl ⟨rfl, (Below.refl _ _).alloc (Nat.le_refl _) _⟩
  · rw [decide_eq_false hn]
    go_enter Tryz.func37, Tryz.ntmps37
    go_wp2_with fail
    refine (SZ.out _).mono ?_
    rintro e w1 ⟨rfl, rfl⟩
    go_wp2_with fail
    refine (MU.out _).mono ?_
    rintro e w1 ⟨rfl, rfl⟩
    go_wp2_with fail
    exact bodyPost_ret (v := .agg #[.bool false, .int .u64 x, .int .u64 y]) (by simp [results, Tryz.results37, go_sem]; omega) rfl ⟨rfl, (Below.refl _ _).alloc (Nat.le_refl _) _⟩

set_option maxHeartbeats 1000000 in
theorem compare_any (a b : Bool) (h l h' l' : Nat) (w : World) :
    Calls Tryz.prog 61 #[wV a h l, wV b h' l'] w fun e w' => e = .returned (.int .i64 (cmpW h l h' l')) ∧ Below w.heap.size w w' := by
  unfold wV
  have hc : h < h' ∨ (h' < h ∧ ¬ h = h') ∨ (h = h' ∧ l < l') ∨ (h = h' ∧ l = l') ∨ (h = h' ∧ l' < l ∧ ¬ l = l') := by omega
  rcases hc with hc | ⟨hc, hc'⟩ | ⟨rfl, hc⟩ | ⟨rfl, rfl⟩ | ⟨rfl, hc, hc'⟩
  · have e : cmpW h l h' l' = -1 := by unfold cmpW; rw [if_pos (.inl hc)]
    rw [e]; clear e
    go_enter Tryz.func61, Tryz.ntmps61
    go_wp2
    go_ret
    exact ⟨rfl, ((Below.refl _ _).alloc (Nat.le_refl _) _).alloc (by simp) _⟩
  · have e : cmpW h l h' l' = 1 := by unfold cmpW; rw [if_neg (by omega), if_neg (by omega)]
    rw [e]; clear e
    have e1 : ¬ (h : Int) < h' := by omega
    have e2 : ((h : Int) == h') = false := by simp; omega
    go_enter Tryz.func61, Tryz.ntmps61
    go_wp2
    go_ret
    exact ⟨rfl, ((Below.refl _ _).alloc (Nat.le_refl _) _).alloc (by simp) _⟩
  · have e : cmpW h l h l' = -1 := by unfold cmpW; rw [if_pos (.inr ⟨rfl, hc⟩)]
    rw [e]; clear e
    go_enter Tryz.func61, Tryz.ntmps61
    go_wp2
    go_ret
    exact ⟨rfl, ((Below.refl _ _).alloc (Nat.le_refl _) _).alloc (by simp) _⟩
  · have e : cmpW h l h l = 0 := by unfold cmpW; rw [if_neg (by omega), if_pos ⟨rfl, rfl⟩]
    rw [e]; clear e
    go_enter Tryz.func61, Tryz.ntmps61
    go_wp2
    go_ret
    exact ⟨rfl, ((Below.refl _ _).alloc (Nat.le_refl _) _).alloc (by simp) _⟩
  · have e : cmpW h l h l' = 1 := by unfold cmpW; rw [if_neg (by omega), if_neg (by omega)]
    rw [e]; clear e
    have e1 : ¬ (l : Int) < l' := by omega
    have e2 : ((l : Int) == l') = false := by simp; omega
    go_enter Tryz.func61, Tryz.ntmps61
    go_wp2
    go_ret
    exact ⟨rfl, ((Below.refl _ _).alloc (Nat.le_refl _) _).alloc (by simp) _⟩
set_option maxHeartbeats 1000000 in
theorem fits_any (g : Bool) (l : Nat) (w : World) (h : l ≤ 1152921504606846976) :
    Calls Tryz.prog 64 #[wV g 0 l] w fun e w' => e = .returned (.bool true) ∧ Below w.heap.size w w' := by
  unfold wV
  have h1 : (l : Int) ≤ 1152921504606846976 := by omega
  go_enter Tryz.func64, Tryz.ntmps64
  go_wp2
  go_ret
  exact ⟨rfl, (Below.refl _ _).alloc (Nat.le_refl _) _⟩
set_option maxHeartbeats 1000000 in
theorem signed_any (g : Bool) (l : Nat) (w : World) (h : l ≤ 1152921504606846976) :
    Calls Tryz.prog 65 #[wV g 0 l] w fun e w' => e = .returned (.int .i64 (sgn g l)) ∧ Below w.heap.size w w' := by
  unfold wV
  have h1 : (l : Int) ≤ 1152921504606846976 := by omega
  have h0 : (0 : Int) ≤ (l : Int) := by omega
  cases g with
  | true =>
    show Calls _ _ _ _ (fun e w' => e = .returned (.int .i64 (-(l : Int))) ∧ Below w.heap.size w w')
    go_enter Tryz.func65, Tryz.ntmps65
    go_wp2
    go_ret
    exact ⟨rfl, (Below.refl _ _).alloc (Nat.le_refl _) _⟩
  | false =>
    show Calls _ _ _ _ (fun e w' => e = .returned (.int .i64 (l : Int)) ∧ Below w.heap.size w w')
    go_enter Tryz.func65, Tryz.ntmps65
    go_wp2
    go_ret
    exact ⟨rfl, (Below.refl _ _).alloc (Nat.le_refl _) _⟩
set_option maxHeartbeats 1000000 in
theorem normal_any (n d : Int) (w : World) :
    Calls Tryz.prog 34 #[.agg #[.int .i64 n, .int .i64 d]] w fun e w' => e = .returned (.agg #[.int .i64 n, .int .i64 (if d = 0 then 1 else d)]) ∧ Below w.heap.size w w' := by
  by_cases h : d = 0
  · rw [if_pos h]
    subst h
    go_enter Tryz.func34, Tryz.ntmps34
    go_wp2
    exact bodyPost_ret (v := .agg #[.int .i64 n, .int .i64 1]) (by simp [results, Tryz.results34, go_sem]) rfl ⟨rfl, ((Below.refl _ _).alloc (Nat.le_refl _) _).alloc (by simp) _⟩
  · rw [if_neg h]
    have e : (d == 0) = false := by simp; omega
    go_enter Tryz.func34, Tryz.ntmps34
    go_wp2
    exact bodyPost_ret (v := .agg #[.int .i64 n, .int .i64 d]) (by simp [results, Tryz.results34, go_sem]) rfl ⟨rfl, ((Below.refl _ _).alloc (Nat.le_refl _) _).alloc (by simp) _⟩
set_option maxHeartbeats 1000000 in
/-- Of numbers below 2^64: the sum of two wides. -/
theorem wadd_same (g : Bool) (l l' : Nat) (w : World) (h : l + l' < 18446744073709551616) :
    Calls Tryz.prog 38 #[wV g 0 l, wV g 0 l'] w fun e w' => e = .returned (wV g 0 (l + l')) ∧ Below w.heap.size w w' := by
  have k1 := fun w => run_add64_0 (l : Int) (l' : Int) (by omega) (by omega) (by omega) w
  have k2 := fun w => run_add64_0 0 0 (by omega) (by omega) (by omega) w
  unfold wV
  go_enter Tryz.func38, Tryz.ntmps38
  go_wp2_with (first | simp only [k1] | simp only [k2])
  exact bodyPost_ret (v := .agg #[.bool g, .int .u64 0, .int .u64 ((l : Int) + l')]) (by simp [results, Tryz.results38, go_sem]) rfl ⟨by simp, ((Below.refl _ _).alloc (Nat.le_refl _) _).alloc (by simp) _ |>.alloc (by simp; omega) _⟩
set_option maxHeartbeats 1000000 in
theorem divide_any (g : Bool) (l d : Nat) (w : World) (h : l < 18446744073709551616) (h0 : 0 < d) (hd : d < 18446744073709551616) :
    Calls Tryz.prog 39 #[wV g 0 l, .int .u64 d] w fun e w' => e = .returned (.tuple #[wV g 0 (l / d), .int .u64 ((l % d : Nat) : Int)]) ∧ Below w.heap.size w w' := by
  have DV := Lib.hid (fun w => div64_any l d w h h0 hd)
  unfold wV
  have e0 : ((d : Int) == 0) = false := by simp; omega
  go_enter Tryz.func39, Tryz.ntmps39
  go_wp2_with fail
  go_quiet ((go_at_call 63; exact Calls.quiet_of (DV.out _)))
  go_wp2_with fail
  go_region
  go_goals
  go_wp2_with fail
  exact bodyPost_ret (v := .tuple #[.agg #[.bool g, .int .u64 0, .int .u64 ((l / d : Nat) : Int)], .int .u64 ((l % d : Nat) : Int)]) (by simp [results, Tryz.results39, go_sem]) rfl ⟨rfl, by (repeat' (first | with_reducible assumption | with_reducible exact Below.refl _ _ | with_reducible refine Below.drewQ ?_ | with_reducible refine Below.drewNQ ?_ _ | with_reducible refine Below.setCell ?_ (by simp) _ | with_reducible refine Below.alloc ?_ (by simp <;> omega) _))⟩
end Go.Proofs.YtkaaoomliepijaaGreat
namespace Go.Proofs.YtkaaoomliepijaaGreat
open Go.RowKit
set_option linter.unusedVariables false

def vB (r : Rq) : Bool := r.ok
set_option maxRecDepth 100000 in
set_option maxHeartbeats 1000000 in
theorem ratv_any (n d : Int) (w : World) (hn : -9223372036854775808 ≤ n ∧ n ≤ 9223372036854775807) (hd : -9223372036854775808 ≤ d ∧ d ≤ 9223372036854775807) :
    Calls Tryz.prog 33 #[.agg #[.int .i64 n, .int .i64 d]] w fun e w' => e = .returned (.bool (Rq.ok ⟨n, d⟩)) ∧ Below w.heap.size w w' := by
  have hcase : (n = 0 ∧ d = 0) ∨ (¬ (n = 0 ∧ d = 0) ∧ (d < 1 ∨ (1 ≤ d ∧ maxN < d) ∨ (1 ≤ d ∧ d ≤ maxN ∧ n < -maxN) ∨ (1 ≤ d ∧ d ≤ maxN ∧ -maxN ≤ n ∧ maxN < n) ∨ (1 ≤ d ∧ d ≤ maxN ∧ -maxN ≤ n ∧ n ≤ maxN))) := by unfold maxN; omega
  rcases hcase with ⟨rfl, rfl⟩ | ⟨hnz, hcase⟩
  · have e : Rq.ok ⟨0, 0⟩ = true := rfl
    rw [e]; clear e
    go_enter Tryz.func33, Tryz.ntmps33
    go_wp2
    go_ret
    exact ⟨rfl, by (repeat' (first | with_reducible assumption | with_reducible exact Below.refl _ _ | with_reducible refine Below.drewQ ?_ | with_reducible refine Below.drewNQ ?_ _ | with_reducible refine Below.setCell ?_ (by simp) _ | with_reducible refine Below.alloc ?_ (by simp <;> omega) _))⟩
  · have hz : ((n == 0) = false) ∨ ((n == 0) = true ∧ (d == 0) = false) := by simp; omega
    have e0 : (n == 0 && d == 0) = false := by rcases hz with h | ⟨h, h'⟩ <;> simp [*]
    unfold maxN at hcase
    rcases hcase with h1 | ⟨h1, h2⟩ | ⟨h1, h2, h3⟩ | ⟨h1, h2, h3, h4⟩ | ⟨h1, h2, h3, h4⟩
    · have e : Rq.ok ⟨n, d⟩ = false := by unfold Rq.ok maxN; simp only [e0, Bool.false_or]; simp; omega
      rw [e]
      have b1 : decide (1 ≤ d) = false := by simp; omega
      clear e e0
      rcases hz with hz | ⟨hz, hz'⟩
      all_goals
        go_enter Tryz.func33, Tryz.ntmps33
        go_wp2
        go_quiet (fail)
        go_wp2
        go_ret
        exact ⟨rfl, by (repeat' (first | with_reducible assumption | with_reducible exact Below.refl _ _ | with_reducible refine Below.drewQ ?_ | with_reducible refine Below.drewNQ ?_ _ | with_reducible refine Below.setCell ?_ (by simp) _ | with_reducible refine Below.alloc ?_ (by simp <;> omega) _))⟩
    · have e : Rq.ok ⟨n, d⟩ = false := by unfold Rq.ok maxN; simp only [e0, Bool.false_or]; simp; omega
      rw [e]
      have b1 : decide (1 ≤ d) = true := by simp; omega
      have b2 : decide (d ≤ 1152921504606846976) = false := by simp; omega
      have hz : (d == 0) = false := by simp; omega
      clear e e0
      go_enter Tryz.func33, Tryz.ntmps33
      go_wp2
      all_goals
        go_quiet (fail)
        go_wp2
        go_ret
        exact ⟨rfl, by (repeat' (first | with_reducible assumption | with_reducible exact Below.refl _ _ | with_reducible refine Below.drewQ ?_ | with_reducible refine Below.drewNQ ?_ _ | with_reducible refine Below.setCell ?_ (by simp) _ | with_reducible refine Below.alloc ?_ (by simp <;> omega) _))⟩
    · have e : Rq.ok ⟨n, d⟩ = false := by unfold Rq.ok maxN; simp only [e0, Bool.false_or]; simp; omega
      rw [e]
      have b1 : decide (1 ≤ d) = true := by simp; omega
      have b2 : decide (d ≤ 1152921504606846976) = true := by simp; omega
      have b3 : decide (-1152921504606846976 ≤ n) = false := by simp; omega
      have hz : (d == 0) = false := by simp; omega
      clear e e0
      go_enter Tryz.func33, Tryz.ntmps33
      go_wp2
      all_goals
        go_quiet (fail)
        go_wp2
        go_ret
        exact ⟨rfl, by (repeat' (first | with_reducible assumption | with_reducible exact Below.refl _ _ | with_reducible refine Below.drewQ ?_ | with_reducible refine Below.drewNQ ?_ _ | with_reducible refine Below.setCell ?_ (by simp) _ | with_reducible refine Below.alloc ?_ (by simp <;> omega) _))⟩
    · have e : Rq.ok ⟨n, d⟩ = false := by unfold Rq.ok maxN; simp only [e0, Bool.false_or]; simp; omega
      rw [e]
      have b1 : decide (1 ≤ d) = true := by simp; omega
      have b2 : decide (d ≤ 1152921504606846976) = true := by simp; omega
      have b3 : decide (-1152921504606846976 ≤ n) = true := by simp; omega
      have b4 : decide (n ≤ 1152921504606846976) = false := by simp; omega
      have hz : (d == 0) = false := by simp; omega
      clear e e0
      go_enter Tryz.func33, Tryz.ntmps33
      go_wp2
      all_goals
        go_quiet (fail)
        go_wp2
        go_ret
        exact ⟨rfl, by (repeat' (first | with_reducible assumption | with_reducible exact Below.refl _ _ | with_reducible refine Below.drewQ ?_ | with_reducible refine Below.drewNQ ?_ _ | with_reducible refine Below.setCell ?_ (by simp) _ | with_reducible refine Below.alloc ?_ (by simp <;> omega) _))⟩
    · have e : Rq.ok ⟨n, d⟩ = (Nat.gcd n.natAbs d.natAbs == 1) := by
        unfold Rq.ok maxN
        simp only [e0, Bool.false_or, decide_eq_true h1, decide_eq_true h2, decide_eq_true h3, decide_eq_true h4, Bool.true_and]
      rw [e]
      have b1 : decide (1 ≤ d) = true := by simp; omega
      have b2 : decide (d ≤ 1152921504606846976) = true := by simp; omega
      have b3 : decide (-1152921504606846976 ≤ n) = true := by simp; omega
      have b4 : decide (n ≤ 1152921504606846976) = true := by simp; omega
      have hz' : (d == 0) = false := by simp; omega
      have SN := fun w => (size_any n w h3 h4).mono fun e w' h => (⟨h.1, h.2.symm⟩ : _ ∧ w' = w)
      have SD := Lib.hid (fun w => (size_any d w (by omega) h2).mono fun e w' h => (⟨h.1, h.2.symm⟩ : _ ∧ w' = w))
      have GC := fun w => gcd_any n.natAbs d.natAbs w (by omega) (by omega)
      generalize Nat.gcd n.natAbs d.natAbs = z at *
      have e5 : (z == 1) = ((z : Int) == 1) := by rw [Bool.eq_iff_iff]; simp; omega
      rw [e5]
      clear e e0 e5
      by_cases hn0 : n = 0
      · subst hn0
        simp only [Int.natAbs_zero, Int.natCast_zero] at SN GC
        have SN := Lib.hid SN
        have GC := Lib.hid GC
        clear hz
        go_enter Tryz.func33, Tryz.ntmps33
        go_wp2
        go_quiet ((first | (go_at_call 36; first | with_reducible exact Calls.quiet_of_same (SN.out _) | with_reducible exact Calls.quiet_of_same (SD.out _)) | (go_at_call 35; exact Calls.quiet_of (GC.out _))))
        go_wp2
        go_ret
        exact ⟨rfl, by (repeat' (first | with_reducible assumption | with_reducible exact Below.refl _ _ | with_reducible refine Below.drewQ ?_ | with_reducible refine Below.drewNQ ?_ _ | with_reducible refine Below.setCell ?_ (by simp) _ | with_reducible refine Below.alloc ?_ (by simp <;> omega) _))⟩
      · have SN := Lib.hid SN
        have GC := Lib.hid GC
        have hz : (n == 0) = false := by simp [hn0]
        clear hn0
        go_enter Tryz.func33, Tryz.ntmps33
        go_wp2
        go_quiet ((first | (go_at_call 36; first | with_reducible exact Calls.quiet_of_same (SN.out _) | with_reducible exact Calls.quiet_of_same (SD.out _)) | (go_at_call 35; exact Calls.quiet_of (GC.out _))))
        go_wp2
        go_ret
        exact ⟨rfl, by (repeat' (first | with_reducible assumption | with_reducible exact Below.refl _ _ | with_reducible refine Below.drewQ ?_ | with_reducible refine Below.drewNQ ?_ _ | with_reducible refine Below.setCell ?_ (by simp) _ | with_reducible refine Below.alloc ?_ (by simp <;> omega) _))⟩
end Go.Proofs.YtkaaoomliepijaaGreat
