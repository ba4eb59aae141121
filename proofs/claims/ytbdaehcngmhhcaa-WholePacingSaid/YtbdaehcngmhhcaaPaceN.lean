/-
  Counts and ticks of a rate, plainly.
-/
import Derived.Test.YtbdaehcngmhhcaaRatM
import Derived.Test.YtbdaehcngmhhcaaPaceM
namespace Go.Proofs.Ytbdaehcngmhhcaa
set_option linter.unusedVariables false

/-- The program's count of a rate's frames. -/
def cntR (r : Rq) (t : Nat) : Nat := r.n.toNat * t / r.D
/-- The program's tick of frame j. -/
def atR (r : Rq) (j : Nat) : Nat := if 0 < (j * r.D) % r.n.toNat then j * r.D / r.n.toNat + 1 else j * r.D / r.n.toNat
section
variable {U : Nat} {r : Rq} {k : Int}
theorem Rp.nat (hU : 0 < U) (h : Rp U r k) (hk : 0 ≤ k) : r.n.toNat * U = k.toNat * r.D := by
  have h1 := h.2
  have h2 := (h.n_nonneg hU).2 hk
  have e1 : r.n = (r.n.toNat : Int) := by omega
  have e2 : k = (k.toNat : Int) := by omega
  rw [e1, e2, ← Int.natCast_mul, ← Int.natCast_mul] at h1
  exact Int.ofNat.inj h1
theorem cnt_rp (hU : 0 < U) (h : Rp U r k) (hk : 0 ≤ k) (t : Nat) : cntR r t = cntP U k.toNat t := by
  have h1 := h.nat hU hk
  unfold cntR cntP
  have e : r.n.toNat * t * U = k.toNat * t * r.D := by
    rw [Nat.mul_right_comm, h1, Nat.mul_right_comm]
  rw [← Nat.mul_div_mul_right _ _ hU, e, Nat.mul_comm r.D U, Nat.mul_div_mul_right _ _ h.1.pos]
theorem at_rp (hU : 0 < U) (h : Rp U r k) (hk : 0 ≤ k) (hn : 0 < r.n) {j a : Nat} (hj : 1 ≤ j) (ha : atOk U k.toNat j a) : a = atR r j := by
  obtain ⟨h1, h2, h3⟩ := ha
  rw [← cnt_rp hU h hk] at h1 h2
  unfold cntR at h1 h2
  have hD := h.1.pos
  have a1 : j * r.D ≤ r.n.toNat * a := (Nat.le_div_iff_mul_le hD).1 h1
  have a2 : r.n.toNat * (a - 1) < j * r.D := (Nat.div_lt_iff_lt_mul hD).1 h2
  have hn' : 0 < r.n.toNat := by omega
  have hx : 0 < j * r.D := Nat.mul_pos hj hD
  unfold atR
  generalize j * r.D = x at *
  generalize r.n.toNat = n at *
  have d := Nat.div_add_mod x n
  have m := Nat.mod_lt x hn'
  split
  · have b1 : a - 1 < x / n + 1 := by
      refine Nat.lt_of_mul_lt_mul_left (a := n) ?_
      rw [Nat.mul_add, Nat.mul_one]; omega
    have b2 : x / n < a := by
      refine Nat.lt_of_mul_lt_mul_left (a := n) ?_
      omega
    omega
  · have b1 : a - 1 < x / n := by
      refine Nat.lt_of_mul_lt_mul_left (a := n) ?_
      omega
    have b2 : x / n ≤ a := by
      refine Nat.le_of_mul_le_mul_left (c := n) ?_ hn'
      omega
    omega
end
end Go.Proofs.Ytbdaehcngmhhcaa
