/-
  Comparing numbers in whole units; the least of the values that were considered.
-/
import Derived.Test.YtbdaehcngmhhcaaCons
import Derived.Test.YtbdaehcngmhhcaaFillN
namespace Go.Proofs.Ytbdaehcngmhhcaa
open Go.RowKit
set_option linter.unusedVariables false

section
variable {U : Nat} {a b : Rq} {j k : Int}
theorem cmp_lt_iff (hU : 0 < U) (ha : Rp U a j) (hb : Rp U b k) : a.cmp b < 0 ↔ j < k := by
  obtain ⟨h1, h2⟩ := Rp.cmp hU ha hb
  unfold Rq.cmp cmpI
  by_cases e : j < k
  · rw [if_pos (h1.2 e)]; simp [e]
  · rw [if_neg (fun x => e (h1.1 x))]
    split <;> simp [e]
theorem cmp_eq_iff (hU : 0 < U) (ha : Rp U a j) (hb : Rp U b k) : a.cmp b = 0 ↔ j = k := by
  obtain ⟨h1, h2⟩ := Rp.cmp hU ha hb
  unfold Rq.cmp cmpI
  by_cases e : j < k
  · rw [if_pos (h1.2 e)]
    constructor
    · intro x; cases x
    · intro x; omega
  · rw [if_neg (fun x => e (h1.1 x))]
    by_cases e2 : j = k
    · rw [if_pos (h2.2 e2)]; simp [e2]
    · rw [if_neg (fun x => e2 (h2.1 x))]
      constructor
      · intro x; cases x
      · intro x; exact absurd x e2
theorem cmp_gt_iff (hU : 0 < U) (ha : Rp U a j) (hb : Rp U b k) : 0 < a.cmp b ↔ k < j := by
  have h1 := cmp_lt_iff hU ha hb
  have h2 := cmp_eq_iff hU ha hb
  constructor
  · intro h
    rcases Int.lt_or_le k j with x | x
    · exact x
    · rcases Int.lt_or_eq_of_le x with y | y
      · have := h1.2 y; omega
      · have := h2.2 y; omega
  · intro h
    rcases Int.lt_or_le 0 (a.cmp b) with x | x
    · exact x
    · rcases Int.lt_or_eq_of_le x with y | y
      · have := h1.1 y; omega
      · have := h2.1 y; omega
end
/-- The least of the values in S, if there are any. -/
structure Lst (S : Int → Prop) (fnd : Bool) (least : Rq) (k : Int) : Prop where
  no : fnd = false → ∀ x, ¬ S x
  rp : fnd = true → Rp1 uU least k
  mem : fnd = true → S k
  le : fnd = true → ∀ x, S x → k ≤ x
theorem Lst.start (S : Int → Prop) (h : ∀ x, ¬ S x) (least : Rq) : Lst S false least 0 := ⟨fun _ => h, fun h => (by cases h), fun h => (by cases h), fun h => (by cases h)⟩
theorem Lst.cons {S : Int → Prop} {fnd : Bool} {least r : Rq} {k j : Int} (h : Lst S fnd least k) (hr : Rp1 uU r j) :
    Lst (fun x => S x ∨ x = j) (fnd || consP fnd least r) (if consP fnd least r then r else least) (if consP fnd least r then j else k) := by
  cases fnd with
  | false =>
    have e : consP false least r = true := rfl
    rw [e]
    refine ⟨fun x => (by cases x), fun _ => by simpa using hr, fun _ => .inr (by simp), fun _ x hx => ?_⟩
    rcases hx with hx | hx
    · exact absurd hx (h.no rfl x)
    · simp [hx]
  | true =>
    have e : consP true least r = decide (r.cmp least < 0) := rfl
    have hk := h.rp rfl
    have hi := cmp_lt_iff (by decide : 0 < uU) hr.rp hk.rp
    rw [e]
    by_cases c : j < k
    · rw [decide_eq_true (hi.2 c)]
      refine ⟨fun x => (by cases x), fun _ => by simpa using hr, fun _ => .inr (by simp), fun _ x hx => ?_⟩
      simp only [if_true]
      rcases hx with hx | hx
      · have := h.le rfl x hx; omega
      · omega
    · rw [decide_eq_false (fun x => c (hi.1 x))]
      refine ⟨fun x => (by cases x), fun _ => by simpa using hk, fun _ => .inl (by simpa using h.mem rfl), fun _ x hx => ?_⟩
      simp only [Bool.false_eq_true, if_false]
      rcases hx with hx | hx
      · exact h.le rfl x hx
      · omega
theorem Lst.congr {S T : Int → Prop} {fnd : Bool} {least : Rq} {k : Int} (h : Lst S fnd least k) (e : ∀ x, S x ↔ T x) : Lst T fnd least k :=
  ⟨fun hf x hx => h.no hf x ((e x).2 hx), h.rp, fun hf => (e k).1 (h.mem hf), fun hf x hx => h.le hf x ((e x).2 hx)⟩
end Go.Proofs.Ytbdaehcngmhhcaa
