/-
  The reference's step in plain lists, and that sets of bits and lists of outputs answer the same.
-/
import Derived.Test.YteomiofmaopkhaaRefF
namespace Go.Proofs.Yteomiofmaopkhaa
open Go.RowKit
set_option linter.unusedVariables false

abbrev AF := Int × List Int
def aTake (k : Int) : List AF → Option (Int × List AF)
  | [] => none
  | x :: xs => if k ∈ x.2 then some (x.1, (x.1, woL x.2 k) :: xs) else (aTake k xs).map fun p => (p.1, x :: p.2)
def aStepK (k : Int) (rd : Bool) (fs : List AF) : Int × List AF := if rd = true then (aTake k fs).getD (-1, fs) else (-1, fs)
def aStepAll : List Bool → Nat → List AF → List Int × List AF
  | [], _, fs => ([], fs)
  | r :: rs, k, fs => ((aStepK k r fs).1 :: (aStepAll rs (k + 1) (aStepK k r fs).2).1, (aStepAll rs (k + 1) (aStepK k r fs).2).2)
def aKeep (l : List AF) : List AF := l.filter fun x => decide (0 < x.2.length)
def ab (r : RF) : AF := (r.id, r.l)
theorem aTake_none {k : Int} : ∀ {fs : List AF}, (∀ (j : Nat) (y : AF), fs[j]? = some y → ¬ k ∈ y.2) → aTake k fs = none
  | [], _ => rfl
  | x :: xs, h => by
    have h0 := h 0 x rfl
    unfold aTake
    rw [if_neg h0, aTake_none (fs := xs) (fun j y hy => h (j + 1) y (by simpa using hy))]
    rfl
theorem aTake_some {k : Int} : ∀ {fs : List AF} {i : Nat} {x : AF}, fs[i]? = some x → k ∈ x.2 → (∀ (j : Nat) (y : AF), j < i → fs[j]? = some y → ¬ k ∈ y.2) →
    aTake k fs = some (x.1, fs.set i (x.1, woL x.2 k))
  | [], i, x, h, _, _ => by simp at h
  | y :: ys, 0, x, h, hb, _ => by simp at h; subst h; unfold aTake; rw [if_pos hb]; rfl
  | y :: ys, i + 1, x, h, hb, hn => by
    have h0 := hn 0 y (by omega) rfl
    unfold aTake
    rw [if_neg h0, aTake_some (fs := ys) (i := i) (x := x) (by simpa using h) hb (fun j z hj hz => hn (j + 1) z (by omega) (by simpa using hz))]
    rfl
theorem aTake_len {k : Int} : ∀ {fs : List AF} {p : Int × List AF}, aTake k fs = some p → p.2.length = fs.length
  | [], p, h => by simp [aTake] at h
  | x :: xs, p, h => by
    unfold aTake at h
    split at h
    · simp at h; subst h; simp
    · cases e : aTake k xs with
      | none => rw [e] at h; simp at h
      | some q => rw [e] at h; simp at h; subst h; simp [aTake_len e]
theorem aStepK_len (k : Int) (rd : Bool) (fs : List AF) : (aStepK k rd fs).2.length = fs.length := by
  unfold aStepK
  split
  · cases e : aTake k fs with
    | none => rfl
    | some p => exact aTake_len e
  · rfl

/-- A frame's set of bits holds the outputs of the list. -/
structure Co (x : Fr) (y : AF) : Prop where
  id : x.id = y.1
  lt : x.bits < 256
  rng : ∀ z ∈ y.2, 0 ≤ z ∧ z < 8
  has : ∀ j : Nat, j < 8 → hasB x.bits j = decide ((j : Int) ∈ y.2)
theorem Co.zero {x : Fr} {y : AF} (h : Co x y) : x.bits = 0 ↔ y.2 = [] := by
  constructor
  · intro h0
    rcases List.eq_nil_or_concat y.2 with e | ⟨l, z, e⟩
    · exact e
    · have hz : z ∈ y.2 := by rw [e]; simp
      have h1 := h.rng z hz
      have h2 := h.has z.toNat (by omega)
      rw [h0, Int.toNat_of_nonneg h1.1] at h2
      simp [hz, hasB] at h2
  · intro h0
    rcases Nat.eq_zero_or_pos x.bits with e | e
    · exact e
    · obtain ⟨j, hj⟩ := hasB_some (m := x.bits) (by omega)
      by_cases hj8 : j < 8
      · have := h.has j hj8
        rw [hj, h0] at this
        simp at this
      · rw [hasB_testBit] at hj
        have h1 : x.bits < 2 ^ j := Nat.lt_of_lt_of_le (show x.bits < 2 ^ 8 from h.lt) (Nat.pow_le_pow_right (by decide) (by omega))
        rw [Nat.testBit_lt_two_pow h1] at hj
        simp at hj
theorem Co.clr {x : Fr} {y : AF} (h : Co x y) {k : Nat} (hk : k < 8) : Co ⟨x.id, clrB x.bits k⟩ (y.1, woL y.2 k) := by
  refine ⟨h.id, clrB_lt h.lt, fun z hz => h.rng z (List.mem_filter.1 hz).1, fun j hj => ?_⟩
  show hasB (clrB x.bits k) j = decide ((j : Int) ∈ woL y.2 k)
  rw [hasB_clrB _ _ _ hk hj, h.has j hj]
  unfold woL
  by_cases e : k = j
  · subst e; simp
  · have : ¬ (j : Int) = (k : Int) := by omega
    simp [e, this]
def CoL : List Fr → List AF → Prop
  | [], [] => True
  | x :: xs, y :: ys => Co x y ∧ CoL xs ys
  | _, _ => False
theorem CoL.len : ∀ {fs : List Fr} {ys : List AF}, CoL fs ys → fs.length = ys.length
  | [], [], _ => rfl
  | x :: xs, y :: ys, h => by simp [CoL.len h.2]
  | [], _ :: _, h => h.elim
  | _ :: _, [], h => h.elim
theorem CoL.ids : ∀ {fs : List Fr} {ys : List AF}, CoL fs ys → hIds fs = ys.map (·.1)
  | [], [], _ => rfl
  | x :: xs, y :: ys, h => by
    show x.id :: hIds xs = y.1 :: ys.map (·.1)
    rw [h.1.id, CoL.ids h.2]
  | [], _ :: _, h => h.elim
  | _ :: _, [], h => h.elim
theorem CoL.wait {k : Nat} (hk : k < 8) : ∀ {fs : List Fr} {ys : List AF}, CoL fs ys → wIds fs k = (ys.filter (fun y => decide ((k : Int) ∈ y.2))).map (·.1)
  | [], [], _ => rfl
  | x :: xs, y :: ys, h => by
    rw [wIds_cons, List.filter_cons, CoL.wait hk h.2, h.1.has k hk, h.1.id]
    split <;> simp
  | [], _ :: _, h => h.elim
  | _ :: _, [], h => h.elim
theorem CoL.any {nid : Int} : ∀ {fs : List Fr} {ys : List AF}, CoL fs ys → fs.any (fun y => y.id == nid) = ys.any (fun y => y.1 == nid)
  | [], [], _ => rfl
  | x :: xs, y :: ys, h => by
    rw [List.any_cons, List.any_cons, CoL.any h.2, h.1.id]
  | [], _ :: _, h => h.elim
  | _ :: _, [], h => h.elim
theorem CoL.app : ∀ {fs : List Fr} {ys : List AF} {x : Fr} {y : AF}, CoL fs ys → Co x y → CoL (fs ++ [x]) (ys ++ [y])
  | [], [], x, y, _, h => ⟨h, trivial⟩
  | a :: xs, b :: ys, x, y, h, h2 => ⟨h.1, CoL.app h.2 h2⟩
  | [], _ :: _, _, _, h, _ => h.elim
  | _ :: _, [], _, _, h, _ => h.elim
theorem CoL.take {k : Nat} (hk : k < 8) : ∀ {fs : List Fr} {ys : List AF}, CoL fs ys → (takeK k fs = none ∧ aTake k ys = none) ∨ ∃ p q, takeK k fs = some p ∧ aTake k ys = some q ∧ p.1 = q.1 ∧ CoL p.2 q.2
  | [], [], _ => .inl ⟨rfl, rfl⟩
  | x :: xs, y :: ys, h => by
    have hh := h.1.has k hk
    unfold takeK aTake
    by_cases hb : (k : Int) ∈ y.2
    · rw [if_pos (by rw [hh]; simp [hb]), if_pos hb]
      exact .inr ⟨_, _, rfl, rfl, h.1.id, h.1.clr hk, h.2⟩
    · rw [if_neg (by rw [hh]; simp [hb]), if_neg hb]
      rcases CoL.take hk h.2 with ⟨h1, h2⟩ | ⟨p, q, h1, h2, h3, h4⟩
      · exact .inl ⟨by rw [h1]; rfl, by rw [h2]; rfl⟩
      · exact .inr ⟨(p.1, x :: p.2), (q.1, y :: q.2), by rw [h1]; rfl, by rw [h2]; rfl, h3, h.1, h4⟩
  | [], _ :: _, h => h.elim
  | _ :: _, [], h => h.elim
theorem CoL.stepK {k : Nat} (hk : k < 8) (rd : Bool) {fs : List Fr} {ys : List AF} (h : CoL fs ys) : (stepK k rd fs).1 = (aStepK k rd ys).1 ∧ CoL (stepK k rd fs).2 (aStepK k rd ys).2 := by
  unfold Go.Proofs.Yteomiofmaopkhaa.stepK aStepK
  split
  · rcases h.take hk with ⟨h1, h2⟩ | ⟨p, q, h1, h2, h3, h4⟩
    · rw [h1, h2]; exact ⟨rfl, h⟩
    · rw [h1, h2]; exact ⟨h3, h4⟩
  · exact ⟨rfl, h⟩
theorem CoL.stepAll : ∀ (rs : List Bool) (k : Nat) {fs : List Fr} {ys : List AF}, k + rs.length ≤ 8 → CoL fs ys → (stepAll rs k fs).1 = (aStepAll rs k ys).1 ∧ CoL (stepAll rs k fs).2 (aStepAll rs k ys).2
  | [], _, _, _, _, h => ⟨rfl, h⟩
  | r :: rs, k, fs, ys, hl, h => by
    simp only [List.length_cons] at hl
    obtain ⟨h1, h2⟩ := h.stepK (show k < 8 by omega) r
    obtain ⟨h3, h4⟩ := CoL.stepAll rs (k + 1) (by omega) h2
    refine ⟨?_, h4⟩
    show _ :: _ = _ :: _
    rw [h1, h3]
theorem CoL.keep : ∀ {fs : List Fr} {ys : List AF}, CoL fs ys → CoL (keepF fs) (aKeep ys)
  | [], [], _ => trivial
  | x :: xs, y :: ys, h => by
    have ih := CoL.keep h.2
    have hz := h.1.zero
    unfold keepF aKeep at *
    rw [List.filter_cons, List.filter_cons]
    by_cases hb : x.bits = 0
    · rw [if_neg (by simp [hb]), if_neg (by simp [hz.1 hb])]
      exact ih
    · have : y.2 ≠ [] := fun e => hb (hz.2 e)
      rw [if_pos (by simp [hb]), if_pos (by simpa using List.length_pos_iff.2 this)]
      exact ⟨h.1, ih⟩
  | [], _ :: _, h => h.elim
  | _ :: _, [], h => h.elim
theorem Co.put {o : Int} (ho : o ≤ 8) {nid : Int} {outs : List Int} {m : Nat} (h : putMask o outs 0 = some m) : Co ⟨nid, m⟩ (nid, outs) := by
  have hb := putMask_bits _ _ _ h
  have hr := putMask_out _ _ _ h
  refine ⟨rfl, putMask_lt ho _ _ _ (by decide) h, fun z hz => by have := hr z hz; omega, fun j _ => ?_⟩
  have h0 : hasB 0 j = false := by unfold hasB; simp
  have := hb j
  rw [h0, Bool.false_or] at this
  exact this
end Go.Proofs.Yteomiofmaopkhaa
