/-
  Plain laws for MessageCuts.
-/
import Derived.Test.YtjljjohoipnhhaaGateF
namespace Go.Proofs.Ytjljjohoipnhhaa
open Go.RowKit
set_option linter.unusedVariables false

/-- The stream of data, from number 3 j + 1 on. -/
def strm : Nat → List (List Int) → List Int
  | _, [] => []
  | j, d :: l => form (3 * j + 1) d ++ strm (j + 1) l
theorem strm_append : ∀ (j : Nat) (a b : List (List Int)), strm j (a ++ b) = strm j a ++ strm (j + a.length) b
  | j, [], b => rfl
  | j, d :: a, b => by
    have ih := strm_append (j + 1) a b
    show form (3 * j + 1) d ++ strm (j + 1) (a ++ b) = (form (3 * j + 1) d ++ strm (j + 1) a) ++ strm (j + (a.length + 1)) b
    rw [ih, List.append_assoc, show j + 1 + a.length = j + (a.length + 1) by omega]
theorem strm_snoc (a : List (List Int)) (d : List Int) : strm 0 (a ++ [d]) = strm 0 a ++ form (3 * a.length + 1) d := by
  rw [strm_append]
  show _ ++ (form (3 * (0 + a.length) + 1) d ++ []) = _
  rw [List.append_nil, Nat.zero_add]
def Good (l : List (List Int)) : Prop := ∀ d ∈ l, 1 ≤ d.length ∧ d.length ≤ 100 ∧ IsB d
theorem strm_len : ∀ (j : Nat) (l : List (List Int)), Good l → (strm j l).length ≤ l.length * 105
  | _, [], _ => by simp [strm]
  | j, d :: l, h => by
    have ih := strm_len (j + 1) l fun x hx => h x (by simp [hx])
    have hd := h d (by simp)
    show (form (3 * j + 1) d ++ strm (j + 1) l).length ≤ (l.length + 1) * 105
    rw [List.length_append, form_len]
    omega
theorem strm_isB : ∀ (j : Nat) (l : List (List Int)), Good l → j + l.length ≤ 1000 → IsB (strm j l)
  | _, [], _, _ => by intro y hy; cases hy
  | j, d :: l, h, hj => by
    have ih := strm_isB (j + 1) l (fun x hx => h x (by simp [hx])) (by simp at hj; omega)
    have hd := h d (by simp)
    exact (form_isB (3 * j + 1) d (by simp at hj; omega) hd.2.2 (by omega)).append ih
/-- A gate on the stream, and what follows. -/
theorem gate_strm : ∀ (j : Nat) (l : List (List Int)) (r : List Int) (last : Int), Good l → j + l.length ≤ 1000 → last < 3 * j + 1 →
    gate (strm j l ++ r) last = ⟨l ++ (gate r (if l = [] then last else 3 * ((j + l.length : Nat) : Int) - 2)).out, (gate r (if l = [] then last else 3 * ((j + l.length : Nat) : Int) - 2)).rest,
      (gate r (if l = [] then last else 3 * ((j + l.length : Nat) : Int) - 2)).last, (gate r (if l = [] then last else 3 * ((j + l.length : Nat) : Int) - 2)).bad⟩
  | j, [], r, last, _, _, _ => rfl
  | j, d :: l, r, last, h, hj, hl => by
    have hd := h d (by simp)
    have hj' : j + 1 + l.length ≤ 1000 := by simp at hj; omega
    have ih := gate_strm (j + 1) l r ((3 * j + 1 : Nat) : Int) (fun x hx => h x (by simp [hx])) hj' (by omega)
    show gate ((form (3 * j + 1) d ++ strm (j + 1) l) ++ r) last = _
    rw [List.append_assoc, gate_form (3 * j + 1) d _ last hd.1 (by omega) (by omega) (by omega), ih]
    have e : (if l = [] then ((3 * j + 1 : Nat) : Int) else 3 * ((j + 1 + l.length : Nat) : Int) - 2) = 3 * ((j + (d :: l).length : Nat) : Int) - 2 := by
      cases l with
      | nil => simp; omega
      | cons x l => simp; omega
    rw [e, if_neg (by simp)]
    rfl
theorem gate_all (l : List (List Int)) (h : Good l) (hl : l.length ≤ 1000) : gate (strm 0 l) (-1) = ⟨l, [], if l = [] then -1 else 3 * (l.length : Int) - 2, false⟩ := by
  have := gate_strm 0 l [] (-1) h (by omega) (by omega)
  rw [List.append_nil, Nat.zero_add] at this
  rw [this]
  simp [gate_stop]
/-- No beginning of it breaks a gate. -/
theorem gate_take (l : List (List Int)) (h : Good l) (hl : l.length ≤ 1000) (n : Nat) : (gate ((strm 0 l).take n) (-1)).bad = false := by
  have h1 := gate_app ((strm 0 l).take n) ((strm 0 l).drop n) (-1)
  rw [List.take_append_drop, gate_all l h hl] at h1
  cases hb : (gate ((strm 0 l).take n) (-1)).bad with
  | false => rfl
  | true =>
    rw [hb, if_pos rfl] at h1
    have := congrArg GS.bad h1
    simp at this
/-- A form that is cut. -/
theorem gate_cut (i : Nat) (d : List Int) (last : Int) (h1 : 1 ≤ d.length) (h2 : d.length ≤ 1000) (hi : i ≤ 16777215) (hl : last < i) (m : Nat) (hm : m < d.length + 5) :
    gate ((form i d).take m) last = ⟨[], (form i d).take m, last, false⟩ := by
  have ht : ((form i d).take m).length = m := by rw [List.length_take, form_len]; omega
  by_cases hm2 : m < 2
  · exact gate_stop (by omega)
  · have hsplit := List.take_append_drop m (form i d)
    have e1 : len2 ((form i d).take m) = d.length := by
      rw [← len2_append (b := (form i d).drop m) (by omega), hsplit]
      have := len2_form i d []
      rwa [List.append_nil] at this
    have e2 : badB ((form i d).take m) last = false := by
      unfold badB numOf
      rw [e1]
      by_cases h5 : 5 ≤ ((form i d).take m).length
      · rw [if_pos h5, ← num3_append (b := (form i d).drop m) h5, hsplit]
        have := num3_form i d [] hi
        rw [List.append_nil] at this
        rw [this, decide_eq_false (by omega : ¬ (d.length : Int) < 1), decide_eq_false (by omega : ¬ (1000 : Int) < (d.length : Int)), decide_eq_false (by omega : ¬ (i : Int) ≤ last)]
        rfl
      · rw [if_neg h5, decide_eq_false (by omega : ¬ (d.length : Int) < 1), decide_eq_false (by omega : ¬ (1000 : Int) < (d.length : Int)), decide_eq_false (by omega : ¬ last + 1 ≤ last)]
        rfl
    exact gate_short (by omega) e2 (by unfold shortB; rw [e1, ht]; exact decide_eq_true (by omega))
/-- The stream without its last k bytes. -/
theorem gate_less (l : List (List Int)) (d : List Int) (h : Good (l ++ [d])) (hl : l.length ≤ 999) (k : Nat) (hk : 1 ≤ k) (hk2 : k ≤ d.length + 5) :
    (gate ((strm 0 (l ++ [d])).take ((strm 0 (l ++ [d])).length - k)) (-1)).out = l ∧ (gate ((strm 0 (l ++ [d])).take ((strm 0 (l ++ [d])).length - k)) (-1)).rest.length = (strm 0 (l ++ [d])).length - k - (strm 0 l).length ∧
      (gate ((strm 0 (l ++ [d])).take ((strm 0 (l ++ [d])).length - k)) (-1)).bad = false := by
  have hd := h d (by simp)
  have hg : Good l := fun x hx => h x (by simp [hx])
  have hlen : (strm 0 (l ++ [d])).length = (strm 0 l).length + (d.length + 5) := by rw [strm_snoc, List.length_append, form_len]
  have e : (strm 0 (l ++ [d])).take ((strm 0 (l ++ [d])).length - k) = strm 0 l ++ (form (3 * l.length + 1) d).take (d.length + 5 - k) := by
    rw [hlen, strm_snoc, show (strm 0 l).length + (d.length + 5) - k = (strm 0 l).length + (d.length + 5 - k) by omega, List.take_length_add_append]
  rw [e, gate_strm 0 l _ (-1) hg (by omega) (by omega), Nat.zero_add, gate_cut (3 * l.length + 1) d _ hd.1 (by omega) (by omega) (by split <;> omega) _ (by omega), hlen]
  refine ⟨by simp, ?_, rfl⟩
  rw [List.length_take, form_len]
  omega
end Go.Proofs.Ytjljjohoipnhhaa
