/-
  Plain laws: what a gate does with bytes.
-/
import Derived.Test.YtjljjohoipnhhaaSlices
namespace Go.Proofs.Ytjljjohoipnhhaa
open Go.RowKit
set_option linter.unusedVariables false

def at0 (l : List Int) (i : Nat) : Int := (l[i]?).getD 0
def len2 (r : List Int) : Int := at0 r 0 * 256 + at0 r 1
def num3 (r : List Int) : Int := (at0 r 2 * 256 + at0 r 3) * 256 + at0 r 4
def numOf (r : List Int) (last : Int) : Int := if 5 ≤ r.length then num3 r else last + 1
def badB (r : List Int) (last : Int) : Bool := decide (len2 r < 1) || decide (1000 < len2 r) || decide (numOf r last ≤ last)
def shortB (r : List Int) : Bool := decide ((r.length : Int) < 5 + len2 r)
/-- What comes out, what rests, the last number, and whether the gate broke. -/
structure GS where
  out : List (List Int)
  rest : List Int
  last : Int
  bad : Bool
def gateF : Nat → List Int → Int → GS
  | 0, r, l => ⟨[], r, l, false⟩
  | n + 1, r, l =>
    if r.length < 2 then ⟨[], r, l, false⟩
    else if badB r l = true then ⟨[], [], l, true⟩
    else if shortB r = true then ⟨[], r, l, false⟩
    else ⟨(r.drop 5).take (len2 r).toNat :: (gateF n (r.drop (5 + (len2 r).toNat)) (num3 r)).out, (gateF n (r.drop (5 + (len2 r).toNat)) (num3 r)).rest, (gateF n (r.drop (5 + (len2 r).toNat)) (num3 r)).last, (gateF n (r.drop (5 + (len2 r).toNat)) (num3 r)).bad⟩
theorem gateF_succ (n : Nat) (r : List Int) (l : Int) : gateF (n + 1) r l =
    if r.length < 2 then ⟨[], r, l, false⟩
    else if badB r l = true then ⟨[], [], l, true⟩
    else if shortB r = true then ⟨[], r, l, false⟩
    else ⟨(r.drop 5).take (len2 r).toNat :: (gateF n (r.drop (5 + (len2 r).toNat)) (num3 r)).out, (gateF n (r.drop (5 + (len2 r).toNat)) (num3 r)).rest, (gateF n (r.drop (5 + (len2 r).toNat)) (num3 r)).last, (gateF n (r.drop (5 + (len2 r).toNat)) (num3 r)).bad⟩ := rfl
/-- Enough fuel. -/
theorem gateF_more : ∀ (n m : Nat) (r : List Int) (l : Int), r.length ≤ n → n ≤ m → gateF m r l = gateF n r l
  | 0, m, r, l, h, _ => by
    have : r = [] := List.eq_nil_of_length_eq_zero (by omega)
    subst this
    cases m with
    | zero => rfl
    | succ m => rw [gateF_succ, if_pos (by decide)]; rfl
  | n + 1, m, r, l, h, hm => by
    obtain ⟨m', rfl⟩ : ∃ m', m = m' + 1 := ⟨m - 1, by omega⟩
    rw [gateF_succ, gateF_succ]
    by_cases h1 : r.length < 2
    · rw [if_pos h1, if_pos h1]
    · rw [if_neg h1, if_neg h1]
      by_cases h2 : badB r l = true
      · rw [if_pos h2, if_pos h2]
      · rw [if_neg h2, if_neg h2]
        by_cases h3 : shortB r = true
        · rw [if_pos h3, if_pos h3]
        · rw [if_neg h3, if_neg h3]
          have := gateF_more n m' (r.drop (5 + (len2 r).toNat)) (num3 r) (by rw [List.length_drop]; omega) (by omega)
          rw [this]
def gate (r : List Int) (l : Int) : GS := gateF r.length r l
theorem gate_stop {r : List Int} {l : Int} (h : r.length < 2) : gate r l = ⟨[], r, l, false⟩ := by
  unfold gate
  cases hn : r.length with
  | zero => rfl
  | succ n => rw [gateF_succ, if_pos h]
theorem gate_bad {r : List Int} {l : Int} (h : ¬ r.length < 2) (h2 : badB r l = true) : gate r l = ⟨[], [], l, true⟩ := by
  unfold gate
  obtain ⟨n, hn⟩ : ∃ n, r.length = n + 1 := ⟨r.length - 1, by omega⟩
  rw [hn, gateF_succ, if_neg h, if_pos h2]
theorem gate_short {r : List Int} {l : Int} (h : ¬ r.length < 2) (h2 : badB r l = false) (h3 : shortB r = true) : gate r l = ⟨[], r, l, false⟩ := by
  unfold gate
  obtain ⟨n, hn⟩ : ∃ n, r.length = n + 1 := ⟨r.length - 1, by omega⟩
  rw [hn, gateF_succ, if_neg h, if_neg (by rw [h2]; decide), if_pos h3]
theorem gate_one {r : List Int} {l : Int} (h : ¬ r.length < 2) (h2 : badB r l = false) (h3 : shortB r = false) :
    gate r l = ⟨(r.drop 5).take (len2 r).toNat :: (gate (r.drop (5 + (len2 r).toNat)) (num3 r)).out, (gate (r.drop (5 + (len2 r).toNat)) (num3 r)).rest, (gate (r.drop (5 + (len2 r).toNat)) (num3 r)).last, (gate (r.drop (5 + (len2 r).toNat)) (num3 r)).bad⟩ := by
  have e : gate (r.drop (5 + (len2 r).toNat)) (num3 r) = gateF (r.length - 1) (r.drop (5 + (len2 r).toNat)) (num3 r) := by
    unfold gate
    exact (gateF_more _ _ _ _ (Nat.le_refl _) (by rw [List.length_drop]; omega)).symm
  rw [e]
  unfold gate
  obtain ⟨n, hn⟩ : ∃ n, r.length = n + 1 := ⟨r.length - 1, by omega⟩
  rw [hn, Nat.add_sub_cancel, gateF_succ, if_neg h, if_neg (by rw [h2]; decide), if_neg (by rw [h3]; decide)]
theorem at0_append {a b : List Int} {i : Nat} (h : i < a.length) : at0 (a ++ b) i = at0 a i := by unfold at0; rw [List.getElem?_append_left h]
theorem len2_append {a b : List Int} (h : ¬ a.length < 2) : len2 (a ++ b) = len2 a := by unfold len2; rw [at0_append (by omega), at0_append (by omega)]
theorem num3_append {a b : List Int} (h : 5 ≤ a.length) : num3 (a ++ b) = num3 a := by unfold num3; rw [at0_append (by omega), at0_append (by omega), at0_append (by omega)]
/-- Bytes in two pieces. -/
theorem gate_append : ∀ (n : Nat) (a b : List Int) (l : Int), a.length ≤ n →
    gate (a ++ b) l = if (gate a l).bad = true then ⟨(gate a l).out, [], (gate a l).last, true⟩
      else ⟨(gate a l).out ++ (gate ((gate a l).rest ++ b) (gate a l).last).out, (gate ((gate a l).rest ++ b) (gate a l).last).rest, (gate ((gate a l).rest ++ b) (gate a l).last).last, (gate ((gate a l).rest ++ b) (gate a l).last).bad⟩
  | n, a, b, l, hn => by
    by_cases h1 : a.length < 2
    · rw [gate_stop (r := a) h1]; rfl
    · have h1' : ¬ (a ++ b).length < 2 := by rw [List.length_append]; omega
      cases h2 : badB a l with
      | true =>
        have e := gate_bad h1 h2
        rw [e]
        have h2' : badB (a ++ b) l = true := by
          unfold badB at h2 ⊢
          rw [len2_append h1]
          simp only [Bool.or_eq_true, decide_eq_true_eq] at h2 ⊢
          rcases h2 with h2 | h2
          · exact .inl h2
          · right
            unfold numOf at h2 ⊢
            by_cases h5 : 5 ≤ a.length
            · rw [if_pos h5] at h2
              rw [if_pos (by rw [List.length_append]; omega), num3_append h5]
              exact h2
            · rw [if_neg h5] at h2; omega
        rw [gate_bad h1' h2']
        rfl
      | false =>
        cases h3 : shortB a with
        | true =>
          rw [gate_short h1 h2 h3]; rfl
        | false =>
          have h5 : 5 ≤ a.length ∧ 0 ≤ len2 a ∧ 5 + (len2 a).toNat ≤ a.length ∧ 1 ≤ len2 a := by
            unfold shortB at h3
            unfold badB at h2
            simp only [Bool.or_eq_false_iff, decide_eq_false_iff_not] at h2 h3
            omega
          obtain ⟨h5, h6, h7, h8⟩ := h5
          have h2' : badB (a ++ b) l = false := by
            unfold badB numOf at h2 ⊢
            rw [len2_append h1, if_pos (by rw [List.length_append]; omega), num3_append h5]
            rw [if_pos h5] at h2
            exact h2
          have h3' : shortB (a ++ b) = false := by
            unfold shortB at h3 ⊢
            rw [len2_append h1]
            simp only [decide_eq_false_iff_not] at h3 ⊢
            rw [List.length_append]; omega
          rw [gate_one h1 h2 h3, gate_one h1' h2' h3', len2_append h1, num3_append h5]
          have e1 : (a ++ b).drop (5 + (len2 a).toNat) = a.drop (5 + (len2 a).toNat) ++ b := by rw [List.drop_append_of_le_length h7]
          have e2 : ((a ++ b).drop 5).take (len2 a).toNat = (a.drop 5).take (len2 a).toNat := by
            rw [List.drop_append_of_le_length h5, List.take_append_of_le_length (by rw [List.length_drop]; omega)]
          rw [e1, e2]
          match n with
          | 0 => omega
          | n + 1 =>
            rw [gate_append n (a.drop (5 + (len2 a).toNat)) b (num3 a) (by rw [List.length_drop]; omega)]
            split <;> rfl
theorem gate_app (a b : List Int) (l : Int) :
    gate (a ++ b) l = if (gate a l).bad = true then ⟨(gate a l).out, [], (gate a l).last, true⟩
      else ⟨(gate a l).out ++ (gate ((gate a l).rest ++ b) (gate a l).last).out, (gate ((gate a l).rest ++ b) (gate a l).last).rest, (gate ((gate a l).rest ++ b) (gate a l).last).last, (gate ((gate a l).rest ++ b) (gate a l).last).bad⟩ := gate_append _ a b l (Nat.le_refl _)
end Go.Proofs.Ytjljjohoipnhhaa
