/-
  make of rows of rational numbers and of truth values; stores into them.
-/
import Derived.Test.YtbdaehcngmhhcaaCand
import Derived.Test.YtbdaehcngmhhcaaMgM
namespace Go.Proofs.Ytbdaehcngmhhcaa
open Go.RowKit
set_option linter.unusedVariables false

theorem fun_constR {α : Type} (f : α → Value) (n : Nat) (x : α) : (List.replicate n x).map f = (List.range n).map fun _ => f x := by
  apply List.ext_getElem?
  intro i
  rw [List.getElem?_map, List.getElem?_map]
  by_cases h : i < n
  · rw [List.getElem?_replicate_of_lt h, List.getElem?_range h]; rfl
  · rw [List.getElem?_eq_none (by simpa using h), List.getElem?_eq_none (by simpa using h)]; rfl
theorem made2_list (a b : Value) (n : Nat) : (madeCells #[a, b] (n * 2)).toList = (List.replicate n [a, b]).flatten := by
  induction n with
  | zero => simp [madeCells]
  | succ n ih =>
    rw [List.replicate_succ', List.flatten_append, ← ih]
    have e : (n + 1) * 2 = n * 2 + 1 + 1 := by omega
    simp only [madeCells, e, Array.range_succ, Array.toList_map, Array.toList_append, Array.map_append]
    simp [Nat.mul_mod_left, Nat.add_mod]
theorem Try.infoRat : (Try.prog.info? 29).map (fun i => (i.zero, i.size, i.bytes)) = some (some (.agg #[.int .i64 0, .int .i64 0]), 2, 16) := by kernel_rfl
theorem flC_const (n : Nat) (r : Rq) : flC rC ((List.range n).map fun _ => r) = (List.replicate n (rC r)).flatten := by
  induction n with
  | zero => rfl
  | succ n ih =>
    rw [List.range_succ, List.map_append, flC_append, ih, List.replicate_succ', List.flatten_append]
    simp [flC]
theorem make_rats (w : World) (n : Nat) (h : n ≤ 1000) : (Instr.makeSlice 22 (.int .i64 n) (.int .i64 n)).run Try.prog w =
    .ok (.slice (some ⟨w.heap.size, 0, none⟩) n n) (w.alloc (.cells (flC rC ((List.range n).map fun _ => (⟨0, 0⟩ : Rq))).toArray 29)) := by
  obtain ⟨i, hi, hz, hs, hb⟩ := info_parts Try.infoRat
  rw [run_make w 22 29 i _ Try.underlying22 hi hz .i64 .i64 n n (by omega) (by omega) (by rw [hb]; omega) (by omega)]
  have e : madeCells (Value.agg #[.int .i64 0, .int .i64 0]).cells (((n : Int).toNat) * i.size) = (flC rC ((List.range n).map fun _ => (⟨0, 0⟩ : Rq))).toArray := by
    rw [hs, Int.toNat_natCast, flC_const]
    apply Array.toList_inj.1
    rw [show (Value.agg #[.int .i64 0, .int .i64 0]).cells = #[.int .i64 0, .int .i64 0] from rfl, made2_list]
    rfl
  rw [e, Int.toNat_natCast]
theorem make_bools (w : World) (n : Nat) (h : n ≤ 1000) : (Instr.makeSlice 78 (.int .i64 n) (.int .i64 n)).run Try.prog w =
    .ok (.slice (some ⟨w.heap.size, 0, none⟩) n n) (w.alloc (.cells ((List.range n).map fun _ => Value.bool false).toArray 4)) := by
  obtain ⟨i, hi, hz, hs, hb⟩ := info_parts Try.infoBool
  rw [run_make w 78 4 i _ Try.underlying78 hi hz .i64 .i64 n n (by omega) (by omega) (by rw [hb]; omega) (by omega)]
  have e : madeCells (Value.bool false).cells (((n : Int).toNat) * i.size) = ((List.range n).map fun _ => Value.bool false).toArray := by
    rw [hs, Nat.mul_one, Int.toNat_natCast]
    apply Array.toList_inj.1
    rw [show (Value.bool false).cells = #[Value.bool false] from rfl, toList_madeCells_one]
    have := fun_constR (fun _ : Unit => Value.bool false) n ()
    rw [← this]
    simp
  rw [e, Int.toNat_natCast]
/-- A store of a number into a row of numbers. -/
theorem flC_set {n : Nat} (R : Nat → Rq) {i : Nat} (hi : i < n) (r : Rq) : ((flC rC ((List.range n).map R)).set (i * 2) (.int .i64 r.n)).set (i * 2 + 1) (.int .i64 r.d) = flC rC ((List.range n).map (updQ R i r)) := by
  have hl1 : (flC rC ((List.range n).map R)).length = n * 2 := by rw [flC_len rC_len]; simp
  have hl2 : (flC rC ((List.range n).map (updQ R i r))).length = n * 2 := by rw [flC_len rC_len]; simp
  apply List.ext_getElem?
  intro j
  rw [List.getElem?_set, List.getElem?_set]
  simp only [List.length_set, hl1]
  by_cases hj : j < n * 2
  · have hq : j / 2 < n := by omega
    have e0 : ((List.range n).map R)[j / 2]? = some (R (j / 2)) := by simp [hq]
    have e1 : ((List.range n).map (updQ R i r))[j / 2]? = some (updQ R i r (j / 2)) := by simp [hq]
    have h0 := flC_get rC_len e0 (j % 2) (by omega)
    have h1 := flC_get rC_len e1 (j % 2) (by omega)
    rw [show j / 2 * 2 + j % 2 = j by omega] at h0 h1
    rw [h0, h1]
    unfold updQ
    by_cases c : j / 2 = i
    · rw [if_pos c]
      rcases (show j % 2 = 0 ∨ j % 2 = 1 by omega) with p | p
      · rw [if_neg (by omega), if_pos (by omega), if_pos (by omega), p]; rfl
      · rw [if_pos (by omega), if_pos (by omega), p]; rfl
    · rw [if_neg c, if_neg (by omega), if_neg (by omega)]
  · rw [if_neg (by omega), if_neg (by omega), List.getElem?_eq_none (by omega), List.getElem?_eq_none (by omega)]
end Go.Proofs.Ytbdaehcngmhhcaa
