/-
  How the arguments of a law are opened: what reads as data leads to the cells that the walks ask.
-/
import Derived.Test.YtkaaoomliepijaaGreatQLib
import Derived.Test.YtkaaoomliepijaaGreatRows
import Derived.ProofKit
import Derived.OpenShut
import Derived.ShutString
import Derived.ChangeOld
import Derived.Deep.Slices
namespace Go.Proofs.YtkaaoomliepijaaGreat
open Go.RowKit Go.ChangeShapes Go.WideShapes Go.ChangeAt
open Go.ChangeMaps (open_string shut_string)

theorem Tryz.own : ownKnob Tryz.prog.godebug = none := by kernel_rfl
theorem Tryz.laidOut : laidOutB Tryz.prog = true := by kernel_rfl

section
variable {H : Type} {enc : TypeId × Value → H} {P : Program} {w : World} {held : Bool}

theorem sl_open {α : Type} [Inhabited α] {t e : TypeId} {fuel : Nat} {v : Value} {x : DataW H × List MemPlace} (f : α → Value) (Q : α → Prop) (ht : P.underlying t = some (.slice e)) (hc : P.cellsOf e = 1)
    (hf : ∀ n V r, DataW.trod enc P w 0 (fun _ => true) held n e [V] = some r → ∃ y, V = f y ∧ Q y)
    (h : DataW.trod enc P w 0 (fun _ => true) held fuel t [v] = some x) :
    ∃ a c xs, v = .slice a xs.length c ∧ Sl f w a xs ∧ (∀ y ∈ xs, Q y) ∧ xs.length ≤ maxLen := by
  rcases Deep.open_slice1 ht hc h with ⟨h1, _⟩ | ⟨a, len, cap, m, n, V, D, Pl, h1, hb, hl, hm, hmm, _, hx⟩
  · refine ⟨none, 0, [], by simpa using h1, ?_, by simp, by simp⟩
    intro j x hj
    simp at hj
  · simp only [if_true] at hmm
    subst hmm
    obtain ⟨B, hB⟩ := Deep.choose_lt (α := α) (n := m) (p := fun i y => V i = f y ∧ Q y) (fun i hi => hf _ _ _ (hx i hi).2)
    refine ⟨some a, m, (List.range len).map B, by simpa using h1, ?_, ?_, by simp; omega⟩
    · intro j y hj
      simp only [List.getElem?_map] at hj
      obtain ⟨i, hi, rfl⟩ := Option.map_eq_some_iff.1 hj
      have hlt : j < len := by
        rcases Nat.lt_or_ge j len with h | h
        · exact h
        · rw [List.getElem?_eq_none (by simpa using h)] at hi; simp at hi
      rw [List.getElem?_range hlt] at hi
      obtain rfl := Option.some.inj hi
      have hcell := (hx j (by omega)).1
      have hsp : a.spot.isNone = true := by
        have h0 := (hx 0 (by omega)).1
        have : a.spot = none := by simpa [Addr.add] using World.cell?_spot h0
        simp [this]
      refine ⟨hsp, ?_⟩
      rw [← (hB j (by omega)).1, ← hcell, add_eq a j hsp]
      rfl
    · intro y hy
      obtain ⟨i, hi, rfl⟩ := List.mem_map.1 hy
      exact (hB i (by have := List.mem_range.1 hi; omega)).2

def IntOk (k : IntKind) (n : Int) : Prop := (Lit.int k n).wf = true

theorem ints_open {t e : TypeId} {k : IntKind} {v : Value} {d : DataW H} {ps : List MemPlace} (ht : P.underlying t = some (.slice e)) (he : P.underlying e = some (.int k)) (hc : P.cellsOf e = 1)
    (h : DataW.Trod enc P w 0 (fun _ => true) held t v d ps) (hv : ∃ a n c, v = .slice a n c) :
    ∃ a c xs, v = .slice a xs.length c ∧ Sl (Value.int k) w a xs ∧ (∀ y ∈ xs, IntOk k y) ∧ xs.length ≤ maxLen := by
  obtain ⟨fuel, hf⟩ := h
  obtain ⟨a, n, c, rfl⟩ := hv
  refine sl_open (Value.int k) (IntOk k) ht hc (fun n V r hr => ?_) hf
  obtain ⟨i, h1, _, h3⟩ := DataW.trod_int he hr
  exact ⟨i, by simpa using h1, h3⟩

theorem bools_open {t e : TypeId} {v : Value} {d : DataW H} {ps : List MemPlace} (ht : P.underlying t = some (.slice e)) (he : P.underlying e = some .bool) (hc : P.cellsOf e = 1)
    (h : DataW.Trod enc P w 0 (fun _ => true) held t v d ps) (hv : ∃ a n c, v = .slice a n c) :
    ∃ a c xs, v = .slice a xs.length c ∧ Sl Value.bool w a xs ∧ (∀ y ∈ xs, True) ∧ xs.length ≤ maxLen := by
  obtain ⟨fuel, hf⟩ := h
  obtain ⟨a, n, c, rfl⟩ := hv
  refine sl_open Value.bool (fun _ => True) ht hc (fun n V r hr => ?_) hf
  obtain ⟨i, h1, _⟩ := DataW.trod_bool he hr
  exact ⟨i, by simpa using h1, trivial⟩

/-- A row of a slice of slices: its address, its capacity, its elements. -/
structure RowOf (α : Type) where
  a : Option Addr
  c : Nat
  xs : List α
instance {α : Type} : Inhabited (RowOf α) := ⟨⟨none, 0, []⟩⟩
def RowOf.val {α : Type} (r : RowOf α) : Value := .slice r.a r.xs.length r.c

theorem rows_open {α : Type} {f : α → Value} {Q : α → Prop} {t e : TypeId} {v : Value} {d : DataW H} {ps : List MemPlace} (ht : P.underlying t = some (.slice e)) (hc : P.cellsOf e = 1)
    (hr : ∀ n V r, DataW.trod enc P w 0 (fun _ => true) held n e [V] = some r → ∃ a c xs, V = .slice a xs.length c ∧ Sl f w a xs ∧ (∀ y ∈ xs, Q y) ∧ xs.length ≤ maxLen)
    (h : DataW.Trod enc P w 0 (fun _ => true) held t v d ps) (hv : ∃ a n c, v = .slice a n c) :
    ∃ a c xs, v = .slice a xs.length c ∧ Sl RowOf.val w a xs ∧ (∀ r ∈ xs, Sl f w (RowOf.a r) r.xs ∧ (∀ y ∈ r.xs, Q y) ∧ r.xs.length ≤ maxLen) ∧ xs.length ≤ maxLen := by
  obtain ⟨fuel, hf⟩ := h
  obtain ⟨a, n, c, rfl⟩ := hv
  refine sl_open RowOf.val (fun r => Sl f w (RowOf.a r) r.xs ∧ (∀ y ∈ r.xs, Q y) ∧ r.xs.length ≤ maxLen) ht hc (fun n V r hr0 => ?_) hf
  obtain ⟨a, c, xs, h1, h2, h3, h4⟩ := hr n V r hr0
  exact ⟨⟨a, c, xs⟩, h1, h2, h3, h4⟩

theorem bool_rows_open {t e q : TypeId} {v : Value} {d : DataW H} {ps : List MemPlace} (ht : P.underlying t = some (.slice e)) (he : P.underlying e = some (.slice q)) (hq : P.underlying q = some .bool) (hc : P.cellsOf e = 1) (hc' : P.cellsOf q = 1)
    (h : DataW.Trod enc P w 0 (fun _ => true) held t v d ps) (hv : ∃ a n c, v = .slice a n c) :
    ∃ a c xs, v = .slice a xs.length c ∧ Sl RowOf.val w a xs ∧ (∀ r ∈ xs, Sl Value.bool w (RowOf.a r) r.xs ∧ (∀ y ∈ r.xs, True) ∧ r.xs.length ≤ maxLen) ∧ xs.length ≤ maxLen :=
  rows_open ht hc (fun n V r hr0 => by
    refine sl_open Value.bool (fun _ => True) he hc' (fun n V r hr => ?_) hr0
    obtain ⟨i, h1, _⟩ := DataW.trod_bool hq hr
    exact ⟨i, by simpa using h1, trivial⟩) h hv

theorem int_rows_open {t e q : TypeId} {k : IntKind} {v : Value} {d : DataW H} {ps : List MemPlace} (ht : P.underlying t = some (.slice e)) (he : P.underlying e = some (.slice q)) (hq : P.underlying q = some (.int k)) (hc : P.cellsOf e = 1) (hc' : P.cellsOf q = 1)
    (h : DataW.Trod enc P w 0 (fun _ => true) held t v d ps) (hv : ∃ a n c, v = .slice a n c) :
    ∃ a c xs, v = .slice a xs.length c ∧ Sl RowOf.val w a xs ∧ (∀ r ∈ xs, Sl (Value.int k) w (RowOf.a r) r.xs ∧ (∀ y ∈ r.xs, IntOk k y) ∧ r.xs.length ≤ maxLen) ∧ xs.length ≤ maxLen :=
  rows_open ht hc (fun n V r hr0 => by
    refine sl_open (Value.int k) (IntOk k) he hc' (fun n V r hr => ?_) hr0
    obtain ⟨i, h1, _, h3⟩ := DataW.trod_int hq hr
    exact ⟨i, by simpa using h1, h3⟩) h hv
end
end Go.Proofs.YtkaaoomliepijaaGreat
