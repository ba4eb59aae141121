/-
  The memory of the law BranchApart: the second list of operations.
-/
import Derived.Test.YteomiofmaopkhaaApart
namespace Go.Proofs.Yteomiofmaopkhaa
open Go.RowKit
set_option linter.unusedVariables false

theorem Try.infoOp : (Try.prog.info? 28).map (fun i => (i.zero, i.size, i.bytes)) = some (some (.agg #[.int .i64 0, .slice none 0 0, .slice none 0 0]), 3, 56) := by kernel_rfl
theorem made_ops (n : Nat) : madeCells #[Value.int .i64 0, .slice none 0 0, .slice none 0 0] (n * 3) = (cos (List.replicate n opZ)).toArray := by
  apply Array.ext_getElem?
  intro i
  unfold madeCells
  by_cases hi : i < n * 3
  · have h1 : (List.replicate n opZ)[i / 3]? = some opZ := by
      rw [List.getElem?_replicate]; rw [if_pos (by omega)]
    obtain ⟨a, b, c⟩ := cos_get h1
    have h3 : i % 3 = 0 ∨ i % 3 = 1 ∨ i % 3 = 2 := by omega
    rcases h3 with h | h | h
    · have e : i / 3 * 3 = i := by omega
      rw [e] at a
      rw [List.getElem?_toArray (xs := cos (List.replicate n opZ)), a]
      simp [hi, h, opZ]
    · have e : i / 3 * 3 + 1 = i := by omega
      rw [e] at b
      rw [List.getElem?_toArray (xs := cos (List.replicate n opZ)), b]
      simp [hi, h, opZ, OpR.v1]
    · have e : i / 3 * 3 + 2 = i := by omega
      rw [e] at c
      rw [List.getElem?_toArray (xs := cos (List.replicate n opZ)), c]
      simp [hi, h, opZ, OpR.v2]
  · have := cos_len (List.replicate n opZ)
    simp at this
    rw [Array.getElem?_eq_none (by simp; omega), Array.getElem?_eq_none (by simp; omega)]
theorem make_ops (w : World) (n : Nat) (h : n ≤ 1000000) : (Instr.makeSlice 22 (.int .i64 n) (.int .i64 n)).run Try.prog w =
    .ok (.slice (some ⟨w.heap.size, 0, none⟩) n n) (w.alloc (.cells (cos (List.replicate n opZ)).toArray 28)) := by
  obtain ⟨i, hi, hz, hs, hb⟩ := info_parts Try.infoOp
  rw [run_make w 22 28 i _ Try.underlying22 hi hz .i64 .i64 n n (by omega) (by omega) (by rw [hb]; omega) (by omega)]
  rw [hs, Int.toNat_natCast, ← made_ops]
  rfl
theorem OpOk.upd {S : Nat → Prop} {w w' : World} {y : OpR} (h : OpOk w y) (u : Upd S w w') (h1 : y.outs ≠ [] → ¬ S (y.oa.getD default).block) (h2 : y.rdy ≠ [] → ¬ S (y.ra.getD default).block) : OpOk w' y :=
  ⟨h.1.upd u h1, h.2.1, h.2.2.1.upd u h2, h.2.2.2⟩
def apOk (g : Nat) (y : OpR) : Prop := (y.outs ≠ [] → (y.oa.getD default).block ≠ g) ∧ (y.rdy ≠ [] → (y.ra.getD default).block ≠ g)
structure ApM (wB : World) (g k : Nat) (xs : List OpR) (i : Nat) (ms : List OpR) (wr : World) : Prop where
  len : ms.length = xs.length
  hg : Blk wr g 28 (cos ms)
  ok : ∀ (j : Nat) (x y : OpR), j < i → xs[j]? = some x → ms[j]? = some y → ApR k x y ∧ OpOk wr y ∧ apOk g y
  bel : Below wB.heap.size wB wr
  gb : wB.heap.size ≤ g
/-- What a round may write. -/
def apS (g : Nat) (wr : World) (b : Nat) : Prop := b = g ∨ wr.heap.size ≤ b
section
variable {wB : World} {g k i : Nat} {xs ms : List OpR} {wr w : World}
theorem ApM.oks (h : ApM wB g k xs i ms wr) (u : Upd (apS g wr) wr w) (m2 : List OpR) (hm : ∀ j, j < i → m2[j]? = ms[j]?) : ∀ (j : Nat) (x y : OpR), j < i → xs[j]? = some x → m2[j]? = some y → ApR k x y ∧ OpOk w y ∧ apOk g y := by
  intro j x y hj hx hy
  obtain ⟨h1, h2, h3⟩ := h.ok j x y hj hx (by rw [← hm j hj]; exact hy)
  refine ⟨h1, h2.upd u (fun hne hs => ?_) (fun hne hs => ?_), h3⟩
  · rcases hs with hs | hs
    · exact h3.1 hne hs
    · have := h2.1.old hne; omega
  · rcases hs with hs | hs
    · exact h3.2 hne hs
    · have := h2.2.2.1.old hne; omega
/-- The next operation is in its place. -/
theorem ApM.next (h : ApM wB g k xs i ms wr) (u : Upd (apS g wr) wr w) {x y : OpR} (hx : xs[i]? = some x) (hg : Blk w g 28 (cos (ms.set i y))) (hr : ApR k x y) (ho : OpOk w y) (ha : apOk g y) : ApM wB g k xs (i + 1) (ms.set i y) w := by
  refine ⟨by rw [List.length_set]; exact h.len, hg, ?_, Upd.below h.bel u h.bel.size (fun b hb => ?_), h.gb⟩
  · intro j x' y' hj hx' hy'
    by_cases e : j < i
    · exact h.oks u (ms.set i y) (fun j hj => by rw [List.getElem?_set_ne (by omega)]) j x' y' e hx' hy'
    · obtain rfl : j = i := by omega
      rw [hx] at hx'
      obtain rfl := Option.some.inj hx'
      rw [List.getElem?_set_self (by have := h.len; have := get_lt hx; omega)] at hy'
      obtain rfl := Option.some.inj hy'
      exact ⟨hr, ho, ha⟩
  · have := h.gb; have := h.bel.size
    rcases hb with hb | hb <;> omega
theorem ApM.all {n : Nat} (h : ApM wB g k xs n ms wr) (hn : xs.length ≤ n) : (∀ y ∈ ms, OpOk wr y) ∧ ∀ (j : Nat) (x y : OpR), xs[j]? = some x → ms[j]? = some y → ApR k x y := by
  refine ⟨fun y hy => ?_, fun j x y hx hy => (h.ok j x y (by have := get_lt hx; omega) hx hy).1⟩
  obtain ⟨j, hj⟩ := List.mem_iff_getElem?.1 hy
  have hlt : j < xs.length := by rw [← h.len]; exact get_lt hj
  exact (h.ok j xs[j] y (by omega) (by simp [hlt]) hj).2.1
end
/-- The memory of the inner loop: gr is the new list of truth values. -/
def AiRel (wr0 : World) (g gr k o i : Nat) (x : OpR) (sp : List Value) (L : List Value) (nv c : Value) (w : World) : Prop :=
  ∃ (j : Nat) (rdy : List Bool) (n : Int), j ≤ o ∧ c = .int .i64 j ∧ nv = .int .i64 n ∧ 0 ≤ n ∧ n ≤ 8 * i + j ∧ rdy.length = o ∧ rdy[k]? = x.rdy[k]? ∧ Blk w gr 4 (rdy.map Value.bool ++ sp) ∧ Blk w g 28 L ∧ Upd (apS g wr0) wr0 w
def ApRel (wB : World) (g k : Nat) (xs : List OpR) (nv c : Value) (w : World) : Prop :=
  ∃ (i : Nat) (ms : List OpR) (n : Int), i ≤ xs.length ∧ c = .int .i64 i ∧ nv = .int .i64 n ∧ 0 ≤ n ∧ n ≤ 8 * i ∧ ApM wB g k xs i ms w
end Go.Proofs.Yteomiofmaopkhaa
