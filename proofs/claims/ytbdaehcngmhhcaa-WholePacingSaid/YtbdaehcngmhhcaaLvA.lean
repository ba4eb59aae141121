/-
  The memory of waterfill's level while it looks at the links.
-/
import Derived.Test.YtbdaehcngmhhcaaMkM
import Derived.Test.YtbdaehcngmhhcaaLvM
namespace Go.Proofs.Ytbdaehcngmhhcaa
open Go.RowKit
set_option linter.unusedVariables false

structure LvAt (w wr : World) (n : Nat) (ql : Nat → Rq) (us : Nat → Bool) (fnd : Bool) (least : Rq) : Prop where
  t : Blk wr w.heap.size 57 [.int .i64 0, .int .i64 0, .slice none 0 0]
  le : Blk wr (w.heap.size + 1) 29 (rC least)
  fo : Blk wr (w.heap.size + 1 + 1) 4 [.bool fnd]
  ln : Blk wr (w.heap.size + 1 + 1 + 1) 29 (flC rC ((List.range n).map ql))
  us : Blk wr (w.heap.size + 1 + 1 + 1 + 1) 4 ((List.range n).map (bZ us))
  u : Below w.heap.size w wr
section
variable {w wr w' : World} {n : Nat} {ql : Nat → Rq} {us : Nat → Bool} {fnd : Bool} {least : Rq}
theorem LvAt.lt (h : LvAt w wr n ql us fnd least) : w.heap.size + 1 + 1 + 1 + 1 < wr.heap.size := h.us.lt
theorem LvAt.below (h : LvAt w wr n ql us fnd least) (q : Below wr.heap.size wr w') : LvAt w w' n ql us fnd least :=
  ⟨h.t.bel q, h.le.bel q, h.fo.bel q, h.ln.bel q, h.us.bel q, below_then h.u q (by have := h.lt; omega)⟩
/-- A link's candidate is kept. -/
theorem LvAt.put (h : LvAt w wr n ql us fnd least) {i : Nat} (hi : i < n) (r : Rq) :
    LvAt w (((wr.setCell ⟨w.heap.size + 1 + 1 + 1, i * 2, none⟩ (.int .i64 r.n)).setCell ⟨w.heap.size + 1 + 1 + 1, i * 2 + 1, none⟩ (.int .i64 r.d)).setCell ⟨w.heap.size + 1 + 1 + 1 + 1, i, none⟩ (.bool true)) n (updQ ql i r) (updQ us i true) fnd least := by
  refine ⟨?_, ?_, ?_, ?_, ?_, ?_⟩
  · exact ((h.t.setO _ (by dsimp only; omega)).setO _ (by dsimp only; omega)).setO _ (by dsimp only; omega)
  · exact ((h.le.setO _ (by dsimp only; omega)).setO _ (by dsimp only; omega)).setO _ (by dsimp only; omega)
  · exact ((h.fo.setO _ (by dsimp only; omega)).setO _ (by dsimp only; omega)).setO _ (by dsimp only; omega)
  · rw [← flC_set ql hi r]
    exact ((h.ln.set _ _).set _ _).setO _ (by dsimp only; omega)
  · have e : (List.range n).map (bZ (updQ us i true)) = ((List.range n).map (bZ us)).set i (.bool true) := by
      rw [← range_updQ (bZ us) (.bool true) hi]
      refine List.map_congr_left fun j _ => ?_
      unfold bZ updQ
      by_cases c : j = i <;> simp [c]
    rw [e]
    exact ((h.us.setO _ (by dsimp only; omega)).setO _ (by dsimp only; omega)).set _ _
  · exact ((h.u.setCell (by dsimp only; omega) _).setCell (by dsimp only; omega) _).setCell (by dsimp only; omega) _
/-- A value has been considered. -/
theorem LvAt.cons (h : LvAt w wr n ql us fnd least) {fnd' : Bool} {least' : Rq} (hf : Blk w' (w.heap.size + 1 + 1) 4 [.bool fnd']) (hl : Blk w' (w.heap.size + 1) 29 (rC least'))
    (q : Upd (fun k => k = w.heap.size + 1 + 1 ∨ k = w.heap.size + 1) wr w') : LvAt w w' n ql us fnd' least' :=
  ⟨h.t.upd q (by omega), hl, hf, h.ln.upd q (by omega), h.us.upd q (by omega), Upd.below h.u q (by have := h.lt; omega) (fun i hi => by omega)⟩
theorem LvAt.usc (h : LvAt w wr n ql us fnd least) {i : Nat} (hi : i < n) : wr.cell? ⟨w.heap.size + 1 + 1 + 1 + 1, i, none⟩ = some (.bool (us i)) := h.us.cell (by simp [hi, bZ])
theorem LvAt.lnc (h : LvAt w wr n ql us fnd least) {i : Nat} (hi : i < n) : wr.cell? ⟨w.heap.size + 1 + 1 + 1, i * 2, none⟩ = some (.int .i64 (ql i).n) ∧ wr.cell? ⟨w.heap.size + 1 + 1 + 1, i * 2 + 1, none⟩ = some (.int .i64 (ql i).d) := by
  have e : ((List.range n).map ql)[i]? = some (ql i) := by simp [hi]
  exact ⟨h.ln.cell (i := i * 2 + 0) (by rw [flC_get rC_len e 0 (by omega)]; rfl), h.ln.cell (by rw [flC_get rC_len e 1 (by omega)]; rfl)⟩
end
end Go.Proofs.Ytbdaehcngmhhcaa
