/-
  What lies in memory behind run, and the contracts of the fork's methods there.
-/
import Derived.Test.YteomiofmaopkhaaFits
import Derived.Test.YteomiofmaopkhaaHold
import Derived.Test.YteomiofmaopkhaaApp
namespace Go.Proofs.Yteomiofmaopkhaa
open Go.RowKit
set_option linter.unusedVariables false

theorem own_sl {α : Type} {f : α → Value} {T : TypeId} {w : World} {B : Nat} {a : Option Addr} {n m c : Nat} {xs : List α} (h : w.ownsRow B T 1 (.slice a n c) m (xs.map f)) : Sl f w a xs := by
  have hm : xs.length = m := by simpa using h.1
  rcases List.eq_nil_or_concat xs with rfl | ⟨l, x, rfl⟩
  · intro j x hj; simp at hj
  · obtain ⟨g, sp, rfl, _, hb, _⟩ := own_blk h (by simp)
    exact hb.sub
theorem own_len {α : Type} {f : α → Value} {T : TypeId} {w : World} {B : Nat} {v : Value} {m : Nat} {xs : List α} (h : w.ownsRow B T 1 v m (xs.map f)) : xs.length ≤ maxLen := by
  obtain ⟨a, c, rfl, _⟩ := own_shape h
  by_cases hx : xs = []
  · subst hx; simp
  · obtain ⟨g, sp, _, _, _, h1, h2, _⟩ := own_blk h hx
    omega
/-- The memory behind a run. -/
def Ran (w0 : World) (o : Nat) (room : Int) (st : RunSt) (b ml : Nat) (ap : Option Addr) (cp : Nat) (w : World) : Prop :=
  ∃ v prow rows col, RunM w0 w0.heap.size b ml o room v st.fs st.freed (.slice ap st.put.length cp) prow rows col w ∧ prow.map RowOf.xs = st.put ∧ rows.map RowOf.xs = st.left
section
variable {w0 : World} {o : Nat} {room : Int} {st : RunSt} {b ml : Nat} {ap : Option Addr} {cp : Nat} {w w' : World}
theorem Ran.of {pv : Value} (h : RnAt w0 b ml o room st pv w) : ∃ ap cp, pv = .slice ap st.put.length cp ∧ Ran w0 o room st b ml ap cp w := by
  obtain ⟨v, prow, rows, col, hM, hP, hL⟩ := h
  obtain ⟨ap, cp, rfl, _⟩ := own_shape hM.hp
  have e : prow.length = st.put.length := by rw [← hP, List.length_map]
  rw [e] at hM
  exact ⟨ap, cp, by rw [e], v, prow, rows, col, hM, hP, hL⟩
theorem Ran.below (h : Ran w0 o room st b ml ap cp w) (q : Below w.heap.size w w') : Ran w0 o room st b ml ap cp w' := by
  obtain ⟨v, prow, rows, col, hM, hP, hL⟩ := h
  exact ⟨v, prow, rows, _, hM.below q 3, hP, hL⟩
theorem Ran.qt (h : Ran w0 o room st b ml ap cp w) (q : Qt w w') : Ran w0 o room st b ml ap cp w' := h.below q.bel
theorem Ran.bel (h : Ran w0 o room st b ml ap cp w) : Below w0.heap.size w0 w := by
  obtain ⟨v, prow, rows, col, hM, hP, hL⟩ := h
  exact hM.bel
theorem Ran.left (h : Ran w0 o room st b ml ap cp w) {k : Nat} {l : List Int} (hk : st.left[k]? = some l) : ∃ ar cr, w.cell? ⟨ml, k, none⟩ = some (.slice ar l.length cr) ∧ SlI w ar l := by
  obtain ⟨v, prow, rows, col, hM, hP, hL⟩ := h
  rw [← hL, List.getElem?_map] at hk
  obtain ⟨r, hr, rfl⟩ := Option.map_eq_some_iff.1 hk
  refine ⟨r.a, r.c, hM.hm.cell (i := k) (by rw [List.getElem?_map, hr]; rfl), ?_⟩
  exact own_sl (hM.hl r (List.mem_of_getElem? hr) : w.ownsRow _ _ 1 (.slice r.a r.xs.length r.c) _ _)
theorem Ran.fork (h : Ran w0 o room st b ml ap cp w) : ∃ v, FkAt w w0.heap.size b o room v st.fs st.freed := by
  obtain ⟨v, prow, rows, col, hM, hP, hL⟩ := h
  exact ⟨v, hM.hF⟩
theorem own_ran (h : Ran w0 o room st b ml ap cp w) (hl : st.put.length ≤ 1000) (x : Int) :
    Calls Try.prog 27 #[.slice ap st.put.length cp, .int .i64 x] w (RwPost (.int .i64) 3 w (ownIds x 0 st.put)) := by
  obtain ⟨v, prow, rows, col, hM, hP, hL⟩ := h
  have e : prow.length = st.put.length := by rw [← hP, List.length_map]
  rw [← e, ← hP]
  exact own_any w ap cp prow (own_sl hM.hp) (fun r hr => ⟨own_sl (hM.hpr r hr : w.ownsRow _ _ 1 (.slice r.a r.xs.length r.c) _ _), own_len (hM.hpr r hr)⟩) (by omega) x
theorem wait_ran {n : Nat} (h : Ran w0 o room st b ml ap cp w) (hi : RunInv o room n st) (h64 : room ≤ 64) (k : Nat) (hk : k < o) (ho : o ≤ 8) :
    Calls Try.prog 25 #[.pointer (some ⟨b, 0, none⟩), .int .i64 k] w (RwPost (.int .i64) 3 w (wIds st.fs k)) := by
  obtain ⟨v, hF⟩ := h.fork
  exact wait_any w _ b o room v st.fs st.freed hF (by have := hi.fr; omega) k (by omega) (by omega) hi.b8
theorem held_ran {n : Nat} (h : Ran w0 o room st b ml ap cp w) (hi : RunInv o room n st) (h64 : room ≤ 64) :
    Calls Try.prog 22 #[.pointer (some ⟨b, 0, none⟩)] w (RwPost (.int .i64) 3 w (hIds st.fs)) := by
  obtain ⟨v, hF⟩ := h.fork
  exact held_any w _ b o room v st.fs st.freed hF (by have := hi.fr; omega)
theorem freed_ran (h : Ran w0 o room st b ml ap cp w) : Calls Try.prog 24 #[.pointer (some ⟨b, 0, none⟩)] w fun e w' => e = .returned (.int .i64 st.freed) ∧ w = w' := by
  obtain ⟨v, hF⟩ := h.fork
  exact freed_any w _ b o room v st.fs st.freed hF
end
theorem Rw.base {α : Type} {f : α → Value} {T : TypeId} {w : World} {base : Nat} {a : Option Addr} {n c : Nat} {xs : List α} (h : Rw f T w base (.slice a n c) xs) (hx : xs ≠ []) : base ≤ (a.getD default).block := by
  obtain ⟨g, sp, c', e, hg, _⟩ := h.pos hx
  cases e
  exact hg
theorem equalInt_same (w : World) (a b : Option Addr) (c d : Nat) (xs : List Int) (hx : SlI w a xs) (hy : SlI w b xs) (hl : xs.length ≤ maxLen) :
    Calls Try.prog 15 #[.slice a xs.length c, .slice b xs.length d] w fun e w' => e = .returned (.bool true) ∧ Qt w w' :=
  (equalInt_any w a b c d xs xs hx hy hl).mono fun e w' h => ⟨by rw [h.1]; simp, h.2⟩
theorem wIds_len (fs : List Fr) (k : Nat) : (wIds fs k).length ≤ fs.length := by
  unfold wIds
  rw [List.length_map]
  exact List.length_filter_le _ _
end Go.Proofs.Yteomiofmaopkhaa
