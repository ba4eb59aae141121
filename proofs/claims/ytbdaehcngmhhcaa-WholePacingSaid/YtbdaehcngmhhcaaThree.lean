/-
  The first blocks that a call makes (its parameters, its result), known whole.
-/
import Derived.Test.YtbdaehcngmhhcaaNum
namespace Go.Proofs.Ytbdaehcngmhhcaa
open Go.RowKit
set_option linter.unusedVariables false

theorem Blk.bel {w w' : World} {b : Nat} {T : TypeId} {xs : List Value} (h : Blk w b T xs) (k : Below w.heap.size w w') : Blk w' b T xs := h.upd (S := fun _ => False) (Upd.of_below k) id
theorem below_then {B : Nat} {a b c : World} (h : Below B a b) (k : Below b.heap.size b c) (hB : B ≤ b.heap.size) : Below B a c := h.trans (k.mono hB)
structure B2 (w w1 : World) (T1 T2 : TypeId) (c1 c2 : List Value) : Prop where
  a : Blk w1 w.heap.size T1 c1
  b : Blk w1 (w.heap.size + 1) T2 c2
  u : Below w.heap.size w w1
structure B3 (w w1 : World) (T1 T2 T3 : TypeId) (c1 c2 c3 : List Value) : Prop where
  a : Blk w1 w.heap.size T1 c1
  b : Blk w1 (w.heap.size + 1) T2 c2
  c : Blk w1 (w.heap.size + 1 + 1) T3 c3
  u : Below w.heap.size w w1
section
variable {w w1 w2 : World} {T1 T2 T3 : TypeId} {c1 c2 c3 : List Value}
theorem B2.mk_ (w : World) (T1 T2 : TypeId) (c1 c2 : List Value) : B2 w ((w.alloc (.cells c1.toArray T1)).alloc (.cells c2.toArray T2)) T1 T2 c1 c2 := by
  refine ⟨(Blk.new _ _ _).alloc _, ?_, ((Below.refl _ _).alloc (Nat.le_refl _) _).alloc (by simp) _⟩
  have := Blk.new (w.alloc (.cells c1.toArray T1)) T2 c2
  simpa using this
theorem B3.mk_ (w : World) (T1 T2 T3 : TypeId) (c1 c2 c3 : List Value) : B3 w (((w.alloc (.cells c1.toArray T1)).alloc (.cells c2.toArray T2)).alloc (.cells c3.toArray T3)) T1 T2 T3 c1 c2 c3 := by
  refine ⟨((Blk.new _ _ _).alloc _).alloc _, ?_, ?_, (((Below.refl _ _).alloc (Nat.le_refl _) _).alloc (by simp) _).alloc (by simp; omega) _⟩
  · have := (Blk.new (w.alloc (.cells c1.toArray T1)) T2 c2).alloc (.cells c3.toArray T3)
    simpa using this
  · have := Blk.new ((w.alloc (.cells c1.toArray T1)).alloc (.cells c2.toArray T2)) T3 c3
    simpa using this
theorem B2.lt (h : B2 w w1 T1 T2 c1 c2) : w.heap.size + 1 < w1.heap.size := h.b.lt
theorem B3.lt (h : B3 w w1 T1 T2 T3 c1 c2 c3) : w.heap.size + 1 + 1 < w1.heap.size := h.c.lt
theorem B2.bel (h : B2 w w1 T1 T2 c1 c2) (k : Below w1.heap.size w1 w2) : B2 w w2 T1 T2 c1 c2 := ⟨h.a.bel k, h.b.bel k, below_then h.u k (by have := h.lt; omega)⟩
theorem B3.bel (h : B3 w w1 T1 T2 T3 c1 c2 c3) (k : Below w1.heap.size w1 w2) : B3 w w2 T1 T2 T3 c1 c2 c3 := ⟨h.a.bel k, h.b.bel k, h.c.bel k, below_then h.u k (by have := h.lt; omega)⟩
theorem B2.alloc_ (h : B2 w w1 T1 T2 c1 c2) (o : Obj) : B2 w (w1.alloc o) T1 T2 c1 c2 := h.bel ((Below.refl _ _).alloc (Nat.le_refl _) _)
theorem B3.alloc_ (h : B3 w w1 T1 T2 T3 c1 c2 c3) (o : Obj) : B3 w (w1.alloc o) T1 T2 T3 c1 c2 c3 := h.bel ((Below.refl _ _).alloc (Nat.le_refl _) _)
theorem B2.far (h : B2 w w1 T1 T2 c1 c2) {p : Addr} (hp : w.heap.size + 1 < p.block) (v : Value) : B2 w (w1.setCell p v) T1 T2 c1 c2 := ⟨h.a.setO _ (by omega), h.b.setO _ (by omega), h.u.setCell (by omega) _⟩
theorem B3.far (h : B3 w w1 T1 T2 T3 c1 c2 c3) {p : Addr} (hp : w.heap.size + 1 + 1 < p.block) (v : Value) : B3 w (w1.setCell p v) T1 T2 T3 c1 c2 c3 := ⟨h.a.setO _ (by omega), h.b.setO _ (by omega), h.c.setO _ (by omega), h.u.setCell (by omega) _⟩
theorem B3.qt (h : B3 w w1 T1 T2 T3 c1 c2 c3) (k : Qt w1 w2) : B3 w w2 T1 T2 T3 c1 c2 c3 := h.bel k.bel
theorem B2.qt (h : B2 w w1 T1 T2 c1 c2) (k : Qt w1 w2) : B2 w w2 T1 T2 c1 c2 := h.bel k.bel
end
end Go.Proofs.Ytbdaehcngmhhcaa
