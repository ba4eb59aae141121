/-
  Rows of structs of three integers in memory, and the giver's counters.
-/
import Derived.Test.YtkooihniieepcaaOpen3
import Derived.Test.YtkooihniieepcaaVw
namespace Go.Proofs.Ytkooihniieepcaa
open Go.RowKit
set_option linter.unusedVariables false

def c3 (x : I3) : List Value := [.int .i64 x.a, .int .i64 x.b, .int .i64 x.c]
def cs3 (l : List I3) : List Value := l.flatMap c3
theorem cs3_nil : cs3 [] = [] := rfl
theorem cs3_cons (y : I3) (l : List I3) : cs3 (y :: l) = .int .i64 y.a :: .int .i64 y.b :: .int .i64 y.c :: cs3 l := rfl
theorem cs3_append (l m : List I3) : cs3 (l ++ m) = cs3 l ++ cs3 m := by simp [cs3]
theorem cs3_len (l : List I3) : (cs3 l).length = l.length * 3 := by
  induction l with
  | nil => rfl
  | cons y l ih => rw [cs3_cons]; simp only [List.length_cons, ih]; omega
theorem cs3_get : ∀ {l : List I3} {c : Nat} {x : I3}, l[c]? = some x → (cs3 l)[c * 3]? = some (.int .i64 x.a) ∧ (cs3 l)[c * 3 + 1]? = some (.int .i64 x.b) ∧ (cs3 l)[c * 3 + 2]? = some (.int .i64 x.c)
  | [], c, x, h => by simp at h
  | y :: l, 0, x, h => by simp at h; subst h; exact ⟨rfl, rfl, rfl⟩
  | y :: l, c + 1, x, h => by
    have := cs3_get (l := l) (c := c) (x := x) (by simpa using h)
    rw [cs3_cons, show (c + 1) * 3 = c * 3 + 3 by omega]
    exact this
theorem cs3_setA : ∀ {l : List I3} {c : Nat} {x : I3}, l[c]? = some x → ∀ v : Int, (cs3 l).set (c * 3) (.int .i64 v) = cs3 (l.set c ⟨v, x.b, x.c⟩)
  | [], c, x, h, _ => by simp at h
  | y :: l, 0, x, h, v => by simp at h; subst h; rfl
  | y :: l, c + 1, x, h, v => by
    have := cs3_setA (l := l) (c := c) (x := x) (by simpa using h) v
    rw [cs3_cons, show (c + 1) * 3 = c * 3 + 3 by omega]
    exact congrArg (fun t => Value.int .i64 y.a :: .int .i64 y.b :: .int .i64 y.c :: t) this
theorem cs3_setB : ∀ {l : List I3} {c : Nat} {x : I3}, l[c]? = some x → ∀ v : Int, (cs3 l).set (c * 3 + 1) (.int .i64 v) = cs3 (l.set c ⟨x.a, v, x.c⟩)
  | [], c, x, h, _ => by simp at h
  | y :: l, 0, x, h, v => by simp at h; subst h; rfl
  | y :: l, c + 1, x, h, v => by
    have := cs3_setB (l := l) (c := c) (x := x) (by simpa using h) v
    rw [cs3_cons, show (c + 1) * 3 + 1 = c * 3 + 1 + 3 by omega]
    exact congrArg (fun t => Value.int .i64 y.a :: .int .i64 y.b :: .int .i64 y.c :: t) this
theorem cs3_setC : ∀ {l : List I3} {c : Nat} {x : I3}, l[c]? = some x → ∀ v : Int, (cs3 l).set (c * 3 + 2) (.int .i64 v) = cs3 (l.set c ⟨x.a, x.b, v⟩)
  | [], c, x, h, _ => by simp at h
  | y :: l, 0, x, h, v => by simp at h; subst h; rfl
  | y :: l, c + 1, x, h, v => by
    have := cs3_setC (l := l) (c := c) (x := x) (by simpa using h) v
    rw [cs3_cons, show (c + 1) * 3 + 2 = c * 3 + 2 + 3 by omega]
    exact congrArg (fun t => Value.int .i64 y.a :: .int .i64 y.b :: .int .i64 y.c :: t) this
theorem set_set_same {α : Type} (l : List α) (c : Nat) (x y : α) : (l.set c x).set c y = l.set c y := by simp
theorem get_set_self {α : Type} {l : List α} {c : Nat} {x : α} (h : l[c]? = some x) (y : α) : (l.set c y)[c]? = some y := by rw [List.getElem?_set_self (get_lt h)]
theorem set_same {α : Type} {l : List α} {c : Nat} {r : α} (h : l[c]? = some r) : l.set c r = l := by
  apply List.ext_getElem?
  intro i
  rw [List.getElem?_set]
  split
  · rename_i e
    subst e
    rw [if_pos (get_lt h), h]
  · rfl

/-- The cells of element c of a block of threes. -/
theorem blk3 {w : World} {b : Nat} {T : TypeId} {l : List I3} (h : Blk w b T (cs3 l)) {c : Nat} {x : I3} (hx : l[c]? = some x) :
    w.cell? ⟨b, c * 3, none⟩ = some (.int .i64 x.a) ∧ w.cell? ⟨b, c * 3 + 1, none⟩ = some (.int .i64 x.b) ∧ w.cell? ⟨b, c * 3 + 2, none⟩ = some (.int .i64 x.c) :=
  ⟨h.cell (cs3_get hx).1, h.cell (cs3_get hx).2.1, h.cell (cs3_get hx).2.2⟩
theorem blk3_setB {w : World} {b : Nat} {T : TypeId} {l : List I3} (h : Blk w b T (cs3 l)) {c : Nat} {x : I3} (hx : l[c]? = some x) (v : Int) : Blk (w.setCell ⟨b, c * 3 + 1, none⟩ (.int .i64 v)) b T (cs3 (l.set c ⟨x.a, v, x.c⟩)) := by
  rw [← cs3_setB hx]; exact h.set _ _
theorem blk3_setC {w : World} {b : Nat} {T : TypeId} {l : List I3} (h : Blk w b T (cs3 l)) {c : Nat} {x : I3} (hx : l[c]? = some x) (v : Int) : Blk (w.setCell ⟨b, c * 3 + 2, none⟩ (.int .i64 v)) b T (cs3 (l.set c ⟨x.a, x.b, v⟩)) := by
  rw [← cs3_setC hx]; exact h.set _ _
theorem blk3_setA {w : World} {b : Nat} {T : TypeId} {l : List I3} (h : Blk w b T (cs3 l)) {c : Nat} {x : I3} (hx : l[c]? = some x) (v : Int) : Blk (w.setCell ⟨b, c * 3, none⟩ (.int .i64 v)) b T (cs3 (l.set c ⟨v, x.b, x.c⟩)) := by
  rw [← cs3_setA hx]; exact h.set _ _

/-- Counters within bounds: room a, received b, freed c. -/
structure GOk (x : I3) : Prop where
  h1 : 1 ≤ x.a
  h2 : x.a ≤ 64
  h3 : 0 ≤ x.c
  h4 : x.c ≤ x.b
  h5 : x.b ≤ x.a + x.c
  h6 : x.c ≤ 100000

def recX (x : I3) : I3 := if x.a + x.c ≤ x.b then x else ⟨x.a, x.b + 1, x.c⟩
def recE (x : I3) : Int := if x.a + x.c ≤ x.b then 5 else 0
def freX (x : I3) : I3 := if x.b ≤ x.c then x else ⟨x.a, x.b, x.c + 1⟩
def freE (x : I3) : Int := if x.b ≤ x.c then 7 else 0
def audBad (x : I3) (s : Int) : Bool := decide (s < x.b ∨ x.a + x.c < s)
def audX (x : I3) (s : Int) : I3 := if s < x.b ∨ x.a + x.c < s then x else ⟨x.a, s, x.c + (s - x.b)⟩
def audN (x : I3) (s : Int) : Int := if s < x.b ∨ x.a + x.c < s then 0 else s - x.b
def audE (x : I3) (s : Int) : Int := if s < x.b ∨ x.a + x.c < s then 2 else 0
end Go.Proofs.Ytkooihniieepcaa
