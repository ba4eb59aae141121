/-
  The taker's counters in memory; contracts of the closures of credit.Taker.
-/
import Derived.Test.YtkooihniieepcaaSwCrA
namespace Go.Proofs.Ytkooihniieepcaa
open Go.RowKit
set_option linter.unusedVariables false

structure I2 where
  a : Int
  b : Int
  deriving Inhabited
def c2 (x : I2) : List Value := [.int .i64 x.a, .int .i64 x.b]
def cs2 (l : List I2) : List Value := l.flatMap c2
theorem cs2_cons (y : I2) (l : List I2) : cs2 (y :: l) = .int .i64 y.a :: .int .i64 y.b :: cs2 l := rfl
theorem cs2_append (l m : List I2) : cs2 (l ++ m) = cs2 l ++ cs2 m := by simp [cs2]
theorem cs2_len (l : List I2) : (cs2 l).length = l.length * 2 := by
  induction l with
  | nil => rfl
  | cons y l ih => rw [cs2_cons]; simp only [List.length_cons, ih]; omega
theorem cs2_get : ∀ {l : List I2} {c : Nat} {x : I2}, l[c]? = some x → (cs2 l)[c * 2]? = some (.int .i64 x.a) ∧ (cs2 l)[c * 2 + 1]? = some (.int .i64 x.b)
  | [], c, x, h => by simp at h
  | y :: l, 0, x, h => by simp at h; subst h; exact ⟨rfl, rfl⟩
  | y :: l, c + 1, x, h => by
    have := cs2_get (l := l) (c := c) (x := x) (by simpa using h)
    rw [cs2_cons, show (c + 1) * 2 = c * 2 + 2 by omega]
    exact this
theorem cs2_setA : ∀ {l : List I2} {c : Nat} {x : I2}, l[c]? = some x → ∀ v : Int, (cs2 l).set (c * 2) (.int .i64 v) = cs2 (l.set c ⟨v, x.b⟩)
  | [], c, x, h, _ => by simp at h
  | y :: l, 0, x, h, v => by simp at h; subst h; rfl
  | y :: l, c + 1, x, h, v => by
    have := cs2_setA (l := l) (c := c) (x := x) (by simpa using h) v
    rw [cs2_cons, show (c + 1) * 2 = c * 2 + 2 by omega]
    exact congrArg (fun t => Value.int .i64 y.a :: .int .i64 y.b :: t) this
theorem cs2_setB : ∀ {l : List I2} {c : Nat} {x : I2}, l[c]? = some x → ∀ v : Int, (cs2 l).set (c * 2 + 1) (.int .i64 v) = cs2 (l.set c ⟨x.a, v⟩)
  | [], c, x, h, _ => by simp at h
  | y :: l, 0, x, h, v => by simp at h; subst h; rfl
  | y :: l, c + 1, x, h, v => by
    have := cs2_setB (l := l) (c := c) (x := x) (by simpa using h) v
    rw [cs2_cons, show (c + 1) * 2 + 1 = c * 2 + 1 + 2 by omega]
    exact congrArg (fun t => Value.int .i64 y.a :: .int .i64 y.b :: t) this
theorem blk2 {w : World} {b : Nat} {T : TypeId} {l : List I2} (h : Blk w b T (cs2 l)) {c : Nat} {x : I2} (hx : l[c]? = some x) :
    w.cell? ⟨b, c * 2, none⟩ = some (.int .i64 x.a) ∧ w.cell? ⟨b, c * 2 + 1, none⟩ = some (.int .i64 x.b) := ⟨h.cell (cs2_get hx).1, h.cell (cs2_get hx).2⟩
theorem blk2_setA {w : World} {b : Nat} {T : TypeId} {l : List I2} (h : Blk w b T (cs2 l)) {c : Nat} {x : I2} (hx : l[c]? = some x) (v : Int) : Blk (w.setCell ⟨b, c * 2, none⟩ (.int .i64 v)) b T (cs2 (l.set c ⟨v, x.b⟩)) := by
  rw [← cs2_setA hx]; exact h.set _ _
theorem blk2_setB {w : World} {b : Nat} {T : TypeId} {l : List I2} (h : Blk w b T (cs2 l)) {c : Nat} {x : I2} (hx : l[c]? = some x) (v : Int) : Blk (w.setCell ⟨b, c * 2 + 1, none⟩ (.int .i64 v)) b T (cs2 (l.set c ⟨x.a, v⟩)) := by
  rw [← cs2_setB hx]; exact h.set _ _

/-- Counters within bounds: sent a, limit b. -/
structure TOk (x : I2) : Prop where
  h1 : 0 ≤ x.a
  h2 : x.a ≤ x.b
  h3 : x.b ≤ 1099511627776
def raiX (x : I2) (n : Int) : I2 := if n < 0 ∨ 1099511627776 < n then x else ⟨x.a, max x.b n⟩
def raiE (x : I2) (n : Int) : Int := if n < 0 ∨ 1099511627776 < n then 2 else 0
def takX (x : I2) : I2 := if x.b ≤ x.a then x else ⟨x.a + 1, x.b⟩
def takE (x : I2) : Int := if x.b ≤ x.a then 5 else 0

def TPost (cb : Nat) (S : Nat → Prop) (w : World) (l' : List I2) (e0 : Int) (e : Ending) (w' : World) : Prop :=
  e = .returned (.int .i64 e0) ∧ Blk w' cb 110 (cs2 l') ∧ Upd S w w'
def LefPost (lb : Nat) (w : World) (v : Int) (e : Ending) (w' : World) : Prop :=
  e = .returned (.int .i64 0) ∧ Blk w' lb 3 [.int .i64 v] ∧ Upd (fun k => k = lb) w w'

set_option maxHeartbeats 2000000 in
theorem tak1_any (w : World) (cb c : Nat) (l : List I2) (x : I2) (hb : Blk w cb 110 (cs2 l)) (hx : l[c]? = some x) (h : TOk x) :
    Calls Try.prog 56 #[.pointer (some ⟨cb, c * 2, none⟩)] w (TPost cb (fun k => k = cb) w (l.set c (takX x)) (takE x)) := by
  obtain ⟨q0, q1⟩ := blk2 hb hx
  have HB := Lib.hid hb; have HX := Lib.hid hx
  have f2 := hb.free (c * 2)
  obtain ⟨a, b⟩ := x
  obtain ⟨h1, h2, h3⟩ := h
  dsimp only at *
  by_cases hfull : b ≤ a
  · have e1 : Hid (takX ⟨a, b⟩ = ⟨a, b⟩ ∧ takE ⟨a, b⟩ = 5) := by constructor <;> simp [takX, takE, hfull]
    rw [e1.out.1, e1.out.2, set_same HX.out]
    clear hb hx
    go_enter Try.func56, Try.ntmps56
    go_wp2_with fail
    go_quiet (fail)
    go_wp2_with fail
    go_ret
    exact ⟨rfl, HB.out.qt ((Qt.refl _).drewN _), (Upd.refl _ _).drewN _⟩
  · have e1 : Hid (takX ⟨a, b⟩ = ⟨a + 1, b⟩ ∧ takE ⟨a, b⟩ = 0) := by constructor <;> simp [takX, takE, hfull]
    rw [e1.out.1, e1.out.2]
    clear hb hx
    go_enter Try.func56, Try.ntmps56
    go_wp2_with fail
    go_quiet (fail)
    go_wp2_with fail
    go_ret
    exact ⟨rfl, blk2_setA (HB.out.qt ((Qt.refl _).drewN _)) HX.out _, ((Upd.refl _ _).drewN _).setCell _ _ (fun _ => rfl)⟩

set_option maxHeartbeats 2000000 in
theorem left1_any (w : World) (cb c lb : Nat) (v : Int) (l : List I2) (x : I2) (hb : Blk w cb 110 (cs2 l)) (hx : l[c]? = some x) (h : TOk x) (hl : Blk w lb 3 [.int .i64 v]) :
    Calls Try.prog 53 #[.pointer (some ⟨cb, c * 2, none⟩), .pointer (some ⟨lb, 0, none⟩)] w (LefPost lb w (x.b - x.a)) := by
  obtain ⟨q0, q1⟩ := blk2 hb hx
  have HL := Lib.hid hl
  have r0 := hl.cell (i := 0) rfl
  have f0 := hl.free 0
  obtain ⟨a, b⟩ := x
  obtain ⟨h1, h2, h3⟩ := h
  dsimp only at *
  clear hb hx hl
  go_enter Try.func53, Try.ntmps53
  go_wp2_with fail
  go_region
  go_wp2_with fail
  go_ret
  exact ⟨rfl, Blk.drew (by simpa using (HL.out.set 0 _)), (Upd.setCell (S := fun k => k = lb) (Upd.refl _ _) _ _ (fun _ => rfl)).drew⟩

set_option maxHeartbeats 2000000 in
theorem rai1_any (w : World) (cb c sb : Nat) (n : Int) (l : List I2) (x : I2) (hb : Blk w cb 110 (cs2 l)) (hx : l[c]? = some x) (h : TOk x) (hs : Blk w sb 3 [.int .i64 n]) :
    Calls Try.prog 51 #[.pointer (some ⟨cb, c * 2, none⟩), .pointer (some ⟨sb, 0, none⟩)] w (TPost cb (fun k => k = cb) w (l.set c (raiX x n)) (raiE x n)) := by
  obtain ⟨q0, q1⟩ := blk2 hb hx
  have HB := Lib.hid hb; have HX := Lib.hid hx
  have f1 := hb.free (c * 2 + 1)
  have r0 := hs.cell (i := 0) rfl
  obtain ⟨a, b⟩ := x
  obtain ⟨h1, h2, h3⟩ := h
  dsimp only at *
  by_cases hbad : n < 0 ∨ 1099511627776 < n
  · have e1 : Hid (raiX ⟨a, b⟩ n = ⟨a, b⟩ ∧ raiE ⟨a, b⟩ n = 2) := by constructor <;> simp only [raiX, raiE, if_pos hbad]
    rw [e1.out.1, e1.out.2, set_same HX.out]
    clear hb hx hs
    by_cases hn : n < 0
    · go_enter Try.func51, Try.ntmps51
      go_wp2_with fail
      go_ret
      exact ⟨rfl, HB.out, Upd.refl _ _⟩
    · have hn2 : 1099511627776 < n := by omega
      clear hbad
      go_enter Try.func51, Try.ntmps51
      go_wp2_with fail
      go_ret
      exact ⟨rfl, HB.out, Upd.refl _ _⟩
  · have e1 : Hid (raiX ⟨a, b⟩ n = ⟨a, max b n⟩ ∧ raiE ⟨a, b⟩ n = 0) := by constructor <;> simp only [raiX, raiE, if_neg hbad]
    rw [e1.out.1, e1.out.2]
    have hn1 : ¬ n < 0 := by omega
    have hn2 : ¬ 1099511627776 < n := by omega
    clear hb hx hs hbad
    go_enter Try.func51, Try.ntmps51
    go_wp2_with fail
    go_region
    go_wp2_with fail
    all_goals go_ret
    · have em : max b n = n := by omega
      rw [em]
      exact ⟨rfl, Blk.drew (blk2_setB HB.out HX.out _), (Upd.setCell (S := fun k => k = cb) (Upd.refl _ _) _ _ (fun _ => rfl)).drew⟩
    · have em : max b n = b := by omega
      rw [em]
      exact ⟨rfl, Blk.drew (blk2_setB HB.out HX.out _), (Upd.setCell (S := fun k => k = cb) (Upd.refl _ _) _ _ (fun _ => rfl)).drew⟩
end Go.Proofs.Ytkooihniieepcaa
