/-
  Rows of structs of three integers in memory, and the giver's counters.
  Contracts of the closures of credit.Giver.
  Contracts of the methods of credit.Giver.
-/
import Derived.Test.YtkooihniieepcaaOpen3
import Derived.Test.YtkooihniieepcaaVw
namespace Go.Proofs.Ytkooihniieepcaa
open Go.RowKit
set_option linter.unusedVariables false

def c3 (x : I3) : List Value := [.int .i64 x.a, .int .i64 x.b, .int .i64 x.c]
def cs3 (l : List I3) : List Value := l.flatMap c3
theorem cs3_nil : cs3 [] = [] := rfl
theorem cs3_cons (y : I3) (l : List I3) : cs3 (y :: l) = .int .i64 y.a :: .int .i64 y.b :: .int .i64 y.c :: cs3 l := rfl
theorem cs3_append (l m : List I3) : cs3 (l ++ m) = cs3 l ++ cs3 m := by simp [cs3]
theorem cs3_len (l : List I3) : (cs3 l).length = l.length * 3 := by
  induction l with
  | nil => rfl
  | cons y l ih => rw [cs3_cons]; simp only [List.length_cons, ih]; omega
theorem cs3_get : ∀ {l : List I3} {c : Nat} {x : I3}, l[c]? = some x → (cs3 l)[c * 3]? = some (.int .i64 x.a) ∧ (cs3 l)[c * 3 + 1]? = some (.int .i64 x.b) ∧ (cs3 l)[c * 3 + 2]? = some (.int .i64 x.c)
  | [], c, x, h => by simp at h
  | y :: l, 0, x, h => by simp at h; subst h; exact ⟨rfl, rfl, rfl⟩
  | y :: l, c + 1, x, h => by
    have := cs3_get (l := l) (c := c) (x := x) (by simpa using h)
    rw [cs3_cons, show (c + 1) * 3 = c * 3 + 3 by omega]
    exact this
theorem cs3_setA : ∀ {l : List I3} {c : Nat} {x : I3}, l[c]? = some x → ∀ v : Int, (cs3 l).set (c * 3) (.int .i64 v) = cs3 (l.set c ⟨v, x.b, x.c⟩)
  | [], c, x, h, _ => by simp at h
  | y :: l, 0, x, h, v => by simp at h; subst h; rfl
  | y :: l, c + 1, x, h, v => by
    have := cs3_setA (l := l) (c := c) (x := x) (by simpa using h) v
    rw [cs3_cons, show (c + 1) * 3 = c * 3 + 3 by omega]
    exact congrArg (fun t => Value.int .i64 y.a :: .int .i64 y.b :: .int .i64 y.c :: t) this
theorem cs3_setB : ∀ {l : List I3} {c : Nat} {x : I3}, l[c]? = some x → ∀ v : Int, (cs3 l).set (c * 3 + 1) (.int .i64 v) = cs3 (l.set c ⟨x.a, v, x.c⟩)
  | [], c, x, h, _ => by simp at h
  | y :: l, 0, x, h, v => by simp at h; subst h; rfl
  | y :: l, c + 1, x, h, v => by
    have := cs3_setB (l := l) (c := c) (x := x) (by simpa using h) v
    rw [cs3_cons, show (c + 1) * 3 + 1 = c * 3 + 1 + 3 by omega]
    exact congrArg (fun t => Value.int .i64 y.a :: .int .i64 y.b :: .int .i64 y.c :: t) this
theorem cs3_setC : ∀ {l : List I3} {c : Nat} {x : I3}, l[c]? = some x → ∀ v : Int, (cs3 l).set (c * 3 + 2) (.int .i64 v) = cs3 (l.set c ⟨x.a, x.b, v⟩)
  | [], c, x, h, _ => by simp at h
  | y :: l, 0, x, h, v => by simp at h; subst h; rfl
  | y :: l, c + 1, x, h, v => by
    have := cs3_setC (l := l) (c := c) (x := x) (by simpa using h) v
    rw [cs3_cons, show (c + 1) * 3 + 2 = c * 3 + 2 + 3 by omega]
    exact congrArg (fun t => Value.int .i64 y.a :: .int .i64 y.b :: .int .i64 y.c :: t) this
theorem set_set_same {α : Type} (l : List α) (c : Nat) (x y : α) : (l.set c x).set c y = l.set c y := by simp
theorem get_set_self {α : Type} {l : List α} {c : Nat} {x : α} (h : l[c]? = some x) (y : α) : (l.set c y)[c]? = some y := by rw [List.getElem?_set_self (get_lt h)]
theorem set_same {α : Type} {l : List α} {c : Nat} {r : α} (h : l[c]? = some r) : l.set c r = l := by
  apply List.ext_getElem?
  intro i
  rw [List.getElem?_set]
  split
  · rename_i e
    subst e
    rw [if_pos (get_lt h), h]
  · rfl

/-- The cells of element c of a block of threes. -/
theorem blk3 {w : World} {b : Nat} {T : TypeId} {l : List I3} (h : Blk w b T (cs3 l)) {c : Nat} {x : I3} (hx : l[c]? = some x) :
    w.cell? ⟨b, c * 3, none⟩ = some (.int .i64 x.a) ∧ w.cell? ⟨b, c * 3 + 1, none⟩ = some (.int .i64 x.b) ∧ w.cell? ⟨b, c * 3 + 2, none⟩ = some (.int .i64 x.c) :=
  ⟨h.cell (cs3_get hx).1, h.cell (cs3_get hx).2.1, h.cell (cs3_get hx).2.2⟩
theorem blk3_setB {w : World} {b : Nat} {T : TypeId} {l : List I3} (h : Blk w b T (cs3 l)) {c : Nat} {x : I3} (hx : l[c]? = some x) (v : Int) : Blk (w.setCell ⟨b, c * 3 + 1, none⟩ (.int .i64 v)) b T (cs3 (l.set c ⟨x.a, v, x.c⟩)) := by
  rw [← cs3_setB hx]; exact h.set _ _
theorem blk3_setC {w : World} {b : Nat} {T : TypeId} {l : List I3} (h : Blk w b T (cs3 l)) {c : Nat} {x : I3} (hx : l[c]? = some x) (v : Int) : Blk (w.setCell ⟨b, c * 3 + 2, none⟩ (.int .i64 v)) b T (cs3 (l.set c ⟨x.a, x.b, v⟩)) := by
  rw [← cs3_setC hx]; exact h.set _ _
theorem blk3_setA {w : World} {b : Nat} {T : TypeId} {l : List I3} (h : Blk w b T (cs3 l)) {c : Nat} {x : I3} (hx : l[c]? = some x) (v : Int) : Blk (w.setCell ⟨b, c * 3, none⟩ (.int .i64 v)) b T (cs3 (l.set c ⟨v, x.b, x.c⟩)) := by
  rw [← cs3_setA hx]; exact h.set _ _

/-- Counters within bounds: room a, received b, freed c. -/
structure GOk (x : I3) : Prop where
  h1 : 1 ≤ x.a
  h2 : x.a ≤ 64
  h3 : 0 ≤ x.c
  h4 : x.c ≤ x.b
  h5 : x.b ≤ x.a + x.c
  h6 : x.c ≤ 100000

def recX (x : I3) : I3 := if x.a + x.c ≤ x.b then x else ⟨x.a, x.b + 1, x.c⟩
def recE (x : I3) : Int := if x.a + x.c ≤ x.b then 5 else 0
def freX (x : I3) : I3 := if x.b ≤ x.c then x else ⟨x.a, x.b, x.c + 1⟩
def freE (x : I3) : Int := if x.b ≤ x.c then 7 else 0
def audBad (x : I3) (s : Int) : Bool := decide (s < x.b ∨ x.a + x.c < s)
def audX (x : I3) (s : Int) : I3 := if s < x.b ∨ x.a + x.c < s then x else ⟨x.a, s, x.c + (s - x.b)⟩
def audN (x : I3) (s : Int) : Int := if s < x.b ∨ x.a + x.c < s then 0 else s - x.b
def audE (x : I3) (s : Int) : Int := if s < x.b ∨ x.a + x.c < s then 2 else 0
end Go.Proofs.Ytkooihniieepcaa
namespace Go.Proofs.Ytkooihniieepcaa
open Go.RowKit
set_option linter.unusedVariables false

set_option maxHeartbeats 1000000 in
theorem limit_any (x : I3) (w : World) (h : GOk x) : Calls Try.prog 49 #[.agg #[.int .i64 x.a, .int .i64 x.b, .int .i64 x.c]] w
    fun e w' => e = .returned (.int .i64 (x.a + x.c)) ∧ Below w.heap.size w w' := by
  obtain ⟨a, b, c⟩ := x
  obtain ⟨h1, h2, h3, h4, h5, h6⟩ := h
  dsimp only at *
  go_enter Try.func49, Try.ntmps49
  go_wp2
  go_ret
  exact ⟨rfl, (Below.refl _ _).alloc (Nat.le_refl _) _⟩

/-- What a closure that changes class c of the block cb leaves. -/
def CloPost (cb : Nat) (S : Nat → Prop) (w : World) (l' : List I3) (e0 : Int) (e : Ending) (w' : World) : Prop :=
  e = .returned (.int .i64 e0) ∧ Blk w' cb 100 (cs3 l') ∧ Upd S w w'

/-- The block cb is as it was, and only new blocks have come. -/
structure Same (w0 : World) (cb : Nat) (l : List I3) (w : World) : Prop where
  hb : Blk w cb 100 (cs3 l)
  bel : Below w0.heap.size w0 w
theorem Same.below {w0 w w' : World} {cb : Nat} {l : List I3} (h : Same w0 cb l w) (b : Below w.heap.size w w') : Same w0 cb l w' :=
  ⟨h.hb.upd (S := fun _ => False) (Upd.of_below b) id, h.bel.trans (b.mono h.bel.size)⟩
theorem Same.drew {w0 w : World} {cb : Nat} {l : List I3} (h : Same w0 cb l w) : Same w0 cb l w.drew := h.below ((Qt.refl w).drewN 1).bel
/-- What a region that reads class c holds. -/
def SameS (w0 : World) (cb c : Nat) (l : List I3) (a b d : Int) (w' : World) : Prop :=
  w'.cell? ⟨cb, c * 3, none⟩ = some (.int .i64 a) ∧ w'.cell? ⟨cb, c * 3 + 1, none⟩ = some (.int .i64 b) ∧ w'.cell? ⟨cb, c * 3 + 2, none⟩ = some (.int .i64 d) ∧ Same w0 cb l w'
theorem Same.s {w0 w : World} {cb c : Nat} {l : List I3} {a b d : Int} (h : Same w0 cb l w) (hx : Hid (l[c]? = some ⟨a, b, d⟩)) : SameS w0 cb c l a b d w :=
  have q := blk3 h.hb hx.out
  ⟨q.1, q.2.1, q.2.2, h⟩

set_option maxHeartbeats 2000000 in
theorem rec1_any (w : World) (cb c : Nat) (l : List I3) (x : I3) (hb : Blk w cb 100 (cs3 l)) (hx : l[c]? = some x) (h : GOk x) :
    Calls Try.prog 48 #[.pointer (some ⟨cb, c * 3, none⟩)] w (CloPost cb (fun k => k = cb) w (l.set c (recX x)) (recE x)) := by
  obtain ⟨q0, q1, q2⟩ := blk3 hb hx
  have SM : Same w cb l w := ⟨hb, Below.refl _ _⟩
  have HB := Lib.hid hb; have HX := Lib.hid hx
  have LIM := Lib.hid (limit_any x · h)
  obtain ⟨a, b, d⟩ := x
  obtain ⟨h1, h2, h3, h4, h5, h6⟩ := h
  dsimp only at *
  by_cases hfull : a + d ≤ b
  · have e1 : Hid (recX ⟨a, b, d⟩ = ⟨a, b, d⟩ ∧ recE ⟨a, b, d⟩ = 5) := by constructor <;> simp [recX, recE, hfull]
    rw [e1.out.1, e1.out.2, set_same HX.out]
    clear hb hx
    go_enter Try.func48, Try.ntmps48
    go_wp2_with fail
    go_region_held3 (fun w' => w'.cell? ⟨cb, c * 3, none⟩ = some (.int .i64 a) ∧ w'.cell? ⟨cb, c * 3 + 1, none⟩ = some (.int .i64 b) ∧ w'.cell? ⟨cb, c * 3 + 2, none⟩ = some (.int .i64 d) ∧ Same w cb l w')
      ((go_split_ands; first | exact (Same.drew (by assumption)).s HX | exact (Same.below (by assumption) (by assumption)).s HX | exact Same.s (by assumption) HX | go_keep))
      (first | (go_at_call 49; refine (LIM.out _).mono ?_; rintro e w' ⟨rfl, hbel⟩))
    go_wp2_with fail
    go_ret
    go_split_ands
    exact ⟨rfl, Same.hb (by assumption), Upd.of_below (Same.bel (by assumption))⟩
  · have e1 : Hid (recX ⟨a, b, d⟩ = ⟨a, b + 1, d⟩ ∧ recE ⟨a, b, d⟩ = 0) := by constructor <;> simp [recX, recE, hfull]
    rw [e1.out.1, e1.out.2]
    clear hb hx
    go_enter Try.func48, Try.ntmps48
    go_wp2_with fail
    go_region_held3 (fun w' => w'.cell? ⟨cb, c * 3, none⟩ = some (.int .i64 a) ∧ w'.cell? ⟨cb, c * 3 + 1, none⟩ = some (.int .i64 b) ∧ w'.cell? ⟨cb, c * 3 + 2, none⟩ = some (.int .i64 d) ∧ Same w cb l w')
      ((go_split_ands; first | exact (Same.drew (by assumption)).s HX | exact (Same.below (by assumption) (by assumption)).s HX | exact Same.s (by assumption) HX | go_keep))
      (first | (go_at_call 49; refine (LIM.out _).mono ?_; rintro e w' ⟨rfl, hbel⟩))
    rename_i w1 hS
    obtain ⟨r0, r1, r2, SM1⟩ := hS
    have f1 := SM1.hb.free (c * 3 + 1)
    have S1 := Lib.hid SM1; clear SM1 SM q0 q1 q2
    go_wp2_with fail
    go_ret
    exact ⟨rfl, blk3_setB S1.out.hb HX.out _, (Upd.of_below S1.out.bel).setCell _ _ (fun _ => rfl)⟩

set_option maxHeartbeats 2000000 in
theorem fre1_any (w : World) (cb c : Nat) (l : List I3) (x : I3) (hb : Blk w cb 100 (cs3 l)) (hx : l[c]? = some x) (h : GOk x) :
    Calls Try.prog 58 #[.pointer (some ⟨cb, c * 3, none⟩)] w (CloPost cb (fun k => k = cb) w (l.set c (freX x)) (freE x)) := by
  obtain ⟨q0, q1, q2⟩ := blk3 hb hx
  have HB := Lib.hid hb; have HX := Lib.hid hx
  have f2 := hb.free (c * 3 + 2)
  obtain ⟨a, b, d⟩ := x
  obtain ⟨h1, h2, h3, h4, h5, h6⟩ := h
  dsimp only at *
  by_cases hfull : b ≤ d
  · have e1 : Hid (freX ⟨a, b, d⟩ = ⟨a, b, d⟩ ∧ freE ⟨a, b, d⟩ = 7) := by constructor <;> simp [freX, freE, hfull]
    rw [e1.out.1, e1.out.2, set_same HX.out]
    clear hb hx
    go_enter Try.func58, Try.ntmps58
    go_wp2_with fail
    go_quiet (fail)
    go_wp2_with fail
    go_ret
    exact ⟨rfl, HB.out.qt ((Qt.refl _).drewN _), (Upd.refl _ _).drewN _⟩
  · have e1 : Hid (freX ⟨a, b, d⟩ = ⟨a, b, d + 1⟩ ∧ freE ⟨a, b, d⟩ = 0) := by constructor <;> simp [freX, freE, hfull]
    rw [e1.out.1, e1.out.2]
    clear hb hx
    go_enter Try.func58, Try.ntmps58
    go_wp2_with fail
    go_quiet (fail)
    go_wp2_with fail
    go_ret
    exact ⟨rfl, blk3_setC (HB.out.qt ((Qt.refl _).drewN _)) HX.out _, ((Upd.refl _ _).drewN _).setCell _ _ (fun _ => rfl)⟩

def LimPost (lb : Nat) (w : World) (v : Int) (e : Ending) (w' : World) : Prop :=
  e = .returned (.int .i64 0) ∧ Blk w' lb 3 [.int .i64 v] ∧ Upd (fun k => k = lb) w w'

set_option maxHeartbeats 2000000 in
theorem lim1_any (w : World) (cb c lb : Nat) (v : Int) (l : List I3) (x : I3) (hb : Blk w cb 100 (cs3 l)) (hx : l[c]? = some x) (h : GOk x) (hl : Blk w lb 3 [.int .i64 v]) :
    Calls Try.prog 57 #[.pointer (some ⟨cb, c * 3, none⟩), .pointer (some ⟨lb, 0, none⟩)] w (LimPost lb w (x.a + x.c)) := by
  obtain ⟨q0, q1, q2⟩ := blk3 hb hx
  have LIM := Lib.hid (limit_any x · h)
  have HL := Lib.hid hl
  obtain ⟨a, b, d⟩ := x
  dsimp only at *
  clear hb hx h hl
  go_enter Try.func57, Try.ntmps57
  go_wp2_with fail
  refine (LIM.out _).mono ?_
  rintro e w1 ⟨rfl, hbel⟩
  have L1 := HL.out.upd (S := fun _ => False) (Upd.of_below hbel) id
  have r0 := L1.cell (i := 0) rfl
  have f0 := L1.free 0
  have HL1 := Lib.hid L1; have HB1 := Lib.hid hbel
  clear L1 hbel
  go_wp2_with fail
  go_ret
  exact ⟨rfl, by simpa using HL1.out.set 0 _, (Upd.of_below HB1.out).setCell _ _ (fun _ => rfl)⟩

end Go.Proofs.Ytkooihniieepcaa
namespace Go.Proofs.Ytkooihniieepcaa
open Go.RowKit
set_option linter.unusedVariables false

/-- A giver at block g, its counters at block cb. -/
structure GAt (w : World) (base g cb : Nat) (l : List I3) : Prop where
  hg : Blk w g 98 [.slice (some ⟨cb, 0, none⟩) l.length l.length]
  hc : Blk w cb 100 (cs3 l)
  ne : g ≠ cb
  b1 : base ≤ g
  b2 : base ≤ cb
theorem GAt.upd {w w' : World} {base g cb : Nat} {l : List I3} {S : Nat → Prop} (h : GAt w base g cb l) (u : Upd S w w') (h1 : ¬ S g) (h2 : ¬ S cb) : GAt w' base g cb l := ⟨h.hg.upd u h1, h.hc.upd u h2, h.ne, h.b1, h.b2⟩
theorem GAt.below {w w' : World} {base g cb : Nat} {l : List I3} (h : GAt w base g cb l) (b : Below w.heap.size w w') : GAt w' base g cb l := h.upd (S := fun _ => False) (Upd.of_below b) id id
theorem GAt.qt {w w' : World} {base g cb : Nat} {l : List I3} (h : GAt w base g cb l) (q : Qt w w') : GAt w' base g cb l := h.below q.bel

/-- The call has set class c to x' and returned res; only block cb has turned. -/
def GPost (w : World) (base g cb : Nat) (l : List I3) (c : Nat) (x' : I3) (res : Value) (e : Ending) (w' : World) : Prop :=
  e = .returned res ∧ GAt w' base g cb (l.set c x') ∧ Upd (fun k => k = cb) w w'
theorem GAt.turn {w w' : World} {base g cb : Nat} {l : List I3} (h : GAt w base g cb l) {S : Nat → Prop} (u : Upd S w w') (hS : ¬ S g) {c : Nat} {x' : I3} (hc : Blk w' cb 100 (cs3 (l.set c x'))) : GAt w' base g cb (l.set c x') :=
  ⟨by rw [List.length_set]; exact h.hg.upd u hS, hc, h.ne, h.b1, h.b2⟩


set_option maxHeartbeats 2000000 in
theorem rec_ok (w : World) (base g cb c : Nat) (l : List I3) (x : I3) (h : GAt w base g cb l) (hx : l[c]? = some x) (hk : GOk x) (hl : l.length ≤ 1000) :
    Calls Try.prog 34 #[.pointer (some ⟨g, 0, none⟩), .int .i64 c] w (GPost w base g cb l c (recX x) (.int .i64 (recE x))) := by
  have H := Lib.hid h
  have C := Lib.hid (rec1_any w cb c l x h.hc hx hk)
  have hlt := get_lt hx
  have q0 := h.hg.cell (i := 0) rfl
  have hne := h.ne
  have g1 : ¬ (l.length : Int) ≤ (c : Int) := by omega
  clear h hx hk
  go_enter Try.func34, Try.ntmps34
  go_wp2_with (first | (go_at_call 48; refine C.out.mono ?_; rintro e w1 ⟨rfl, hb1, hu1⟩) | go_in)
  go_ret
  exact ⟨rfl, H.out.turn hu1 hne hb1, hu1⟩

set_option maxHeartbeats 2000000 in
theorem fre_ok (w : World) (base g cb c : Nat) (l : List I3) (x : I3) (h : GAt w base g cb l) (hx : l[c]? = some x) (hk : GOk x) (hl : l.length ≤ 1000) :
    Calls Try.prog 52 #[.pointer (some ⟨g, 0, none⟩), .int .i64 c] w (GPost w base g cb l c (freX x) (.int .i64 (freE x))) := by
  have H := Lib.hid h
  have C := Lib.hid (fre1_any w cb c l x h.hc hx hk)
  have hlt := get_lt hx
  have q0 := h.hg.cell (i := 0) rfl
  have hne := h.ne
  have g1 : ¬ (l.length : Int) ≤ (c : Int) := by omega
  clear h hx hk
  go_enter Try.func52, Try.ntmps52
  go_wp2_with (first | (go_at_call 58; refine C.out.mono ?_; rintro e w1 ⟨rfl, hb1, hu1⟩) | go_in)
  go_ret
  exact ⟨rfl, H.out.turn hu1 hne hb1, hu1⟩

set_option maxHeartbeats 2000000 in
theorem lim_ok (w : World) (base g cb c : Nat) (l : List I3) (x : I3) (h : GAt w base g cb l) (hx : l[c]? = some x) (hk : GOk x) (hl : l.length ≤ 1000) :
    Calls Try.prog 45 #[.pointer (some ⟨g, 0, none⟩), .int .i64 c] w fun e w' => e = .returned (.int .i64 (x.a + x.c)) ∧ Below w.heap.size w w' := by
  have C := Lib.hid (lim1_any (w.alloc (.cells #[.int .i64 0] 3)) cb c w.heap.size 0 l x (h.hc.alloc _) hx hk (Blk.new w _ [.int .i64 0]))
  have hlt := get_lt hx
  have q0 := h.hg.cell (i := 0) rfl
  have hgl := h.hg.lt
  have g1 : ¬ (l.length : Int) ≤ (c : Int) := by omega
  have GL := Lib.hid (h.hg.alloc (.cells #[.int .i64 0] 3))
  clear h hx hk
  go_enter Try.func45, Try.ntmps45
  go_wp2_with (first | (go_at_call 57; refine C.out.mono ?_; rintro e w1 ⟨rfl, hb1, hu1⟩; have r0 := hb1.cell (i := 0) rfl; have HU := Lib.hid hu1; clear hu1 hb1) | go_in)
  go_ret
  exact ⟨rfl, Upd.below ((Below.refl _ w).alloc (Nat.le_refl _) _) HU.out (by simp) (fun i hi => by omega)⟩

end Go.Proofs.Ytkooihniieepcaa
