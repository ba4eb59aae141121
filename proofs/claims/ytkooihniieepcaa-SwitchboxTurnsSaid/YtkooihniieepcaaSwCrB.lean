/-
  Contracts of the closures of credit.Giver.
-/
import Derived.Test.YtkooihniieepcaaSwCrA
namespace Go.Proofs.Ytkooihniieepcaa
open Go.RowKit
set_option linter.unusedVariables false

set_option maxHeartbeats 1000000 in
theorem limit_any (x : I3) (w : World) (h : GOk x) : Calls Try.prog 49 #[.agg #[.int .i64 x.a, .int .i64 x.b, .int .i64 x.c]] w
    fun e w' => e = .returned (.int .i64 (x.a + x.c)) ∧ Below w.heap.size w w' := by
  obtain ⟨a, b, c⟩ := x
  obtain ⟨h1, h2, h3, h4, h5, h6⟩ := h
  dsimp only at *
  go_enter Try.func49, Try.ntmps49
  go_wp2
  go_ret
  exact ⟨rfl, (Below.refl _ _).alloc (Nat.le_refl _) _⟩

/-- What a closure that changes class c of the block cb leaves. -/
def CloPost (cb : Nat) (S : Nat → Prop) (w : World) (l' : List I3) (e0 : Int) (e : Ending) (w' : World) : Prop :=
  e = .returned (.int .i64 e0) ∧ Blk w' cb 100 (cs3 l') ∧ Upd S w w'

/-- The block cb is as it was, and only new blocks have come. -/
structure Same (w0 : World) (cb : Nat) (l : List I3) (w : World) : Prop where
  hb : Blk w cb 100 (cs3 l)
  bel : Below w0.heap.size w0 w
theorem Same.below {w0 w w' : World} {cb : Nat} {l : List I3} (h : Same w0 cb l w) (b : Below w.heap.size w w') : Same w0 cb l w' :=
  ⟨h.hb.upd (S := fun _ => False) (Upd.of_below b) id, h.bel.trans (b.mono h.bel.size)⟩
theorem Same.drew {w0 w : World} {cb : Nat} {l : List I3} (h : Same w0 cb l w) : Same w0 cb l w.drew := h.below ((Qt.refl w).drewN 1).bel
/-- What a region that reads class c holds. -/
def SameS (w0 : World) (cb c : Nat) (l : List I3) (a b d : Int) (w' : World) : Prop :=
  w'.cell? ⟨cb, c * 3, none⟩ = some (.int .i64 a) ∧ w'.cell? ⟨cb, c * 3 + 1, none⟩ = some (.int .i64 b) ∧ w'.cell? ⟨cb, c * 3 + 2, none⟩ = some (.int .i64 d) ∧ Same w0 cb l w'
theorem Same.s {w0 w : World} {cb c : Nat} {l : List I3} {a b d : Int} (h : Same w0 cb l w) (hx : Hid (l[c]? = some ⟨a, b, d⟩)) : SameS w0 cb c l a b d w :=
  have q := blk3 h.hb hx.out
  ⟨q.1, q.2.1, q.2.2, h⟩

set_option maxHeartbeats 2000000 in
theorem rec1_any (w : World) (cb c : Nat) (l : List I3) (x : I3) (hb : Blk w cb 100 (cs3 l)) (hx : l[c]? = some x) (h : GOk x) :
    Calls Try.prog 48 #[.pointer (some ⟨cb, c * 3, none⟩)] w (CloPost cb (fun k => k = cb) w (l.set c (recX x)) (recE x)) := by
  obtain ⟨q0, q1, q2⟩ := blk3 hb hx
  have SM : Same w cb l w := ⟨hb, Below.refl _ _⟩
  have HB := Lib.hid hb; have HX := Lib.hid hx
  have LIM := Lib.hid (limit_any x · h)
  obtain ⟨a, b, d⟩ := x
  obtain ⟨h1, h2, h3, h4, h5, h6⟩ := h
  dsimp only at *
  by_cases hfull : a + d ≤ b
  · have e1 : Hid (recX ⟨a, b, d⟩ = ⟨a, b, d⟩ ∧ recE ⟨a, b, d⟩ = 5) := by constructor <;> simp [recX, recE, hfull]
    rw [e1.out.1, e1.out.2, set_same HX.out]
    clear hb hx
    go_enter Try.func48, Try.ntmps48
    go_wp2_with fail
    go_region_held3 (fun w' => w'.cell? ⟨cb, c * 3, none⟩ = some (.int .i64 a) ∧ w'.cell? ⟨cb, c * 3 + 1, none⟩ = some (.int .i64 b) ∧ w'.cell? ⟨cb, c * 3 + 2, none⟩ = some (.int .i64 d) ∧ Same w cb l w')
      ((go_split_ands; first | exact (Same.drew (by assumption)).s HX | exact (Same.below (by assumption) (by assumption)).s HX | exact Same.s (by assumption) HX | go_keep))
      (first | (go_at_call 49; refine (LIM.out _).mono ?_; rintro e w' ⟨rfl, hbel⟩))
    go_wp2_with fail
    go_ret
    go_split_ands
    exact ⟨rfl, Same.hb (by assumption), Upd.of_below (Same.bel (by assumption))⟩
  · have e1 : Hid (recX ⟨a, b, d⟩ = ⟨a, b + 1, d⟩ ∧ recE ⟨a, b, d⟩ = 0) := by constructor <;> simp [recX, recE, hfull]
    rw [e1.out.1, e1.out.2]
    clear hb hx
    go_enter Try.func48, Try.ntmps48
    go_wp2_with fail
    go_region_held3 (fun w' => w'.cell? ⟨cb, c * 3, none⟩ = some (.int .i64 a) ∧ w'.cell? ⟨cb, c * 3 + 1, none⟩ = some (.int .i64 b) ∧ w'.cell? ⟨cb, c * 3 + 2, none⟩ = some (.int .i64 d) ∧ Same w cb l w')
      ((go_split_ands; first | exact (Same.drew (by assumption)).s HX | exact (Same.below (by assumption) (by assumption)).s HX | exact Same.s (by assumption) HX | go_keep))
      (first | (go_at_call 49; refine (LIM.out _).mono ?_; rintro e w' ⟨rfl, hbel⟩))
    rename_i w1 hS
    obtain ⟨r0, r1, r2, SM1⟩ := hS
    have f1 := SM1.hb.free (c * 3 + 1)
    have S1 := Lib.hid SM1; clear SM1 SM q0 q1 q2
    go_wp2_with fail
    go_ret
    exact ⟨rfl, blk3_setB S1.out.hb HX.out _, (Upd.of_below S1.out.bel).setCell _ _ (fun _ => rfl)⟩

set_option maxHeartbeats 2000000 in
theorem fre1_any (w : World) (cb c : Nat) (l : List I3) (x : I3) (hb : Blk w cb 100 (cs3 l)) (hx : l[c]? = some x) (h : GOk x) :
    Calls Try.prog 58 #[.pointer (some ⟨cb, c * 3, none⟩)] w (CloPost cb (fun k => k = cb) w (l.set c (freX x)) (freE x)) := by
  obtain ⟨q0, q1, q2⟩ := blk3 hb hx
  have HB := Lib.hid hb; have HX := Lib.hid hx
  have f2 := hb.free (c * 3 + 2)
  obtain ⟨a, b, d⟩ := x
  obtain ⟨h1, h2, h3, h4, h5, h6⟩ := h
  dsimp only at *
  by_cases hfull : b ≤ d
  · have e1 : Hid (freX ⟨a, b, d⟩ = ⟨a, b, d⟩ ∧ freE ⟨a, b, d⟩ = 7) := by constructor <;> simp [freX, freE, hfull]
    rw [e1.out.1, e1.out.2, set_same HX.out]
    clear hb hx
    go_enter Try.func58, Try.ntmps58
    go_wp2_with fail
    go_quiet (fail)
    go_wp2_with fail
    go_ret
    exact ⟨rfl, HB.out.qt ((Qt.refl _).drewN _), (Upd.refl _ _).drewN _⟩
  · have e1 : Hid (freX ⟨a, b, d⟩ = ⟨a, b, d + 1⟩ ∧ freE ⟨a, b, d⟩ = 0) := by constructor <;> simp [freX, freE, hfull]
    rw [e1.out.1, e1.out.2]
    clear hb hx
    go_enter Try.func58, Try.ntmps58
    go_wp2_with fail
    go_quiet (fail)
    go_wp2_with fail
    go_ret
    exact ⟨rfl, blk3_setC (HB.out.qt ((Qt.refl _).drewN _)) HX.out _, ((Upd.refl _ _).drewN _).setCell _ _ (fun _ => rfl)⟩

def LimPost (lb : Nat) (w : World) (v : Int) (e : Ending) (w' : World) : Prop :=
  e = .returned (.int .i64 0) ∧ Blk w' lb 3 [.int .i64 v] ∧ Upd (fun k => k = lb) w w'

set_option maxHeartbeats 2000000 in
theorem lim1_any (w : World) (cb c lb : Nat) (v : Int) (l : List I3) (x : I3) (hb : Blk w cb 100 (cs3 l)) (hx : l[c]? = some x) (h : GOk x) (hl : Blk w lb 3 [.int .i64 v]) :
    Calls Try.prog 57 #[.pointer (some ⟨cb, c * 3, none⟩), .pointer (some ⟨lb, 0, none⟩)] w (LimPost lb w (x.a + x.c)) := by
  obtain ⟨q0, q1, q2⟩ := blk3 hb hx
  have LIM := Lib.hid (limit_any x · h)
  have HL := Lib.hid hl
  obtain ⟨a, b, d⟩ := x
  dsimp only at *
  clear hb hx h hl
  go_enter Try.func57, Try.ntmps57
  go_wp2_with fail
  refine (LIM.out _).mono ?_
  rintro e w1 ⟨rfl, hbel⟩
  have L1 := HL.out.upd (S := fun _ => False) (Upd.of_below hbel) id
  have r0 := L1.cell (i := 0) rfl
  have f0 := L1.free 0
  have HL1 := Lib.hid L1; have HB1 := Lib.hid hbel
  clear L1 hbel
  go_wp2_with fail
  go_ret
  exact ⟨rfl, by simpa using HL1.out.set 0 _, (Upd.of_below HB1.out).setCell _ _ (fun _ => rfl)⟩

end Go.Proofs.Ytkooihniieepcaa
