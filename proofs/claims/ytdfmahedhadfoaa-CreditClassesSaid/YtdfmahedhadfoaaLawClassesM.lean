/-
  Memory of the law CreditClasses: a giver of two classes, and two of one class each.
-/
import Derived.Test.YtdfmahedhadfoaaOne
import Derived.Test.YtdfmahedhadfoaaOwn
import Derived.Laws.BitsAllLaws
namespace Go.Proofs.Ytdfmahedhadfoaa
open Go.RowKit
set_option linter.unusedVariables false

theorem and_one (n : Int) (h1 : -9223372036854775808 ≤ n) (h2 : n ≤ 9223372036854775807) : bits .and .i64 n 1 = 0 ∨ bits .and .i64 n 1 = 1 := by
  show IntKind.i64.wrap ((BitVec.ofInt 64 n &&& BitVec.ofInt 64 1).toNat : Int) = 0 ∨ IntKind.i64.wrap ((BitVec.ofInt 64 n &&& BitVec.ofInt 64 1).toNat : Int) = 1
  have e : (BitVec.ofInt 64 n &&& BitVec.ofInt 64 1).toNat = (BitVec.ofInt 64 n).toNat % 2 := by
    rw [BitVec.toNat_and]
    have : (BitVec.ofInt 64 1).toNat = 1 := by decide
    rw [this, Nat.and_one_is_mod]
  rw [e]
  have : (BitVec.ofInt 64 n).toNat % 2 = 0 ∨ (BitVec.ofInt 64 n).toNat % 2 = 1 := by omega
  rcases this with h | h <;> rw [h]
  · left; decide
  · right; decide

/-- The blocks lie apart. -/
structure ClA (g cb g0 cb0 g1 cb1 ar : Nat) : Prop where
  a1 : cb ≠ cb0
  a2 : cb ≠ cb1
  a3 : cb0 ≠ cb1
  a4 : g0 ≠ cb
  a5 : g1 ≠ cb
  a6 : g ≠ cb0
  a7 : g1 ≠ cb0
  a8 : g ≠ cb1
  a9 : g0 ≠ cb1
  b0 : ar ≠ cb
  b1 : ar ≠ cb0
  b2 : ar ≠ cb1
/-- The giver of both holds l, the givers of one hold y0 and y1. -/
structure Cl (W : World) (g cb g0 cb0 g1 cb1 ar : Nat) (l : List I3) (y0 y1 : I3) (w : World) : Prop where
  hG : GAt w W.heap.size g cb l
  h0 : GAt w W.heap.size g0 cb0 [y0]
  h1 : GAt w W.heap.size g1 cb1 [y1]
  ha : Blk w ar 46 [.pointer (some ⟨g0, 0, none⟩), .pointer (some ⟨g1, 0, none⟩)]
  bel : Below W.heap.size W w
section
variable {W : World} {g cb g0 cb0 g1 cb1 ar : Nat} {l l' : List I3} {y0 y1 y' : I3} {w w' : World}
theorem Cl.below (h : Cl W g cb g0 cb0 g1 cb1 ar l y0 y1 w) (q : Below w.heap.size w w') : Cl W g cb g0 cb0 g1 cb1 ar l y0 y1 w' :=
  ⟨h.hG.below q, h.h0.below q, h.h1.below q, h.ha.upd (S := fun _ => False) (Upd.of_below q) id, h.bel.trans (q.mono h.bel.size)⟩
theorem Cl.drew (h : Cl W g cb g0 cb0 g1 cb1 ar l y0 y1 w) : Cl W g cb g0 cb0 g1 cb1 ar l y0 y1 w.drew := h.below ((Qt.refl w).drewN 1).bel
theorem Cl.stepB (h : Cl W g cb g0 cb0 g1 cb1 ar l y0 y1 w) (A : ClA g cb g0 cb0 g1 cb1 ar) (hG : GAt w' W.heap.size g cb l') (u : Upd (fun k => k = cb) w w') : Cl W g cb g0 cb0 g1 cb1 ar l' y0 y1 w' :=
  ⟨hG, h.h0.upd u A.a4 (Ne.symm A.a1), h.h1.upd u A.a5 (Ne.symm A.a2), h.ha.upd u A.b0, Upd.below h.bel u h.bel.size fun i hi => by have := h.hG.b2; omega⟩
theorem Cl.step0 (h : Cl W g cb g0 cb0 g1 cb1 ar l y0 y1 w) (A : ClA g cb g0 cb0 g1 cb1 ar) (hG : GAt w' W.heap.size g0 cb0 ([y0].set 0 y')) (u : Upd (fun k => k = cb0) w w') : Cl W g cb g0 cb0 g1 cb1 ar l y' y1 w' :=
  ⟨h.hG.upd u A.a6 A.a1, hG, h.h1.upd u A.a7 (Ne.symm A.a3), h.ha.upd u A.b1, Upd.below h.bel u h.bel.size fun i hi => by have := h.h0.b2; omega⟩
theorem Cl.step1 (h : Cl W g cb g0 cb0 g1 cb1 ar l y0 y1 w) (A : ClA g cb g0 cb0 g1 cb1 ar) (hG : GAt w' W.heap.size g1 cb1 ([y1].set 0 y')) (u : Upd (fun k => k = cb1) w w') : Cl W g cb g0 cb0 g1 cb1 ar l y0 y' w' :=
  ⟨h.hG.upd u A.a8 A.a2, h.h0.upd u A.a9 A.a3, hG, h.ha.upd u A.b2, Upd.below h.bel u h.bel.size fun i hi => by have := h.h1.b2; omega⟩
def ClPost (W : World) (g cb g0 cb0 g1 cb1 ar : Nat) (l : List I3) (y0 y1 : I3) (res : Value) (e : Ending) (w : World) : Prop := e = .returned res ∧ Cl W g cb g0 cb0 g1 cb1 ar l y0 y1 w
end
/-- Giver of class c alone: its blocks. -/
def oneG (g0 g1 : Nat) (c : Nat) : Nat := if c = 0 then g0 else g1
section
variable {W : World} {g cb g0 cb0 g1 cb1 ar : Nat} {l : List I3} {y0 y1 : I3} {w : World}
theorem clb_rec (h : Cl W g cb g0 cb0 g1 cb1 ar l y0 y1 w) (A : ClA g cb g0 cb0 g1 cb1 ar) (c : Nat) (x : I3) (hx : l[c]? = some x) (k : GOk x) (hl : l.length ≤ 1000) :
    Calls Try.prog 15 #[.pointer (some ⟨g, 0, none⟩), .int .i64 c] w (ClPost W g cb g0 cb0 g1 cb1 ar (l.set c (recX x)) y0 y1 (.int .i64 (recE x))) :=
  (rec_ok w _ g cb c _ x h.hG hx k hl).mono fun e w' ⟨h1, h2, h3⟩ => ⟨h1, h.stepB A h2 h3⟩
theorem cl0_rec (h : Cl W g cb g0 cb0 g1 cb1 ar l y0 y1 w) (A : ClA g cb g0 cb0 g1 cb1 ar) (k : GOk y0) :
    Calls Try.prog 15 #[.pointer (some ⟨g0, 0, none⟩), .int .i64 0] w (ClPost W g cb g0 cb0 g1 cb1 ar l (recX y0) y1 (.int .i64 (recE y0))) :=
  (rec_ok w _ g0 cb0 0 _ y0 h.h0 rfl k (by simp)).mono fun e w' ⟨h1, h2, h3⟩ => ⟨h1, h.step0 A h2 h3⟩
theorem cl1_rec (h : Cl W g cb g0 cb0 g1 cb1 ar l y0 y1 w) (A : ClA g cb g0 cb0 g1 cb1 ar) (k : GOk y1) :
    Calls Try.prog 15 #[.pointer (some ⟨g1, 0, none⟩), .int .i64 0] w (ClPost W g cb g0 cb0 g1 cb1 ar l y0 (recX y1) (.int .i64 (recE y1))) :=
  (rec_ok w _ g1 cb1 0 _ y1 h.h1 rfl k (by simp)).mono fun e w' ⟨h1, h2, h3⟩ => ⟨h1, h.step1 A h2 h3⟩
theorem clb_fre (h : Cl W g cb g0 cb0 g1 cb1 ar l y0 y1 w) (A : ClA g cb g0 cb0 g1 cb1 ar) (c : Nat) (x : I3) (hx : l[c]? = some x) (k : GOk x) (hl : l.length ≤ 1000) :
    Calls Try.prog 16 #[.pointer (some ⟨g, 0, none⟩), .int .i64 c] w (ClPost W g cb g0 cb0 g1 cb1 ar (l.set c (freX x)) y0 y1 (.int .i64 (freE x))) :=
  (fre_ok w _ g cb c _ x h.hG hx k hl).mono fun e w' ⟨h1, h2, h3⟩ => ⟨h1, h.stepB A h2 h3⟩
theorem cl0_fre (h : Cl W g cb g0 cb0 g1 cb1 ar l y0 y1 w) (A : ClA g cb g0 cb0 g1 cb1 ar) (k : GOk y0) :
    Calls Try.prog 16 #[.pointer (some ⟨g0, 0, none⟩), .int .i64 0] w (ClPost W g cb g0 cb0 g1 cb1 ar l (freX y0) y1 (.int .i64 (freE y0))) :=
  (fre_ok w _ g0 cb0 0 _ y0 h.h0 rfl k (by simp)).mono fun e w' ⟨h1, h2, h3⟩ => ⟨h1, h.step0 A h2 h3⟩
theorem cl1_fre (h : Cl W g cb g0 cb0 g1 cb1 ar l y0 y1 w) (A : ClA g cb g0 cb0 g1 cb1 ar) (k : GOk y1) :
    Calls Try.prog 16 #[.pointer (some ⟨g1, 0, none⟩), .int .i64 0] w (ClPost W g cb g0 cb0 g1 cb1 ar l y0 (freX y1) (.int .i64 (freE y1))) :=
  (fre_ok w _ g1 cb1 0 _ y1 h.h1 rfl k (by simp)).mono fun e w' ⟨h1, h2, h3⟩ => ⟨h1, h.step1 A h2 h3⟩
theorem clb_aud (s : Int) (h : Cl W g cb g0 cb0 g1 cb1 ar l y0 y1 w) (A : ClA g cb g0 cb0 g1 cb1 ar) (c : Nat) (x : I3) (hx : l[c]? = some x) (k : GOk x) (hl : l.length ≤ 1000) :
    Calls Try.prog 14 #[.pointer (some ⟨g, 0, none⟩), .int .i64 c, .int .i64 s] w (ClPost W g cb g0 cb0 g1 cb1 ar (l.set c (audX x s)) y0 y1 (.tuple #[.int .i64 (audN x s), .int .i64 (audE x s)])) :=
  (aud_ok w _ g cb c s _ x h.hG hx k hl).mono fun e w' ⟨h1, h2, h3⟩ => ⟨h1, h.stepB A h2 h3⟩
theorem cl0_aud (s : Int) (h : Cl W g cb g0 cb0 g1 cb1 ar l y0 y1 w) (A : ClA g cb g0 cb0 g1 cb1 ar) (k : GOk y0) :
    Calls Try.prog 14 #[.pointer (some ⟨g0, 0, none⟩), .int .i64 0, .int .i64 s] w (ClPost W g cb g0 cb0 g1 cb1 ar l (audX y0 s) y1 (.tuple #[.int .i64 (audN y0 s), .int .i64 (audE y0 s)])) :=
  (aud_ok w _ g0 cb0 0 s _ y0 h.h0 rfl k (by simp)).mono fun e w' ⟨h1, h2, h3⟩ => ⟨h1, h.step0 A h2 h3⟩
theorem cl1_aud (s : Int) (h : Cl W g cb g0 cb0 g1 cb1 ar l y0 y1 w) (A : ClA g cb g0 cb0 g1 cb1 ar) (k : GOk y1) :
    Calls Try.prog 14 #[.pointer (some ⟨g1, 0, none⟩), .int .i64 0, .int .i64 s] w (ClPost W g cb g0 cb0 g1 cb1 ar l y0 (audX y1 s) (.tuple #[.int .i64 (audN y1 s), .int .i64 (audE y1 s)])) :=
  (aud_ok w _ g1 cb1 0 s _ y1 h.h1 rfl k (by simp)).mono fun e w' ⟨h1, h2, h3⟩ => ⟨h1, h.step1 A h2 h3⟩
theorem clb_lim (h : Cl W g cb g0 cb0 g1 cb1 ar l y0 y1 w) (c : Nat) (x : I3) (hx : l[c]? = some x) (k : GOk x) (hl : l.length ≤ 1000) :
    Calls Try.prog 17 #[.pointer (some ⟨g, 0, none⟩), .int .i64 c] w (ClPost W g cb g0 cb0 g1 cb1 ar l y0 y1 (.int .i64 (x.a + x.c))) :=
  (lim_ok w _ g cb c _ x h.hG hx k hl).mono fun e w' ⟨h1, h2⟩ => ⟨h1, h.below h2⟩
theorem cl0_lim (h : Cl W g cb g0 cb0 g1 cb1 ar l y0 y1 w) (k : GOk y0) :
    Calls Try.prog 17 #[.pointer (some ⟨g0, 0, none⟩), .int .i64 0] w (ClPost W g cb g0 cb0 g1 cb1 ar l y0 y1 (.int .i64 (y0.a + y0.c))) :=
  (lim_ok w _ g0 cb0 0 _ y0 h.h0 rfl k (by simp)).mono fun e w' ⟨h1, h2⟩ => ⟨h1, h.below h2⟩
theorem cl1_lim (h : Cl W g cb g0 cb0 g1 cb1 ar l y0 y1 w) (k : GOk y1) :
    Calls Try.prog 17 #[.pointer (some ⟨g1, 0, none⟩), .int .i64 0] w (ClPost W g cb g0 cb0 g1 cb1 ar l y0 y1 (.int .i64 (y1.a + y1.c))) :=
  (lim_ok w _ g1 cb1 0 _ y1 h.h1 rfl k (by simp)).mono fun e w' ⟨h1, h2⟩ => ⟨h1, h.below h2⟩
theorem clb_held (h : Cl W g cb g0 cb0 g1 cb1 ar l y0 y1 w) (c : Nat) (x : I3) (hx : l[c]? = some x) (k : GOk x) (hl : l.length ≤ 1000) :
    Calls Try.prog 18 #[.pointer (some ⟨g, 0, none⟩), .int .i64 c] w (ClPost W g cb g0 cb0 g1 cb1 ar l y0 y1 (.int .i64 (x.b - x.c))) :=
  (held_ok w _ g cb c _ x h.hG hx k hl).mono fun e w' ⟨h1, h2⟩ => ⟨h1, h.below h2⟩
theorem cl0_held (h : Cl W g cb g0 cb0 g1 cb1 ar l y0 y1 w) (k : GOk y0) :
    Calls Try.prog 18 #[.pointer (some ⟨g0, 0, none⟩), .int .i64 0] w (ClPost W g cb g0 cb0 g1 cb1 ar l y0 y1 (.int .i64 (y0.b - y0.c))) :=
  (held_ok w _ g0 cb0 0 _ y0 h.h0 rfl k (by simp)).mono fun e w' ⟨h1, h2⟩ => ⟨h1, h.below h2⟩
theorem cl1_held (h : Cl W g cb g0 cb0 g1 cb1 ar l y0 y1 w) (k : GOk y1) :
    Calls Try.prog 18 #[.pointer (some ⟨g1, 0, none⟩), .int .i64 0] w (ClPost W g cb g0 cb0 g1 cb1 ar l y0 y1 (.int .i64 (y1.b - y1.c))) :=
  (held_ok w _ g1 cb1 0 _ y1 h.h1 rfl k (by simp)).mono fun e w' ⟨h1, h2⟩ => ⟨h1, h.below h2⟩
end
end Go.Proofs.Ytdfmahedhadfoaa
