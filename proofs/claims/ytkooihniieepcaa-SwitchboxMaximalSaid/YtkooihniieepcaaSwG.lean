/-
  switchbox: the closure ready of Step.
-/
import Derived.Test.YtkooihniieepcaaSwF
namespace Go.Proofs.Ytkooihniieepcaa
open Go.RowKit
set_option linter.unusedVariables false

def rdyB (M : Md) (o : Nat → Nat → Int) (i k c : Nat) : Bool := decide (o i c = (k : Int)) && decide (0 < (M.tk k c).b - (M.tk k c).a)
structure RyAt (w : World) (base P K : Nat) (L : Loc) (M : Md) (hb ob : Nat) (v : Nat → Value) (o : Nat → Nat → Int) : Prop where
  bx : BoxAt w base P K L M
  hb_ : Blk w hb 26 [.pointer (some ⟨L.bb, 0, none⟩)]
  ob_ : Fun w ob 84 8 v
  rw_ : ∀ i < P, ∃ B, w.ownsRow B 3 1 (v i) K ((List.range K).map fun c => .int .i64 (o i c))
section
variable {w w' : World} {base P K : Nat} {L : Loc} {M : Md} {hb ob : Nat} {v : Nat → Value} {o : Nat → Nat → Int}
theorem RyAt.below (h : RyAt w base P K L M hb ob v o) (q : Below w.heap.size w w') : RyAt w' base P K L M hb ob v o :=
  ⟨h.bx.below q, h.hb_.upd (Upd.of_below (S := fun _ => False) q) id, h.ob_.below q, fun i hi => let ⟨B, hB⟩ := h.rw_ i hi; ⟨B, own_upd hB (Upd.of_below (S := fun _ => False) q) fun _ _ => id⟩⟩
theorem RyAt.cell (h : RyAt w base P K L M hb ob v o) {i c : Nat} (hi : i < P) (hc : c < K) : ∃ g m, w.cell? ⟨ob, i, none⟩ = some (.slice (some ⟨g, 0, none⟩) K m) ∧ w.cell? ⟨g, c, none⟩ = some (.int .i64 (o i c)) := by
  obtain ⟨B, ho⟩ := h.rw_ i hi
  have h8 := h.bx.ok.p8
  obtain ⟨a, m, e, _⟩ := own_shape ho
  have hk : List.range K ≠ [] := by intro e; have := congrArg List.length e; simp at this; omega
  rw [e] at ho
  obtain ⟨g, sp, rfl, _, hb, _⟩ := own_blk ho hk
  refine ⟨g, m, by rw [h.ob_.cell (by omega), e], hb.cell ?_⟩
  rw [List.getElem?_append_left (by simpa using hc)]
  exact fun_get _ hc
set_option maxHeartbeats 4000000 in
theorem ready_ok (h : RyAt w base P K L M hb ob v o) (i k c : Nat) (hi : i < P) (hk : k < P) (hc : c < K) :
    Calls Try.prog 40 #[.int .i64 i, .int .i64 k, .int .i64 c, .pointer (some ⟨ob, 0, none⟩), .pointer (some ⟨hb, 0, none⟩)] w fun e w' =>
    e = .returned (.bool (rdyB M o i k c)) ∧ Below w.heap.size w w' := by
  obtain ⟨g, m, q0, q1⟩ := h.cell hi hc
  obtain ⟨g2, m2, t0, t1⟩ := h.bx.wT hk hc
  have b0 := h.hb_.cell (i := 0) rfl
  have h8 := h.bx.ok.p8
  have i0 : (0 : Int) ≤ (i : Int) := by omega
  have i1 : (i : Int) < 8 := by omega
  have k0 : (0 : Int) ≤ (k : Int) := by omega
  have k1 : (k : Int) < 8 := by omega
  have c0 : (0 : Int) ≤ (c : Int) := by omega
  have c1 : (c : Int) < (K : Int) := by omega
  have LF := Lib.hid (left_ok w base _ _ 0 _ _ (h.bx.taker hk hc) rfl (h.bx.ok.tk k hk c hc) (by simp))
  have RB := Lib.hid (show rdyB M o i k c = (decide (o i c = (k : Int)) && decide (0 < (M.tk k c).b - (M.tk k c).a)) from rfl)
  generalize (M.tk k c).b - (M.tk k c).a = lv at *
  generalize o i c = oc at *
  generalize rdyB M o i k c = rb at *
  clear h
  by_cases he : oc = (k : Int)
  · obtain rfl := he
    have RB2 : Hid (rb = decide (0 < lv)) := Lib.hid (by rw [RB.out]; simp)
    clear RB
    go_enter Try.func40, Try.ntmps40
    go_wp2_with fail
    refine LF.out.mono ?_
    rintro e w1 ⟨rfl, hb1⟩
    have BB := Lib.hid hb1
    clear hb1
    go_wp2_with fail
    go_ret
    exact ⟨by rw [RB2.out]; rfl, BB.out⟩
  · have RB2 : Hid (rb = false) := Lib.hid (by rw [RB.out]; simp [he])
    clear RB
    go_enter Try.func40, Try.ntmps40
    go_wp2_with fail
    go_ret
    exact ⟨by rw [RB2.out]; rfl, Below.refl _ _⟩
end
end Go.Proofs.Ytkooihniieepcaa
