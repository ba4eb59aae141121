/-
  reorder.Store: its memory; New, Offset, End, Held, has, misfits.
-/
import Derived.Test.YtkaaoomliepijaaGreatQMb
import Derived.Test.YtkaaoomliepijaaGreatQWrT
namespace Go.Proofs.YtkaaoomliepijaaGreat
open Go.RowKit
set_option linter.unusedVariables false

def stC (off nxt mb : Nat) : List Value := [.int .i64 24, .int .i64 off, .int .i64 nxt, .map (some mb), .int .i64 0, .bool false]
/-- The store at sb, its map at mb: offset, contiguous offset, the bytes that it keeps. -/
structure StAt (w : World) (sb mb off nxt : Nat) (F : Nat → Option Int) : Prop where
  b : Blk w sb 127 (stC off nxt mb)
  m : MbAt w mb F
def stS (sb mb k : Nat) : Prop := k = sb ∨ k = mb
section
variable {w w' : World} {sb mb off nxt off' nxt' : Nat} {F : Nat → Option Int} {S : Nat → Prop}
theorem StAt.ne (h : StAt w sb mb off nxt F) : sb ≠ mb := mb_nblk h.b h.m
theorem StAt.upd (h : StAt w sb mb off nxt F) (u : Upd S w w') (h1 : ∀ k, stS sb mb k → ¬ S k) : StAt w' sb mb off nxt F := ⟨h.b.upd u (h1 _ (.inl rfl)), h.m.upd u (h1 _ (.inr rfl))⟩
theorem StAt.below (h : StAt w sb mb off nxt F) (q : Below w.heap.size w w') : StAt w' sb mb off nxt F := h.upd (S := fun _ => False) (Upd.of_below q) fun _ _ => id
theorem StAt.lt (h : StAt w sb mb off nxt F) {k : Nat} (hk : stS sb mb k) : k < w.heap.size := by
  rcases hk with rfl | rfl
  · exact h.b.lt
  · exact h.m.lt
theorem StAt.num (h : StAt w sb mb off nxt F) (i : Nat) (x : Value) (e : (stC off nxt mb).set i x = stC off' nxt' mb) : StAt (w.setCell ⟨sb, i, none⟩ x) sb mb off' nxt' F := by
  refine ⟨?_, h.m.upd ((Upd.refl (fun k => k = sb) w).setCell _ _ (fun _ => rfl)) (fun e => h.ne e.symm)⟩
  rw [← e]
  exact h.b.set i x
theorem StAt.map {G : Nat → Option Int} (h : StAt w sb mb off nxt F) (hm : MbAt w' mb G) (u : Upd (fun k => k = mb) w w') : StAt w' sb mb off nxt G := ⟨h.b.upd u h.ne, hm⟩
end
set_option maxHeartbeats 1000000 in
set_option maxRecDepth 100000 in
theorem newSt_ok (w : World) : Calls Tryz.prog 42 #[.int .i64 24] w fun e w' => e = .returned (.tuple #[.pointer (some ⟨w.heap.size + 1, 0, none⟩), .int .i64 0]) ∧ StAt w' (w.heap.size + 1) w.heap.size 0 0 (fun _ => none) ∧ Below w.heap.size w w' := by
  have hmk : ∀ w : World, (Instr.makeMap 125 none).run Tryz.prog w = .ok (.map (some w.heap.size)) (w.alloc (.map #[] 0)) := fun _ => rfl
  go_enter Tryz.func42, Tryz.ntmps42
  go_wp2_with fail
  go_ret2
  have e : (w.alloc (.map #[] 0)).heap.size = w.heap.size + 1 := by simp
  have h := Blk.new (w.alloc (.map #[] 0)) 127 (stC 0 0 w.heap.size)
  rw [e] at h
  exact ⟨rfl, ⟨h, (MbAt.made w).below (alloc_belQ _ _)⟩, below_then (alloc_belQ _ _) (alloc_belQ _ _) (by simp)⟩
set_option maxHeartbeats 1000000 in
set_option maxRecDepth 100000 in
theorem offset_any (w : World) (sb mb off nxt : Nat) (F : Nat → Option Int) (h : StAt w sb mb off nxt F) :
    Calls Tryz.prog 69 #[.pointer (some ⟨sb, 0, none⟩)] w fun e w' => e = .returned (.int .i64 off) ∧ w = w' := by
  have c1 := h.b.cell (i := 1) rfl
  clear h
  go_enter Tryz.func69, Tryz.ntmps69
  go_wp2_with fail
  go_ret
  exact ⟨rfl, rfl⟩
set_option maxHeartbeats 1000000 in
set_option maxRecDepth 100000 in
theorem end_any (w : World) (sb mb off nxt : Nat) (F : Nat → Option Int) (h : StAt w sb mb off nxt F) :
    Calls Tryz.prog 71 #[.pointer (some ⟨sb, 0, none⟩)] w fun e w' => e = .returned (.tuple #[.int .i64 0, .bool false]) ∧ w = w' := by
  have c5 := h.b.cell (i := 5) rfl
  clear h
  go_enter Tryz.func71, Tryz.ntmps71
  go_wp2_with fail
  go_ret2
  exact ⟨rfl, rfl⟩
set_option maxHeartbeats 1000000 in
set_option maxRecDepth 100000 in
theorem held_any (w : World) (sb mb off nxt : Nat) (F : Nat → Option Int) (h : StAt w sb mb off nxt F) :
    Calls Tryz.prog 81 #[.pointer (some ⟨sb, 0, none⟩)] w fun e w' => e = .returned (.int .i64 (cntR F 4096)) ∧ w = w' := by
  have c3 := h.b.cell (i := 3) rfl
  have ML := fun ty => h.m.len ty
  generalize cntR F 4096 = n at *
  clear h
  go_enter Tryz.func81, Tryz.ntmps81
  go_wp2_with fail
  go_ret
  exact ⟨rfl, rfl⟩
set_option maxHeartbeats 1000000 in
set_option maxRecDepth 100000 in
theorem has_any (w : World) (sb mb off nxt : Nat) (F : Nat → Option Int) (h : StAt w sb mb off nxt F) (i : Nat) (hi : i < 4096) :
    Calls Tryz.prog 76 #[.pointer (some ⟨sb, 0, none⟩), .int .i64 i] w fun e w' => e = .returned (.bool (F i).isSome) ∧ w = w' := by
  have c3 := h.b.cell (i := 3) rfl
  have ML := h.m.look hi
  generalize (F i).getD 0 = v at *
  generalize (F i).isSome = q at *
  clear h
  go_enter Tryz.func76, Tryz.ntmps76
  go_wp2_with fail
  go_ret
  exact ⟨rfl, rfl⟩
set_option maxHeartbeats 1000000 in
set_option maxRecDepth 100000 in
theorem misfits_any (w : World) (sb mb off nxt e0 : Nat) (F : Nat → Option Int) (h : StAt w sb mb off nxt F) :
    Calls Tryz.prog 75 #[.pointer (some ⟨sb, 0, none⟩), .int .i64 e0, .bool false] w fun e w' => e = .returned (.bool false) ∧ w = w' := by
  have c5 := h.b.cell (i := 5) rfl
  clear h
  go_enter Tryz.func75, Tryz.ntmps75
  go_wp2_with fail
  go_ret
  exact ⟨rfl, rfl⟩
end Go.Proofs.YtkaaoomliepijaaGreat
