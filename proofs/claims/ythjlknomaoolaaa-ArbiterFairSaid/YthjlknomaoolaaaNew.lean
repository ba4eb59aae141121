/-
  Contracts of arbiter.New.
-/
import Derived.Test.YthjlknomaoolaaaSlices
namespace Go.Proofs.Ythjlknomaoolaaa
open Go.RowKit



/-- An arbiter (the program's or the reference's: type T) at block b, its ages at block c. -/
structure ArbAt (T : TypeId) (w : World) (b c p : Nat) (ages : List Int) : Prop where
  hb : Blk w b T [.int .i64 p, .slice (some ⟨c, 0, none⟩) ages.length ages.length]
  hc : Blk w c 3 (ages.map (.int .i64))
  ne : b ≠ c

theorem ArbAt.upd {T : TypeId} {S : Nat → Prop} {w w' : World} {b c p : Nat} {ages : List Int} (h : ArbAt T w b c p ages) (u : Upd S w w') (hb : ¬ S b) (hc : ¬ S c) : ArbAt T w' b c p ages :=
  ⟨h.hb.upd u hb, h.hc.upd u hc, h.ne⟩

set_option maxHeartbeats 400000 in
theorem new_bad (n : Int) (w : World) (h : n < 1 ∨ 64 < n) :
    Calls Try.prog 15 #[.int .i64 n] w fun e w' => e = .returned (.tuple #[.pointer none, .int .i64 2]) ∧ w = w' := by
  rcases h with h | h
  · go_enter Try.func15, Try.ntmps15
    go_wp2
    go_ret2
    exact ⟨rfl, rfl⟩
  · have h' : ¬ n < 1 := by omega
    go_enter Try.func15, Try.ntmps15
    go_wp2
    go_ret2
    exact ⟨rfl, rfl⟩

theorem make_ints (w : World) (n : Nat) (h : n ≤ 1000000) : (Instr.makeSlice 22 (.int .i64 n) (.int .i64 n)).run Try.prog w =
    .ok (.slice (some ⟨w.heap.size, 0, none⟩) n n) (w.alloc (.cells ((List.replicate n 0).map (Value.int .i64)).toArray 3)) := by
  obtain ⟨i, hi, hz, hs, hb⟩ := info_parts Try.infoInt
  rw [run_make w 22 3 i _ Try.underlying22 hi hz .i64 .i64 n n (by omega) (by omega) (by rw [hb]; omega) (by omega)]
  have e : madeCells (Value.int .i64 0).cells (((n : Int).toNat) * i.size) = ((List.replicate n 0).map (Value.int .i64)).toArray := by
    rw [hs, Nat.mul_one, Int.toNat_natCast]
    apply Array.toList_inj.1
    rw [show (Value.int .i64 0).cells = #[Value.int .i64 0] from rfl, toList_madeCells_one]
    simp
  rw [e, Int.toNat_natCast]

set_option maxHeartbeats 400000 in
theorem new_ok (n : Nat) (w : World) (h1 : 1 ≤ n) (h2 : n ≤ 64) :
    Calls Try.prog 15 #[.int .i64 n] w fun e w' => e = .returned (.tuple #[.pointer (some ⟨w.heap.size + 1, 0, none⟩), .int .i64 0]) ∧
      ArbAt 55 w' (w.heap.size + 1) w.heap.size 0 (List.replicate n 0) ∧ Below w.heap.size w w' ∧ w'.heap.size = w.heap.size + 2 := by
  have h3 : ¬ (n : Int) < 1 := by omega
  have h4 : ¬ (64 : Int) < (n : Int) := by omega
  have hmk := fun w => make_ints w n (by omega)
  generalize hL : (List.replicate n (0 : Int)).map (Value.int .i64) = L at hmk
  have HL := Lib.hid hL; clear hL
  go_enter Try.func15, Try.ntmps15
  go_wp2
  go_ret2
  refine ⟨rfl, ⟨?_, ?_, by omega⟩, ?_, ?_⟩
  · have := Blk.new (w.alloc (.cells L.toArray 3)) 55 [.int .i64 0, .slice (some ⟨w.heap.size, 0, none⟩) n n]
    simpa using this
  · rw [HL.out]
    exact (Blk.new w 3 L).alloc _
  · exact ((Below.refl _ _).alloc (Nat.le_refl _) _).alloc (by simp) _
  · simp
end Go.Proofs.Ythjlknomaoolaaa
