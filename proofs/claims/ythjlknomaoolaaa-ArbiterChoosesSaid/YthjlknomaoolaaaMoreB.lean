/-
  Contracts in the form that a region of quiet calls asks.
-/
import Derived.Test.YthjlknomaoolaaaMore
import Derived.Test.YthjlknomaoolaaaPlain
namespace Go.Proofs.Ythjlknomaoolaaa
open Go.RowKit

theorem ArbAt.qt {T : TypeId} {w w' : World} {b c p : Nat} {ages : List Int} (h : ArbAt T w b c p ages) (q : Qt w w') : ArbAt T w' b c p ages := ⟨h.hb.qt q, h.hc.qt q, h.ne⟩
theorem Qt.drewN' (w : World) (n : Nat) : Qt w (w.drewN n) := ⟨n, rfl⟩

theorem next_q (w : World) (n b c p : Nat) (ages : List Int) (hA : ArbAt 55 w b c p ages) :
    Calls Try.prog 20 #[.pointer (some ⟨b, 0, none⟩)] (w.drewN n) fun e w' => e = .returned (.int .i64 p) ∧ ∃ m, w' = w.drewN m :=
  Calls.quiet_of_same ((next_any (w.drewN n) b c p ages (hA.qt (Qt.drewN' w n))).mono fun _ _ ⟨h1, h2⟩ => ⟨h1, h2.symm⟩)
theorem containsBool_q (w : World) (n : Nat) (a : Option Addr) (c : Nat) (xs : List Bool) (x : Bool) (hx : Sl Value.bool w a xs) (hl : xs.length ≤ 1000000000) (r : Bool) (hr : Hid (decide (x ∈ xs) = r)) :
    Calls Try.prog 17 #[.slice a xs.length c, .bool x] (w.drewN n) fun e w' => e = .returned (.bool r) ∧ ∃ m, w' = w.drewN m := by
  rw [← hr.out]
  exact Calls.quiet_of_same (containsBool_any (w.drewN n) a c xs x (hx.qt (Qt.drewN' w n)) hl)

theorem make_bools (w : World) (n : Nat) (h : n ≤ 1000000) : (Instr.makeSlice 23 (.int .i64 n) (.int .i64 n)).run Try.prog w =
    .ok (.slice (some ⟨w.heap.size, 0, none⟩) n n) (w.alloc (.cells ((List.replicate n false).map Value.bool).toArray 4)) := by
  obtain ⟨i, hi, hz, hs, hb⟩ := info_parts Try.infoBool
  rw [run_make w 23 4 i _ Try.underlying23 hi hz .i64 .i64 n n (by omega) (by omega) (by rw [hb]; omega) (by omega)]
  have e : madeCells (Value.bool false).cells (((n : Int).toNat) * i.size) = ((List.replicate n false).map Value.bool).toArray := by
    rw [hs, Nat.mul_one, Int.toNat_natCast]
    apply Array.toList_inj.1
    rw [show (Value.bool false).cells = #[Value.bool false] from rfl, toList_madeCells_one]
    simp
  rw [e, Int.toNat_natCast]
end Go.Proofs.Ythjlknomaoolaaa
