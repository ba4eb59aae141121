/-
  segment.Valid, segment.Encode.
-/
import Derived.Test.YtkaaoomliepijaaGreatQWrT
import Derived.Test.YtkaaoomliepijaaGreatQVw
import Derived.Laws.BitsAllLaws
import Derived.Laws.Shifts
namespace Go.Proofs.YtkaaoomliepijaaGreat
open Go.RowKit
set_option linter.unusedVariables false

set_option maxHeartbeats 1000000 in
theorem valid_any (w : World) (o n c : Nat) (a : Option Addr) (b : Bool) (ho : o ≤ 100000) (hn : n ≤ 64) :
    Calls Tryz.prog 54 #[.agg #[.int .i64 o, .slice a n c, .bool b]] w fun e w' => e = .returned (.bool true) ∧ Below w.heap.size w w' := by
  have k1 : (0 : Int) ≤ (o : Int) := by omega
  have k2 : (n : Int) ≤ 64 := by omega
  have k3 : (o : Int) ≤ 1099511627776 - (n : Int) := by omega
  go_enter Tryz.func54, Tryz.ntmps54
  go_wp2_with fail
  go_ret
  exact ⟨by simp, alloc_belQ _ _⟩
/-- The head of a segment's code. -/
def encH (o n : Nat) : List Int := [0, (o : Int) / 1099511627776, (o : Int) / 4294967296, (o : Int) / 16777216, (o : Int) / 65536, (o : Int) / 256 % 256, (o : Int) % 256, n]
def encC (o n : Nat) : Array Value := #[.int .u8 0, .int .u8 ((o : Int) / 1099511627776), .int .u8 ((o : Int) / 4294967296), .int .u8 ((o : Int) / 16777216), .int .u8 ((o : Int) / 65536), .int .u8 ((o : Int) / 256 % 256), .int .u8 ((o : Int) % 256), .int .u8 n]
set_option maxHeartbeats 4000000 in
set_option maxRecDepth 100000 in
theorem encode_any (w : World) (o c : Nat) (a : Option Addr) (data : List Int) (hd : Sl (Value.int .u8) w a data) (ho : o ≤ 100000) (hn : data.length ≤ 64) :
    Calls Tryz.prog 27 #[.agg #[.int .i64 o, .slice a data.length c, .bool false]] w fun e w' =>
      ∃ cv, e = .returned (.tuple #[cv, .int .i64 0]) ∧ Rw (Value.int .u8) 5 w' w.heap.size cv (encH o data.length ++ data) ∧ Below w.heap.size w w' := by
  have VA := fun w => valid_any w o data.length c a false ho hn
  have SD := Lib.hid hd
  generalize hdl : data.length = n at *
  have HDL := Lib.hid hdl
  obtain ⟨i0, hi, hz0, hz1, hz2⟩ := info_parts Tryz.infoByte
  have HI := Lib.hid hi; have HZ0 := Lib.hid hz0; have HZ1 := Lib.hid hz1; have HZ2 := Lib.hid hz2
  replace VA := Lib.hid VA
  have X0 := Lib.hid (Blk.new w 67 [.int .i64 o, .slice a n c, .bool false])
  have B0 := Lib.hid (alloc_belQ w (.cells #[.int .i64 o, .slice a n c, .bool false] 67))
  clear hi hz0 hz1 hz2 hd hdl
  go_enter Tryz.func27, Tryz.ntmps27
  go_wp2_with fail
  refine (VA.out _).mono ?_
  rintro e w1 ⟨rfl, hb⟩
  have X1 := Lib.hid (X0.out.bel hb)
  have B1 := Lib.hid (below_then B0.out hb B0.out.size)
  have x0 := X1.out.cell (i := 0) rfl
  have x1 := X1.out.cell (i := 1) rfl
  have x2 := X1.out.cell (i := 2) rfl
  have xz := X1.out.lt
  have O0 : ((w1.alloc (.cells #[] 5)).alloc (.cells (encC o n) 5)).ownsRow w1.heap.size 5 1 (.slice (some ⟨w1.heap.size, 0, none⟩) 0 0) 0 ([].map (Value.int .u8)) := own_upd (own_empty w1 5 1) (S := fun _ => False) (Upd.of_below (alloc_belQ _ _)) (fun _ _ => id)
  have S0 : Sl (Value.int .u8) ((w1.alloc (.cells #[] 5)).alloc (.cells (encC o n) 5)) (some ⟨w1.heap.size + 1, 0, none⟩) (encH o n) := by
    have := Blk.new (w1.alloc (.cells #[] 5)) 5 ((encH o n).map (Value.int .u8))
    have e : (w1.alloc (.cells #[] 5)).heap.size = w1.heap.size + 1 := by simp
    rw [e] at this
    exact Blk.sl this
  have B2 := Lib.hid (below_then (alloc_belQ w1 (.cells #[] 5)) (alloc_belQ _ (.cells (encC o n) 5)) (by simp))
  have z2 : ((w1.alloc (.cells #[] 5)).alloc (.cells (encC o n) 5)).heap.size = w1.heap.size + 2 := by simp
  unfold encC at O0 S0 B2 z2
  replace O0 := Lib.hid O0
  replace S0 := Lib.hid S0
  replace z2 := Lib.hid z2
  clear hb VA X0
  go_wp2_with (at_builtin; refine wpList_append_sl rfl _ _ 22 rfl w1.heap.size 5 i0 _ 1 Tryz.underlying22 HI.out HZ0.out HZ1.out HZ2.out rfl (.slice (some ⟨w1.heap.size, 0, none⟩) 0 0) 0 _ rfl O0.out (Value.int .u8) (fun _ => rfl) (some ⟨w1.heap.size + 1, 0, none⟩) 8 (encH o n) rfl S0.out ?c1 ?c2 ?c3 ?_)
  case c1 => unfold maxLen encH; simp
  case c2 => unfold encH; simp
  case c3 => simp; omega
  intro v' w5 hown hgr hat
  have hw1 := B1.out.size
  have q5 := Upd.of_grownV hgr
  have B5 := Lib.hid (Upd.below (below_then B1.out B2.out hw1) q5 (by rw [z2.out]; omega) (fun k hk => by have := (own_lt O0.out hk).2; omega))
  have X5 := ((X1.out.bel B2.out).upd q5 (fun e => by have := (own_lt O0.out e).2; omega))
  have y1 := X5.cell (i := 1) rfl
  have yz := X5.lt
  have SE := Lib.hid (SD.out.below B5.out)
  have hz5 := q5.size
  rw [z2.out] at hz5
  obtain ⟨a', c', e', _⟩ : ∃ a c, v' = .slice a 8 c ∧ (8 = 0 ∨ ∃ g, a = some ⟨g, 0, none⟩) := own_shape hown
  subst e'
  have hown2 : w5.ownsRow w1.heap.size 5 1 (.slice a' 8 c') 8 ((encH o n).map (Value.int .u8)) := hown
  replace hown2 := Lib.hid hown2
  clear hown hgr hat O0 S0 x0 x1 x2 xz
  go_wp2_with (at_builtin; refine wpList_append_sl rfl _ _ 22 rfl w1.heap.size 5 i0 _ 1 Tryz.underlying22 HI.out HZ0.out HZ1.out HZ2.out rfl (.slice a' 8 c') 8 _ rfl hown2.out (Value.int .u8) (fun _ => rfl) a c data (by rw [HDL.out]; rfl) SE.out ?c1 ?c2 ?c3 ?_)
  case c1 => have := HDL.out; unfold maxLen; omega
  case c2 => have := HDL.out; omega
  case c3 => omega
  intro v2 w6 hown3 hgr3 hat3
  rw [← List.map_append, HDL.out] at hown3
  have R6 := Lib.hid ((Rw.of_own hown3).low hw1)
  have B6 := Lib.hid (Upd.below B5.out (Upd.of_grownV hgr3) (by omega) (fun k hk => by have := (own_lt hown2.out hk).2; omega))
  obtain ⟨a2, c2, rfl, _⟩ := own_shape hown3
  clear hown3 hgr3 hat3
  go_wp2_with fail
  go_ret2
  exact ⟨_, rfl, R6.out, B6.out⟩
end Go.Proofs.YtkaaoomliepijaaGreat
