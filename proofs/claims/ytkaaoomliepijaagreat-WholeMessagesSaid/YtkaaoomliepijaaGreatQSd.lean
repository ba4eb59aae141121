/-
  segment.Decode of a segment's code.
-/
import Derived.Test.YtkaaoomliepijaaGreatQSg
import Derived.Test.YtkaaoomliepijaaGreatQGate
namespace Go.Proofs.YtkaaoomliepijaaGreat
open Go.RowKit
set_option linter.unusedVariables false

theorem encH_num (o n : Nat) (d : List Int) (ho : o ≤ 100000) : numF (encH o n ++ d) 1 6 = o ∧ ∀ k ≤ 6, 0 ≤ numF (encH o n ++ d) 1 k ∧ numF (encH o n ++ d) 1 k ≤ 100000 := by
  have e1 : at0 (encH o n ++ d) 1 = (o : Int) / 1099511627776 := rfl
  have e2 : at0 (encH o n ++ d) 2 = (o : Int) / 4294967296 := rfl
  have e3 : at0 (encH o n ++ d) 3 = (o : Int) / 16777216 := rfl
  have e4 : at0 (encH o n ++ d) 4 = (o : Int) / 65536 := rfl
  have e5 : at0 (encH o n ++ d) 5 = (o : Int) / 256 % 256 := rfl
  have e6 : at0 (encH o n ++ d) 6 = (o : Int) % 256 := rfl
  have f : ∀ k, numF (encH o n ++ d) 1 (k + 1) = numF (encH o n ++ d) 1 k * 256 + at0 (encH o n ++ d) (1 + k) := fun _ => rfl
  have n0 : numF (encH o n ++ d) 1 0 = 0 := rfl
  have n1 := f 0; have n2 := f 1; have n3 := f 2; have n4 := f 3; have n5 := f 4; have n6 := f 5
  simp only [Nat.zero_add, Nat.reduceAdd, e1, e2, e3, e4, e5, e6] at n1 n2 n3 n4 n5 n6
  refine ⟨by omega, fun k hk => ?_⟩
  rcases (show k = 0 ∨ k = 1 ∨ k = 2 ∨ k = 3 ∨ k = 4 ∨ k = 5 ∨ k = 6 by omega) with rfl | rfl | rfl | rfl | rfl | rfl | rfl <;> omega
theorem encH_isB (o n : Nat) (ho : o ≤ 100000) (hn : n ≤ 64) : IsB (encH o n) := by
  intro y hy
  unfold encH at hy
  simp only [List.mem_cons, List.not_mem_nil, or_false] at hy
  rcases hy with rfl | rfl | rfl | rfl | rfl | rfl | rfl | rfl <;> omega
/-- The segment under way. -/
structure DcAt (w wr : World) (sb : Nat) (x : Int) : Prop where
  l : w.heap.size < sb
  s : Blk wr sb 67 [.int .i64 x, .slice none 0 0, .bool false]
  r : Blk wr w.heap.size 67 [.int .i64 0, .slice none 0 0, .bool false]
  u : Below w.heap.size w wr
def DcRel (w : World) (sb : Nat) (r : List Int) (ix : Value) (wr : World) : Prop := ∃ k : Nat, k ≤ 6 ∧ ix = .int .i64 k ∧ Hid (DcAt w wr sb (numF r 1 k))
set_option maxHeartbeats 8000000 in
set_option maxRecDepth 100000 in
theorem decode_any (w : World) (o base : Nat) (v : Value) (data : List Int) (hv : Rw (Value.int .u8) 5 w base v (encH o data.length ++ data)) (hB : IsB data) (ho : o ≤ 100000) (h1 : 1 ≤ data.length) (h2 : data.length ≤ 64) :
    Calls Tryz.prog 28 #[v] w fun e w' => ∃ cv, e = .returned (.tuple #[.agg #[.int .i64 o, cv, .bool false], .int .i64 0]) ∧ Rw (Value.int .u8) 5 w' w.heap.size cv data ∧ Below w.heap.size w w' := by
  have hlen : (encH o data.length ++ data).length = 8 + data.length := by rw [List.length_append]; rfl
  obtain ⟨a, c, rfl, hh⟩ := id hv
  obtain ⟨g, sp, rfl, hg, hblk, hc, hcm⟩ : ∃ g sp, a = some ⟨g, 0, none⟩ ∧ base ≤ g ∧ Blk w g 5 ((encH o data.length ++ data).map (Value.int .u8) ++ sp) ∧ c = (encH o data.length ++ data).length + sp.length ∧ c ≤ maxLen := by
    rcases hh with ⟨_, h, _⟩ | ⟨g, sp, e1, e2, e3, e4, e5⟩
    · cases h
    · exact ⟨g, sp, e1, e2, e3, e4, e5⟩
  have SL : Sl (Value.int .u8) w (some ⟨g, 0, none⟩) (encH o data.length ++ data) := hv.sl
  have hb0 : w.cell? ⟨g, 0, none⟩ = some (.int .u8 0) := (SL 0 0 rfl).2
  have hb7 : w.cell? ⟨g, 7, none⟩ = some (.int .u8 data.length) := by have := (SL 7 (data.length : Int) rfl).2; rwa [adr_mk, Nat.zero_add] at this
  have SD : Sl (Value.int .u8) w (some ⟨g, 8, none⟩) data := by
    intro j x hj
    have := (SL (8 + j) x (by rw [List.getElem?_append_right (by show 8 ≤ 8 + j; omega)]; show data[8 + j - 8]? = _; rw [show 8 + j - 8 = j by omega]; exact hj)).2
    refine ⟨rfl, ?_⟩
    rw [adr_mk, Nat.zero_add] at this
    rw [adr_mk]
    exact this
  obtain ⟨NE, NB⟩ := encH_num o data.length data ho
  have CL := fun w' (q : Below w.heap.size w w') (c : Nat) => cloneByte_any w' (some ⟨g, 8, none⟩) c data (SD.below q) (by omega)
  have VA := fun w (a : Option Addr) (c : Nat) => valid_any w o data.length c a false ho h2
  have hB2 : IsB (encH o data.length ++ data) := by
    intro y hy
    rcases List.mem_append.1 hy with hy | hy
    · exact encH_isB o _ ho h2 y hy
    · exact hB y hy
  rw [hlen] at hc ⊢
  generalize hRR : encH o data.length ++ data = R at *
  generalize hdl : data.length = n at *
  have HDL := Lib.hid hdl
  replace CL := Lib.hid CL
  replace VA := Lib.hid VA
  replace NE := Lib.hid NE
  replace NB := Lib.hid NB
  replace SL := Lib.hid SL
  replace SD := Lib.hid SD
  replace hB2 := Lib.hid hB2
  replace hRR := Lib.hid hRR
  have HLN := Lib.hid hlen
  have hgl := hblk.lt
  unfold maxLen at hcm
  have c1 : 9 ≤ c := by omega
  have c2 : 8 + n ≤ c := by omega
  have k1 : ¬ ((8 : Int) + (n : Int)) < 8 := by omega
  have G0 := Lib.hid (fun (W : World) (q : Below w.heap.size w W) => (⟨by rw [q.cell (World.block_lt_of_cell? _ _ hb0)]; exact hb0, by rw [q.cell (World.block_lt_of_cell? _ _ hb7)]; exact hb7⟩ : W.cell? ⟨g, 0, none⟩ = some (.int .u8 0) ∧ W.cell? ⟨g, 7, none⟩ = some (.int .u8 n)))
  have B0 := Lib.hid (alloc_belQ w (.cells #[.int .i64 0, .slice none 0 0, .bool false] 67))
  clear hv hh hblk hdl hlen hc hB hcm
  go_enter Tryz.func28, Tryz.ntmps28
  go_wp2_with fail
  have hbz : g < w.heap.size := hgl
  have T0 : Hid (DcAt w ((w.alloc (.cells #[.int .i64 0, .slice none 0 0, .bool false] 67)).alloc (.cells #[.int .i64 0, .slice none 0 0, .bool false] 67)) (w.heap.size + 1) (numF R 1 0)) := by
    have e : (w.alloc (.cells #[.int .i64 0, .slice none 0 0, .bool false] 67)).heap.size = w.heap.size + 1 := by simp
    have := Blk.new (w.alloc (.cells #[.int .i64 0, .slice none 0 0, .bool false] 67)) 67 [.int .i64 0, .slice none 0 0, .bool false]
    rw [e] at this
    exact ⟨by omega, this, (Blk.new w 67 [.int .i64 0, .slice none 0 0, .bool false]).bel (alloc_belQ _ _), below_then (alloc_belQ _ _) (alloc_belQ _ _) (by simp)⟩
  clear hb0 hb7 k1
  go_loopw [29] (fun ix wr => DcRel w (w.heap.size + 1) R ix wr) (fun ix _ => 6 - (intOf ix).toNat)
  case atStart => exact ⟨0, Nat.zero_le _, rfl, T0⟩
  case round =>
    clear T0
    obtain ⟨k, hk, rfl, T⟩ := hrel
    have t0 := T.out.s.cell (i := 0) rfl
    have t1 := T.out.s.cell (i := 1) rfl
    have t2 := T.out.s.cell (i := 2) rfl
    have tf := T.out.s.free
    have tz := T.out.s.lt
    by_cases hlt : k < 6
    · obtain ⟨y, ey⟩ : ∃ y, R[1 + k]? = some y := ⟨R[1 + k]'(by have := HLN.out; omega), by simp⟩
      have cy := ((SL.out.below T.out.u) (1 + k) y ey).2
      rw [adr_mk, Nat.zero_add] at cy
      have hy := hB2.out y (List.mem_of_getElem? ey)
      have e0 : at0 R (1 + k) = y := by unfold at0; rw [ey]; rfl
      have hNk := NB.out k (by omega)
      have hs : Hid (numF R 1 (k + 1) = numF R 1 k * 256 + y) := by show numF R 1 k * 256 + at0 R (1 + k) = _; rw [e0]
      obtain ⟨hy0, hy1⟩ := hy
      obtain ⟨hN0, hN1⟩ := hNk
      have hor := or_i64 (numF R 1 k) y hN0 (by omega) hy0 hy1
      have T' := Lib.hid (fun z => (⟨T.out.l, T.out.s.set 0 (.int .i64 z), T.out.r.setO _ (by have := T.out.l; dsimp only; omega), T.out.u.setCell (by dsimp only; omega) _⟩ : DcAt w (wr.setCell ⟨w.heap.size + 1, 0, none⟩ (.int .i64 z)) (w.heap.size + 1) z))
      generalize numF R 1 k = nk at *
      clear e0 ey
      have hkn : (k : Int) < (6 : Int) := by omega
      go_wp2_with fail
      go_roundw
      case rel => exact ⟨k + 1, by omega, by go_num, by rw [hs.out]; exact T'.out _⟩
      case measure => simp [intOf]; omega
    · obtain rfl : k = 6 := by omega
      go_wp2_with fail
      refine (CL.out wr T.out.u (c - 8)).mono ?_
      rintro e w3 ⟨cv, rfl, hcv, hb⟩
      obtain ⟨ca, cc, hce, -⟩ := id hcv
      rw [HDL.out] at hce
      subst hce
      have T6 : DcAt w wr (w.heap.size + 1) o := NE.out ▸ T.out
      have T3 : DcAt w w3 (w.heap.size + 1) o := ⟨T6.l, T6.s.bel hb, T6.r.bel hb, below_then T6.u hb T6.u.size⟩
      have hne : w.heap.size ≠ w.heap.size + 1 := by omega
      have S7 := Lib.hid (T3.s.set 1 (.slice ca n cc))
      have R7 := Lib.hid (T3.r.setO (a := ⟨w.heap.size + 1, 1, none⟩) (.slice ca n cc) hne)
      have U7 : Below w.heap.size w (w3.setCell ⟨w.heap.size + 1, 1, none⟩ (.slice ca n cc)) := T3.u.setCell (by dsimp only; omega) _
      obtain ⟨y0, y7⟩ := G0.out _ U7
      have C7 := Lib.hid (hcv.upd ((Upd.refl (fun k => k = w.heap.size + 1) w3).setCell ⟨w.heap.size + 1, 1, none⟩ (.slice ca n cc) (fun _ => rfl)) (fun k hk e => by have := (hcv.lt hk).1; have := T.out.s.lt; omega))
      have s1 := T3.s.cell (i := 1) rfl
      have sz := T3.s.lt
      have sf := T3.s.free 1
      have z0 := S7.out.cell (i := 0) rfl
      have z1 := S7.out.cell (i := 1) rfl
      have z2 := S7.out.cell (i := 2) rfl
      have z7 := S7.out.lt
      have hzr := T.out.u.size
      have hzs := T.out.s.lt
      replace U7 := Lib.hid U7
      clear t0 t1 t2 tf tz T T6 T3 hb hcv
      go_wp2_with fail
      refine (VA.out _ ca cc).mono ?_
      rintro e w8 ⟨rfl, hb⟩
      have S8 := S7.out.bel hb
      have R8 := R7.out.bel hb
      have C8 := C7.out.below hb
      have U8 := below_then U7.out hb U7.out.size
      have v0 := S8.cell (i := 0) rfl
      have v1 := S8.cell (i := 1) rfl
      have v2 := S8.cell (i := 2) rfl
      have r0 := R8.cell (i := 0) rfl
      have r1 := R8.cell (i := 1) rfl
      have r2 := R8.cell (i := 2) rfl
      have rf := R8.free
      have rz := R8.lt
      have R9 := ((R8.set 0 (.int .i64 o)).set 1 (.slice ca n cc)).set 2 (.bool false)
      have q0 := R9.cell (i := 0) rfl
      have q1 := R9.cell (i := 1) rfl
      have q2 := R9.cell (i := 2) rfl
      have C9 := Lib.hid (C8.upd ((((Upd.refl (fun k => k = w.heap.size) w8).setCell ⟨w.heap.size, 0, none⟩ (.int .i64 o) (fun _ => rfl)).setCell ⟨w.heap.size, 1, none⟩ (.slice ca n cc) (fun _ => rfl)).setCell ⟨w.heap.size, 2, none⟩ (.bool false) (fun _ => rfl)) (fun k hk e => by have := (C8.lt hk).1; omega))
      have U9 : Hid (Below w.heap.size w (((w8.setCell ⟨w.heap.size, 0, none⟩ (.int .i64 o)).setCell ⟨w.heap.size, 1, none⟩ (.slice ca n cc)).setCell ⟨w.heap.size, 2, none⟩ (.bool false))) := ((U8.setCell (Nat.le_refl _) _).setCell (Nat.le_refl _) _).setCell (Nat.le_refl _) _
      clear s1 sz sf z0 z1 z2 z7 y0 y7 S7 R7 C7 U7 S8 R8 C8 U8 hb R9
      go_wp2_with fail
      exact bodyPost_ret (v := .tuple #[.agg #[.int .i64 o, .slice ca n cc, .bool false], .int .i64 0]) (by simp [results, Tryz.results28, go_sem, q0, q1, q2]) rfl ⟨_, rfl, C9.out.low hzr, U9.out⟩
end Go.Proofs.YtkaaoomliepijaaGreat
