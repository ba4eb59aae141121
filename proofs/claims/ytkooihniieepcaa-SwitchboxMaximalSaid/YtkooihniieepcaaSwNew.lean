/-
  NewGiver; the permitted rooms; the example of the chapter.
-/
import Derived.Test.YtkooihniieepcaaSwCr
import Derived.Lib.SliceRun
namespace Go.Proofs.Ytkooihniieepcaa
open Go.RowKit
set_option linter.unusedVariables false

theorem made3_list (a b c : Value) (n : Nat) : (madeCells #[a, b, c] (n * 3)).toList = (List.replicate n [a, b, c]).flatten := by
  induction n with
  | zero => simp [madeCells]
  | succ n ih =>
    rw [List.replicate_succ', List.flatten_append, ← ih]
    have e : (n + 1) * 3 = n * 3 + 1 + 1 + 1 := by omega
    simp only [madeCells, e, Array.range_succ, Array.toList_map, Array.toList_append, Array.map_append]
    simp [Nat.mul_mod_left, Nat.add_mod]
theorem Try.infoGiven : (Try.prog.info? 100).map (fun i => (i.zero, i.size, i.bytes)) = some (some (.agg #[.int .i64 0, .int .i64 0, .int .i64 0]), 3, 24) := by kernel_rfl
theorem make_given (w : World) (n : Nat) (h : n ≤ 1000) : (Instr.makeSlice 96 (.int .i64 n) (.int .i64 n)).run Try.prog w =
    .ok (.slice (some ⟨w.heap.size, 0, none⟩) n n) (w.alloc (.cells (cs3 (List.replicate n ⟨0, 0, 0⟩)).toArray 100)) := by
  obtain ⟨i, hi, hz, hs, hb⟩ := info_parts Try.infoGiven
  rw [run_make w 96 100 i _ Try.underlying96 hi hz .i64 .i64 n n (by omega) (by omega) (by rw [hb]; omega) (by omega)]
  have e : madeCells (Value.agg #[.int .i64 0, .int .i64 0, .int .i64 0]).cells (((n : Int).toNat) * i.size) = (cs3 (List.replicate n ⟨0, 0, 0⟩)).toArray := by
    rw [hs, Int.toNat_natCast]
    apply Array.toList_inj.1
    rw [show (Value.agg #[.int .i64 0, .int .i64 0, .int .i64 0]).cells = #[.int .i64 0, .int .i64 0, .int .i64 0] from rfl, made3_list]
    simp [cs3, List.flatMap, c3]
  rw [e, Int.toNat_natCast]
structure OkRooms (zs : List Int) : Prop where
  h1 : 1 ≤ zs.length
  h4 : zs.length ≤ 4
  hz : ∀ z ∈ zs, 1 ≤ z ∧ z ≤ 64

def newG (z : Int) : I3 := ⟨z, 0, 0⟩
def fill (zs : List Int) (k : Nat) : List I3 := (zs.take k).map newG ++ List.replicate (zs.length - k) ⟨0, 0, 0⟩
theorem fill_len (zs : List Int) (k : Nat) (h : k ≤ zs.length) : (fill zs k).length = zs.length := by simp [fill]; omega
theorem fill_get (zs : List Int) (k : Nat) (h : k < zs.length) : (fill zs k)[k]? = some ⟨0, 0, 0⟩ := by
  unfold fill
  rw [List.getElem?_append_right (by simp; omega)]
  have : k - ((zs.take k).map newG).length = 0 := by simp; omega
  rw [this]
  have e : zs.length - k = (zs.length - k - 1) + 1 := by omega
  rw [e]; rfl
theorem fill_set (zs : List Int) (k : Nat) (z : Int) (h : zs[k]? = some z) : (fill zs k).set k ⟨z, 0, 0⟩ = fill zs (k + 1) := by
  have hk := get_lt h
  unfold fill
  rw [List.set_append_right _ _ (by simp; omega)]
  have : k - ((zs.take k).map newG).length = 0 := by simp; omega
  rw [this, List.take_add_one, h, List.map_append, List.append_assoc]
  have e : zs.length - k = (zs.length - (k + 1)) + 1 := by omega
  rw [e]; rfl
theorem fill_all (zs : List Int) : fill zs zs.length = zs.map newG := by simp [fill]

def NgRel (w : World) (zs : List Int) (i : Value) (wr : World) : Prop :=
  ∃ k : Nat, k ≤ zs.length ∧ i = .int .i64 k ∧ (∀ j z, j < k → zs[j]? = some z → 1 ≤ z ∧ z ≤ 64) ∧ GAt wr w.heap.size (w.heap.size + 1) w.heap.size (fill zs k) ∧ Below w.heap.size w wr ∧ wr.heap.size = w.heap.size + 2
def NgPost (w : World) (zs : List Int) (e : Ending) (w' : World) : Prop :=
  (OkRooms zs ∧ e = .returned (.tuple #[.pointer (some ⟨w.heap.size + 1, 0, none⟩), .int .i64 0]) ∧ GAt w' w.heap.size (w.heap.size + 1) w.heap.size (zs.map newG) ∧ Below w.heap.size w w' ∧ w'.heap.size = w.heap.size + 2) ∨
  (¬ OkRooms zs ∧ e = .returned (.tuple #[.pointer none, .int .i64 2]) ∧ Below w.heap.size w w')

set_option maxHeartbeats 2000000 in
set_option maxRecDepth 100000 in
theorem newG_any (w : World) (a : Option Addr) (c : Nat) (zs : List Int) (hs : SlI w a zs) (hm : zs.length ≤ maxLen) : Calls Try.prog 31 #[.slice a zs.length c] w (NgPost w zs) := by
  have S := Lib.hid hs; clear hs
  unfold maxLen at hm
  by_cases hlo : zs.length < 1
  · have hno : Hid (¬ OkRooms zs) := fun h => by have := h.h1; omega
    have g : ((zs.length : Int)) < 1 := by omega
    go_enter Try.func31, Try.ntmps31
    go_wp2_with fail
    go_ret2
    exact .inr ⟨hno, rfl, Below.refl _ _⟩
  by_cases hhi : 4 < zs.length
  · have hno : Hid (¬ OkRooms zs) := fun h => by have := h.h4; omega
    have g : ¬ ((zs.length : Int)) < 1 := by omega
    have g2 : (4 : Int) < ((zs.length : Int)) := by omega
    go_enter Try.func31, Try.ntmps31
    go_wp2_with fail
    go_ret2
    exact .inr ⟨hno, rfl, Below.refl _ _⟩
  have g : ¬ ((zs.length : Int)) < 1 := by omega
  have g2 : ¬ (4 : Int) < ((zs.length : Int)) := by omega
  have hmk := fun w => make_given w zs.length (by omega)
  generalize hn : zs.length = n at *
  have HN := Lib.hid hn; clear hn
  generalize hL : cs3 (List.replicate n ⟨0, 0, 0⟩) = L at hmk
  have M0 : Hid (GAt ((w.alloc (.cells L.toArray 100)).alloc (.cells #[.slice (some ⟨w.heap.size, 0, none⟩) n n] 98)) w.heap.size (w.heap.size + 1) w.heap.size (fill zs 0)) := by
    refine ⟨?_, ?_, by omega, by omega, by omega⟩
    · rw [fill_len _ _ (by omega), HN.out]
      have := Blk.new (w.alloc (.cells L.toArray 100)) 98 [.slice (some ⟨w.heap.size, 0, none⟩) n n]
      rw [World.size_alloc] at this
      exact this
    · have e : fill zs 0 = List.replicate n ⟨0, 0, 0⟩ := by simp [fill, HN.out]
      rw [e, hL]
      exact (Blk.new w _ L).alloc _
  have HL := Lib.hid hL; clear hL
  go_enter Try.func31, Try.ntmps31
  go_wp2_with fail
  go_loopw [22] (fun i wr => NgRel w zs i wr) (fun i _ => n - (intOf i).toNat)
  case atStart => exact ⟨0, Nat.zero_le _, rfl, fun j z h => by omega, M0.out, ((Below.refl _ _).alloc (Nat.le_refl _) _).alloc (by simp) _, by simp⟩
  case round =>
    obtain ⟨k, hk, rfl, hv, hG, hB, hz⟩ := hrel
    have HV := Lib.hid hv; have HG := Lib.hid hG; have HB := Lib.hid hB; have HZ := Lib.hid hz
    have hk' : k ≤ n := by rw [HN.out] at hk; exact hk
    clear hv hG hB hz hk
    by_cases hlt : k < n
    · obtain ⟨z, ez, okz, cz⟩ := (S.out.below HB.out).get (k := k) (by rw [HN.out]; exact hlt)
      by_cases hzv : 1 ≤ z ∧ z ≤ 64
      · obtain ⟨hz1, hz2⟩ := hzv
        have q0 := HG.out.hg.cell (i := 0) rfl
        rw [fill_len _ _ (by rw [HN.out]; exact hk'), HN.out] at q0
        have fg := fill_get zs k (by rw [HN.out]; exact hlt)
        have c0 := (blk3 HG.out.hc fg).1
        have f0 := HG.out.hc.free (k * 3)
        have HF := Lib.hid fg; clear fg
        go_wp2_with fail
        go_roundw
        case rel =>
          refine ⟨k + 1, by rw [HN.out]; omega, by go_num, ?_, ?_, ?_, ?_⟩
          · intro j z' hj hz'
            by_cases e : j < k
            · exact HV.out j z' e hz'
            · obtain rfl : j = k := by omega
              rw [ez.out] at hz'
              obtain rfl := Option.some.inj hz'
              exact ⟨hz1, hz2⟩
          · have h1 := blk3_setA HG.out.hc HF.out z
            rw [fill_set zs k z ez.out] at h1
            have hne : w.heap.size + 1 ≠ w.heap.size := by omega
            have h2 := HG.out.hg.setO (a := ⟨w.heap.size, k * 3, none⟩) (.int .i64 z) hne
            rw [fill_len _ _ (by rw [HN.out]; exact hk')] at h2
            exact ⟨by rw [fill_len _ _ (by rw [HN.out]; omega)]; exact h2, h1, hne, by omega, by omega⟩
          · exact HB.out.setCell (p := ⟨w.heap.size, k * 3, none⟩) (Nat.le_refl _) _
          · have := HZ.out; simp; omega
        case measure => simp [intOf]; omega
      · have hno : Hid (¬ OkRooms zs) := fun h => hzv (h.hz z (List.mem_of_getElem? ez.out))
        by_cases hz1 : z < 1
        · go_wp2_with fail
          go_ret2
          exact .inr ⟨hno, rfl, HB.out⟩
        · have hz2 : 64 < z := by omega
          go_wp2_with fail
          go_ret2
          exact .inr ⟨hno, rfl, HB.out⟩
    · obtain rfl : k = n := by omega
      go_wp2_with fail
      go_ret2
      refine .inl ⟨⟨by rw [HN.out]; omega, by rw [HN.out]; omega, fun z hz => ?_⟩, rfl, ?_, HB.out, HZ.out⟩
      · obtain ⟨j, hj⟩ := List.mem_iff_getElem?.1 hz
        exact HV.out j z (by have := get_lt hj; rw [HN.out] at this; exact this) hj
      · rw [← fill_all, HN.out]; exact HG.out

end Go.Proofs.Ytkooihniieepcaa
