/-
  bytes.Repeat of one byte, at most 7 times.
-/
import Derived.Test.YtkaaoomliepijaaGreatQSg
import Derived.Test.YtkaaoomliepijaaGreatQPar
import Derived.Lib.MakeNoZero
import Derived.Lib.SlBuf
namespace Go.Proofs.YtkaaoomliepijaaGreat
open Go.RowKit
set_option linter.unusedVariables false

set_option maxHeartbeats 1000000 in
set_option maxRecDepth 100000 in
theorem mulS_any (n : Nat) (w : World) (hn : n ≤ 7) : Calls Tryz.prog 66 #[.int .u64 1, .int .u64 n] w fun e w' => e = .returned (.tuple #[.int .u64 0, .int .u64 n]) ∧ w = w' := by
  have MU := mul64_any 1 n w (by omega) (by omega)
  rw [Nat.one_mul, Nat.div_eq_of_lt (by omega), Nat.mod_eq_of_lt (by omega)] at MU
  simp only [Int.natCast_zero, Int.natCast_one] at MU
  replace MU := Lib.hid MU
  go_enter Tryz.func66, Tryz.ntmps66
  go_wp2_with fail
  refine MU.out.mono ?_
  rintro e w1 ⟨rfl, hw⟩
  have e1 : w = w1 := by first | exact hw | exact hw.symm
  subst e1
  go_wp2_with fail
  go_ret2
  exact ⟨rfl, rfl⟩
/-- MakeNoZero: a new block. -/
theorem mkz (n : Nat) (hn : n ≤ 7) (w : World) : ∃ cs : Array Value, (callFunc 67 #[.int .i64 n]).run Tryz.prog w = .ok (.value (.slice (some ⟨w.heap.size, 0, none⟩) n cs.size)) ((w.drewN 2).alloc (.cells cs 5)) ∧ n ≤ cs.size ∧ cs.size ≤ maxLen := by
  obtain ⟨cs, hrun, hle, hmax⟩ := Lib.run_makeNoZero (P := Tryz.prog) w #[3] 22 5 Tryz.underlying22 n (by omega)
  refine ⟨cs, ?_, hle, hmax (by unfold maxLen; omega)⟩
  rw [run_callFunc_extern Tryz.func67 (by kernel_rfl) (by kernel_rfl) (by kernel_rfl) (e := Extern.BytealgMakeNoZero.makeNoZero #[3] #[22]) (by kernel_rfl), hrun]
  rfl
noncomputable def mkC (n : Nat) (w : World) : Array Value := if h : n ≤ 7 then (mkz n h w).choose else #[]
theorem mkC_run {n : Nat} (hn : n ≤ 7) (w : World) : (callFunc 67 #[.int .i64 n]).run Tryz.prog w = .ok (.value (.slice (some ⟨w.heap.size, 0, none⟩) n (mkC n w).size)) ((w.drewN 2).alloc (.cells (mkC n w) 5)) ∧ n ≤ (mkC n w).size ∧ (mkC n w).size ≤ maxLen := by
  unfold mkC
  rw [dif_pos hn]
  exact (mkz n hn w).choose_spec
def RpRel (w : World) (g n : Nat) (x : Int) (ix : Value) (wr : World) : Prop := ∃ (k : Nat) (rest : List Value), 1 ≤ k ∧ k ≤ n ∧ ix = .int .i64 k ∧ n ≤ k + rest.length ∧ Hid (Blk wr g 5 ((List.replicate k x).map (Value.int .u8) ++ rest)) ∧ Hid (Below w.heap.size w wr)
set_option maxHeartbeats 8000000 in
set_option maxRecDepth 100000 in
theorem rep_any (w : World) (a : Option Addr) (c n : Nat) (x : Int) (hn1 : 1 ≤ n) (hn : n ≤ 7) (hs : Sl (Value.int .u8) w a [x]) :
    Calls Tryz.prog 43 #[.slice a 1 c, .int .i64 n] w fun e w' => e = .returned (.slice (some ⟨w.heap.size, 0, none⟩) n n) ∧ (∃ sp, Blk w' w.heap.size 5 ((List.replicate n x).map (Value.int .u8) ++ sp)) ∧ Below w.heap.size w w' := by
  have MU := Lib.hid (fun w' => mulS_any n w' hn)
  have SL := Lib.hid hs
  have wn : IntKind.u64.wrap (n : Int) = n := Mul64.wrapN n (by omega)
  have wi : IntKind.i64.wrap (n : Int) = n := IntWalk.i64_in _ (by omega)
  have h0 : ¬ (n : Int) = 0 := by omega
  have h1 : ¬ (n : Int) < 0 := by omega
  have h2 : ¬ (8192 : Int) < (n : Int) := by omega
  have h3 : ¬ (9223372036854775807 : Int) < (n : Int) := by omega
  have h4 : ((n : Int) == (0 : Int)) = false := by simpa using h0
  have MZ := fun w' => (mkC_run hn w').1
  have MZ2 := (mkC_run hn w).2.1
  have MZ3 := Lib.hid (mkC_run hn w).2.2
  obtain ⟨ad, rfl⟩ : ∃ ad, a = some ad := by
    cases a with
    | none => have := (hs 0 x rfl).1; cases this
    | some ad => exact ⟨ad, rfl⟩
  have FB := Lib.hid (Blk.new (w.drewN 2) 5 (mkC n w).toList)
  obtain ⟨i1, hi, hz0, hz1, hz2⟩ := info_parts Tryz.infoByte
  have JI : Hid ((Tryz.prog.info? 5).map (·.size) = some 1) := by show _ = _; rw [hi]; simp [hz1]
  clear hs hi hz0 hz1 hz2
  have CP : Hid ((Builtin.copy_ #[22, 22] 3 #[.slice (some ⟨w.heap.size, 0, none⟩) n n, .slice (some ad) 1 c]).run Tryz.prog ((w.drewN 2).alloc (.cells (mkC n w) 5)) = .ok (.int .i64 1) (((w.drewN 2).alloc (.cells (mkC n w) 5)).setCells w.heap.size 0 [.int .u8 x])) := by
    have hlt : 0 < (mkC n w).toList.length := by simp; omega
    refine run_copy_cells _ _ _ _ 5 w.heap.size 0 n n ad 1 c [.int .u8 x] Tryz.underlying22 JI.out (show ([.int .u8 x] : List Value).length = Nat.min 1 n from (Nat.min_eq_left hn1).symm) ((SL.out.below (below_then (Below.drewNQ (Below.refl _ _) 2) (alloc_belQ _ _) (Nat.le_refl _))).news) (fun j hj => ?_) (fun j _ => FB.out.free _) (fun v hv => by simp at hv; subst hv; rfl)
    have : j = 0 := by simpa using hj
    subst this
    rw [Nat.zero_add]
    have c0 := FB.out.cell (i := 0) (v := (mkC n w).toList[0]) (by rw [List.getElem?_eq_getElem hlt])
    have c1 : ((w.drewN 2).alloc (.cells (mkC n w) 5)).cell? ⟨w.heap.size, 0, none⟩ = some ((mkC n w).toList[0]) := c0
    rw [c1]; rfl
  go_enter Tryz.func43, Tryz.ntmps43
  go_wp2_with fail
  refine (MU.out _).mono ?_
  rintro e w1 ⟨rfl, hw⟩
  subst hw
  replace CP := CP.out
  go_wp2_with fail
  have R0 : RpRel w w.heap.size n x (.int .i64 1) (((w.drewN 2).alloc (.cells (mkC n w) 5)).setCells w.heap.size 0 [.int .u8 x]) := by
    refine ⟨1, (mkC n w).toList.drop 1, Nat.le_refl _, hn1, rfl, by simp; omega, ?_, ?_⟩
    · have := Blk.setCells [.int .u8 x] 0 _ _ FB.out (by simp; omega)
      exact this
    · exact Upd.below (below_then (Below.drewNQ (Below.refl _ _) 2) (alloc_belQ _ _) (Nat.le_refl _)) (Upd.setCells (S := fun k => k = w.heap.size) [.int .u8 x] 0 _ _ (Upd.refl _ _) rfl) (by simp) (fun i hi => by omega)
  generalize ((w.drewN 2).alloc (.cells (mkC n w) 5)).setCells w.heap.size 0 [.int .u8 x] = w2 at *
  clear CP MZ MZ2 FB MU SL
  go_loopw [10] (fun ix wr => RpRel w w.heap.size n x ix wr) (fun ix _ => n - (intOf ix).toNat)
  case atStart => exact R0
  case round =>
    clear R0
    obtain ⟨k, rest, hk1, hk, rfl, hr, B, Q⟩ := hrel
    by_cases hkn : k < n
    · obtain ⟨m, hm⟩ : ∃ m, min (n - k) k = m := ⟨_, rfl⟩
      have em : ((k : Int) + (m : Int)) = ((k + m : Nat) : Int) := by omega
      have CP : Hid ((Builtin.copy_ #[22, 22] 3 #[.slice (some ⟨w.heap.size, k, none⟩) (n - k) (n - k), .slice (some ⟨w.heap.size, 0, none⟩) k n]).run Tryz.prog wr.drew = .ok (.int .i64 m) (wr.drew.setCells w.heap.size k ((List.replicate m x).map (Value.int .u8)))) := by
        have e : min k (n - k) = ((List.replicate m x).map (Value.int .u8)).length := by simp; omega
        have := run_copy_cells (P := Tryz.prog) wr.drew 22 22 3 5 w.heap.size k (n - k) (n - k) ⟨w.heap.size, 0, none⟩ k n ((List.replicate m x).map (Value.int .u8)) Tryz.underlying22 JI.out e.symm (fun j v hj => ?_) (fun j hj => ?_) (fun j _ => B.out.drew.free _) (fun v hv => by simp at hv; rw [hv.2]; rfl)
        · rw [List.length_map, List.length_replicate] at this
          exact this
        · have hjm : j < m := by
            have := List.getElem?_eq_some_iff.1 hj
            obtain ⟨h, _⟩ := this
            simpa using h
          have : v = .int .u8 x := by
            rw [List.getElem?_map, List.getElem?_replicate, if_pos hjm] at hj
            simpa using hj.symm
          subst this
          have := B.out.drew.cell (i := j) (v := .int .u8 x) (by rw [List.getElem?_append_left (by simp; omega), List.getElem?_map, List.getElem?_replicate, if_pos (by omega)]; rfl)
          show wr.drew.cell? ((⟨w.heap.size, 0, none⟩ : Addr).add j) = _
          rw [add_eq _ _ rfl]
          simpa using this
        · rw [List.length_map, List.length_replicate] at hj
          have hl : k + j < ((List.replicate k x).map (Value.int .u8) ++ rest).length := by simp; omega
          rw [B.out.drew.cell (List.getElem?_eq_getElem hl)]; rfl
      have R6 : RpRel w w.heap.size n x (.int .i64 ((k : Int) + (m : Int))) (wr.drew.setCells w.heap.size k ((List.replicate m x).map (Value.int .u8))) := by
        refine ⟨k + m, rest.drop m, by omega, by omega, by rw [em], by simp; omega, ?_, ?_⟩
        · have := Blk.setCells ((List.replicate m x).map (Value.int .u8)) k _ _ B.out.drew (by simp; omega)
          rw [show (List.replicate k x).map (Value.int .u8) ++ rest = (List.replicate k x).map (Value.int .u8) ++ rest from rfl, List.take_append_of_le_length (by simp), List.take_of_length_le (by simp), List.length_map, List.length_replicate, List.drop_append, List.drop_of_length_le (by simp), List.nil_append, List.length_map, List.length_replicate, show k + m - k = m by omega, ← List.map_append, List.replicate_append_replicate] at this
          exact this
        · exact Upd.below (Below.drewQ Q.out) (Upd.setCells (S := fun i => i = w.heap.size) _ k _ _ (Upd.refl _ _) rfl) (by have := B.out.lt; simp; omega) (fun i hi => by omega)
      replace R6 := Lib.hid R6
      have hm7 : m ≤ 7 := by omega
      have ekm : IntKind.i64.wrap ((k : Int) + (m : Int)) = (k : Int) + (m : Int) := IntWalk.i64_in _ (by omega)
      have hmp : 1 ≤ m := by omega
      clear em
      have hnk : ¬ n = k := by omega
      have emin : min (k : Int) (n : Int) = (k : Int) := Int.min_eq_left (by omega)
      replace hm := Lib.hid hm
      go_upto_region 20 with (fail)
      refine wp_region_allH (fun _ => True) 10 (by kernel_rfl) rfl ?_ (fun hHeld => ?_)
      · (trivial)
      refine wpAnyH_takeG (i := 0) (v := ?_) rfl (by kernel_rfl) (by kernel_rfl) (by kernel_rfl) (fun _ _ _ h => h) rfl ?_ hHeld ?_
      rotate_left
      · intro w hSw
        try dsimp only at hSw
        go_simp
        all_goals with_reducible rfl
      try simp only [Act.put, List.setIfInBounds_toArray, List.set_cons_zero, List.set_cons_succ]
      refine wpAnyH_takeG (i := 1) (v := ?_) rfl (by kernel_rfl) (by kernel_rfl) (by kernel_rfl) (fun _ _ _ h => h) rfl ?_ hHeld ?_
      rotate_left
      · intro w hSw
        try dsimp only at hSw
        go_simp
        all_goals with_reducible rfl
      try simp only [Act.put, List.setIfInBounds_toArray, List.set_cons_zero, List.set_cons_succ]
      refine wpAnyH_takeG (i := 2) (v := ?_) rfl (by kernel_rfl) (by kernel_rfl) (by kernel_rfl) (fun _ _ _ h => h) rfl ?_ hHeld ?_
      rotate_left
      · intro w hSw
        try dsimp only at hSw
        go_simp
        all_goals with_reducible rfl
      try simp only [Act.put, List.setIfInBounds_toArray, List.set_cons_zero, List.set_cons_succ]
      refine wpAnyH_takeG (i := 3) (v := ?_) rfl (by kernel_rfl) (by kernel_rfl) (by kernel_rfl) (fun _ _ _ h => h) rfl ?_ hHeld ?_
      rotate_left
      · intro w hSw
        try dsimp only at hSw
        go_simp
        all_goals with_reducible rfl
      try simp only [Act.put, List.setIfInBounds_toArray, List.set_cons_zero, List.set_cons_succ]
      refine wpAnyH_takeG (i := 4) (v := ?_) rfl (by kernel_rfl) (by kernel_rfl) (by kernel_rfl) (fun _ _ _ h => h) rfl ?_ hHeld ?_
      rotate_left
      · intro w hSw
        try dsimp only at hSw
        go_simp
        all_goals with_reducible rfl
      try simp only [Act.put, List.setIfInBounds_toArray, List.set_cons_zero, List.set_cons_succ]
      refine wpAnyH_takeG (i := 5) (v := ?_) rfl (by kernel_rfl) (by kernel_rfl) (by kernel_rfl) (fun _ _ _ h => h) rfl ?_ hHeld ?_
      rotate_left
      · intro w hSw
        try dsimp only at hSw
        go_simp
        all_goals with_reducible rfl
      try simp only [Act.put, List.setIfInBounds_toArray, List.set_cons_zero, List.set_cons_succ]
      refine wpAnyH_takeG (i := 6) (v := ?_) rfl (by kernel_rfl) (by kernel_rfl) (by kernel_rfl) (fun _ _ _ h => h) rfl ?_ hHeld ?_
      rotate_left
      · intro w hSw
        try dsimp only at hSw
        go_simp
        all_goals with_reducible rfl
      try simp only [Act.put, List.setIfInBounds_toArray, List.set_cons_zero, List.set_cons_succ]
      refine wpAnyH_step (i := 7) (by kernel_rfl) rfl (fun KK hK => ?_)
      (rw [if_pos (by rfl)]; refine Lib.wp_copy_run _ _ _ 22 22 rfl _ _ rfl rfl CP.out ?_)
      refine hK.out _ _ ?_ (fun hHeld => ?_)
      · (trivial)
      clear hK KK
      try simp only [Act.put, List.setIfInBounds_toArray, List.set_cons_zero, List.set_cons_succ]
      refine wpAnyH_takeG (i := 8) (v := ?_) rfl (by kernel_rfl) (by kernel_rfl) (by kernel_rfl) (fun _ _ _ h => h) rfl ?_ hHeld ?_
      rotate_left
      · intro w hSw
        try dsimp only at hSw
        go_simp
        all_goals with_reducible rfl
      try simp only [Act.put, List.setIfInBounds_toArray, List.set_cons_zero, List.set_cons_succ]
      refine wpAnyH_takeG (i := 9) (v := ?_) rfl (by kernel_rfl) (by kernel_rfl) (by kernel_rfl) (fun _ _ _ h => h) rfl ?_ hHeld ?_
      rotate_left
      · intro w hSw
        try dsimp only at hSw
        go_simp
        all_goals with_reducible rfl
      try simp only [Act.put, List.setIfInBounds_toArray, List.set_cons_zero, List.set_cons_succ]
      refine wpAnyH_done (by kernel_rfl) ?_ _
      clear CP
      go_roundw
      case rel => exact ⟨_, _, _, _, _, _, _, _, _, _, _, _, _, _, _, _, _, R6.out, rfl⟩
      case measure => simp [intOf]; omega
    · have hkn2 : k = n := by omega
      subst hkn2
      go_wp2_with fail
      go_ret
      exact ⟨rfl, ⟨rest, B.out⟩, Q.out⟩
end Go.Proofs.YtkaaoomliepijaaGreat
