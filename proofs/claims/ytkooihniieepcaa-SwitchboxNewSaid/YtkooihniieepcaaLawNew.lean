/-
  SwitchboxNew: the walk.
-/
import Derived.Test.YtkooihniieepcaaSwAw
namespace Go.Proofs.Ytkooihniieepcaa
open Go.RowKit
set_option linter.unusedVariables false

set_option maxHeartbeats 8000000 in
set_option maxRecDepth 100000 in
theorem switchboxNew_walk (W : World) (z0 : Int) (w0 : IntOk .i64 z0) (a1 : Option Addr) (c1 : Nat) (x1 : List Int) (s1 : Sl (Value.int .i64) W a1 x1) (g1 : ∀ y ∈ x1, IntOk .i64 y) (m1 : x1.length ≤ maxLen) (z2 : Int) (w2 : IntOk .i64 z2) (z3 : Int) (w3 : IntOk .i64 z3) :
    Calls Try.prog 8 #[.int .i64 z0, .slice a1 x1.length c1, .int .i64 z2, .int .i64 z3] W fun e W' => e = .returned (.bool true) ∧ Below W.heap.size W W' := by
  have S := Lib.hid s1
  have M1 := Lib.hid m1
  have AW := Lib.hid (awake_any W)
  clear s1 g1 m1 w0 w2 w3
  obtain ⟨K, hK⟩ : ∃ K, x1.length = K := ⟨_, rfl⟩
  have HK := Lib.hid hK
  rw [hK]
  by_cases h20 : (20 : Int) < (K : Int)
  · clear hK
    go_enter Try.func8, Try.ntmps8
    go_wp2_with fail
    refine AW.out.mono ?_
    rintro e w1 ⟨rfl, hb⟩
    have B1 := Lib.hid hb
    clear hb
    go_wp2_with fail
    go_ret
    exact ⟨rfl, B1.out⟩
  have VA : Hid (∀ w, Below W.heap.size W w → Calls Try.prog 26 #[.int .i64 z0, .slice a1 K c1] w fun e w' => e = .returned (.bool (okBoxB z0 x1)) ∧ w = w') := Lib.hid (fun w hw => by
    rw [← hK]
    exact valid_any (S.out.below hw) M1.out)
  have SN : Hid (∀ w, Calls Try.prog 18 #[.pointer none, .func (.func 27) #[] #[]] w fun e w' => e = .returned (.tuple #[.slice none 0 0, .slice none 0 0]) ∧ Below w.heap.size w w') := Lib.hid (fun w => step_nil w _ ⟨_, _, rfl⟩)
  have AN : Hid (∀ w, Calls Try.prog 16 #[.pointer none, .int .i64 z2, .agg #[.int .i64 0, .int .i64 0, .int .i64 0, .int .i64 z3, .int .i64 0, .slice none 0 0]] w fun e w' => e = .returned (.int .i64 1) ∧ Below w.heap.size w w') := Lib.hid (fun w => arrive_nil w z2 ⟨0, 0, 0, z3, 0⟩)
  have RN := Lib.hid (fun w => raise_nil w z2 z3 1)
  have LN := Lib.hid (fun w => limit_nil w z2 z3)
  have QN := Lib.hid (fun w => queue_nil w z2 z3)
  have ON := Lib.hid over_nil
  by_cases hok : OkBox z0 x1
  · have hv : okBoxB z0 x1 = true := okBoxB_true.2 hok
    rw [hv] at VA
    clear hv
    obtain ⟨P, rfl⟩ : ∃ P : Nat, z0 = (P : Int) := ⟨z0.toNat, by have := hok.p1; omega⟩
    have NY : Hid (∀ w, Below W.heap.size W w → Calls Try.prog 15 #[.int .i64 P, .slice a1 K c1] w (NewYes w P x1)) := Lib.hid (fun w hw => by
      rw [← hK]
      exact new_yes w P a1 c1 x1 (S.out.below hw) hok)
    have p1 := hok.p1; have p8 := hok.p8
    have OK := Lib.hid hok
    clear hK hok
    go_enter Try.func8, Try.ntmps8
    go_wp2_with fail
    refine AW.out.mono ?_
    rintro e w1 ⟨rfl, hb⟩
    have B1 := Lib.hid hb
    clear hb
    go_wp2_with fail
    refine (NY.out _ B1.out).mono ?_
    rintro e w2 ⟨L, rfl, hx, hb⟩
    have X2 := Lib.hid hx
    have Z2 := Lib.hid hb.size
    have B2 := Lib.hid (B1.out.trans (hb.mono B1.out.size))
    clear hx hb NY
    go_wp2_with fail
    refine (VA.out _ B2.out).mono ?_
    rintro e w' ⟨rfl, rfl⟩
    clear VA AW
    by_cases hth : 0 ≤ z2 ∧ z2 < (P : Int) ∧ 0 ≤ z3 ∧ z3 < (K : Int)
    · obtain ⟨t1, t2, t3, t4⟩ := hth
      obtain ⟨p, rfl⟩ : ∃ p : Nat, z2 = (p : Int) := ⟨z2.toNat, by omega⟩
      obtain ⟨c, rfl⟩ : ∃ c : Nat, z3 = (c : Int) := ⟨z3.toNat, by omega⟩
      have hp : p < P := by omega
      have hc : c < x1.length := by rw [HK.out]; omega
      obtain ⟨z, ez⟩ : ∃ z, x1[c]? = some z := ⟨x1[c], by simp [hc]⟩
      have EZ := Lib.hid ez
      have hzz := OK.out.z z (List.mem_of_getElem? ez)
      have hgv : Hid ((mdNew x1).gv p c = newG z) := Lib.hid (by show newG (x1[c]?.getD 0) = newG z; rw [ez]; rfl)
      have AR : Hid (Calls Try.prog 16 #[.pointer (some ⟨L.bb, 0, none⟩), .int .i64 p, .agg #[.int .i64 0, .int .i64 0, .int .i64 0, .int .i64 c, .int .i64 0, .slice none 0 0]] w2 fun e w' => ∃ v, e = .returned (.int .i64 0) ∧ BxPost w2 w1.heap.size P x1.length L (mdNew x1) (locQ L p c v) (mdQ (mdNew x1) p c ((mdNew x1).q p c ++ [⟨0, 0, 0, c, 0⟩]) (recX ((mdNew x1).gv p c))) w') :=
        Lib.hid (arrive_yes p c ⟨0, 0, 0, c, 0⟩ rfl X2.out hp hc (by rw [hgv.out]; show (0 : Int) < z + 0; omega) (by rw [hgv.out]; show (0 : Int) < 1000; omega) Z2.out)
      clear ez
      go_wp2_with fail
      refine AR.out.mono ?_
      rintro e w3 ⟨v, rfl, hp3⟩
      have X3 := Lib.hid hp3.1
      have B3 := Lib.hid (hp3.bel X2.out B2.out B1.out.size B2.out.size)
      have RS : Hid (Calls Try.prog 17 #[.pointer (some ⟨L.bb, 0, none⟩), .int .i64 p, .int .i64 c, .int .i64 1] w3 fun e w' => e = .returned (.int .i64 0) ∧ ∃ M', M'.gv p c = recX (newG z) ∧ BxPost w3 w1.heap.size P x1.length (locQ L p c v) (mdQ (mdNew x1) p c ((mdNew x1).q p c ++ [⟨0, 0, 0, c, 0⟩]) (recX ((mdNew x1).gv p c))) (locQ L p c v) M' w') := Lib.hid ((raise_yes p c 1 hp3.1 hp hc).mono (by
        rintro e w' ⟨rfl, hq⟩
        exact ⟨rfl, _, by show upd2 (mdNew x1).gv p c (recX ((mdNew x1).gv p c)) p c = _; rw [upd2_same, hgv.out], hq⟩))
      clear AR hp3 X2 B2
      go_wp2_with fail
      refine RS.out.mono ?_
      rintro e w4 ⟨rfl, M', hM, hp4⟩
      have X4 := Lib.hid hp4.1
      have B4 := Lib.hid (hp4.bel X3.out B3.out B1.out.size B3.out.size)
      have LC := Lib.hid (limit_yes p c (X4.out.below (Qt.refl w4).drew.bel) hp hc)
      have er : M'.gv p c = ⟨z, 1, 0⟩ := by
        rw [hM]
        unfold recX newG
        rw [if_neg (by show ¬ z + 0 ≤ 0; omega)]
        rfl
      rw [er] at LC
      have L2 : Hid (Calls Try.prog 21 #[.pointer (some ⟨L.bb, 0, none⟩), .int .i64 p, .int .i64 c] w4.drew fun e w' => e = .returned (.int .i64 z) ∧ Below w4.drew.heap.size w4.drew w') := Lib.hid (LC.out.mono (by
        rintro e w' ⟨rfl, hb⟩
        exact ⟨ret_int (by show z + 0 = z; omega), hb⟩))
      have S4 := Lib.hid (fun w5 (h : Below w4.heap.size w4 w5) => (S.out.below (B4.out.trans (h.mono B4.out.size))) c z EZ.out)
      clear hM er LC RS X3 B3 hp4
      go_upto_region 12 with (fail)
      obtain ⟨s40, s41⟩ := S4.out _ (Qt.refl w4).drew.bel
      have hci : (c : Int) < (K : Int) := t4
      refine wp_region_allH (fun w' => okAd a1 = true ∧ w'.cell? (adr a1 c) = some (.int .i64 z)) 36 (by kernel_rfl) rfl ?_ (fun hHeld => ?_)
      · (exact ⟨s40, s41⟩)
      refine wpAnyH_takeG (i := 0) (v := ?_) rfl (by kernel_rfl) (by kernel_rfl) (by kernel_rfl) (fun _ _ _ h => h) rfl ?_ hHeld ?_
      rotate_left
      · intro w hSw
        try dsimp only at hSw
        go_simp
        all_goals with_reducible rfl
      try simp only [Act.put, List.setIfInBounds_toArray, List.set_cons_zero, List.set_cons_succ]
      refine wpAnyH_takeG (i := 1) (v := ?_) rfl (by kernel_rfl) (by kernel_rfl) (by kernel_rfl) (fun _ _ _ h => h) rfl ?_ hHeld ?_
      rotate_left
      · intro w hSw
        try dsimp only at hSw
        go_simp
        all_goals with_reducible rfl
      try simp only [Act.put, List.setIfInBounds_toArray, List.set_cons_zero, List.set_cons_succ]
      refine wpAnyH_takeG (i := 2) (v := ?_) rfl (by kernel_rfl) (by kernel_rfl) (by kernel_rfl) (fun _ _ _ h => h) rfl ?_ hHeld ?_
      rotate_left
      · intro w hSw
        try dsimp only at hSw
        go_simp
        all_goals with_reducible rfl
      try simp only [Act.put, List.setIfInBounds_toArray, List.set_cons_zero, List.set_cons_succ]
      refine wpAnyH_takeG (i := 3) (v := ?_) rfl (by kernel_rfl) (by kernel_rfl) (by kernel_rfl) (fun _ _ _ h => h) rfl ?_ hHeld ?_
      rotate_left
      · intro w hSw
        try dsimp only at hSw
        go_simp
        all_goals with_reducible rfl
      try simp only [Act.put, List.setIfInBounds_toArray, List.set_cons_zero, List.set_cons_succ]
      refine wpAnyH_takeG (i := 4) (v := ?_) rfl (by kernel_rfl) (by kernel_rfl) (by kernel_rfl) (fun _ _ _ h => h) rfl ?_ hHeld ?_
      rotate_left
      · intro w hSw
        try dsimp only at hSw
        go_simp
        all_goals with_reducible rfl
      try simp only [Act.put, List.setIfInBounds_toArray, List.set_cons_zero, List.set_cons_succ]
      refine wpAnyH_takeG (i := 5) (v := ?_) rfl (by kernel_rfl) (by kernel_rfl) (by kernel_rfl) (fun _ _ _ h => h) rfl ?_ hHeld ?_
      rotate_left
      · intro w hSw
        try dsimp only at hSw
        go_simp
        all_goals with_reducible rfl
      try simp only [Act.put, List.setIfInBounds_toArray, List.set_cons_zero, List.set_cons_succ]
      refine wpAnyH_takeG (i := 6) (v := ?_) rfl (by kernel_rfl) (by kernel_rfl) (by kernel_rfl) (fun _ _ _ h => h) rfl ?_ hHeld ?_
      rotate_left
      · intro w hSw
        try dsimp only at hSw
        go_simp
        all_goals with_reducible rfl
      try simp only [Act.put, List.setIfInBounds_toArray, List.set_cons_zero, List.set_cons_succ]
      refine wpAnyH_takeG (i := 7) (v := ?_) rfl (by kernel_rfl) (by kernel_rfl) (by kernel_rfl) (fun _ _ _ h => h) rfl ?_ hHeld ?_
      rotate_left
      · intro w hSw
        try dsimp only at hSw
        go_simp
        all_goals with_reducible rfl
      try simp only [Act.put, List.setIfInBounds_toArray, List.set_cons_zero, List.set_cons_succ]
      refine wpAnyH_takeG (i := 8) (v := ?_) rfl (by kernel_rfl) (by kernel_rfl) (by kernel_rfl) (fun _ _ _ h => h) rfl ?_ hHeld ?_
      rotate_left
      · intro w hSw
        try dsimp only at hSw
        go_simp
        all_goals with_reducible rfl
      try simp only [Act.put, List.setIfInBounds_toArray, List.set_cons_zero, List.set_cons_succ]
      refine wpAnyH_takeG (i := 9) (v := ?_) rfl (by kernel_rfl) (by kernel_rfl) (by kernel_rfl) (fun _ _ _ h => h) rfl ?_ hHeld ?_
      rotate_left
      · intro w hSw
        try dsimp only at hSw
        go_simp
        all_goals with_reducible rfl
      try simp only [Act.put, List.setIfInBounds_toArray, List.set_cons_zero, List.set_cons_succ]
      refine wpAnyH_takeG (i := 10) (v := ?_) rfl (by kernel_rfl) (by kernel_rfl) (by kernel_rfl) (fun _ _ _ h => h) rfl ?_ hHeld ?_
      rotate_left
      · intro w hSw
        try dsimp only at hSw
        go_simp
        all_goals with_reducible rfl
      try simp only [Act.put, List.setIfInBounds_toArray, List.set_cons_zero, List.set_cons_succ]
      refine wpAnyH_takeG (i := 11) (v := ?_) rfl (by kernel_rfl) (by kernel_rfl) (by kernel_rfl) (fun _ _ _ h => h) rfl ?_ hHeld ?_
      rotate_left
      · intro w hSw
        try dsimp only at hSw
        go_simp
        all_goals with_reducible rfl
      try simp only [Act.put, List.setIfInBounds_toArray, List.set_cons_zero, List.set_cons_succ]
      refine wpAnyH_takeG (i := 12) (v := ?_) rfl (by kernel_rfl) (by kernel_rfl) (by kernel_rfl) (fun _ _ _ h => h) rfl ?_ hHeld ?_
      rotate_left
      · intro w hSw
        try dsimp only at hSw
        go_simp
        all_goals with_reducible rfl
      try simp only [Act.put, List.setIfInBounds_toArray, List.set_cons_zero, List.set_cons_succ]
      refine wpAnyH_takeG (i := 13) (v := ?_) rfl (by kernel_rfl) (by kernel_rfl) (by kernel_rfl) (fun _ _ _ h => h) rfl ?_ hHeld ?_
      rotate_left
      · intro w hSw
        try dsimp only at hSw
        go_simp
        all_goals with_reducible rfl
      try simp only [Act.put, List.setIfInBounds_toArray, List.set_cons_zero, List.set_cons_succ]
      refine wpAnyH_skipL (i := 14) rfl (by kernel_rfl) (by kernel_rfl) (by kernel_rfl) (fun _ _ _ h => h) rfl hHeld ?_
      try simp only [Act.put, List.setIfInBounds_toArray, List.set_cons_zero, List.set_cons_succ]
      refine wpAnyH_skipL (i := 15) rfl (by kernel_rfl) (by kernel_rfl) (by kernel_rfl) (fun _ _ _ h => h) rfl hHeld ?_
      try simp only [Act.put, List.setIfInBounds_toArray, List.set_cons_zero, List.set_cons_succ]
      refine wpAnyH_skipL (i := 16) rfl (by kernel_rfl) (by kernel_rfl) (by kernel_rfl) (fun _ _ _ h => h) rfl hHeld ?_
      try simp only [Act.put, List.setIfInBounds_toArray, List.set_cons_zero, List.set_cons_succ]
      refine wpAnyH_skipL (i := 17) rfl (by kernel_rfl) (by kernel_rfl) (by kernel_rfl) (fun _ _ _ h => h) rfl hHeld ?_
      try simp only [Act.put, List.setIfInBounds_toArray, List.set_cons_zero, List.set_cons_succ]
      refine wpAnyH_skipL (i := 18) rfl (by kernel_rfl) (by kernel_rfl) (by kernel_rfl) (fun _ _ _ h => h) rfl hHeld ?_
      try simp only [Act.put, List.setIfInBounds_toArray, List.set_cons_zero, List.set_cons_succ]
      refine wpAnyH_skipL (i := 19) rfl (by kernel_rfl) (by kernel_rfl) (by kernel_rfl) (fun _ _ _ h => h) rfl hHeld ?_
      try simp only [Act.put, List.setIfInBounds_toArray, List.set_cons_zero, List.set_cons_succ]
      refine wpAnyH_takeG (i := 20) (v := ?_) rfl (by kernel_rfl) (by kernel_rfl) (by kernel_rfl) (fun _ _ _ h => h) rfl ?_ hHeld ?_
      rotate_left
      · intro w hSw
        try dsimp only at hSw
        go_simp
        all_goals with_reducible rfl
      try simp only [Act.put, List.setIfInBounds_toArray, List.set_cons_zero, List.set_cons_succ]
      refine wpAnyH_takeG (i := 21) (v := ?_) rfl (by kernel_rfl) (by kernel_rfl) (by kernel_rfl) (fun _ _ _ h => h) rfl ?_ hHeld ?_
      rotate_left
      · intro w hSw
        try dsimp only at hSw
        go_simp
        all_goals with_reducible rfl
      try simp only [Act.put, List.setIfInBounds_toArray, List.set_cons_zero, List.set_cons_succ]
      refine wpAnyH_takeG (i := 22) (v := ?_) rfl (by kernel_rfl) (by kernel_rfl) (by kernel_rfl) (fun _ _ _ h => h) rfl ?_ hHeld ?_
      rotate_left
      · intro w hSw
        try dsimp only at hSw
        go_simp
        all_goals with_reducible rfl
      try simp only [Act.put, List.setIfInBounds_toArray, List.set_cons_zero, List.set_cons_succ]
      refine wpAnyH_takeG (i := 23) (v := ?_) rfl (by kernel_rfl) (by kernel_rfl) (by kernel_rfl) (fun _ _ _ h => h) rfl ?_ hHeld ?_
      rotate_left
      · intro w hSw
        try dsimp only at hSw
        go_simp
        all_goals with_reducible rfl
      try simp only [Act.put, List.setIfInBounds_toArray, List.set_cons_zero, List.set_cons_succ]
      refine wpAnyH_takeG (i := 24) (v := ?_) rfl (by kernel_rfl) (by kernel_rfl) (by kernel_rfl) (fun _ _ _ h => h) rfl ?_ hHeld ?_
      rotate_left
      · intro w hSw
        try dsimp only at hSw
        go_simp
        all_goals with_reducible rfl
      try simp only [Act.put, List.setIfInBounds_toArray, List.set_cons_zero, List.set_cons_succ]
      refine wpAnyH_takeG (i := 25) (v := ?_) rfl (by kernel_rfl) (by kernel_rfl) (by kernel_rfl) (fun _ _ _ h => h) rfl ?_ hHeld ?_
      rotate_left
      · intro w hSw
        try dsimp only at hSw
        go_simp
        all_goals with_reducible rfl
      try simp only [Act.put, List.setIfInBounds_toArray, List.set_cons_zero, List.set_cons_succ]
      refine wpAnyH_takeG (i := 26) (v := ?_) rfl (by kernel_rfl) (by kernel_rfl) (by kernel_rfl) (fun _ _ _ h => h) rfl ?_ hHeld ?_
      rotate_left
      · intro w hSw
        try dsimp only at hSw
        go_simp
        all_goals with_reducible rfl
      try simp only [Act.put, List.setIfInBounds_toArray, List.set_cons_zero, List.set_cons_succ]
      refine wpAnyH_takeG (i := 27) (v := ?_) rfl (by kernel_rfl) (by kernel_rfl) (by kernel_rfl) (fun _ _ _ h => h) rfl ?_ hHeld ?_
      rotate_left
      · intro w hSw
        try dsimp only at hSw
        go_simp
        all_goals with_reducible rfl
      try simp only [Act.put, List.setIfInBounds_toArray, List.set_cons_zero, List.set_cons_succ]
      refine wpAnyH_takeG (i := 29) (v := ?_) rfl (by kernel_rfl) (by kernel_rfl) (by kernel_rfl) (fun _ _ _ h => h) rfl ?_ hHeld ?_
      rotate_left
      · intro w hSw
        try dsimp only at hSw
        go_simp
        all_goals with_reducible rfl
      try simp only [Act.put, List.setIfInBounds_toArray, List.set_cons_zero, List.set_cons_succ]
      refine wpAnyH_takeG (i := 30) (v := ?_) rfl (by kernel_rfl) (by kernel_rfl) (by kernel_rfl) (fun _ _ _ h => h) rfl ?_ hHeld ?_
      rotate_left
      · intro w hSw
        try dsimp only at hSw
        go_simp
        all_goals with_reducible rfl
      try simp only [Act.put, List.setIfInBounds_toArray, List.set_cons_zero, List.set_cons_succ]
      refine wpAnyH_takeG (i := 31) (v := ?_) rfl (by kernel_rfl) (by kernel_rfl) (by kernel_rfl) (fun _ _ _ h => h) rfl ?_ hHeld ?_
      rotate_left
      · intro w hSw
        try dsimp only at hSw
        go_simp
        all_goals with_reducible rfl
      try simp only [Act.put, List.setIfInBounds_toArray, List.set_cons_zero, List.set_cons_succ]
      refine wpAnyH_takeG (i := 32) (v := ?_) rfl (by kernel_rfl) (by kernel_rfl) (by kernel_rfl) (fun _ _ _ h => h) rfl ?_ hHeld ?_
      rotate_left
      · intro w hSw
        try dsimp only at hSw
        go_simp
        all_goals with_reducible rfl
      try simp only [Act.put, List.setIfInBounds_toArray, List.set_cons_zero, List.set_cons_succ]
      refine wpAnyH_step (i := 28) (by kernel_rfl) rfl (fun KK hK => ?_)
      (go_simp; (with_reducible refine L2.out.mono ?_); rintro e w9 ⟨rfl, hb9⟩; go_wp2_with fail)
      refine hK.out _ _ ?_ (fun hHeld => ?_)
      · (exact S4.out _ (((Qt.refl w4).drew.bel).trans hb9))
      clear hK KK
      try simp only [Act.put, List.setIfInBounds_toArray, List.set_cons_zero, List.set_cons_succ]
      refine wpAnyH_takeG (i := 33) (v := ?_) rfl (by kernel_rfl) (by kernel_rfl) (by kernel_rfl) (fun _ _ _ h => h) rfl ?_ hHeld ?_
      rotate_left
      · intro w hSw
        try dsimp only at hSw
        go_simp
        all_goals with_reducible rfl
      try simp only [Act.put, List.setIfInBounds_toArray, List.set_cons_zero, List.set_cons_succ]
      refine wpAnyH_takeG (i := 34) (v := ?_) rfl (by kernel_rfl) (by kernel_rfl) (by kernel_rfl) (fun _ _ _ h => h) rfl ?_ hHeld ?_
      rotate_left
      · intro w hSw
        try dsimp only at hSw
        go_simp
        all_goals with_reducible rfl
      try simp only [Act.put, List.setIfInBounds_toArray, List.set_cons_zero, List.set_cons_succ]
      refine wpAnyH_takeG (i := 35) (v := ?_) rfl (by kernel_rfl) (by kernel_rfl) (by kernel_rfl) (fun _ _ _ h => h) rfl ?_ hHeld ?_
      rotate_left
      · intro w hSw
        try dsimp only at hSw
        go_simp
        all_goals with_reducible rfl
      try simp only [Act.put, List.setIfInBounds_toArray, List.set_cons_zero, List.set_cons_succ]
      refine wpAnyH_done (by kernel_rfl) ?_ _
      have BZ := Lib.hid (B4.out.trans ((((Qt.refl w4).drew.bel).trans hb9).mono B4.out.size))
      clear hb9
      clear L2 X4 B4
      have BQ := Lib.hid trivial
      clear BQ
      go_wp2_with fail
      refine (SN.out _).mono ?_
      rintro e wa ⟨rfl, hb⟩
      have C1 := Lib.hid (BZ.out.trans (hb.mono BZ.out.size))
      clear hb
      go_wp2_with fail
      refine (AN.out _).mono ?_
      rintro e wb ⟨rfl, hb⟩
      have C2 := Lib.hid (C1.out.trans (hb.mono C1.out.size))
      clear hb
      go_wp2_with fail
      refine (RN.out _).mono ?_
      rintro e w' ⟨rfl, rfl⟩
      go_wp2_with fail
      refine (LN.out _).mono ?_
      rintro e w' ⟨rfl, rfl⟩
      go_wp2_with fail
      refine (QN.out _).mono ?_
      rintro e w' ⟨rfl, rfl⟩
      go_wp2_with fail
      refine (ON.out _).mono ?_
      rintro e w' ⟨rfl, rfl⟩
      go_wp2_with fail
      go_ret
      exact ⟨rfl, C2.out⟩
    · have AR : Hid (Calls Try.prog 16 #[.pointer (some ⟨L.bb, 0, none⟩), .int .i64 z2, .agg #[.int .i64 0, .int .i64 0, .int .i64 0, .int .i64 z3, .int .i64 0, .slice none 0 0]] w2 fun e w' => e = .returned (.int .i64 2) ∧ Below w2.heap.size w2 w') := Lib.hid (arrive_no z2 ⟨0, 0, 0, z3, 0⟩ X2.out (by rw [HK.out]; exact hth))
      have RS : Hid (∀ w, Below w2.heap.size w2 w → Calls Try.prog 17 #[.pointer (some ⟨L.bb, 0, none⟩), .int .i64 z2, .int .i64 z3, .int .i64 1] w fun e w' => e = .returned (.int .i64 2) ∧ w = w') := Lib.hid (fun w hw => raise_no z2 z3 1 (X2.out.below hw) (by rw [HK.out]; exact hth))
      have HTH : (z2 < 0) ∨ (0 ≤ z2 ∧ ¬ z2 < (P : Int)) ∨ (0 ≤ z2 ∧ z2 < (P : Int) ∧ z3 < 0) ∨ (0 ≤ z2 ∧ z2 < (P : Int) ∧ 0 ≤ z3 ∧ ¬ z3 < (K : Int)) := by omega
      clear hth
      rcases HTH with t1 | ⟨t1, t2⟩ | ⟨t1, t2, t3⟩ | ⟨t1, t2, t3, t4⟩
      all_goals
        try (have d4 : decide (z3 < (K : Int)) = false := decide_eq_false (by omega))
        try (have d2 : decide (z2 < (P : Int)) = false := decide_eq_false (by omega))
        go_wp2_with fail
        refine AR.out.mono ?_
        rintro e w3 ⟨rfl, hb3⟩
        have B3 := Lib.hid (B2.out.trans (hb3.mono B2.out.size))
        have RT := Lib.hid (RS.out _ hb3)
        clear hb3
        go_wp2_with fail
        refine RT.out.mono ?_
        rintro e w4 ⟨rfl, rfl⟩
        clear AR RT
        go_upto_region 12 with (fail)
        refine wp_region_allH (fun _ => True) 36 (by kernel_rfl) rfl ?_ (fun hHeld => ?_)
        · (trivial)
        refine wpAnyH_takeG (i := 0) (v := ?_) rfl (by kernel_rfl) (by kernel_rfl) (by kernel_rfl) (fun _ _ _ h => h) rfl ?_ hHeld ?_
        rotate_left
        · intro w hSw
          try dsimp only at hSw
          go_simp
          all_goals with_reducible rfl
        try simp only [Act.put, List.setIfInBounds_toArray, List.set_cons_zero, List.set_cons_succ]
        refine wpAnyH_takeG (i := 1) (v := ?_) rfl (by kernel_rfl) (by kernel_rfl) (by kernel_rfl) (fun _ _ _ h => h) rfl ?_ hHeld ?_
        rotate_left
        · intro w hSw
          try dsimp only at hSw
          go_simp
          all_goals with_reducible rfl
        try simp only [Act.put, List.setIfInBounds_toArray, List.set_cons_zero, List.set_cons_succ]
        refine wpAnyH_takeG (i := 2) (v := ?_) rfl (by kernel_rfl) (by kernel_rfl) (by kernel_rfl) (fun _ _ _ h => h) rfl ?_ hHeld ?_
        rotate_left
        · intro w hSw
          try dsimp only at hSw
          go_simp
          all_goals with_reducible rfl
        try simp only [Act.put, List.setIfInBounds_toArray, List.set_cons_zero, List.set_cons_succ]
        refine wpAnyH_takeG (i := 3) (v := ?_) rfl (by kernel_rfl) (by kernel_rfl) (by kernel_rfl) (fun _ _ _ h => h) rfl ?_ hHeld ?_
        rotate_left
        · intro w hSw
          try dsimp only at hSw
          go_simp
          all_goals with_reducible rfl
        try simp only [Act.put, List.setIfInBounds_toArray, List.set_cons_zero, List.set_cons_succ]
        refine wpAnyH_takeG (i := 4) (v := ?_) rfl (by kernel_rfl) (by kernel_rfl) (by kernel_rfl) (fun _ _ _ h => h) rfl ?_ hHeld ?_
        rotate_left
        · intro w hSw
          try dsimp only at hSw
          go_simp
          all_goals with_reducible rfl
        try simp only [Act.put, List.setIfInBounds_toArray, List.set_cons_zero, List.set_cons_succ]
        refine wpAnyH_takeG (i := 5) (v := ?_) rfl (by kernel_rfl) (by kernel_rfl) (by kernel_rfl) (fun _ _ _ h => h) rfl ?_ hHeld ?_
        rotate_left
        · intro w hSw
          try dsimp only at hSw
          go_simp
          all_goals with_reducible rfl
        try simp only [Act.put, List.setIfInBounds_toArray, List.set_cons_zero, List.set_cons_succ]
        refine wpAnyH_takeG (i := 6) (v := ?_) rfl (by kernel_rfl) (by kernel_rfl) (by kernel_rfl) (fun _ _ _ h => h) rfl ?_ hHeld ?_
        rotate_left
        · intro w hSw
          try dsimp only at hSw
          go_simp
          all_goals with_reducible rfl
        try simp only [Act.put, List.setIfInBounds_toArray, List.set_cons_zero, List.set_cons_succ]
        refine wpAnyH_takeG (i := 7) (v := ?_) rfl (by kernel_rfl) (by kernel_rfl) (by kernel_rfl) (fun _ _ _ h => h) rfl ?_ hHeld ?_
        rotate_left
        · intro w hSw
          try dsimp only at hSw
          go_simp
          all_goals with_reducible rfl
        try simp only [Act.put, List.setIfInBounds_toArray, List.set_cons_zero, List.set_cons_succ]
        refine wpAnyH_takeG (i := 8) (v := ?_) rfl (by kernel_rfl) (by kernel_rfl) (by kernel_rfl) (fun _ _ _ h => h) rfl ?_ hHeld ?_
        rotate_left
        · intro w hSw
          try dsimp only at hSw
          go_simp
          all_goals with_reducible rfl
        try simp only [Act.put, List.setIfInBounds_toArray, List.set_cons_zero, List.set_cons_succ]
        refine wpAnyH_takeG (i := 9) (v := ?_) rfl (by kernel_rfl) (by kernel_rfl) (by kernel_rfl) (fun _ _ _ h => h) rfl ?_ hHeld ?_
        rotate_left
        · intro w hSw
          try dsimp only at hSw
          go_simp
          all_goals with_reducible rfl
        try simp only [Act.put, List.setIfInBounds_toArray, List.set_cons_zero, List.set_cons_succ]
        refine wpAnyH_takeG (i := 10) (v := ?_) rfl (by kernel_rfl) (by kernel_rfl) (by kernel_rfl) (fun _ _ _ h => h) rfl ?_ hHeld ?_
        rotate_left
        · intro w hSw
          try dsimp only at hSw
          go_simp
          all_goals with_reducible rfl
        try simp only [Act.put, List.setIfInBounds_toArray, List.set_cons_zero, List.set_cons_succ]
        refine wpAnyH_takeG (i := 11) (v := ?_) rfl (by kernel_rfl) (by kernel_rfl) (by kernel_rfl) (fun _ _ _ h => h) rfl ?_ hHeld ?_
        rotate_left
        · intro w hSw
          try dsimp only at hSw
          go_simp
          all_goals with_reducible rfl
        try simp only [Act.put, List.setIfInBounds_toArray, List.set_cons_zero, List.set_cons_succ]
        refine wpAnyH_takeG (i := 12) (v := ?_) rfl (by kernel_rfl) (by kernel_rfl) (by kernel_rfl) (fun _ _ _ h => h) rfl ?_ hHeld ?_
        rotate_left
        · intro w hSw
          try dsimp only at hSw
          go_simp
          all_goals with_reducible rfl
        try simp only [Act.put, List.setIfInBounds_toArray, List.set_cons_zero, List.set_cons_succ]
        refine wpAnyH_takeG (i := 13) (v := ?_) rfl (by kernel_rfl) (by kernel_rfl) (by kernel_rfl) (fun _ _ _ h => h) rfl ?_ hHeld ?_
        rotate_left
        · intro w hSw
          try dsimp only at hSw
          go_simp
          all_goals with_reducible rfl
        try simp only [Act.put, List.setIfInBounds_toArray, List.set_cons_zero, List.set_cons_succ]
        refine wpAnyH_takeG (i := 14) (v := ?_) rfl (by kernel_rfl) (by kernel_rfl) (by kernel_rfl) (fun _ _ _ h => h) rfl ?_ hHeld ?_
        rotate_left
        · intro w hSw
          try dsimp only at hSw
          go_simp
          all_goals with_reducible rfl
        try simp only [Act.put, List.setIfInBounds_toArray, List.set_cons_zero, List.set_cons_succ]
        refine wpAnyH_takeG (i := 15) (v := ?_) rfl (by kernel_rfl) (by kernel_rfl) (by kernel_rfl) (fun _ _ _ h => h) rfl ?_ hHeld ?_
        rotate_left
        · intro w hSw
          try dsimp only at hSw
          go_simp
          all_goals with_reducible rfl
        try simp only [Act.put, List.setIfInBounds_toArray, List.set_cons_zero, List.set_cons_succ]
        refine wpAnyH_takeG (i := 16) (v := ?_) rfl (by kernel_rfl) (by kernel_rfl) (by kernel_rfl) (fun _ _ _ h => h) rfl ?_ hHeld ?_
        rotate_left
        · intro w hSw
          try dsimp only at hSw
          go_simp
          all_goals with_reducible rfl
        try simp only [Act.put, List.setIfInBounds_toArray, List.set_cons_zero, List.set_cons_succ]
        refine wpAnyH_takeG (i := 17) (v := ?_) rfl (by kernel_rfl) (by kernel_rfl) (by kernel_rfl) (fun _ _ _ h => h) rfl ?_ hHeld ?_
        rotate_left
        · intro w hSw
          try dsimp only at hSw
          go_simp
          all_goals with_reducible rfl
        try simp only [Act.put, List.setIfInBounds_toArray, List.set_cons_zero, List.set_cons_succ]
        refine wpAnyH_takeG (i := 18) (v := ?_) rfl (by kernel_rfl) (by kernel_rfl) (by kernel_rfl) (fun _ _ _ h => h) rfl ?_ hHeld ?_
        rotate_left
        · intro w hSw
          try dsimp only at hSw
          go_simp
          all_goals with_reducible rfl
        try simp only [Act.put, List.setIfInBounds_toArray, List.set_cons_zero, List.set_cons_succ]
        refine wpAnyH_takeG (i := 19) (v := ?_) rfl (by kernel_rfl) (by kernel_rfl) (by kernel_rfl) (fun _ _ _ h => h) rfl ?_ hHeld ?_
        rotate_left
        · intro w hSw
          try dsimp only at hSw
          go_simp
          all_goals with_reducible rfl
        try simp only [Act.put, List.setIfInBounds_toArray, List.set_cons_zero, List.set_cons_succ]
        refine wpAnyH_takeG (i := 20) (v := ?_) rfl (by kernel_rfl) (by kernel_rfl) (by kernel_rfl) (fun _ _ _ h => h) rfl ?_ hHeld ?_
        rotate_left
        · intro w hSw
          try dsimp only at hSw
          go_simp
          all_goals with_reducible rfl
        try simp only [Act.put, List.setIfInBounds_toArray, List.set_cons_zero, List.set_cons_succ]
        refine wpAnyH_takeG (i := 21) (v := ?_) rfl (by kernel_rfl) (by kernel_rfl) (by kernel_rfl) (fun _ _ _ h => h) rfl ?_ hHeld ?_
        rotate_left
        · intro w hSw
          try dsimp only at hSw
          go_simp
          all_goals with_reducible rfl
        try simp only [Act.put, List.setIfInBounds_toArray, List.set_cons_zero, List.set_cons_succ]
        refine wpAnyH_takeG (i := 22) (v := ?_) rfl (by kernel_rfl) (by kernel_rfl) (by kernel_rfl) (fun _ _ _ h => h) rfl ?_ hHeld ?_
        rotate_left
        · intro w hSw
          try dsimp only at hSw
          go_simp
          all_goals with_reducible rfl
        try simp only [Act.put, List.setIfInBounds_toArray, List.set_cons_zero, List.set_cons_succ]
        refine wpAnyH_takeG (i := 23) (v := ?_) rfl (by kernel_rfl) (by kernel_rfl) (by kernel_rfl) (fun _ _ _ h => h) rfl ?_ hHeld ?_
        rotate_left
        · intro w hSw
          try dsimp only at hSw
          go_simp
          all_goals with_reducible rfl
        try simp only [Act.put, List.setIfInBounds_toArray, List.set_cons_zero, List.set_cons_succ]
        refine wpAnyH_takeG (i := 24) (v := ?_) rfl (by kernel_rfl) (by kernel_rfl) (by kernel_rfl) (fun _ _ _ h => h) rfl ?_ hHeld ?_
        rotate_left
        · intro w hSw
          try dsimp only at hSw
          go_simp
          all_goals with_reducible rfl
        try simp only [Act.put, List.setIfInBounds_toArray, List.set_cons_zero, List.set_cons_succ]
        refine wpAnyH_skipL (i := 25) rfl (by kernel_rfl) (by kernel_rfl) (by kernel_rfl) (fun _ _ _ h => h) rfl hHeld ?_
        try simp only [Act.put, List.setIfInBounds_toArray, List.set_cons_zero, List.set_cons_succ]
        refine wpAnyH_skipL (i := 26) rfl (by kernel_rfl) (by kernel_rfl) (by kernel_rfl) (fun _ _ _ h => h) rfl hHeld ?_
        try simp only [Act.put, List.setIfInBounds_toArray, List.set_cons_zero, List.set_cons_succ]
        refine wpAnyH_skipL (i := 27) rfl (by kernel_rfl) (by kernel_rfl) (by kernel_rfl) (fun _ _ _ h => h) rfl hHeld ?_
        try simp only [Act.put, List.setIfInBounds_toArray, List.set_cons_zero, List.set_cons_succ]
        refine wpAnyH_skipL (i := 28) rfl (by kernel_rfl) (by kernel_rfl) (by kernel_rfl) (fun _ _ _ h => h) rfl hHeld ?_
        try simp only [Act.put, List.setIfInBounds_toArray, List.set_cons_zero, List.set_cons_succ]
        refine wpAnyH_skipL (i := 29) rfl (by kernel_rfl) (by kernel_rfl) (by kernel_rfl) (fun _ _ _ h => h) rfl hHeld ?_
        try simp only [Act.put, List.setIfInBounds_toArray, List.set_cons_zero, List.set_cons_succ]
        refine wpAnyH_skipL (i := 30) rfl (by kernel_rfl) (by kernel_rfl) (by kernel_rfl) (fun _ _ _ h => h) rfl hHeld ?_
        try simp only [Act.put, List.setIfInBounds_toArray, List.set_cons_zero, List.set_cons_succ]
        refine wpAnyH_skipL (i := 31) rfl (by kernel_rfl) (by kernel_rfl) (by kernel_rfl) (fun _ _ _ h => h) rfl hHeld ?_
        try simp only [Act.put, List.setIfInBounds_toArray, List.set_cons_zero, List.set_cons_succ]
        refine wpAnyH_skipL (i := 32) rfl (by kernel_rfl) (by kernel_rfl) (by kernel_rfl) (fun _ _ _ h => h) rfl hHeld ?_
        try simp only [Act.put, List.setIfInBounds_toArray, List.set_cons_zero, List.set_cons_succ]
        refine wpAnyH_skipL (i := 33) rfl (by kernel_rfl) (by kernel_rfl) (by kernel_rfl) (fun _ _ _ h => h) rfl hHeld ?_
        try simp only [Act.put, List.setIfInBounds_toArray, List.set_cons_zero, List.set_cons_succ]
        refine wpAnyH_takeG (i := 34) (v := ?_) rfl (by kernel_rfl) (by kernel_rfl) (by kernel_rfl) (fun _ _ _ h => h) rfl ?_ hHeld ?_
        rotate_left
        · intro w hSw
          try dsimp only at hSw
          go_simp
          all_goals with_reducible rfl
        try simp only [Act.put, List.setIfInBounds_toArray, List.set_cons_zero, List.set_cons_succ]
        refine wpAnyH_takeG (i := 35) (v := ?_) rfl (by kernel_rfl) (by kernel_rfl) (by kernel_rfl) (fun _ _ _ h => h) rfl ?_ hHeld ?_
        rotate_left
        · intro w hSw
          try dsimp only at hSw
          go_simp
          all_goals with_reducible rfl
        try simp only [Act.put, List.setIfInBounds_toArray, List.set_cons_zero, List.set_cons_succ]
        refine wpAnyH_done (by kernel_rfl) ?_ _
        have BZ := Lib.hid (B3.out.trans (((Qt.refl w3).drew).bel.mono B3.out.size))
        have BQ := Lib.hid trivial
        clear BQ
        go_wp2_with fail
        refine (SN.out _).mono ?_
        rintro e wa ⟨rfl, hb⟩
        have C1 := Lib.hid (BZ.out.trans (hb.mono BZ.out.size))
        clear hb
        go_wp2_with fail
        refine (AN.out _).mono ?_
        rintro e wb ⟨rfl, hb⟩
        have C2 := Lib.hid (C1.out.trans (hb.mono C1.out.size))
        clear hb
        go_wp2_with fail
        refine (RN.out _).mono ?_
        rintro e w' ⟨rfl, rfl⟩
        go_wp2_with fail
        refine (LN.out _).mono ?_
        rintro e w' ⟨rfl, rfl⟩
        go_wp2_with fail
        refine (QN.out _).mono ?_
        rintro e w' ⟨rfl, rfl⟩
        go_wp2_with fail
        refine (ON.out _).mono ?_
        rintro e w' ⟨rfl, rfl⟩
        go_wp2_with fail
        go_ret
        exact ⟨rfl, C2.out⟩
  · have hv : okBoxB z0 x1 = false := by
      cases e : okBoxB z0 x1 with
      | false => rfl
      | true => exact absurd (okBoxB_true.1 e) hok
    rw [hv] at VA
    have NY : Hid (∀ w, Below W.heap.size W w → Calls Try.prog 15 #[.int .i64 z0, .slice a1 K c1] w fun e w' => e = .returned (.tuple #[.pointer none, .int .i64 2]) ∧ w = w') := Lib.hid (fun w hw => by
      rw [← hK]
      exact new_no (S.out.below hw) M1.out hok)
    clear hK hok hv
    go_enter Try.func8, Try.ntmps8
    go_wp2_with fail
    refine AW.out.mono ?_
    rintro e w1 ⟨rfl, hb⟩
    have BZ := Lib.hid hb
    clear hb
    go_wp2_with fail
    refine (NY.out _ BZ.out).mono ?_
    rintro e w' ⟨rfl, rfl⟩
    go_wp2_with fail
    refine (VA.out _ BZ.out).mono ?_
    rintro e w' ⟨rfl, rfl⟩
    have BQ := Lib.hid trivial
    clear BQ
    go_wp2_with fail
    refine (SN.out _).mono ?_
    rintro e wa ⟨rfl, hb⟩
    have C1 := Lib.hid (BZ.out.trans (hb.mono BZ.out.size))
    clear hb
    go_wp2_with fail
    refine (AN.out _).mono ?_
    rintro e wb ⟨rfl, hb⟩
    have C2 := Lib.hid (C1.out.trans (hb.mono C1.out.size))
    clear hb
    go_wp2_with fail
    refine (RN.out _).mono ?_
    rintro e w' ⟨rfl, rfl⟩
    go_wp2_with fail
    refine (LN.out _).mono ?_
    rintro e w' ⟨rfl, rfl⟩
    go_wp2_with fail
    refine (QN.out _).mono ?_
    rintro e w' ⟨rfl, rfl⟩
    go_wp2_with fail
    refine (ON.out _).mono ?_
    rintro e w' ⟨rfl, rfl⟩
    go_wp2_with fail
    go_ret
    exact ⟨rfl, C2.out⟩
end Go.Proofs.Ytkooihniieepcaa
