/-
  stream.Writer: Tick.
  stream.Writer: Tick that sends.
-/
import Derived.Test.YtkaaoomliepijaaGreatQWrT
namespace Go.Proofs.YtkaaoomliepijaaGreat
open Go.RowKit
set_option linter.unusedVariables false

def tickNone : Ending := .returned (.tuple #[.agg #[.int .i64 0, .slice none 0 0, .bool false], .bool false])
theorem tk_ok {w wx : World} {base wb : Nat} {kv : Value} {ks : List Int} {tk ba nx tp idl : Nat} (h : WrAt wx base wb kv ks tk ba nx tp idl) (hw : ∀ k, wrS wb kv k → k < w.heap.size) (u : Upd (fun k => k = wb) w wx) {x0 x1 x2 : Value} :
    WrAt (((wx.setCell ⟨w.heap.size, 0, none⟩ x0).setCell ⟨w.heap.size, 1, none⟩ x1).setCell ⟨w.heap.size, 2, none⟩ x2) base wb kv ks tk ba nx tp idl ∧ Upd (fun k => k = wb) w (((wx.setCell ⟨w.heap.size, 0, none⟩ x0).setCell ⟨w.heap.size, 1, none⟩ x1).setCell ⟨w.heap.size, 2, none⟩ x2) :=
  ⟨h.upd (((Upd.refl (fun k => k = w.heap.size) wx).setCell _ _ (fun _ => rfl)).setCell _ _ (fun _ => rfl) |>.setCell _ _ (fun _ => rfl)) (fun k hk e => by have := hw k hk; omega),
    ((u.setCell _ _ (fun h => absurd h (Nat.lt_irrefl _))).setCell _ _ (fun h => absurd h (Nat.lt_irrefl _))).setCell _ _ (fun h => absurd h (Nat.lt_irrefl _))⟩
set_option maxHeartbeats 8000000 in
set_option maxRecDepth 100000 in
theorem tick_rest (w : World) (base wb : Nat) (kv : Value) (ks : List Int) (tk ba nx tp idl most : Nat) (h : WrAt w base wb kv ks tk ba nx tp idl) (hm : 1 ≤ most) (e1 : ba = nx) (e2 : nx = tk) (htk : tk ≤ 100000) :
    Calls Tryz.prog 26 #[.pointer (some ⟨wb, 0, none⟩), .int .i64 most] w fun e w' => e = tickNone ∧ WrAt w' base wb kv ks tk ba nx tp idl ∧ Upd (fun k => k = wb) w w' := by
  subst e1 e2
  have H := Lib.hid (h.below (alloc_belQ w (.cells #[.int .i64 0, .slice none 0 0, .bool false] 67)))
  have HW := Lib.hid (fun k (hk : wrS wb kv k) => (h.lt hk).2)
  have U0 := Lib.hid (Upd.of_below (S := fun k => k = wb) (alloc_belQ w (.cells #[.int .i64 0, .slice none 0 0, .bool false] 67)))
  have R0 := Lib.hid (Blk.new w 67 [.int .i64 0, .slice none 0 0, .bool false])
  have c1 := H.out.b.cell (i := 1) rfl
  have c3 := H.out.b.cell (i := 3) rfl
  have c4 := H.out.b.cell (i := 4) rfl
  have c5 := H.out.b.cell (i := 5) rfl
  have c7 := H.out.b.cell (i := 7) rfl
  have c8 := H.out.b.cell (i := 8) rfl
  have c9 := H.out.b.cell (i := 9) rfl
  have c10 := H.out.b.cell (i := 10) rfl
  have c12 := H.out.b.cell (i := 12) rfl
  have bz := H.out.b.lt
  have bf := H.out.b.free
  have bw := h.b.lt
  have k1 : ¬ (most : Int) < 1 := by omega
  clear h
  have R9 := fun N : Nat => (((R0.out.qt ((Qt.refl _).drewN N)).set 0 (.int .i64 0)).set 1 (.slice none 0 0)).set 2 (.bool false)
  have q0 := fun N => (R9 N).cell (i := 0) rfl
  have q1 := fun N => (R9 N).cell (i := 1) rfl
  have q2 := fun N => (R9 N).cell (i := 2) rfl
  go_enter Tryz.func26, Tryz.ntmps26
  go_wp2_with fail
  go_quiet (fail)
  go_wp2_with fail
  go_quiet (fail)
  go_wp2_with fail
  go_quiet (fail)
  go_wp2_with fail
  exact bodyPost_ret (v := .tuple #[.agg #[.int .i64 0, .slice none 0 0, .bool false], .bool false]) (by simp [results, Tryz.results26, go_sem, q0, q1, q2]) rfl ⟨rfl, tk_ok (H.out.below ((Qt.refl _).drewN _).bel) HW.out (U0.out.drewN _)⟩
set_option maxHeartbeats 8000000 in
set_option maxRecDepth 100000 in
theorem tick_idle (w : World) (base wb : Nat) (kv : Value) (ks : List Int) (tk ba nx tp idl most : Nat) (h : WrAt w base wb kv ks tk ba nx tp idl) (hm : 1 ≤ most) (hgo : ¬ nx < tk ∨ ¬ nx < ba + 24) (hne : ba < nx) (hi : idl + 1 < 3) (htk : tk ≤ 100000) (hnx : nx ≤ 100000) :
    Calls Tryz.prog 26 #[.pointer (some ⟨wb, 0, none⟩), .int .i64 most] w fun e w' => e = tickNone ∧ WrAt w' base wb kv ks tk ba nx tp (idl + 1) ∧ Upd (fun k => k = wb) w w' := by
  have H := Lib.hid (h.below (alloc_belQ w (.cells #[.int .i64 0, .slice none 0 0, .bool false] 67)))
  have HW := Lib.hid (fun k (hk : wrS wb kv k) => (h.lt hk).2)
  have U0 := Lib.hid (Upd.of_below (S := fun k => k = wb) (alloc_belQ w (.cells #[.int .i64 0, .slice none 0 0, .bool false] 67)))
  have R0 := Lib.hid (Blk.new w 67 [.int .i64 0, .slice none 0 0, .bool false])
  have c1 := H.out.b.cell (i := 1) rfl
  have c3 := H.out.b.cell (i := 3) rfl
  have c4 := H.out.b.cell (i := 4) rfl
  have c5 := H.out.b.cell (i := 5) rfl
  have c7 := H.out.b.cell (i := 7) rfl
  have c8 := H.out.b.cell (i := 8) rfl
  have c9 := H.out.b.cell (i := 9) rfl
  have c10 := H.out.b.cell (i := 10) rfl
  have c12 := H.out.b.cell (i := 12) rfl
  have bz := H.out.b.lt
  have bf := H.out.b.free
  have bw := h.b.lt
  have k1 : ¬ (most : Int) < 1 := by omega
  clear h
  have k2 : ¬ (ba : Int) = (nx : Int) := by omega
  have k2n : ((ba : Int) == (nx : Int)) = false := by simp; omega
  have k3 : (idl : Int) + 1 < 3 := by omega
  have hwb : w.heap.size ≠ wb := by omega
  have R9 := fun N M : Nat => (((((R0.out.qt ((Qt.refl _).drewN N)).setO (a := ⟨wb, 8, none⟩) (.int .i64 ((idl : Int) + 1)) hwb).qt ((Qt.refl _).drewN M)).set 0 (.int .i64 0)).set 1 (.slice none 0 0)).set 2 (.bool false)
  have q0 := fun N M => (R9 N M).cell (i := 0) rfl
  have q1 := fun N M => (R9 N M).cell (i := 1) rfl
  have q2 := fun N M => (R9 N M).cell (i := 2) rfl
  have hsp : ((¬ (nx : Int) < (tk : Int)) ∧ ¬ nx < tk) ∨ ((nx : Int) < (tk : Int) ∧ nx < tk ∧ (¬ (nx : Int) < (ba : Int) + 24) ∧ ¬ nx < ba + 24) := by omega
  clear hgo
  rcases hsp with ⟨k4, k4n⟩ | ⟨k4, k4n, k5, k5n⟩
  all_goals
    go_enter Tryz.func26, Tryz.ntmps26
    go_wp2_with fail
    go_quiet (fail)
    go_wp2_with fail
    go_quiet (fail)
    go_wp2_with fail
    go_quiet (fail)
    go_wp2_with fail
    go_quiet (fail)
    go_wp2_with fail
    exact bodyPost_ret (v := .tuple #[.agg #[.int .i64 0, .slice none 0 0, .bool false], .bool false]) (by simp [results, Tryz.results26, go_sem, q0, q1, q2]) rfl
      ⟨rfl, tk_ok (((H.out.below ((Qt.refl _).drewN _).bel).num (nx' := nx) (tp' := tp) (idl' := idl + 1) 8 (.int .i64 ((idl : Int) + 1)) rfl).below ((Qt.refl _).drewN _).bel) HW.out (((U0.out.drewN _).setCell _ _ (fun _ => rfl)).drewN _)⟩
set_option maxHeartbeats 8000000 in
set_option maxRecDepth 100000 in
theorem tick_back (w : World) (base wb : Nat) (kv : Value) (ks : List Int) (tk ba nx tp idl most : Nat) (h : WrAt w base wb kv ks tk ba nx tp idl) (hm : 1 ≤ most) (hgo : ¬ nx < tk ∨ ¬ nx < ba + 24) (hne : ba < nx) (hi : ¬ idl + 1 < 3) (hid : idl ≤ 1000) (htk : tk ≤ 100000) (hnx : nx ≤ 100000) :
    Calls Tryz.prog 26 #[.pointer (some ⟨wb, 0, none⟩), .int .i64 most] w fun e w' => e = tickNone ∧ WrAt w' base wb kv ks tk ba ba tp 0 ∧ Upd (fun k => k = wb) w w' := by
  have H := Lib.hid (h.below (alloc_belQ w (.cells #[.int .i64 0, .slice none 0 0, .bool false] 67)))
  have HW := Lib.hid (fun k (hk : wrS wb kv k) => (h.lt hk).2)
  have U0 := Lib.hid (Upd.of_below (S := fun k => k = wb) (alloc_belQ w (.cells #[.int .i64 0, .slice none 0 0, .bool false] 67)))
  have R0 := Lib.hid (Blk.new w 67 [.int .i64 0, .slice none 0 0, .bool false])
  have c1 := H.out.b.cell (i := 1) rfl
  have c3 := H.out.b.cell (i := 3) rfl
  have c4 := H.out.b.cell (i := 4) rfl
  have c5 := H.out.b.cell (i := 5) rfl
  have c7 := H.out.b.cell (i := 7) rfl
  have c8 := H.out.b.cell (i := 8) rfl
  have c9 := H.out.b.cell (i := 9) rfl
  have c10 := H.out.b.cell (i := 10) rfl
  have c12 := H.out.b.cell (i := 12) rfl
  have bz := H.out.b.lt
  have bf := H.out.b.free
  have bw := h.b.lt
  have k1 : ¬ (most : Int) < 1 := by omega
  clear h
  have k2 : ¬ (ba : Int) = (nx : Int) := by omega
  have k2n : ((ba : Int) == (nx : Int)) = false := by simp; omega
  have k3 : ¬ (idl : Int) + 1 < 3 := by omega
  have k6 : (ba : Int) < (nx : Int) := by omega
  have hwb : w.heap.size ≠ wb := by omega
  have R9 := fun N M K : Nat => (((((((((R0.out.qt ((Qt.refl _).drewN N)).setO (a := ⟨wb, 8, none⟩) (.int .i64 ((idl : Int) + 1)) hwb).qt ((Qt.refl _).drewN M)).setO (a := ⟨wb, 8, none⟩) (.int .i64 0) hwb).qt ((Qt.refl _).drewN K)).setO (a := ⟨wb, 5, none⟩) (.int .i64 ba) hwb).setO (a := ⟨wb, 10, none⟩) (.bool false) hwb).set 0 (.int .i64 0)).set 1 (.slice none 0 0)).set 2 (.bool false)
  have q0 := fun N M K => (R9 N M K).cell (i := 0) rfl
  have q1 := fun N M K => (R9 N M K).cell (i := 1) rfl
  have q2 := fun N M K => (R9 N M K).cell (i := 2) rfl
  have hsp : ((¬ (nx : Int) < (tk : Int)) ∧ ¬ nx < tk) ∨ ((nx : Int) < (tk : Int) ∧ nx < tk ∧ (¬ (nx : Int) < (ba : Int) + 24) ∧ ¬ nx < ba + 24) := by omega
  clear hgo
  rcases hsp with ⟨k4, k4n⟩ | ⟨k4, k4n, k5, k5n⟩
  all_goals
    go_enter Tryz.func26, Tryz.ntmps26
    go_wp2_with fail
    go_quiet (fail)
    go_wp2_with fail
    go_quiet (fail)
    go_wp2_with fail
    go_quiet (fail)
    go_wp2_with fail
    go_quiet (fail)
    go_wp2_with fail
    go_quiet (fail)
    go_wp2_with fail
    exact bodyPost_ret (v := .tuple #[.agg #[.int .i64 0, .slice none 0 0, .bool false], .bool false]) (by simp [results, Tryz.results26, go_sem, q0, q1, q2]) rfl
      ⟨rfl, tk_ok ((((((H.out.below ((Qt.refl _).drewN _).bel).num (nx' := nx) (tp' := tp) (idl' := idl + 1) 8 (.int .i64 ((idl : Int) + 1)) rfl).below ((Qt.refl _).drewN _).bel).num (nx' := nx) (tp' := tp) (idl' := 0) 8 (.int .i64 0) rfl).below ((Qt.refl _).drewN _).bel).num (nx' := ba) (tp' := tp) (idl' := 0) 5 (.int .i64 ba) rfl |>.num (nx' := ba) (tp' := tp) (idl' := 0) 10 (.bool false) rfl) HW.out
        (((((((U0.out.drewN _).setCell _ _ (fun _ => rfl)).drewN _).setCell _ _ (fun _ => rfl)).drewN _).setCell _ _ (fun _ => rfl)).setCell _ _ (fun _ => rfl))⟩
end Go.Proofs.YtkaaoomliepijaaGreat
namespace Go.Proofs.YtkaaoomliepijaaGreat
open Go.RowKit
set_option linter.unusedVariables false

set_option maxHeartbeats 8000000 in
set_option maxRecDepth 100000 in
theorem tick_go (w : World) (base wb : Nat) (kv : Value) (ks : List Int) (tk ba nx tp idl most : Nat) (h : WrAt w base wb kv ks tk ba nx tp idl) (hm : 1 ≤ most) (hm2 : most ≤ 100000) (hlt : nx < tk) (hlt2 : nx < ba + 24) (h1 : ba ≤ nx) (h2 : tk ≤ ba + 24) (hks : ks.length = tk - ba) (htk : tk ≤ 100000) :
    Calls Tryz.prog 26 #[.pointer (some ⟨wb, 0, none⟩), .int .i64 most] w fun e w' =>
      ∃ cv, e = .returned (.tuple #[.agg #[.int .i64 nx, cv, .bool false], .bool true]) ∧ Rw (Value.int .u8) 5 w' w.heap.size cv ((ks.drop (nx - ba)).take (min most (min (tk - nx) (ba + 24 - nx)))) ∧
        WrAt w' base wb kv ks tk ba (nx + min most (min (tk - nx) (ba + 24 - nx))) (max tp (nx + min most (min (tk - nx) (ba + 24 - nx)))) 0 ∧ Upd (fun k => k = wb) w w' := by
  obtain ⟨n, hn⟩ : ∃ n, min most (min (tk - nx) (ba + 24 - nx)) = n := ⟨_, rfl⟩
  rw [hn]
  have SN := fun w' (q : Below w.heap.size w w') => send_any w' base wb kv ks tk ba nx tp idl n (h.below q) h1 (by omega) (by omega) (by omega) (by omega)
  generalize (ks.drop (nx - ba)).take n = dt at *
  have HN : Hid (((most : Int) ≤ (tk : Int) - (nx : Int) ∧ (most : Int) ≤ (ba : Int) + 24 - (nx : Int) ∧ (n : Int) = most) ∨ n = n) := .inr rfl
  replace SN := Lib.hid SN
  obtain ⟨ga, gc, hsv⟩ := h.k.shape
  have B0 := Lib.hid (alloc_belQ w (.cells #[.int .i64 0, .slice none 0 0, .bool false] 67))
  have H := Lib.hid (h.below (alloc_belQ w (.cells #[.int .i64 0, .slice none 0 0, .bool false] 67)))
  have HW := Lib.hid (fun k (hk : wrS wb kv k) => (h.lt hk).2)
  have U0 := Lib.hid (Upd.of_below (S := fun k => k = wb) (alloc_belQ w (.cells #[.int .i64 0, .slice none 0 0, .bool false] 67)))
  have R0 := Lib.hid (Blk.new w 67 [.int .i64 0, .slice none 0 0, .bool false])
  have c1 := H.out.b.cell (i := 1) rfl
  have c3 := H.out.b.cell (i := 3) rfl
  have c4 := H.out.b.cell (i := 4) rfl
  have c5 := H.out.b.cell (i := 5) rfl
  have c7 := H.out.b.cell (i := 7) rfl
  have c8 := H.out.b.cell (i := 8) rfl
  have c9 := H.out.b.cell (i := 9) rfl
  have c10 := H.out.b.cell (i := 10) rfl
  have c12 := H.out.b.cell (i := 12) rfl
  have bz := H.out.b.lt
  have bf := H.out.b.free
  have bw := h.b.lt
  have k1 : ¬ (most : Int) < 1 := by omega
  clear h
  have k4 : (nx : Int) < (tk : Int) := by omega
  have k5 : (nx : Int) < (ba : Int) + 24 := by omega
  have hnn := Lib.hid hn
  clear hn hsv
  go_enter Tryz.func26, Tryz.ntmps26
  go_wp2_with fail
  go_quiet (fail)
  go_wp2_with fail
  go_cut [6] (fun v wx => v = .int .i64 n ∧ Below (w.heap.size + 1) (w.alloc (.cells #[.int .i64 0, .slice none 0 0, .bool false] 67)) wx)
  case first =>
    go_quiet (fail)
    all_goals (try go_wp2_with fail)
    all_goals go_meet
    all_goals exact ⟨by have := hnn.out; congr 1; omega, (Below.drewNQ (Below.refl _ _) _)⟩
  case rest =>
    obtain ⟨rfl, BC⟩ := hcut
    have hz1 : (w.alloc (.cells #[.int .i64 0, .slice none 0 0, .bool false] 67)).heap.size = w.heap.size + 1 := by simp
    have BC1 : Below (w.alloc (.cells #[.int .i64 0, .slice none 0 0, .bool false] 67)).heap.size (w.alloc (.cells #[.int .i64 0, .slice none 0 0, .bool false] 67)) wc := by rw [hz1]; exact BC
    have T := Lib.hid (H.out.below BC1)
    have RC := Lib.hid (R0.out.bel BC1)
    have BW : Hid (Below w.heap.size w wc) := below_then B0.out BC1 (by rw [hz1]; omega)
    have y9 := T.out.b.cell (i := 9) rfl
    have y9d : wc.drew.cell? ⟨wb, 9, none⟩ = some (.bool false) := y9
    clear c1 c3 c4 c5 c7 c8 c9 c10 c12 bz bf H R0 U0 BC BC1 hz1
    go_wp2_with fail
    refine wp_region_allH (fun wx => wx.cell? ⟨wb, 9, none⟩ = some (.bool false)) 22 (by kernel_rfl) rfl ?_ (fun hHeld => ?_)
    · (exact y9d)
    refine wpAnyH_takeG (i := 0) (v := ?_) rfl (by kernel_rfl) (by kernel_rfl) (by kernel_rfl) (fun _ _ _ h => h) rfl ?_ hHeld ?_
    rotate_left
    · intro w hSw
      try dsimp only at hSw
      go_simp
      all_goals with_reducible rfl
    try simp only [Act.put, List.setIfInBounds_toArray, List.set_cons_zero, List.set_cons_succ]
    refine wpAnyH_takeG (i := 1) (v := ?_) rfl (by kernel_rfl) (by kernel_rfl) (by kernel_rfl) (fun _ _ _ h => h) rfl ?_ hHeld ?_
    rotate_left
    · intro w hSw
      try dsimp only at hSw
      go_simp
      all_goals with_reducible rfl
    try simp only [Act.put, List.setIfInBounds_toArray, List.set_cons_zero, List.set_cons_succ]
    refine wpAnyH_takeG (i := 2) (v := ?_) rfl (by kernel_rfl) (by kernel_rfl) (by kernel_rfl) (fun _ _ _ h => h) rfl ?_ hHeld ?_
    rotate_left
    · intro w hSw
      try dsimp only at hSw
      go_simp
      all_goals with_reducible rfl
    try simp only [Act.put, List.setIfInBounds_toArray, List.set_cons_zero, List.set_cons_succ]
    refine wpAnyH_takeG (i := 3) (v := ?_) rfl (by kernel_rfl) (by kernel_rfl) (by kernel_rfl) (fun _ _ _ h => h) rfl ?_ hHeld ?_
    rotate_left
    · intro w hSw
      try dsimp only at hSw
      go_simp
      all_goals with_reducible rfl
    try simp only [Act.put, List.setIfInBounds_toArray, List.set_cons_zero, List.set_cons_succ]
    refine wpAnyH_takeG (i := 4) (v := ?_) rfl (by kernel_rfl) (by kernel_rfl) (by kernel_rfl) (fun _ _ _ h => h) rfl ?_ hHeld ?_
    rotate_left
    · intro w hSw
      try dsimp only at hSw
      go_simp
      all_goals with_reducible rfl
    try simp only [Act.put, List.setIfInBounds_toArray, List.set_cons_zero, List.set_cons_succ]
    refine wpAnyH_takeG (i := 5) (v := ?_) rfl (by kernel_rfl) (by kernel_rfl) (by kernel_rfl) (fun _ _ _ h => h) rfl ?_ hHeld ?_
    rotate_left
    · intro w hSw
      try dsimp only at hSw
      go_simp
      all_goals with_reducible rfl
    try simp only [Act.put, List.setIfInBounds_toArray, List.set_cons_zero, List.set_cons_succ]
    refine wpAnyH_takeG (i := 6) (v := ?_) rfl (by kernel_rfl) (by kernel_rfl) (by kernel_rfl) (fun _ _ _ h => h) rfl ?_ hHeld ?_
    rotate_left
    · intro w hSw
      try dsimp only at hSw
      go_simp
      all_goals with_reducible rfl
    try simp only [Act.put, List.setIfInBounds_toArray, List.set_cons_zero, List.set_cons_succ]
    refine wpAnyH_skipL (i := 7) rfl (by kernel_rfl) (by kernel_rfl) (by kernel_rfl) (fun _ _ _ h => h) rfl hHeld ?_
    try simp only [Act.put, List.setIfInBounds_toArray, List.set_cons_zero, List.set_cons_succ]
    refine wpAnyH_skipL (i := 8) rfl (by kernel_rfl) (by kernel_rfl) (by kernel_rfl) (fun _ _ _ h => h) rfl hHeld ?_
    try simp only [Act.put, List.setIfInBounds_toArray, List.set_cons_zero, List.set_cons_succ]
    refine wpAnyH_skipL (i := 9) rfl (by kernel_rfl) (by kernel_rfl) (by kernel_rfl) (fun _ _ _ h => h) rfl hHeld ?_
    try simp only [Act.put, List.setIfInBounds_toArray, List.set_cons_zero, List.set_cons_succ]
    refine wpAnyH_skipL (i := 10) rfl (by kernel_rfl) (by kernel_rfl) (by kernel_rfl) (fun _ _ _ h => h) rfl hHeld ?_
    try simp only [Act.put, List.setIfInBounds_toArray, List.set_cons_zero, List.set_cons_succ]
    refine wpAnyH_skipL (i := 11) rfl (by kernel_rfl) (by kernel_rfl) (by kernel_rfl) (fun _ _ _ h => h) rfl hHeld ?_
    try simp only [Act.put, List.setIfInBounds_toArray, List.set_cons_zero, List.set_cons_succ]
    refine wpAnyH_skipL (i := 12) rfl (by kernel_rfl) (by kernel_rfl) (by kernel_rfl) (fun _ _ _ h => h) rfl hHeld ?_
    try simp only [Act.put, List.setIfInBounds_toArray, List.set_cons_zero, List.set_cons_succ]
    refine wpAnyH_skipL (i := 13) rfl (by kernel_rfl) (by kernel_rfl) (by kernel_rfl) (fun _ _ _ h => h) rfl hHeld ?_
    try simp only [Act.put, List.setIfInBounds_toArray, List.set_cons_zero, List.set_cons_succ]
    refine wpAnyH_skipL (i := 14) rfl (by kernel_rfl) (by kernel_rfl) (by kernel_rfl) (fun _ _ _ h => h) rfl hHeld ?_
    try simp only [Act.put, List.setIfInBounds_toArray, List.set_cons_zero, List.set_cons_succ]
    refine wpAnyH_skipL (i := 15) rfl (by kernel_rfl) (by kernel_rfl) (by kernel_rfl) (fun _ _ _ h => h) rfl hHeld ?_
    try simp only [Act.put, List.setIfInBounds_toArray, List.set_cons_zero, List.set_cons_succ]
    refine wpAnyH_skipL (i := 16) rfl (by kernel_rfl) (by kernel_rfl) (by kernel_rfl) (fun _ _ _ h => h) rfl hHeld ?_
    try simp only [Act.put, List.setIfInBounds_toArray, List.set_cons_zero, List.set_cons_succ]
    refine wpAnyH_skipL (i := 17) rfl (by kernel_rfl) (by kernel_rfl) (by kernel_rfl) (fun _ _ _ h => h) rfl hHeld ?_
    try simp only [Act.put, List.setIfInBounds_toArray, List.set_cons_zero, List.set_cons_succ]
    refine wpAnyH_takeG (i := 18) (v := ?_) rfl (by kernel_rfl) (by kernel_rfl) (by kernel_rfl) (fun _ _ _ h => h) rfl ?_ hHeld ?_
    rotate_left
    · intro w hSw
      try dsimp only at hSw
      go_simp
      all_goals with_reducible rfl
    try simp only [Act.put, List.setIfInBounds_toArray, List.set_cons_zero, List.set_cons_succ]
    refine wpAnyH_step (i := 19) (by kernel_rfl) rfl (fun KK hK => ?_)
    (go_simp; refine (SN.out _ (Below.drewQ BW.out)).mono ?_; rintro e w9 ⟨cv, rfl, hcv, hT, hU⟩; obtain ⟨ca, cc, rfl, -⟩ := id hcv; have hUW : Hid (Upd (fun k => k = wb) w w9) := Upd.then (Upd.of_below (Below.drewQ BW.out)) hU (fun _ _ h => h); have R9 := RC.out.drew.upd hU (fun e => by omega); have r0 := R9.cell (i := 0) rfl; have r1 := R9.cell (i := 1) rfl; have r2 := R9.cell (i := 2) rfl; have rf := R9.free; have rz := R9.lt; go_wp2_with fail)
    refine hK.out _ _ ?_ (fun hHeld => ?_)
    · (first | exact hT.b.cell (i := 9) rfl | exact (tk_ok hT HW.out hUW.out).1.b.cell (i := 9) rfl)
    clear hK KK
    try simp only [Act.put, List.setIfInBounds_toArray, List.set_cons_zero, List.set_cons_succ]
    refine wpAnyH_step (i := 20) (by kernel_rfl) rfl (fun KK hK => ?_)
    (go_simp)
    refine hK.out _ _ ?_ (fun hHeld => ?_)
    · (first | exact hT.b.cell (i := 9) rfl | exact (tk_ok hT HW.out hUW.out).1.b.cell (i := 9) rfl)
    clear hK KK
    try simp only [Act.put, List.setIfInBounds_toArray, List.set_cons_zero, List.set_cons_succ]
    refine wpAnyH_takeG (i := 21) (v := ?_) rfl (by kernel_rfl) (by kernel_rfl) (by kernel_rfl) (fun _ _ _ h => h) rfl ?_ hHeld ?_
    rotate_left
    · intro w hSw
      try dsimp only at hSw
      go_simp
      all_goals with_reducible rfl
    try simp only [Act.put, List.setIfInBounds_toArray, List.set_cons_zero, List.set_cons_succ]
    refine wpAnyH_done (by kernel_rfl) ?_ _
    have X := Lib.hid (tk_ok hT HW.out hUW.out (x0 := .int .i64 nx) (x1 := .slice ca dt.length cc) (x2 := .bool false))
    have S9 := ((R9.set 0 (.int .i64 nx)).set 1 (.slice ca dt.length cc)).set 2 (.bool false)
    have q0 := S9.cell (i := 0) rfl
    have q1 := S9.cell (i := 1) rfl
    have q2 := S9.cell (i := 2) rfl
    have hz9 := hU.size
    have hzc : w.heap.size + 1 ≤ wc.heap.size := by have := RC.out.lt; omega
    have CV := Lib.hid (hcv.upd ((((Upd.refl (fun k => k = w.heap.size) w9).setCell ⟨w.heap.size, 0, none⟩ (.int .i64 nx) (fun _ => rfl)).setCell ⟨w.heap.size, 1, none⟩ (.slice ca dt.length cc) (fun _ => rfl)).setCell ⟨w.heap.size, 2, none⟩ (.bool false) (fun _ => rfl)) (fun k hk e => by have := (hcv.lt hk).1; change wc.heap.size ≤ k at this; omega))
    clear r0 r1 r2 rf rz hT hU hcv hUW SN
    go_wp2_with fail
    exact bodyPost_ret (v := .tuple #[.agg #[.int .i64 nx, .slice ca dt.length cc, .bool false], .bool true]) (by simp [results, Tryz.results26, go_sem, q0, q1, q2]) rfl
      ⟨_, rfl, CV.out.low (by change w.heap.size ≤ wc.heap.size; omega), X.out⟩
end Go.Proofs.YtkaaoomliepijaaGreat
