/-
  move.Moving: New, Phase, Accepts, Read, Finish, Receive.
  move.Moving: Receive.
-/
import Derived.Test.YtkaaoomliepijaaGreatQSp
namespace Go.Proofs.YtkaaoomliepijaaGreat
open Go.RowKit
set_option linter.unusedVariables false

def mvC (ph : Nat) (p0 p1 : Value) : List Value := [.int .i64 24, .int .i64 ph, p0, p1]
def spV (sb : Nat) : Value := .pointer (some ⟨sb, 0, none⟩)
set_option maxHeartbeats 1000000 in
set_option maxRecDepth 100000 in
theorem newMv_ok (w : World) : Calls Tryz.prog 18 #[.int .i64 24] w fun e w' => ∃ eb, e = .returned (.tuple #[.pointer (some ⟨eb, 0, none⟩), .int .i64 0]) ∧ w.heap.size + 1 < eb ∧
    StAt w' (w.heap.size + 1) w.heap.size 0 0 (fun _ => none) ∧ Blk w' eb 62 (mvC 0 (spV (w.heap.size + 1)) (.pointer none)) ∧ Below w.heap.size w w' := by
  have NS := Lib.hid (newSt_ok w)
  go_enter Tryz.func18, Tryz.ntmps18
  go_wp2_with fail
  refine NS.out.mono ?_
  rintro e w1 ⟨rfl, hS, hb⟩
  have S1 := Lib.hid (hS.below (alloc_belQ w1 (.cells #[.int .i64 24, .int .i64 0, .pointer (some ⟨w.heap.size + 1, 0, none⟩), .pointer none] 62)))
  have B1 := Lib.hid (below_then hb (alloc_belQ w1 (.cells #[.int .i64 24, .int .i64 0, .pointer (some ⟨w.heap.size + 1, 0, none⟩), .pointer none] 62)) hb.size)
  have hz := hS.b.lt
  clear hS hb NS
  go_wp2_with fail
  go_ret2
  exact ⟨w1.heap.size, rfl, by omega, S1.out, Blk.new w1 62 (mvC 0 (spV (w.heap.size + 1)) (.pointer none)), B1.out⟩
set_option maxHeartbeats 1000000 in
set_option maxRecDepth 100000 in
theorem phase_any (w : World) (eb ph : Nat) (p0 p1 : Value) (h : Blk w eb 62 (mvC ph p0 p1)) :
    Calls Tryz.prog 8 #[.pointer (some ⟨eb, 0, none⟩)] w fun e w' => e = .returned (.int .i64 ph) ∧ w = w' := by
  have c1 := h.cell (i := 1) rfl
  clear h
  go_enter Tryz.func8, Tryz.ntmps8
  go_wp2_with fail
  go_ret
  exact ⟨rfl, rfl⟩
def accB (ph pl : Nat) : Bool := if pl = 0 then decide (ph ≠ 2) else decide (ph ≠ 0)
set_option maxHeartbeats 1000000 in
set_option maxRecDepth 100000 in
theorem accepts_any (w : World) (eb ph pl : Nat) (p0 p1 : Value) (h : Blk w eb 62 (mvC ph p0 p1)) (hp : pl ≤ 1) (hph : ph ≤ 2) :
    Calls Tryz.prog 56 #[.pointer (some ⟨eb, 0, none⟩), .int .i64 pl] w fun e w' => e = .returned (.bool (accB ph pl)) ∧ w = w' := by
  have c1 := h.cell (i := 1) rfl
  clear h
  rcases (show pl = 0 ∨ pl = 1 by omega) with rfl | rfl <;> rcases (show ph = 0 ∨ ph = 1 ∨ ph = 2 by omega) with rfl | rfl | rfl
  all_goals
    go_enter Tryz.func56, Tryz.ntmps56
    go_wp2_with fail
    go_ret
    exact ⟨rfl, rfl⟩
set_option maxHeartbeats 1000000 in
set_option maxRecDepth 100000 in
theorem finish_any (w : World) (eb : Nat) (p0 p1 : Value) (h : Blk w eb 62 (mvC 1 p0 p1)) :
    Calls Tryz.prog 47 #[.pointer (some ⟨eb, 0, none⟩)] w fun e w' => e = .returned (.int .i64 0) ∧ Blk w' eb 62 (mvC 2 (.pointer none) p1) ∧ Upd (fun k => k = eb) w w' := by
  have c1 := h.cell (i := 1) rfl
  have c2 := h.cell (i := 2) rfl
  have bz := h.lt
  have bf := h.free
  have R := Lib.hid ((h.set 1 (.int .i64 2)).set 2 (.pointer none))
  clear h
  go_enter Tryz.func47, Tryz.ntmps47
  go_wp2_with fail
  go_ret
  exact ⟨rfl, R.out, ((Upd.refl (fun k => k = eb) w).setCell _ _ (fun _ => rfl)).setCell _ _ (fun _ => rfl)⟩
def RdP (w : World) (sb mb off nxt most : Nat) (F : Nat → Option Int) (e : Ending) (w' : World) : Prop :=
  ∃ v, e = .returned v ∧ Rw (Value.int .u8) 5 w' w.heap.size v (rdL F off (min most (nxt - off))) ∧ StAt w' sb mb (off + min most (nxt - off)) nxt (rmF F off (min most (nxt - off))) ∧ Upd (stS sb mb) w w'
set_option maxHeartbeats 1000000 in
set_option maxRecDepth 100000 in
theorem read_mv (w : World) (eb ph sb mb off nxt most : Nat) (p0 p1 : Value) (F : Nat → Option Int) (hb : Blk w eb 62 (mvC ph p0 p1)) (hph : ph ≤ 2) (hp : (if ph = 0 then p0 else p1) = spV sb)
    (h : StAt w sb mb off nxt F) (hle : off ≤ nxt) (hnx : nxt ≤ 2000) (hm : 1 ≤ most) (hm2 : most ≤ 100000) :
    Calls Tryz.prog 30 #[.pointer (some ⟨eb, 0, none⟩), .int .i64 most] w (RdP w sb mb off nxt most F) := by
  have RS : Hid (Calls Tryz.prog 58 #[.pointer (some ⟨sb, 0, none⟩), .int .i64 most] w (RdP w sb mb off nxt most F)) := read_st w sb mb off nxt most F h hle hnx hm hm2
  have c1 := hb.cell (i := 1) rfl
  have c2 := hb.cell (i := 2) rfl
  have c3 := hb.cell (i := 3) rfl
  clear hb h
  unfold spV at hp
  by_cases e0 : ph = 0
  · subst e0
    rw [if_pos rfl] at hp
    subst hp
    go_enter Tryz.func30, Tryz.ntmps30
    go_wp2_with fail
    refine RS.out.mono ?_
    rintro e w1 ⟨v, rfl, h1, h2, h3⟩
    have X : Hid (RdP w sb mb off nxt most F (.returned v) w1) := ⟨v, rfl, h1, h2, h3⟩
    clear h1 h2 h3
    go_wp2_with fail
    go_ret
    exact X.out
  · rw [if_neg e0] at hp
    subst hp
    have k1 : ¬ (ph : Int) = 0 := by omega
    go_enter Tryz.func30, Tryz.ntmps30
    go_wp2_with fail
    refine RS.out.mono ?_
    rintro e w1 ⟨v, rfl, h1, h2, h3⟩
    have X : Hid (RdP w sb mb off nxt most F (.returned v) w1) := ⟨v, rfl, h1, h2, h3⟩
    clear h1 h2 h3
    go_wp2_with fail
    go_ret
    exact X.out
end Go.Proofs.YtkaaoomliepijaaGreat
namespace Go.Proofs.YtkaaoomliepijaaGreat
open Go.RowKit
set_option linter.unusedVariables false

/-- What a Put leaves. -/
def PutQ (w : World) (sb mb off nxt o : Nat) (F : Nat → Option Int) (d : List Int) (w' : World) : Prop :=
  ∃ nx : Nat, StAt w' sb mb off nx (putF F o d (max o off) (min (o + d.length) (off + 24))) ∧ nxt ≤ nx ∧ (putF F o d (max o off) (min (o + d.length) (off + 24)) nx).isSome = false ∧
    (∀ x, nxt ≤ x → x < nx → (putF F o d (max o off) (min (o + d.length) (off + 24)) x).isSome = true) ∧ Upd (stS sb mb) w w'
theorem rcS {w wx : World} {b0 eb K o n c : Nat} {a : Option Addr} {v : Value} {S : Nat → Prop} (h0 : w.cell? ⟨eb, K, none⟩ = some v) (h1 : Blk w b0 67 [.int .i64 o, .slice a n c, .bool false]) (u : Upd S w wx) (e1 : ¬ S eb) (e2 : ¬ S b0) :
    wx.cell? ⟨eb, K, none⟩ = some v ∧ wx.cell? ⟨b0, 0, none⟩ = some (.int .i64 o) ∧ wx.cell? ⟨b0, 1, none⟩ = some (.slice a n c) ∧ wx.cell? ⟨b0, 2, none⟩ = some (.bool false) := by
  have B := h1.upd u e2
  exact ⟨by rw [u.cell (World.block_lt_of_cell? _ _ h0) e1]; exact h0, B.cell rfl, B.cell rfl, B.cell rfl⟩
set_option maxHeartbeats 1000000 in
set_option maxRecDepth 100000 in
theorem receive_no (w : World) (eb ph pl o n c : Nat) (a : Option Addr) (p0 p1 : Value) (hb : Blk w eb 62 (mvC ph p0 p1)) (hph : ph ≤ 2) (hpl : pl ≤ 1) (hacc : accB ph pl = false) :
    Calls Tryz.prog 29 #[.pointer (some ⟨eb, 0, none⟩), .int .i64 pl, .agg #[.int .i64 o, .slice a n c, .bool false]] w fun e w' => e = .returned (.int .i64 6) ∧ Below w.heap.size w w' := by
  have AC := accepts_any (w.alloc (.cells #[.int .i64 o, .slice a n c, .bool false] 67)) eb ph pl p0 p1 (hb.bel (alloc_belQ _ _)) hpl hph
  rw [hacc] at AC
  replace AC := Lib.hid AC
  clear hb hacc
  rcases (show pl = 0 ∨ pl = 1 by omega) with rfl | rfl
  all_goals
    go_enter Tryz.func29, Tryz.ntmps29
    go_wp2_with fail
    refine AC.out.mono ?_
    rintro e w1 ⟨rfl, hw⟩
    subst hw
    go_wp2_with fail
    go_ret
    exact ⟨rfl, alloc_belQ _ _⟩
set_option maxHeartbeats 8000000 in
set_option maxRecDepth 100000 in
theorem receive_yes (w : World) (eb ph pl sb mb off nxt o c : Nat) (a : Option Addr) (p0 p1 : Value) (F : Nat → Option Int) (d : List Int) (hb : Blk w eb 62 (mvC ph p0 p1)) (hph : ph ≤ 2) (hpl : pl ≤ 1) (hacc : accB ph pl = true) (hp : (if pl = 0 then p0 else p1) = spV sb)
    (h : StAt w sb mb off nxt F) (hes : ¬ stS sb mb eb) (hd : Sl (Value.int .u8) w a d) (hB : IsB d) (ho : o ≤ 2500) (hdl : d.length ≤ 100) (hoff : off ≤ 2500) (hnx : nxt ≤ 3000)
    (hF : ∀ x, (F x).isSome = true → x < 3000) (hC : ∀ x y, F x = some y → o ≤ x → x < o + d.length → off ≤ x → y = d.getD (x - o) 0) (hda : ∀ k, stS sb mb k → d ≠ [] → (a.getD default).block ≠ k) :
    Calls Tryz.prog 29 #[.pointer (some ⟨eb, 0, none⟩), .int .i64 pl, .agg #[.int .i64 o, .slice a d.length c, .bool false]] w fun e w' => e = .returned (.int .i64 0) ∧ PutQ w sb mb off nxt o F d w' := by
  have B0 := alloc_belQ w (.cells #[.int .i64 o, .slice a d.length c, .bool false] 67)
  have AC := accepts_any (w.alloc (.cells #[.int .i64 o, .slice a d.length c, .bool false] 67)) eb ph pl p0 p1 (hb.bel B0) hpl hph
  rw [hacc] at AC
  replace AC := Lib.hid AC
  have PT := fun w' (q : Below w.heap.size w w') => put_st w' sb mb off nxt o c a F d (h.below q) (hd.below q) hB ho hdl hoff hnx hF hC hda
  have X0 := Lib.hid (Blk.new w 67 [.int .i64 o, .slice a d.length c, .bool false])
  have HLT := Lib.hid (fun k (hk : stS sb mb k) => h.lt hk)
  have hez := hb.lt
  have hh : (w.alloc (.cells #[.int .i64 o, .slice a d.length c, .bool false] 67)).cell? ⟨eb, 2 + pl, none⟩ = some (.pointer (some ⟨sb, 0, none⟩)) := by
    have h2 := (hb.bel B0).cell (i := 2) rfl
    have h3 := (hb.bel B0).cell (i := 3) rfl
    rcases (show pl = 0 ∨ pl = 1 by omega) with rfl | rfl
    · rw [if_pos rfl] at hp; rw [hp] at h2; exact h2
    · rw [if_neg (by decide)] at hp; rw [hp] at h3; exact h3
  replace B0 := Lib.hid B0
  replace PT := Lib.hid PT
  replace hes := Lib.hid hes
  generalize hn : d.length = n at *
  replace hn := Lib.hid hn
  clear hb hacc h hd hB hF hC hda hp
  rcases (show pl = 0 ∨ pl = 1 by omega) with rfl | rfl
  · have hh0 := hh
    go_enter Tryz.func29, Tryz.ntmps29
    go_wp2_with fail
    refine AC.out.mono ?_
    rintro e w1 ⟨rfl, hw⟩
    subst hw
    go_wp2_with fail
    refine wp_region_allH (fun wx => wx.cell? ⟨eb, 2 + 0, none⟩ = some (.pointer (some ⟨sb, 0, none⟩)) ∧ wx.cell? ⟨w.heap.size, 0, none⟩ = some (.int .i64 o) ∧ wx.cell? ⟨w.heap.size, 1, none⟩ = some (.slice a n c) ∧ wx.cell? ⟨w.heap.size, 2, none⟩ = some (.bool false)) 13 (by kernel_rfl) rfl ?_ (fun hHeld => ?_)
    · (exact rcS hh X0.out (Upd.refl (fun _ => False) _).drew id id)
    refine wpAnyH_takeG (i := 0) (v := ?_) rfl (by kernel_rfl) (by kernel_rfl) (by kernel_rfl) (fun _ _ _ h => h) rfl ?_ hHeld ?_
    rotate_left
    · intro w hSw
      try dsimp only at hSw
      go_simp
      all_goals with_reducible rfl
    try simp only [Act.put, List.setIfInBounds_toArray, List.set_cons_zero, List.set_cons_succ]
    refine wpAnyH_takeG (i := 1) (v := ?_) rfl (by kernel_rfl) (by kernel_rfl) (by kernel_rfl) (fun _ _ _ h => h) rfl ?_ hHeld ?_
    rotate_left
    · intro w hSw
      try dsimp only at hSw
      go_simp
      all_goals with_reducible rfl
    try simp only [Act.put, List.setIfInBounds_toArray, List.set_cons_zero, List.set_cons_succ]
    refine wpAnyH_takeG (i := 2) (v := ?_) rfl (by kernel_rfl) (by kernel_rfl) (by kernel_rfl) (fun _ _ _ h => h) rfl ?_ hHeld ?_
    rotate_left
    · intro w hSw
      try dsimp only at hSw
      go_simp
      all_goals with_reducible rfl
    try simp only [Act.put, List.setIfInBounds_toArray, List.set_cons_zero, List.set_cons_succ]
    refine wpAnyH_takeG (i := 3) (v := ?_) rfl (by kernel_rfl) (by kernel_rfl) (by kernel_rfl) (fun _ _ _ h => h) rfl ?_ hHeld ?_
    rotate_left
    · intro w hSw
      try dsimp only at hSw
      go_simp
      all_goals with_reducible rfl
    try simp only [Act.put, List.setIfInBounds_toArray, List.set_cons_zero, List.set_cons_succ]
    refine wpAnyH_takeG (i := 4) (v := ?_) rfl (by kernel_rfl) (by kernel_rfl) (by kernel_rfl) (fun _ _ _ h => h) rfl ?_ hHeld ?_
    rotate_left
    · intro w hSw
      try dsimp only at hSw
      go_simp
      all_goals with_reducible rfl
    try simp only [Act.put, List.setIfInBounds_toArray, List.set_cons_zero, List.set_cons_succ]
    refine wpAnyH_takeG (i := 5) (v := ?_) rfl (by kernel_rfl) (by kernel_rfl) (by kernel_rfl) (fun _ _ _ h => h) rfl ?_ hHeld ?_
    rotate_left
    · intro w hSw
      try dsimp only at hSw
      go_simp
      all_goals with_reducible rfl
    try simp only [Act.put, List.setIfInBounds_toArray, List.set_cons_zero, List.set_cons_succ]
    refine wpAnyH_takeG (i := 6) (v := ?_) rfl (by kernel_rfl) (by kernel_rfl) (by kernel_rfl) (fun _ _ _ h => h) rfl ?_ hHeld ?_
    rotate_left
    · intro w hSw
      try dsimp only at hSw
      go_simp
      all_goals with_reducible rfl
    try simp only [Act.put, List.setIfInBounds_toArray, List.set_cons_zero, List.set_cons_succ]
    refine wpAnyH_step (i := 7) (by kernel_rfl) rfl (fun KK hK => ?_)
    (go_simp; refine (PT.out _ (Below.drewQ B0.out)).mono ?_; rintro e w9 ⟨k9, rfl, nx9, hP⟩; have U9 := Upd.then (Upd.of_below (S := stS sb mb) (Qt.refl _).drew.bel) hP.2.2.2.2 (fun _ _ h => h); have E9 : ¬ stS sb mb eb ∧ ¬ stS sb mb w.heap.size := ⟨hes.out, fun e => by have := HLT.out _ e; omega⟩; go_wp2_with fail)
    refine hK.out _ _ ?_ (fun hHeld => ?_)
    · (exact rcS hh X0.out U9 E9.1 E9.2)
    clear hK KK
    try simp only [Act.put, List.setIfInBounds_toArray, List.set_cons_zero, List.set_cons_succ]
    refine wpAnyH_takeG (i := 8) (v := ?_) rfl (by kernel_rfl) (by kernel_rfl) (by kernel_rfl) (fun _ _ _ h => h) rfl ?_ hHeld ?_
    rotate_left
    · intro w hSw
      try dsimp only at hSw
      go_simp
      all_goals with_reducible rfl
    try simp only [Act.put, List.setIfInBounds_toArray, List.set_cons_zero, List.set_cons_succ]
    refine wpAnyH_takeG (i := 9) (v := ?_) rfl (by kernel_rfl) (by kernel_rfl) (by kernel_rfl) (fun _ _ _ h => h) rfl ?_ hHeld ?_
    rotate_left
    · intro w hSw
      try dsimp only at hSw
      go_simp
      all_goals with_reducible rfl
    try simp only [Act.put, List.setIfInBounds_toArray, List.set_cons_zero, List.set_cons_succ]
    refine wpAnyH_takeG (i := 10) (v := ?_) rfl (by kernel_rfl) (by kernel_rfl) (by kernel_rfl) (fun _ _ _ h => h) rfl ?_ hHeld ?_
    rotate_left
    · intro w hSw
      try dsimp only at hSw
      go_simp
      all_goals with_reducible rfl
    try simp only [Act.put, List.setIfInBounds_toArray, List.set_cons_zero, List.set_cons_succ]
    refine wpAnyH_takeG (i := 11) (v := ?_) rfl (by kernel_rfl) (by kernel_rfl) (by kernel_rfl) (fun _ _ _ h => h) rfl ?_ hHeld ?_
    rotate_left
    · intro w hSw
      try dsimp only at hSw
      go_simp
      all_goals with_reducible rfl
    try simp only [Act.put, List.setIfInBounds_toArray, List.set_cons_zero, List.set_cons_succ]
    refine wpAnyH_takeG (i := 12) (v := ?_) rfl (by kernel_rfl) (by kernel_rfl) (by kernel_rfl) (fun _ _ _ h => h) rfl ?_ hHeld ?_
    rotate_left
    · intro w hSw
      try dsimp only at hSw
      go_simp
      all_goals with_reducible rfl
    try simp only [Act.put, List.setIfInBounds_toArray, List.set_cons_zero, List.set_cons_succ]
    refine wpAnyH_done (by kernel_rfl) ?_ _
    go_wp2_with fail
    go_ret
    have hP2 := hP
    simp only [← hn.out] at hP2 ⊢
    exact ⟨rfl, nx9, hP2.1, hP2.2.1, hP2.2.2.1, hP2.2.2.2.1, Upd.then (Upd.of_below (S := stS sb mb) (Below.drewQ B0.out)) hP.2.2.2.2 (fun _ _ h => h)⟩
  · have hh0 := hh
    go_enter Tryz.func29, Tryz.ntmps29
    go_wp2_with fail
    refine AC.out.mono ?_
    rintro e w1 ⟨rfl, hw⟩
    subst hw
    go_wp2_with fail
    refine wp_region_allH (fun wx => wx.cell? ⟨eb, 2 + 1, none⟩ = some (.pointer (some ⟨sb, 0, none⟩)) ∧ wx.cell? ⟨w.heap.size, 0, none⟩ = some (.int .i64 o) ∧ wx.cell? ⟨w.heap.size, 1, none⟩ = some (.slice a n c) ∧ wx.cell? ⟨w.heap.size, 2, none⟩ = some (.bool false)) 13 (by kernel_rfl) rfl ?_ (fun hHeld => ?_)
    · (exact rcS hh X0.out (Upd.refl (fun _ => False) _).drew id id)
    refine wpAnyH_takeG (i := 0) (v := ?_) rfl (by kernel_rfl) (by kernel_rfl) (by kernel_rfl) (fun _ _ _ h => h) rfl ?_ hHeld ?_
    rotate_left
    · intro w hSw
      try dsimp only at hSw
      go_simp
      all_goals with_reducible rfl
    try simp only [Act.put, List.setIfInBounds_toArray, List.set_cons_zero, List.set_cons_succ]
    refine wpAnyH_takeG (i := 1) (v := ?_) rfl (by kernel_rfl) (by kernel_rfl) (by kernel_rfl) (fun _ _ _ h => h) rfl ?_ hHeld ?_
    rotate_left
    · intro w hSw
      try dsimp only at hSw
      go_simp
      all_goals with_reducible rfl
    try simp only [Act.put, List.setIfInBounds_toArray, List.set_cons_zero, List.set_cons_succ]
    refine wpAnyH_takeG (i := 2) (v := ?_) rfl (by kernel_rfl) (by kernel_rfl) (by kernel_rfl) (fun _ _ _ h => h) rfl ?_ hHeld ?_
    rotate_left
    · intro w hSw
      try dsimp only at hSw
      go_simp
      all_goals with_reducible rfl
    try simp only [Act.put, List.setIfInBounds_toArray, List.set_cons_zero, List.set_cons_succ]
    refine wpAnyH_takeG (i := 3) (v := ?_) rfl (by kernel_rfl) (by kernel_rfl) (by kernel_rfl) (fun _ _ _ h => h) rfl ?_ hHeld ?_
    rotate_left
    · intro w hSw
      try dsimp only at hSw
      go_simp
      all_goals with_reducible rfl
    try simp only [Act.put, List.setIfInBounds_toArray, List.set_cons_zero, List.set_cons_succ]
    refine wpAnyH_takeG (i := 4) (v := ?_) rfl (by kernel_rfl) (by kernel_rfl) (by kernel_rfl) (fun _ _ _ h => h) rfl ?_ hHeld ?_
    rotate_left
    · intro w hSw
      try dsimp only at hSw
      go_simp
      all_goals with_reducible rfl
    try simp only [Act.put, List.setIfInBounds_toArray, List.set_cons_zero, List.set_cons_succ]
    refine wpAnyH_takeG (i := 5) (v := ?_) rfl (by kernel_rfl) (by kernel_rfl) (by kernel_rfl) (fun _ _ _ h => h) rfl ?_ hHeld ?_
    rotate_left
    · intro w hSw
      try dsimp only at hSw
      go_simp
      all_goals with_reducible rfl
    try simp only [Act.put, List.setIfInBounds_toArray, List.set_cons_zero, List.set_cons_succ]
    refine wpAnyH_takeG (i := 6) (v := ?_) rfl (by kernel_rfl) (by kernel_rfl) (by kernel_rfl) (fun _ _ _ h => h) rfl ?_ hHeld ?_
    rotate_left
    · intro w hSw
      try dsimp only at hSw
      go_simp
      all_goals with_reducible rfl
    try simp only [Act.put, List.setIfInBounds_toArray, List.set_cons_zero, List.set_cons_succ]
    refine wpAnyH_step (i := 7) (by kernel_rfl) rfl (fun KK hK => ?_)
    (go_simp; refine (PT.out _ (Below.drewQ B0.out)).mono ?_; rintro e w9 ⟨k9, rfl, nx9, hP⟩; have U9 := Upd.then (Upd.of_below (S := stS sb mb) (Qt.refl _).drew.bel) hP.2.2.2.2 (fun _ _ h => h); have E9 : ¬ stS sb mb eb ∧ ¬ stS sb mb w.heap.size := ⟨hes.out, fun e => by have := HLT.out _ e; omega⟩; go_wp2_with fail)
    refine hK.out _ _ ?_ (fun hHeld => ?_)
    · (exact rcS hh X0.out U9 E9.1 E9.2)
    clear hK KK
    try simp only [Act.put, List.setIfInBounds_toArray, List.set_cons_zero, List.set_cons_succ]
    refine wpAnyH_takeG (i := 8) (v := ?_) rfl (by kernel_rfl) (by kernel_rfl) (by kernel_rfl) (fun _ _ _ h => h) rfl ?_ hHeld ?_
    rotate_left
    · intro w hSw
      try dsimp only at hSw
      go_simp
      all_goals with_reducible rfl
    try simp only [Act.put, List.setIfInBounds_toArray, List.set_cons_zero, List.set_cons_succ]
    refine wpAnyH_takeG (i := 9) (v := ?_) rfl (by kernel_rfl) (by kernel_rfl) (by kernel_rfl) (fun _ _ _ h => h) rfl ?_ hHeld ?_
    rotate_left
    · intro w hSw
      try dsimp only at hSw
      go_simp
      all_goals with_reducible rfl
    try simp only [Act.put, List.setIfInBounds_toArray, List.set_cons_zero, List.set_cons_succ]
    refine wpAnyH_takeG (i := 10) (v := ?_) rfl (by kernel_rfl) (by kernel_rfl) (by kernel_rfl) (fun _ _ _ h => h) rfl ?_ hHeld ?_
    rotate_left
    · intro w hSw
      try dsimp only at hSw
      go_simp
      all_goals with_reducible rfl
    try simp only [Act.put, List.setIfInBounds_toArray, List.set_cons_zero, List.set_cons_succ]
    refine wpAnyH_takeG (i := 11) (v := ?_) rfl (by kernel_rfl) (by kernel_rfl) (by kernel_rfl) (fun _ _ _ h => h) rfl ?_ hHeld ?_
    rotate_left
    · intro w hSw
      try dsimp only at hSw
      go_simp
      all_goals with_reducible rfl
    try simp only [Act.put, List.setIfInBounds_toArray, List.set_cons_zero, List.set_cons_succ]
    refine wpAnyH_takeG (i := 12) (v := ?_) rfl (by kernel_rfl) (by kernel_rfl) (by kernel_rfl) (fun _ _ _ h => h) rfl ?_ hHeld ?_
    rotate_left
    · intro w hSw
      try dsimp only at hSw
      go_simp
      all_goals with_reducible rfl
    try simp only [Act.put, List.setIfInBounds_toArray, List.set_cons_zero, List.set_cons_succ]
    refine wpAnyH_done (by kernel_rfl) ?_ _
    go_wp2_with fail
    go_ret
    have hP2 := hP
    simp only [← hn.out] at hP2 ⊢
    exact ⟨rfl, nx9, hP2.1, hP2.2.1, hP2.2.2.1, hP2.2.2.2.1, Upd.then (Upd.of_below (S := stS sb mb) (Below.drewQ B0.out)) hP.2.2.2.2 (fun _ _ h => h)⟩
end Go.Proofs.YtkaaoomliepijaaGreat
