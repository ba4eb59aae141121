/-
  SwitchboxTurns: the walk.
-/
import Derived.Test.YtkooihniieepcaaSwT
namespace Go.Proofs.Ytkooihniieepcaa
open Go.RowKit
set_option linter.unusedVariables false

set_option maxHeartbeats 1000000 in
theorem turn1_any (w : World) (p : Nat) (f : Fr) (ob : Nat) (o : Int) (h : Blk w ob 3 [.int .i64 o]) : Calls Try.prog 19 #[.int .i64 p, frV f, .pointer (some ⟨ob, 0, none⟩)] w fun e w' => e = .returned (.int .i64 o) ∧ Below w.heap.size w w' := by
  have c0 := h.cell (i := 0) rfl
  have hl := h.lt
  clear h
  unfold frV
  go_enter Try.func19, Try.ntmps19
  go_wp2_with fail
  go_ret
  exact ⟨rfl, (Below.refl _ _).alloc (Nat.le_refl _) _⟩
set_option maxHeartbeats 1000000 in
theorem turn2_any (w : World) (p : Nat) (f : Fr) (ob : Nat) (o : Int) (h : Blk w ob 3 [.int .i64 o]) : Calls Try.prog 20 #[.int .i64 p, frV f, .pointer (some ⟨ob, 0, none⟩)] w fun e w' => e = .returned (.int .i64 o) ∧ Below w.heap.size w w' := by
  have c0 := h.cell (i := 0) rfl
  have hl := h.lt
  clear h
  unfold frV
  go_enter Try.func20, Try.ntmps20
  go_wp2_with fail
  go_ret
  exact ⟨rfl, (Below.refl _ _).alloc (Nat.le_refl _) _⟩
theorem turn1_route (ob : Nat) (t : Nat) : Route 19 #[.pointer (some ⟨ob, 0, none⟩)] (fun _ _ => (t : Int)) (fun w => Blk w ob 3 [.int .i64 t]) (fun k => k = ob) :=
  ⟨fun w p f h _ => turn1_any w p f ob t h, fun w w' S h u hs => h.upd u (hs ob rfl), fun w k h e => by rw [e]; exact h.lt, fun args w => by
    simp [callFunc, go_sem, Try.f19]⟩
theorem turn2_route (ob : Nat) (t : Nat) : Route 20 #[.pointer (some ⟨ob, 0, none⟩)] (fun _ _ => (t : Int)) (fun w => Blk w ob 3 [.int .i64 t]) (fun k => k = ob) :=
  ⟨fun w p f h _ => turn2_any w p f ob t h, fun w w' S h u hs => h.upd u (hs ob rfl), fun w k h e => by rw [e]; exact h.lt, fun args w => by
    simp [callFunc, go_sem, Try.f20]⟩
theorem u8_bounds {n : Int} (h : (Lit.int .u8 n).wf = true) : 0 ≤ n ∧ n ≤ 255 := by simpa [Lit.wf, IntKind.min, IntKind.max, IntKind.signed, IntKind.bits] using h
/-- The client's memory: the output's cell, and what was seen. -/
def tnC (ob t : Nat) (sb : Option (Nat × List Value)) : Bool → Option Pc
  | true => some (.blk ob 3 [.int .i64 t])
  | false => sb.map fun x => .blk x.1 4 x.2
def TnAt (W : World) (base P K bb ob t : Nat) (sb : Option (Nat × List Value)) (I : Md → Prop) (w : World) : Prop :=
  ∃ L M, I M ∧ CliAt w base P K L M W.heap.size (tnC ob t sb) ∧ L.bb = bb ∧ Below W.heap.size W w
def TnRel (n : Nat) (A : Nat → World → Prop) (iv : Value) (w : World) : Prop := ∃ k ≤ n, iv = .int .i64 k ∧ A k w
def rmV (c j : Nat) : Value := .int .i64 (if j < c then 4 else 0)
def RoAt (W : World) (ob t rb K : Nat) (c : Nat) (w : World) : Prop := Blk w rb 3 ((List.range K).map (rmV c)) ∧ Blk w ob 3 [.int .i64 t] ∧ Below W.heap.size W w
theorem mk_rooms (w : World) (n : Nat) (h : n ≤ 1000000) : (Instr.makeSlice 22 (.int .i64 n) (.int .i64 n)).run Try.prog w = .ok (.slice (some ⟨w.heap.size, 0, none⟩) n n) (w.alloc (.cells ((List.range n).map (rmV 0)).toArray 3)) := by
  rw [make_ints w n h, fun_const (Value.int .i64) n 0]
  rfl
def snV (c j : Nat) : Value := .bool (decide (j < c))
theorem mk_seen (w : World) (n : Nat) (h : n ≤ 1000000) : (Instr.makeSlice 32 (.int .i64 n) (.int .i64 n)).run Try.prog w = .ok (.slice (some ⟨w.heap.size, 0, none⟩) n n) (w.alloc (.cells ((List.range n).map (snV 0)).toArray 4)) := by
  rw [make_bools w n h, fun_const Value.bool n false]
  have e : (List.range n).map (fun _ => Value.bool false) = (List.range n).map (snV 0) := by
    apply List.map_congr_left
    intro j _
    unfold snV
    simp
  rw [e]
theorem up_set (f g : Nat → Value) (n c : Nat) (v : Value) (hc : c < n) (hv : g c = v) (he : ∀ j, j ≠ c → g j = f j) : ((List.range n).map f).set c v = (List.range n).map g := by
  rw [← Bar.range_upd f v hc]
  apply List.map_congr_left
  intro j _
  by_cases e : j = c
  · rw [e, Bar.upd_same, hv]
  · rw [Bar.upd_ne _ _ e, he j e]
theorem rm_step {K c : Nat} (hc : c < K) : ((List.range K).map (rmV c)).set c (.int .i64 4) = (List.range K).map (rmV (c + 1)) := by
  refine up_set (rmV c) (rmV (c + 1)) K c (.int .i64 4) hc ?_ fun j hj => ?_
  · unfold rmV
    rw [if_pos (by omega)]
  · unfold rmV
    by_cases h : j < c
    · rw [if_pos h, if_pos (by omega)]
    · rw [if_neg h, if_neg (by omega)]
theorem sn_step {K c : Nat} (hc : c < K) : ((List.range K).map (snV c)).set c (.bool true) = (List.range K).map (snV (c + 1)) := by
  refine up_set (snV c) (snV (c + 1)) K c (.bool true) hc ?_ fun j hj => ?_
  · unfold snV
    simp
  · unfold snV
    congr 1
    rw [decide_eq_decide]
    omega
theorem tn_start {w : World} {B base P K ob t : Nat} {L : Loc} {M : Md} (hx : BoxAt w base P K L M) (ho : Blk w ob 3 [.int .i64 (t : Int)]) (hB : B ≤ ob) (hlt : ob < base) : CliAt w base P K L M B (tnC ob t none) := by
  refine ⟨hx, ⟨fun x p hp => ?_, fun x x' p p' k h1 h2 h3 h4 => ?_⟩, fun k hk hf => ?_⟩
  · cases x with
    | true => cases hp; exact ⟨ho, hB⟩
    | false => cases hp
  · cases x with
    | false => cases h1
    | true =>
      cases x' with
      | false => cases h2
      | true => rfl
  · obtain ⟨x, p, h1, h2⟩ := hf
    cases x with
    | false => cases h1
    | true =>
      cases h1
      have e1 : ob = k := Option.some.inj h2
      have e2 := (hx.lt hk).1
      omega
set_option maxHeartbeats 8000000 in
set_option maxRecDepth 100000 in
theorem switchboxTurns_walk (W : World) (z0 : Int) (w0 : (Lit.int .u8 z0).wf = true) (z1 : Int) (w1 : (Lit.int .u8 z1).wf = true) (z2 : Int) (w2 : (Lit.int .u8 z2).wf = true) (z3 : Int) (w3 : (Lit.int .u8 z3).wf = true) (z4 : Int) (w4 : (Lit.int .u8 z4).wf = true) :
    Calls Try.prog 5 #[.int .u8 z0, .int .u8 z1, .int .u8 z2, .int .u8 z3, .int .u8 z4] W fun e W' => e = .returned (.bool true) ∧ Below W.heap.size W W' := by
  have AW := Lib.hid (awake_any W)
  obtain ⟨l0, u0⟩ := u8_bounds w0; obtain ⟨l1, u1⟩ := u8_bounds w1; obtain ⟨l2, u2⟩ := u8_bounds w2; obtain ⟨l3, u3⟩ := u8_bounds w3; obtain ⟨l4, u4⟩ := u8_bounds w4
  obtain ⟨q0, rfl⟩ := Int.eq_ofNat_of_zero_le l0; obtain ⟨q1, rfl⟩ := Int.eq_ofNat_of_zero_le l1; obtain ⟨q2, rfl⟩ := Int.eq_ofNat_of_zero_le l2; obtain ⟨q3, rfl⟩ := Int.eq_ofNat_of_zero_le l3; obtain ⟨q4, rfl⟩ := Int.eq_ofNat_of_zero_le l4
  clear w0 w1 w2 w3 w4
  go_enter Try.func5, Try.ntmps5
  go_wp2_with fail
  refine AW.out.mono ?_
  rintro e w1 ⟨rfl, hb⟩
  have B1 := Lib.hid hb
  clear hb
  go_upto_region 4 with (fail)
  obtain ⟨P, hP, p1, p8⟩ : ∃ P : Nat, (1 : Int) + (q0 : Int) % 8 = (P : Int) ∧ 1 ≤ P ∧ P ≤ 8 := ⟨1 + q0 % 8, by omega, by omega, by omega⟩
  obtain ⟨K, hK, k1, k8⟩ : ∃ K : Nat, (1 : Int) + (q1 : Int) % 8 = (K : Int) ∧ 1 ≤ K ∧ K ≤ 8 := ⟨1 + q1 % 8, by omega, by omega, by omega⟩
  rw [hP, hK]
  clear hP hK u0 u1 l0 l1
  have hPn : ¬ P = 0 := by omega
  obtain ⟨i, hi, hiP⟩ : ∃ i : Nat, (q2 : Int) % (P : Int) = (i : Int) ∧ i < P := ⟨q2 % P, by rw [Int.natCast_emod], Nat.mod_lt _ (by omega)⟩
  obtain ⟨t, ht, htP⟩ : ∃ t : Nat, (q3 : Int) % (P : Int) = (t : Int) ∧ t < P := ⟨q3 % P, by rw [Int.natCast_emod], Nat.mod_lt _ (by omega)⟩
  obtain ⟨r, hr, r1, r4⟩ : ∃ r : Nat, (1 : Int) + (q4 : Int) % 4 = (r : Int) ∧ 1 ≤ r ∧ r ≤ 4 := ⟨1 + q4 % 4, by omega, by omega, by omega⟩
  refine wp_region_allH (fun _ => True) 16 (by kernel_rfl) rfl ?_ (fun hHeld => ?_)
  · (trivial)
  refine wpAnyH_takeG (i := 0) (v := ?_) rfl (by kernel_rfl) (by kernel_rfl) (by kernel_rfl) (fun _ _ _ h => h) rfl ?_ hHeld ?_
  rotate_left
  · intro w hSw
    try dsimp only at hSw
    go_simp
    all_goals with_reducible rfl
  try simp only [Act.put, List.setIfInBounds_toArray, List.set_cons_zero, List.set_cons_succ]
  refine wpAnyH_takeG (i := 1) (v := ?_) rfl (by kernel_rfl) (by kernel_rfl) (by kernel_rfl) (fun _ _ _ h => h) rfl ?_ hHeld ?_
  rotate_left
  · intro w hSw
    try dsimp only at hSw
    go_simp
    all_goals with_reducible rfl
  try simp only [Act.put, List.setIfInBounds_toArray, List.set_cons_zero, List.set_cons_succ]
  refine wpAnyH_takeG (i := 2) (v := ?_) rfl (by kernel_rfl) (by kernel_rfl) (by kernel_rfl) (fun _ _ _ h => h) rfl ?_ hHeld ?_
  rotate_left
  · intro w hSw
    try dsimp only at hSw
    go_simp
    all_goals with_reducible rfl
  try simp only [Act.put, List.setIfInBounds_toArray, List.set_cons_zero, List.set_cons_succ]
  refine wpAnyH_takeG (i := 3) (v := ?_) rfl (by kernel_rfl) (by kernel_rfl) (by kernel_rfl) (fun _ _ _ h => h) rfl ?_ hHeld ?_
  rotate_left
  · intro w hSw
    try dsimp only at hSw
    go_simp
    all_goals with_reducible rfl
  try simp only [Act.put, List.setIfInBounds_toArray, List.set_cons_zero, List.set_cons_succ]
  refine wpAnyH_takeG (i := 4) (v := ?_) rfl (by kernel_rfl) (by kernel_rfl) (by kernel_rfl) (fun _ _ _ h => h) rfl ?_ hHeld ?_
  rotate_left
  · intro w hSw
    try dsimp only at hSw
    go_simp
    all_goals with_reducible rfl
  try simp only [Act.put, List.setIfInBounds_toArray, List.set_cons_zero, List.set_cons_succ]
  refine wpAnyH_takeG (i := 5) (v := ?_) rfl (by kernel_rfl) (by kernel_rfl) (by kernel_rfl) (fun _ _ _ h => h) rfl ?_ hHeld ?_
  rotate_left
  · intro w hSw
    try dsimp only at hSw
    go_simp
    all_goals with_reducible rfl
  try simp only [Act.put, List.setIfInBounds_toArray, List.set_cons_zero, List.set_cons_succ]
  refine wpAnyH_takeG (i := 6) (v := ?_) rfl (by kernel_rfl) (by kernel_rfl) (by kernel_rfl) (fun _ _ _ h => h) rfl ?_ hHeld ?_
  rotate_left
  · intro w hSw
    try dsimp only at hSw
    go_simp
    all_goals with_reducible rfl
  try simp only [Act.put, List.setIfInBounds_toArray, List.set_cons_zero, List.set_cons_succ]
  refine wpAnyH_takeG (i := 7) (v := ?_) rfl (by kernel_rfl) (by kernel_rfl) (by kernel_rfl) (fun _ _ _ h => h) rfl ?_ hHeld ?_
  rotate_left
  · intro w hSw
    try dsimp only at hSw
    go_simp
    all_goals with_reducible rfl
  try simp only [Act.put, List.setIfInBounds_toArray, List.set_cons_zero, List.set_cons_succ]
  refine wpAnyH_takeG (i := 8) (v := ?_) rfl (by kernel_rfl) (by kernel_rfl) (by kernel_rfl) (fun _ _ _ h => h) rfl ?_ hHeld ?_
  rotate_left
  · intro w hSw
    try dsimp only at hSw
    go_simp
    all_goals with_reducible rfl
  try simp only [Act.put, List.setIfInBounds_toArray, List.set_cons_zero, List.set_cons_succ]
  refine wpAnyH_takeG (i := 9) (v := ?_) rfl (by kernel_rfl) (by kernel_rfl) (by kernel_rfl) (fun _ _ _ h => h) rfl ?_ hHeld ?_
  rotate_left
  · intro w hSw
    try dsimp only at hSw
    go_simp
    all_goals with_reducible rfl
  try simp only [Act.put, List.setIfInBounds_toArray, List.set_cons_zero, List.set_cons_succ]
  refine wpAnyH_takeG (i := 10) (v := ?_) rfl (by kernel_rfl) (by kernel_rfl) (by kernel_rfl) (fun _ _ _ h => h) rfl ?_ hHeld ?_
  rotate_left
  · intro w hSw
    try dsimp only at hSw
    go_simp
    all_goals with_reducible rfl
  try simp only [Act.put, List.setIfInBounds_toArray, List.set_cons_zero, List.set_cons_succ]
  refine wpAnyH_takeG (i := 11) (v := ?_) rfl (by kernel_rfl) (by kernel_rfl) (by kernel_rfl) (fun _ _ _ h => h) rfl ?_ hHeld ?_
  rotate_left
  · intro w hSw
    try dsimp only at hSw
    go_simp
    all_goals with_reducible rfl
  try simp only [Act.put, List.setIfInBounds_toArray, List.set_cons_zero, List.set_cons_succ]
  refine wpAnyH_step (i := 12) (by kernel_rfl) rfl (fun KK hK => ?_)
  (go_simp)
  refine hK.out _ _ ?_ (fun hHeld => ?_)
  · (trivial)
  clear hK KK
  try simp only [Act.put, List.setIfInBounds_toArray, List.set_cons_zero, List.set_cons_succ]
  refine wpAnyH_takeG (i := 13) (v := ?_) rfl (by kernel_rfl) (by kernel_rfl) (by kernel_rfl) (fun _ _ _ h => h) rfl ?_ hHeld ?_
  rotate_left
  · intro w hSw
    try dsimp only at hSw
    go_simp
    all_goals with_reducible rfl
  try simp only [Act.put, List.setIfInBounds_toArray, List.set_cons_zero, List.set_cons_succ]
  refine wpAnyH_step (i := 14) (by kernel_rfl) rfl (fun KK hK => ?_)
  (go_simp)
  refine hK.out _ _ ?_ (fun hHeld => ?_)
  · (trivial)
  clear hK KK
  try simp only [Act.put, List.setIfInBounds_toArray, List.set_cons_zero, List.set_cons_succ]
  refine wpAnyH_takeG (i := 15) (v := ?_) rfl (by kernel_rfl) (by kernel_rfl) (by kernel_rfl) (fun _ _ _ h => h) rfl ?_ hHeld ?_
  rotate_left
  · intro w hSw
    try dsimp only at hSw
    go_simp
    all_goals with_reducible rfl
  try simp only [Act.put, List.setIfInBounds_toArray, List.set_cons_zero, List.set_cons_succ]
  refine wpAnyH_done (by kernel_rfl) ?_ _
  go_upto_region 5 with (fail)
  have e2 : (IntKind.i64.wrap (q2 : Int)).tmod (P : Int) = (i : Int) := by rw [IntWalk.i64_in _ (by omega), Int.tmod_eq_emod_of_nonneg (by omega), hi]
  have e3 : (IntKind.i64.wrap (q3 : Int)).tmod (P : Int) = (t : Int) := by rw [IntWalk.i64_in _ (by omega), Int.tmod_eq_emod_of_nonneg (by omega), ht]
  have e4 : IntKind.i64.wrap (1 + (IntKind.i64.wrap (q4 : Int)).tmod 4) = (r : Int) := by rw [IntWalk.i64_in (q4 : Int) (by omega), Int.tmod_eq_emod_of_nonneg (by omega), hr, IntWalk.i64_in _ (by omega)]
  rw [e2, e3, e4]
  clear e2 e3 e4 hi ht hr u2 u3 u4 l2 l3 l4 hPn
  obtain ⟨ob, hob⟩ : ∃ ob, ob = w1.heap.size := ⟨_, rfl⟩
  obtain ⟨w2, hw2⟩ : ∃ w2, w2 = (w1.alloc (.cells #[.int .i64 (t : Int)] 3)).drew := ⟨_, rfl⟩
  have O2 : Hid (Blk w2 ob 3 [.int .i64 (t : Int)]) := Lib.hid (by rw [hw2, hob]; exact (Blk.new w1 3 [.int .i64 (t : Int)]).drew)
  have B2 : Hid (Below W.heap.size W w2) := Lib.hid (by rw [hw2]; exact (B1.out.alloc B1.out.size _).trans ((Qt.refl _).drew.bel.mono (by have := B1.out.size; simp; omega)))
  have hobW : W.heap.size ≤ ob := by rw [hob]; exact B1.out.size
  rw [← hw2, ← hob]
  clear hw2 hob B1
  have hmr := fun w => mk_rooms w K (by omega)
  go_upto_region 6 with (fail)
  clear hmr
  have R2 : Hid (RoAt W ob t w2.heap.size K 0 (w2.alloc (.cells ((List.range K).map (rmV 0)).toArray 3))) := Lib.hid ⟨Blk.new w2 _ _, O2.out.alloc _, B2.out.alloc B2.out.size _⟩
  have hrb := B2.out.size
  obtain ⟨rb, hrbe⟩ : ∃ rb, rb = w2.heap.size := ⟨_, rfl⟩
  rw [← hrbe] at R2 hrb ⊢
  have HRB := Lib.hid hrbe
  have hne : ob ≠ rb := by
    have := O2.out.lt
    omega
  clear hrbe B2 O2
  go_wp2_with fail
  go_loopw [52] (fun iv wr => TnRel K (RoAt W ob t rb K) iv wr) (fun iv _ => K - (intOf iv).toNat)
  case atStart => exact ⟨0, Nat.zero_le _, rfl, R2.out⟩
  case round =>
    clear R2
    obtain ⟨c, hc, rfl, hR⟩ := hrel
    have RR := Lib.hid hR
    clear hR
    by_cases hlt : c < K
    · have hci : (c : Int) < (K : Int) := by omega
      have c0 := RR.out.1.cell (fun_get (rmV c) hlt)
      have c1 := RR.out.1.free c
      have R3 : Hid (RoAt W ob t rb K (c + 1) (wr.setCell ⟨rb, c, none⟩ (.int .i64 4))) := Lib.hid ⟨by
        have := RR.out.1.set c (.int .i64 4)
        rw [rm_step hlt] at this
        exact this, RR.out.2.1.setO _ hne, RR.out.2.2.setCell (p := ⟨rb, c, none⟩) hrb _⟩
      unfold rmV at c0
      go_wp2_with fail
      go_roundw
      case rel => exact ⟨c + 1, by omega, by go_num, R3.out⟩
      case measure => simp [intOf]; omega
    · obtain rfl : c = K := by omega
      have SL : Hid (SlI wr (some ⟨rb, 0, none⟩) (List.replicate c (4 : Int))) := Lib.hid (Blk.sl (T := 3) (by
        have e : (List.replicate c (4 : Int)).map (Value.int .i64) = (List.range c).map (rmV c) := by
          rw [fun_const]
          apply List.map_congr_left
          intro j hj
          unfold rmV
          rw [if_pos (List.mem_range.1 hj)]
        rw [e]
        exact RR.out.1))
      have hok : OkBox (P : Int) (List.replicate c (4 : Int)) := ⟨by omega, by omega, by simp; omega, by simp; omega, fun z hz => by rw [List.eq_of_mem_replicate hz]; decide⟩
      have NY : Hid (Calls Try.prog 15 #[.int .i64 P, .slice (some ⟨rb, 0, none⟩) c c] wr (NewYes wr P (List.replicate c (4 : Int)))) := Lib.hid (by
        have := new_yes wr P (some ⟨rb, 0, none⟩) c (List.replicate c (4 : Int)) SL.out hok
        rw [List.length_replicate] at this
        exact this)
      have OB := Lib.hid RR.out.2.1
      have BB := Lib.hid RR.out.2.2
      clear hok SL RR
      go_wp2_with fail
      refine NY.out.mono ?_
      rintro e w3 ⟨L, rfl, hx, hb⟩
      rw [List.length_replicate] at hx
      obtain ⟨base, hbase⟩ : ∃ base, base = wr.heap.size := ⟨_, rfl⟩
      rw [← hbase] at hx
      obtain ⟨bb, hbb⟩ : ∃ bb, bb = L.bb := ⟨_, rfl⟩
      have A0 : Hid (TnAt W base P c bb ob t none (ArrI P c i t r 0 0) w3) := Lib.hid ⟨L, mdNew (List.replicate c 4), ArrI.start P c i t r (fun c' hc' => by simp [hc']), tn_start hx (OB.out.upd (Upd.of_below (S := fun _ => False) hb) id) hobW (by rw [hbase]; exact OB.out.lt), hbb.symm, BB.out.trans (hb.mono BB.out.size)⟩
      have hWb : W.heap.size ≤ base := by rw [hbase]; exact BB.out.size
      rw [← hbb]
      clear hbb hx hb hbase OB BB NY
      go_wp2_with fail
      go_loopw [72] (fun iv wr => TnRel c (fun k => TnAt W base P c bb ob t none (ArrI P c i t r k 0)) iv wr) (fun iv _ => c - (intOf iv).toNat)
      case atStart => exact ⟨0, Nat.zero_le _, rfl, A0.out⟩
      case round =>
        clear A0
        obtain ⟨k, hk, rfl, hA⟩ := hrel
        have A1 := Lib.hid hA
        clear hA
        by_cases hlk : k < c
        · have hki : (k : Int) < (c : Int) := by omega
          go_wp2_with fail
          go_loopw [76] (fun iv wr => TnRel r (fun q => TnAt W base P c bb ob t none (ArrI P c i t r k q)) iv wr) (fun iv _ => r - (intOf iv).toNat)
          case atStart => exact ⟨0, Nat.zero_le _, rfl, A1.out⟩
          case round =>
            clear A1
            obtain ⟨q, hq, rfl, hA⟩ := hrel
            obtain ⟨L1, M1, hI, hC, hLb, hB⟩ := hA
            have AI := Lib.hid hI; have CC := Lib.hid hC; have LB := Lib.hid hLb; have BB := Lib.hid hB
            clear hI hC hLb hB
            by_cases hlq : q < r
            · have hqi : (q : Int) < (r : Int) := by omega
              have hbs := (CC.out.bx.lt ⟨.box, _, rfl, rfl⟩)
              have AR : Hid (Calls Try.prog 16 #[.pointer (some ⟨bb, 0, none⟩), .int .i64 i, .agg #[.int .i64 0, .int .i64 0, .int .i64 0, .int .i64 k, .int .i64 0, .slice none 0 0]] wr fun e w' => ∃ v, e = .returned (.int .i64 0) ∧ BxPost wr base P c L1 M1 (locQ L1 i k v) (mdQ M1 i k (M1.q i k ++ [frT k]) (recX (M1.gv i k))) w') := Lib.hid (by
                have := arrive_yes i k (frT k) rfl CC.out.bx hiP hlk (AI.out.room hlk hlq r4).1 (AI.out.room hlk hlq r4).2 (by omega)
                rw [LB.out] at this
                exact this)
              clear hbs
              go_wp2_with fail
              refine AR.out.mono ?_
              rintro e w4 ⟨v, rfl, hp4⟩
              have A2 : Hid (TnAt W base P c bb ob t none (ArrI P c i t r k (q + 1)) w4) := Lib.hid ⟨_, _, AI.out.arr hiP hlk hlq r4, CC.out.box hp4, LB.out, hp4.bel CC.out.bx BB.out hWb BB.out.size⟩
              clear hp4 AR CC AI LB BB
              go_wp2_with fail
              go_roundw
              case rel => exact ⟨q + 1, by omega, by go_num, A2.out⟩
              case measure => simp [intOf]; omega
            · obtain rfl : q = r := by omega
              obtain ⟨er, hai⟩ := AI.out.rai hlk
              have RS := raise_yes t k 4 CC.out.bx htP hlk
              rw [er, LB.out] at RS
              have RA := Lib.hid RS
              have AJ := Lib.hid hai
              have o0 := (show Blk wr ob 3 [.int .i64 (t : Int)] from CC.out.st.blk (r := true) rfl).cell (i := 0) rfl
              clear RS hai er
              go_wp2_with fail
              refine RA.out.mono ?_
              rintro e w4 ⟨rfl, hp4⟩
              have A2 : Hid (TnAt W base P c bb ob t none (ArrI P c i t q (k + 1) 0) w4) := Lib.hid ⟨_, _, AJ.out, CC.out.box hp4, LB.out, hp4.bel CC.out.bx BB.out hWb BB.out.size⟩
              clear hp4 RA CC AI AJ LB BB o0
              go_wp2_with fail
              go_roundw
              case rel => exact ⟨k + 1, by omega, by go_num, A2.out⟩
              case measure => simp [intOf]; omega
        · obtain rfl : k = c := by omega
          have A3 : Hid (TnAt W base P k bb ob t none (TrnI P k i t r 0 0) wr) := Lib.hid (by
            obtain ⟨L1, M1, hI, hC, hLb, hB⟩ := A1.out
            exact ⟨L1, M1, hI.done (by omega), hC, hLb, hB⟩)
          clear A1
          go_wp2_with fail
          go_loopw [92] (fun iv wr => TnRel r (fun R => TnAt W base P k bb ob t none (TrnI P k i t r R 0)) iv wr) (fun iv _ => r - (intOf iv).toNat)
          case atStart => exact ⟨0, Nat.zero_le _, rfl, A3.out⟩
          case round =>
            clear A3
            obtain ⟨R, hR, rfl, hA⟩ := hrel
            have A4 := Lib.hid hA
            clear hA
            by_cases hlR : R < r
            · have hRi : (R : Int) < (r : Int) := by omega
              have hms := fun w => mk_seen w k (by omega)
              go_upto_region 28 with (fail)
              clear hms
              obtain ⟨sb, hsb⟩ : ∃ sb, sb = wr.heap.size := ⟨_, rfl⟩
              have A5 : Hid (TnAt W base P k bb ob t (some (sb, (List.range k).map (snV 0))) (TrnI P k i t r R 0) (wr.alloc (.cells ((List.range k).map (snV 0)).toArray 4))) := Lib.hid (by
                obtain ⟨L1, M1, hI, hC, hLb, hB⟩ := A4.out
                refine ⟨L1, M1, hI, (hC.new false rfl 4 ((List.range k).map (snV 0)) hB.size).congr (fun x => ?_), hLb, hB.alloc hB.size _⟩
                rw [hsb]
                cases x <;> rfl)
              rw [← hsb]
              clear hsb A4
              go_wp2_with fail
              go_loopw [97] (fun iv wr => TnRel k (fun j => TnAt W base P k bb ob t (some (sb, (List.range k).map (snV j))) (TrnI P k i t r R j)) iv wr) (fun iv _ => k - (intOf iv).toNat)
              case atStart => exact ⟨0, Nat.zero_le _, rfl, A5.out⟩
              case round =>
                clear A5
                obtain ⟨j, hj, rfl, hA⟩ := hrel
                by_cases hlj : j < k
                · obtain ⟨L1, M1, hI, hC, hLb, hB⟩ := hA
                  have TI := Lib.hid hI; have CC := Lib.hid hC; have LB := Lib.hid hLb; have BB := Lib.hid hB
                  have hbs := hC.bx.lt (k := L1.bb) ⟨.box, _, rfl, rfl⟩
                  have ST := step_ok (turn1_route ob t) hC.bx (hC.st.blk (r := true) rfl) (by omega)
                  rw [hLb] at ST
                  have SO := Lib.hid ST
                  clear hI hC hLb hB ST hbs
                  have hji : (j : Int) < (k : Int) := by omega
                  have hmf : ∀ (fn : Fn) (first cap : Array Value) (w : World), (Instr.makeFunc fn first cap).run Try.prog w = .ok (.func fn first cap) w := fun _ _ _ _ => rfl
                  go_wp2_with fail
                  clear hmf
                  refine SO.out.mono ?_
                  rintro e w4 hq4
                  obtain ⟨f, l, hfl⟩ := TI.out.first hlj hlR
                  obtain ⟨L4, a1, c1, a2, c2, g, a, rfl, ho1, ho2, hp4, hb4⟩ := aw_one htP hiP hlj TI.out.q0 hfl (TI.out.left hlj hlR r4) (TI.out.cls htP hlj hlR r4) hq4
                  have T2 := Lib.hid ((TI.out.ga g a).step hiP hlj hlR r4)
                  have C2 := Lib.hid (CC.out.box hp4)
                  have B2 := Lib.hid (hp4.bel CC.out.bx BB.out hWb BB.out.size)
                  have L2 := Lib.hid (hb4.trans LB.out)
                  obtain ⟨k1, m0⟩ := ownC_cell mvC_len (by decide) ho1 (j := 0) (p := ⟨i, j, t⟩) rfl (k := 0) (by decide) rfl
                  obtain ⟨_, m1⟩ := ownC_cell mvC_len (by decide) ho1 (j := 0) (p := ⟨i, j, t⟩) rfl (k := 1) (by decide) rfl
                  obtain ⟨_, m2⟩ := ownC_cell mvC_len (by decide) ho1 (j := 0) (p := ⟨i, j, t⟩) rfl (k := 2) (by decide) rfl
                  simp only [Nat.zero_mul, Nat.zero_add] at m0 m1 m2
                  have o0 := (show Blk w4 ob 3 [.int .i64 (t : Int)] from C2.out.st.blk (r := true) rfl).cell (i := 0) rfl
                  have s0 := (show Blk w4 sb 4 ((List.range k).map (snV j)) from C2.out.st.blk (r := false) rfl).cell (fun_get (snV j) hlj)
                  have s1 := (show Blk w4 sb 4 ((List.range k).map (snV j)) from C2.out.st.blk (r := false) rfl).free j
                  have e0 : snV j j = .bool false := by unfold snV; simp
                  rw [e0] at s0
                  clear e0 ho1 ho2 hp4 hb4 hq4 hfl SO CC TI LB BB
                  go_upto_region 31 with (fail)
                  have hj0 : (0 : Int) ≤ (j : Int) := by omega
                  go_quiet (fail)
                  obtain ⟨w5, hw5⟩ : ∃ w5, w5 = w4.drewN nq := ⟨_, rfl⟩
                  rw [← hw5]
                  have q5 : Below w4.heap.size w4 w5 := by rw [hw5]; exact ((Qt.refl w4).drewN nq).bel
                  have C3 := Lib.hid (C2.out.below q5)
                  have B3 := Lib.hid (B2.out.trans (q5.mono B2.out.size))
                  have n1 : w5.cell? (adr a1 1) = some (.int .i64 j) := by rw [hw5]; exact m1
                  have n2 : w5.cell? ⟨sb, j, none⟩ = some (.bool false) := by rw [hw5]; exact s0
                  have n3 : w5.frozen? ⟨sb, j, none⟩ = false := by rw [hw5]; exact s1
                  have n0 : w5.cell? (adr a1 0) = some (.int .i64 i) := by rw [hw5]; exact m0
                  have n4 : w5.cell? (adr a1 2) = some (.int .i64 t) := by rw [hw5]; exact m2
                  clear hw5 q5 m0 m1 m2 s0 s1 o0 C2 B2
                  have A6 : Hid (TnAt W base P k bb ob t (some (sb, (List.range k).map (snV (j + 1)))) (TrnI P k i t r R (j + 1)) (w5.setCell ⟨sb, j, none⟩ (.bool true))) := Lib.hid (by
                    refine ⟨L4, _, T2.out, (C3.out.store (r := false) (k := sb) (T := 4) (i := j) (v := .bool true) rfl (sn_step hlj)).congr (fun x => ?_), L2.out, ?_⟩
                    · cases x <;> rfl
                    · exact B3.out.setCell (p := ⟨sb, j, none⟩) (C3.out.st.lt (k := sb) ⟨false, _, rfl, rfl⟩).1 _)
                  clear C3 B3 T2 L2
                  go_wp2_with fail
                  go_roundw
                  case rel => exact ⟨j + 1, by omega, by go_num, A6.out⟩
                  case measure => simp [intOf]; omega
                · obtain rfl : j = k := by omega
                  have A6 : Hid (TnAt W base P j bb ob t none (TrnI P j i t r (R + 1) 0) wr) := Lib.hid (by
                    obtain ⟨L1, M1, hI, hC, hLb, hB⟩ := hA
                    exact ⟨L1, M1, hI.roll (by omega), hC.sub (fun x p hp => by cases x <;> first | exact hp | cases hp), hLb, hB⟩)
                  clear hA
                  go_wp2_with fail
                  go_roundw
                  case rel => exact ⟨R + 1, by omega, by go_num, A6.out⟩
                  case measure => simp [intOf]; omega
            · obtain rfl : R = r := by omega
              obtain ⟨L1, M1, hI, hC, hLb, hB⟩ := A4.out
              have TI := Lib.hid hI; have CC := Lib.hid hC; have LB := Lib.hid hLb; have BB := Lib.hid hB
              have hbs := hC.bx.lt (k := L1.bb) ⟨.box, _, rfl, rfl⟩
              have ST := step_ok (turn2_route ob t) hC.bx (hC.st.blk (r := true) rfl) (by omega)
              rw [hLb] at ST
              have SO := Lib.hid ST
              clear hI hC hLb hB ST hbs A4
              have hmf : ∀ (fn : Fn) (first cap : Array Value) (w : World), (Instr.makeFunc fn first cap).run Try.prog w = .ok (.func fn first cap) w := fun _ _ _ _ => rfl
              go_wp2_with fail
              clear hmf
              refine SO.out.mono ?_
              rintro e w4 hq4
              obtain ⟨L4, a1, c1, a2, c2, g, a, rfl, hp4, hb4⟩ := aw_idle htP TI.out.done hq4
              have LM := limit_yes i 0 hp4.1 hiP (by omega)
              rw [hb4, LB.out, show ({ M1 with g := g, a := a } : Md).gv i 0 = ⟨4, (R : Nat), (cntT R 0 0 : Nat)⟩ from TI.out.gv 0 (by omega)] at LM
              have e0 : cntT R 0 0 = R := by unfold cntT; rw [if_neg (by omega)]; rfl
              rw [e0] at LM
              have LT := Lib.hid LM
              have B2 := Lib.hid (hp4.bel CC.out.bx BB.out hWb BB.out.size)
              clear LM e0 hp4 hb4 hq4 SO CC TI BB LB
              have hw4 : IntKind.i64.wrap (4 + (R : Int)) = 4 + (R : Int) := by rw [IntWalk.i64_in _ (by omega)]
              go_wp2_with fail
              refine LT.out.mono ?_
              rintro e w5 ⟨rfl, hb5⟩
              have B3 := Lib.hid (B2.out.trans (hb5.mono B2.out.size))
              clear hb5
              go_wp2_with fail
              go_ret
              exact ⟨rfl, B3.out⟩
end Go.Proofs.Ytkooihniieepcaa
