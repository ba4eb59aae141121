/-
  Contract of rational.Cmp.
-/
import Derived.Test.YtbdaehcngmhhcaaRes
import Derived.Test.YtbdaehcngmhhcaaPar
import Derived.Shelf.Abstract
namespace Go.Proofs.Ytbdaehcngmhhcaa
open Go.RowKit
set_option linter.unusedVariables false

theorem size_drewQ (w : World) : w.drew.heap.size = w.heap.size := rfl
theorem ltQ {b n m : Nat} (h : b < n) (k : n ≤ m) : b < m ∧ b < m + 1 ∧ b < m + 1 + 1 ∧ b < m + 2 := by omega
def cmpI (x y : Int) : Int := if x < y then -1 else if x = y then 0 else 1
def Rq.cmp (a b : Rq) : Int := cmpI (a.n * b.D) (b.n * a.D)
theorem cmpW_eq (x y : Nat) : cmpW (x / 18446744073709551616) (x % 18446744073709551616) (y / 18446744073709551616) (y % 18446744073709551616) = cmpI x y := by
  unfold cmpW cmpI
  split
  · rw [if_pos (by omega)]
  · split
    · rw [if_neg (by omega), if_pos (by omega)]
    · rw [if_neg (by omega), if_neg (by omega)]
theorem cmp_signs (a b : Rq) (ha : a.V) (hb : b.V) : a.cmp b =
    (if decide (a.n < 0) then (if decide (b.n < 0) then cmpI (b.n.natAbs * a.D : Nat) (a.n.natAbs * b.D : Nat) else -1) else if decide (b.n < 0) then 1 else cmpI (a.n.natAbs * b.D : Nat) (b.n.natAbs * a.D : Nat)) := by
  have h1 : (0 : Int) < a.D := by have := ha.pos; omega
  have h2 : (0 : Int) < b.D := by have := hb.pos; omega
  unfold Rq.cmp
  generalize (a.D : Nat) = x at *
  generalize (b.D : Nat) = y at *
  simp only [decide_eq_true_eq, Int.natCast_mul]
  by_cases ha : a.n < 0
  · have e1 : ((a.n.natAbs : Nat) : Int) = -a.n := by omega
    have k1 : a.n * (y : Int) < 0 := Int.mul_neg_of_neg_of_pos ha h2
    rw [if_pos ha]
    by_cases hb : b.n < 0
    · have e2 : ((b.n.natAbs : Nat) : Int) = -b.n := by omega
      rw [if_pos hb, e1, e2, Int.neg_mul, Int.neg_mul]
      unfold cmpI
      generalize a.n * (y : Int) = u at *
      generalize b.n * (x : Int) = v at *
      by_cases h : u < v
      · rw [if_pos h, if_pos (by omega)]
      · by_cases h' : u = v
        · rw [if_neg h, if_pos h', if_neg (by omega), if_pos (by omega)]
        · rw [if_neg h, if_neg h', if_neg (by omega), if_neg (by omega)]
    · have k2 : 0 ≤ b.n * (x : Int) := Int.mul_nonneg (by omega) (by omega)
      rw [if_neg hb]
      unfold cmpI
      rw [if_pos (by omega)]
  · have e1 : ((a.n.natAbs : Nat) : Int) = a.n := by omega
    have k1 : 0 ≤ a.n * (y : Int) := Int.mul_nonneg (by omega) (by omega)
    rw [if_neg ha]
    by_cases hb : b.n < 0
    · have k2 : b.n * (x : Int) < 0 := Int.mul_neg_of_neg_of_pos hb h1
      rw [if_pos hb]
      unfold cmpI
      rw [if_neg (by omega), if_neg (by omega)]
    · have e2 : ((b.n.natAbs : Nat) : Int) = b.n := by omega
      rw [if_neg hb, e1, e2]
theorem Rq.D_eq (a : Rq) (h : a.ok = true) : (a.D : Int) = if a.d = 0 then 1 else a.d := by
  have := Rq.ok_bd h
  unfold Rq.D
  split
  · rfl
  · omega
theorem B2.S {w wx : World} {T : TypeId} {n d m e : Int} (h : B2 w wx T T [.int .i64 n, .int .i64 d] [.int .i64 m, .int .i64 e]) :
    wx.cell? ⟨w.heap.size, 0, none⟩ = some (.int .i64 n) ∧ wx.cell? ⟨w.heap.size, 1, none⟩ = some (.int .i64 d) ∧ wx.cell? ⟨w.heap.size + 1, 0, none⟩ = some (.int .i64 m) ∧ wx.cell? ⟨w.heap.size + 1, 1, none⟩ = some (.int .i64 e) ∧ B2 w wx T T [.int .i64 n, .int .i64 d] [.int .i64 m, .int .i64 e] :=
  ⟨h.a.cell rfl, h.a.cell rfl, h.b.cell rfl, h.b.cell rfl, h⟩
/-- What the operations of Cmp's two products leave. -/
def CmpV (w0 : World) (p q xh xl yh yl : Nat) (gx gy : Bool) (i : Nat) (v : Value) (w : World) : Prop :=
  if i = 4 then v = .int .u64 q else if i = 5 then v = .agg #[.bool gx, .int .u64 xh, .int .u64 xl] else if i = 10 then v = .int .u64 p else if i = 11 then v = .agg #[.bool gy, .int .u64 yh, .int .u64 yl]
  else ∃ b, v = .pointer (some ⟨b, 0, none⟩) ∧ w0.heap.size + 1 < b ∧ Blk w b 51 [.bool false, .int .u64 0, .int .u64 0]
theorem CmpV.ext {w0 : World} {p q xh xl yh yl : Nat} {gx gy : Bool} {i : Nat} {v : Value} {w w' : World} (hb : Below w.heap.size w w') (h : CmpV w0 p q xh xl yh yl gx gy i v w) : CmpV w0 p q xh xl yh yl gx gy i v w' := by
  unfold CmpV at *
  repeat' split
  all_goals simp only [*, if_true, if_false] at h
  all_goals first | exact h | (obtain ⟨b, h1, h2, h3⟩ := h; exact ⟨b, h1, h2, h3.bel hb⟩)
theorem CmpV.apt {w0 : World} {p q xh xl yh yl : Nat} {gx gy : Bool} {i : Nat} {v : Value} {w : World} (h : CmpV w0 p q xh xl yh yl gx gy i v w) : Apt (.pointer (some ⟨w.heap.size, 0, none⟩)) v := by
  intro b c hb hc
  injection hb with hb; injection hb with hb; injection hb with hb
  subst hb
  subst hc
  unfold CmpV at h
  by_cases e4 : i = 4
  · rw [if_pos e4] at h; cases h
  by_cases e5 : i = 5
  · rw [if_neg e4, if_pos e5] at h; cases h
  by_cases e10 : i = 10
  · rw [if_neg e4, if_neg e5, if_pos e10] at h; cases h
  by_cases e11 : i = 11
  · rw [if_neg e4, if_neg e5, if_neg e10, if_pos e11] at h; cases h
  rw [if_neg e4, if_neg e5, if_neg e10, if_neg e11] at h
  obtain ⟨x, h1, h2, h3⟩ := h
  injection h1 with h1; injection h1 with h1; injection h1 with h1
  have := h3.lt
  omega
def CmpE (w w' : World) : Prop := Below w.heap.size w w'
def st6 (wp : World) (b5 b6 : Nat) (gx : Bool) (xh xl : Nat) (gy : Bool) (yh yl : Nat) : World := ((((((wp.setCell ⟨b5, 0, none⟩ (.bool gx)).setCell ⟨b5, 1, none⟩ (.int .u64 xh)).setCell ⟨b5, 2, none⟩ (.int .u64 xl)).setCell ⟨b6, 0, none⟩ (.bool gy)).setCell ⟨b6, 1, none⟩ (.int .u64 yh)).setCell ⟨b6, 2, none⟩ (.int .u64 yl))
structure St6 (w W : World) (b5 b6 : Nat) (gx : Bool) (xh xl : Nat) (gy : Bool) (yh yl : Nat) : Prop where
  a : Blk W b5 51 [.bool gx, .int .u64 xh, .int .u64 xl]
  b : Blk W b6 51 [.bool gy, .int .u64 yh, .int .u64 yl]
  u : Below w.heap.size w W
theorem st6_ok {w wp : World} {b5 b6 : Nat} (gx : Bool) (xh xl : Nat) (gy : Bool) (yh yl : Nat) (hne : b5 ≠ b6) (l5 : w.heap.size + 1 < b5) (l6 : w.heap.size + 1 < b6) (u : Below w.heap.size w wp)
    (B5 : Blk wp b5 51 [.bool false, .int .u64 0, .int .u64 0]) (B6 : Blk wp b6 51 [.bool false, .int .u64 0, .int .u64 0]) : St6 w (st6 wp b5 b6 gx xh xl gy yh yl) b5 b6 gx xh xl gy yh yl := by
  have hne' := hne.symm
  refine ⟨?_, ?_, ?_⟩
  · exact ((((((B5.set 0 (.bool gx)).set 1 (.int .u64 xh)).set 2 (.int .u64 xl)).setO (a := ⟨b6, 0, none⟩) (.bool gy) hne).setO (a := ⟨b6, 1, none⟩) (.int .u64 yh) hne).setO (a := ⟨b6, 2, none⟩) (.int .u64 yl) hne)
  · exact ((((((B6.setO (a := ⟨b5, 0, none⟩) (.bool gx) hne').setO (a := ⟨b5, 1, none⟩) (.int .u64 xh) hne').setO (a := ⟨b5, 2, none⟩) (.int .u64 xl) hne').set 0 (.bool gy)).set 1 (.int .u64 yh)).set 2 (.int .u64 yl))
  · exact (((((u.setCell (by dsimp only; omega) _).setCell (by dsimp only; omega) _).setCell (by dsimp only; omega) _).setCell (by dsimp only; omega) _).setCell (by dsimp only; omega) _).setCell (by dsimp only; omega) _
def CmpCut (w : World) (n d m e : Int) (wx : World) : Prop := B2 w wx 29 29 [.int .i64 n, .int .i64 d] [.int .i64 m, .int .i64 e]
set_option maxRecDepth 100000 in
set_option maxHeartbeats 1000000 in
theorem cmp_any (a b : Rq) (w : World) (ha : a.ok = true) (hb : b.ok = true) :
    Calls Try.prog 32 #[rV a, rV b] w fun e w' => e = .returned (.int .i64 (a.cmp b)) ∧ Below w.heap.size w w' := by
  rw [cmp_signs a b (Rq.ok_V ha) (Rq.ok_V hb), ← cmpW_eq, ← cmpW_eq]
  have bda := Rq.ok_bd ha
  have bdb := Rq.ok_bd hb
  have ea := a.D_eq ha
  have eb := b.D_eq hb
  unfold maxN at bda bdb
  have V1 := fun w => valid_any a.n a.d w (by omega) (by omega)
  have V2 := fun w => valid_any b.n b.d w (by omega) (by omega)
  have ha' : Rq.ok ⟨a.n, a.d⟩ = true := ha
  have hb' : Rq.ok ⟨b.n, b.d⟩ = true := hb
  rw [ha'] at V1
  rw [hb'] at V2
  have N1 := fun w => normal_any a.n a.d w
  have N2 := fun w => normal_any b.n b.d w
  rw [← ea] at N1
  rw [← eb] at N2
  have lA : a.D ≤ 1152921504606846976 := by split at ea <;> omega
  have lB : b.D ≤ 1152921504606846976 := by split at eb <;> omega
  have Z1 := fun w => (size_any a.D w (by omega) (by omega)).mono fun e w' h => (⟨h.1, h.2.symm⟩ : _ ∧ w' = w)
  have Z2 := fun w => (size_any b.D w (by omega) (by omega)).mono fun e w' h => (⟨h.1, h.2.symm⟩ : _ ∧ w' = w)
  rw [Int.natAbs_natCast] at Z1 Z2
  have P1 := fun w => product_any a.n b.D w (by omega) (by omega) (by omega)
  have P2 := fun w => product_any b.n a.D w (by omega) (by omega) (by omega)
  unfold wV at P1 P2
  have C1 := fun xh xl yh yl w => compare_any false false xh xl yh yl w
  have C2 := fun xh xl yh yl w => compare_any true true xh xl yh yl w
  unfold wV at C1 C2
  generalize a.n.natAbs * b.D / 18446744073709551616 = xh at *
  generalize a.n.natAbs * b.D % 18446744073709551616 = xl at *
  generalize b.n.natAbs * a.D / 18446744073709551616 = yh at *
  generalize b.n.natAbs * a.D % 18446744073709551616 = yl at *
  generalize decide (a.n < 0) = gx at *
  generalize decide (b.n < 0) = gy at *
  clear ea eb lA lB bda bdb ha' hb' ha hb
  unfold rV
  obtain ⟨n, d⟩ := a
  obtain ⟨m, f⟩ := b
  dsimp only at *
  generalize Rq.D ⟨n, d⟩ = p at *
  generalize Rq.D ⟨m, f⟩ = q at *
  replace V1 := Lib.hid V1; replace V2 := Lib.hid V2; replace N1 := Lib.hid N1; replace N2 := Lib.hid N2; replace Z1 := Lib.hid Z1; replace Z2 := Lib.hid Z2; replace P1 := Lib.hid P1; replace P2 := Lib.hid P2; replace C1 := Lib.hid (C1 xh xl yh yl); replace C2 := Lib.hid (C2 yh yl xh xl)
  have M2 := Lib.hid (fun c1 c2 => B2.mk_ w 29 29 c1 c2)
  go_enter Try.func32, Try.ntmps32
  go_wp2_with fail
  refine (V1.out _).mono ?_
  rintro e w1 ⟨rfl, hb⟩
  have T := Lib.hid ((M2.out _ _).bel hb)
  clear hb M2
  obtain ⟨c0, c1, d0, d1, -⟩ := T.out.S
  go_wp2_with fail
  refine (V2.out _).mono ?_
  rintro e w2 ⟨rfl, hb⟩
  have T2 := Lib.hid (T.out.bel hb)
  clear hb T c0 c1 d0 d1
  go_upto_region 3 with (fail)
  go_cut [] (fun wx => CmpCut w n p m q wx)
  case first =>
    have TT := T2.out.qt (Qt.refl w2).drew
    obtain ⟨c0, c1, d0, d1, -⟩ := T2.out.S
    have f0 := TT.a.free
    have f1 := TT.b.free
    go_region_with (first | (go_at_call 16; (with_reducible refine (N1.out _).mono ?_); rintro e w4 ⟨rfl, hb⟩; have TT := B2.bel (by with_reducible assumption) hb; obtain ⟨c0, c1, d0, d1, -⟩ := TT.S; have f0 := TT.a.free; have f1 := TT.b.free) | (go_at_call 16; (with_reducible refine (N2.out _).mono ?_); rintro e w4 ⟨rfl, hb⟩; have TT := B2.bel (by with_reducible assumption) hb; obtain ⟨c0, c1, d0, d1, -⟩ := TT.S; have f0 := TT.a.free; have f1 := TT.b.free))
    all_goals
      go_wp2_with fail
      go_meet
      have z := TT.lt
      have B := TT.u
      exact ⟨(((TT.a.set 0 _).set 1 _).setO _ (by dsimp only; omega)).setO _ (by dsimp only; omega), (((TT.b.setO _ (by dsimp only; omega)).setO _ (by dsimp only; omega)).set 0 _).set 1 _, by (repeat' (first | with_reducible assumption | with_reducible exact Below.refl _ _ | with_reducible refine Below.drewQ ?_ | with_reducible refine Below.drewNQ ?_ _ | with_reducible refine Below.setCell ?_ (by dsimp only; omega) _ | with_reducible refine Below.alloc ?_ (by simp <;> omega) _))⟩
  case rest =>
    have T3 := Lib.hid hcut
    clear T2 hcut
    have TT : B2 w wc 29 29 [.int .i64 n, .int .i64 p] [.int .i64 m, .int .i64 q] := T3.out
    obtain ⟨c0, c1, d0, d1, -⟩ := TT.S
    have TT' := TT.qt (Qt.refl wc).drew
    go_wp2_with fail
    clear V1 V2 N1 N2
    refine wp_region_allH (fun wx => wx.cell? ⟨w.heap.size, 0, none⟩ = some (.int .i64 n) ∧ wx.cell? ⟨w.heap.size, 1, none⟩ = some (.int .i64 p) ∧ wx.cell? ⟨w.heap.size + 1, 0, none⟩ = some (.int .i64 m) ∧ wx.cell? ⟨w.heap.size + 1, 1, none⟩ = some (.int .i64 q) ∧ B2 w wx 29 29 [.int .i64 n, .int .i64 p] [.int .i64 m, .int .i64 q]) 16 (by kernel_rfl) rfl ?_ (fun hHeld => ?_)
    · (exact TT'.S)
    refine wpAnyH_takeG (i := 0) (v := ?_) rfl (by kernel_rfl) (by kernel_rfl) (by kernel_rfl) (fun _ _ _ h => h) rfl ?_ hHeld ?_
    rotate_left
    · intro w hSw
      try dsimp only at hSw
      go_simp
      all_goals with_reducible rfl
    try simp only [Act.put, List.setIfInBounds_toArray, List.set_cons_zero, List.set_cons_succ]
    refine wpAnyH_takeG (i := 1) (v := ?_) rfl (by kernel_rfl) (by kernel_rfl) (by kernel_rfl) (fun _ _ _ h => h) rfl ?_ hHeld ?_
    rotate_left
    · intro w hSw
      try dsimp only at hSw
      go_simp
      all_goals with_reducible rfl
    try simp only [Act.put, List.setIfInBounds_toArray, List.set_cons_zero, List.set_cons_succ]
    refine wpAnyH_takeG (i := 2) (v := ?_) rfl (by kernel_rfl) (by kernel_rfl) (by kernel_rfl) (fun _ _ _ h => h) rfl ?_ hHeld ?_
    rotate_left
    · intro w hSw
      try dsimp only at hSw
      go_simp
      all_goals with_reducible rfl
    try simp only [Act.put, List.setIfInBounds_toArray, List.set_cons_zero, List.set_cons_succ]
    refine wpAnyH_takeG (i := 3) (v := ?_) rfl (by kernel_rfl) (by kernel_rfl) (by kernel_rfl) (fun _ _ _ h => h) rfl ?_ hHeld ?_
    rotate_left
    · intro w hSw
      try dsimp only at hSw
      go_simp
      all_goals with_reducible rfl
    try simp only [Act.put, List.setIfInBounds_toArray, List.set_cons_zero, List.set_cons_succ]
    refine wpAnyH_takeG (i := 6) (v := ?_) rfl (by kernel_rfl) (by kernel_rfl) (by kernel_rfl) (fun _ _ _ h => h) rfl ?_ hHeld ?_
    rotate_left
    · intro w hSw
      try dsimp only at hSw
      go_simp
      all_goals with_reducible rfl
    try simp only [Act.put, List.setIfInBounds_toArray, List.set_cons_zero, List.set_cons_succ]
    refine wpAnyH_takeG (i := 7) (v := ?_) rfl (by kernel_rfl) (by kernel_rfl) (by kernel_rfl) (fun _ _ _ h => h) rfl ?_ hHeld ?_
    rotate_left
    · intro w hSw
      try dsimp only at hSw
      go_simp
      all_goals with_reducible rfl
    try simp only [Act.put, List.setIfInBounds_toArray, List.set_cons_zero, List.set_cons_succ]
    refine wpAnyH_takeG (i := 8) (v := ?_) rfl (by kernel_rfl) (by kernel_rfl) (by kernel_rfl) (fun _ _ _ h => h) rfl ?_ hHeld ?_
    rotate_left
    · intro w hSw
      try dsimp only at hSw
      go_simp
      all_goals with_reducible rfl
    try simp only [Act.put, List.setIfInBounds_toArray, List.set_cons_zero, List.set_cons_succ]
    refine wpAnyH_takeG (i := 9) (v := ?_) rfl (by kernel_rfl) (by kernel_rfl) (by kernel_rfl) (fun _ _ _ h => h) rfl ?_ hHeld ?_
    rotate_left
    · intro w hSw
      try dsimp only at hSw
      go_simp
      all_goals with_reducible rfl
    try simp only [Act.put, List.setIfInBounds_toArray, List.set_cons_zero, List.set_cons_succ]
    refine par_go (I := [4, 5, 10, 11, 12, 13]) (d := fun i => ([0, 0, 0, 0, 23, 24, 0, 0, 0, 0, 29, 30, 5, 6] : List Nat).getD i 0) (dep := fun i => ([[], [], [], [], [], [4], [], [], [], [], [5], [10], [], []] : List (List Nat)).getD i []) (V := CmpV w p q xh xl yh yl gx gy) (Ext := CmpE) (fin := #[true, true, true, true, true, true, true, true, true, true, true, true, true, true, false, false]) 6 2 #[true, true, true, true, false, false, true, true, true, true, false, false, false, false, false, false] rfl (by kernel_rfl) (by kernel_rfl) (by kernel_rfl) ?_ ?_ ?_ hHeld ?_
    · intro i hi; simp only [List.mem_cons, List.not_mem_nil, or_false] at hi; rcases hi with rfl | rfl | rfl | rfl | rfl | rfl <;> simp
    · (exact fun i _ v w w' hb h => h.ext hb)
    · intro i hi; simp only [List.mem_cons, List.not_mem_nil, or_false] at hi
      rcases hi with rfl | rfl | rfl | rfl | rfl | rfl
      · intro a w hS hfr hdp K hK
        (exact op_call1 rfl (enters_of Try.func18 (by kernel_rfl) rfl) ((hfr 22 (by decide)).trans rfl) (Z2.out w) (fun e w' h => ⟨_, h.1, by rw [h.2]; exact hK _ _ hS rfl (Below.refl _ _) (fun _ _ _ _ _ b c hb _ => by cases hb)⟩))
      · intro a w hS hfr hdp K hK
        (exact op_call2 rfl (enters_of Try.func29 (by kernel_rfl) rfl) ((hfr 20 (by decide)).trans rfl) (hdp 4 (by simp)) (P1.out w) (fun e w' h => ⟨_, h.1, hK _ _ (hS.2.2.2.2.bel h.2).S rfl h.2 (fun _ _ _ _ _ b c hb _ => by cases hb)⟩))
      · intro a w hS hfr hdp K hK
        (exact op_call1 rfl (enters_of Try.func18 (by kernel_rfl) rfl) ((hfr 28 (by decide)).trans rfl) (Z1.out w) (fun e w' h => ⟨_, h.1, by rw [h.2]; exact hK _ _ hS rfl (Below.refl _ _) (fun _ _ _ _ _ b c hb _ => by cases hb)⟩))
      · intro a w hS hfr hdp K hK
        (exact op_call2 rfl (enters_of Try.func29 (by kernel_rfl) rfl) ((hfr 26 (by decide)).trans rfl) (hdp 10 (by simp)) (P2.out w) (fun e w' h => ⟨_, h.1, hK _ _ (hS.2.2.2.2.bel h.2).S rfl h.2 (fun _ _ _ _ _ b c hb _ => by cases hb)⟩))
      · intro a w hS hfr hdp K hK
        (exact op_valueQ (w' := w.alloc (.cells #[.bool false, .int .u64 0, .int .u64 0] 51)) (by first | kernel_rfl | rfl | go_simp) (hK _ _ (hS.2.2.2.2.alloc_ _).S ⟨_, rfl, hS.2.2.2.2.lt, Blk.new _ _ _⟩ ((Below.refl _ _).alloc (Nat.le_refl _) _) (fun _ _ _ _ hu => hu.apt)))
      · intro a w hS hfr hdp K hK
        (exact op_valueQ (w' := w.alloc (.cells #[.bool false, .int .u64 0, .int .u64 0] 51)) (by first | kernel_rfl | rfl | go_simp) (hK _ _ (hS.2.2.2.2.alloc_ _).S ⟨_, rfl, hS.2.2.2.2.lt, Blk.new _ _ _⟩ ((Below.refl _ _).alloc (Nat.le_refl _) _) (fun _ _ _ _ hu => hu.apt)))
    intro x wp hHeld hV hA
    have hV4 := hV 4 (by simp)
    have hV5 := hV 5 (by simp)
    have hV10 := hV 10 (by simp)
    have hV11 := hV 11 (by simp)
    have hV12 := hV 12 (by simp)
    have hV13 := hV 13 (by simp)
    ((obtain ⟨b5, e5, l5, B5⟩ : ∃ b, x 5 = .pointer (some ⟨b, 0, none⟩) ∧ w.heap.size + 1 < b ∧ Blk wp b 51 [.bool false, .int .u64 0, .int .u64 0] := hV12); (obtain ⟨b6, e6, l6, B6⟩ : ∃ b, x 6 = .pointer (some ⟨b, 0, none⟩) ∧ w.heap.size + 1 < b ∧ Blk wp b 51 [.bool false, .int .u64 0, .int .u64 0] := hV13); have e24 : x 24 = .agg #[.bool gx, .int .u64 xh, .int .u64 xl] := hV5; have e30 : x 30 = .agg #[.bool gy, .int .u64 yh, .int .u64 yl] := hV11; have hne : b5 ≠ b6 := hA 12 (by simp) 13 (by simp) (by decide) _ _ e5 e6; simp only [List.map, List.getD_cons_zero, List.getD_cons_succ, putsD, e5, e6, e24, e30]; have BB := hHeld.2.2.2.2; clear hV hA hV4 hV5 hV10 hV11 e5 e6 e24 e30; have x0 := B5.cell (i := 0) rfl; have x1 := B5.cell (i := 1) rfl; have x2 := B5.cell (i := 2) rfl; have y0 := B6.cell (i := 0) rfl; have y1 := B6.cell (i := 1) rfl; have y2 := B6.cell (i := 2) rfl; have fx := B5.free; have fy := B6.free; have hne' := hne.symm)
    try simp only [List.map, List.getD_cons_zero, List.getD_cons_succ, putsD]
    try simp only [Act.put, List.setIfInBounds_toArray, List.set_cons_zero, List.set_cons_succ]
    refine wpAnyH_step (i := 14) (by kernel_rfl) rfl (fun KK hK => ?_)
    (go_simp)
    refine hK.out _ _ ?_ (fun hHeld => ?_)
    · (first | with_reducible exact (((BB.far (p := ⟨b5, 0, none⟩) l5 _).far (p := ⟨b5, 1, none⟩) l5 _).far (p := ⟨b5, 2, none⟩) l5 _).S | with_reducible exact ((((((BB.far (p := ⟨b5, 0, none⟩) l5 _).far (p := ⟨b5, 1, none⟩) l5 _).far (p := ⟨b5, 2, none⟩) l5 _).far (p := ⟨b6, 0, none⟩) l6 _).far (p := ⟨b6, 1, none⟩) l6 _).far (p := ⟨b6, 2, none⟩) l6 _).S)
    clear hK KK
    try simp only [Act.put, List.setIfInBounds_toArray, List.set_cons_zero, List.set_cons_succ]
    refine wpAnyH_step (i := 15) (by kernel_rfl) rfl (fun KK hK => ?_)
    (go_simp)
    refine hK.out _ _ ?_ (fun hHeld => ?_)
    · (first | with_reducible exact (((BB.far (p := ⟨b5, 0, none⟩) l5 _).far (p := ⟨b5, 1, none⟩) l5 _).far (p := ⟨b5, 2, none⟩) l5 _).S | with_reducible exact ((((((BB.far (p := ⟨b5, 0, none⟩) l5 _).far (p := ⟨b5, 1, none⟩) l5 _).far (p := ⟨b5, 2, none⟩) l5 _).far (p := ⟨b6, 0, none⟩) l6 _).far (p := ⟨b6, 1, none⟩) l6 _).far (p := ⟨b6, 2, none⟩) l6 _).S)
    clear hK KK
    try simp only [Act.put, List.setIfInBounds_toArray, List.set_cons_zero, List.set_cons_succ]
    refine wpAnyH_done (by kernel_rfl) ?_ _
    have SO := Lib.hid (st6_ok gx xh xl gy yh yl hne l5 l6 BB.u B5 B6)
    clear x0 x1 x2 y0 y1 y2 fx fy hHeld BB B5 B6
    rw [show ((((((wp.setCell ⟨b5, 0, none⟩ (.bool gx)).setCell ⟨b5, 1, none⟩ (.int .u64 xh)).setCell ⟨b5, 2, none⟩ (.int .u64 xl)).setCell ⟨b6, 0, none⟩ (.bool gy)).setCell ⟨b6, 1, none⟩ (.int .u64 yh)).setCell ⟨b6, 2, none⟩ (.int .u64 yl)) = st6 wp b5 b6 gx xh xl gy yh yl from rfl]
    generalize st6 wp b5 b6 gx xh xl gy yh yl = W at *
    have x0 := SO.out.a.cell (i := 0) rfl
    have x1 := SO.out.a.cell (i := 1) rfl
    have x2 := SO.out.a.cell (i := 2) rfl
    have y0 := SO.out.b.cell (i := 0) rfl
    have y1 := SO.out.b.cell (i := 1) rfl
    have y2 := SO.out.b.cell (i := 2) rfl
    cases gx with
    | true =>
      cases gy with
      | true =>
        go_wp2_with fail
        refine (C2.out _).mono ?_
        rintro e w9 ⟨rfl, hb⟩
        have UB := Lib.hid (below_then SO.out.u hb SO.out.u.size)
        clear hb
        go_wp2_with fail
        go_ret
        exact ⟨rfl, UB.out⟩
      | false =>
        go_wp2_with fail
        go_ret
        exact ⟨rfl, SO.out.u⟩
    | false =>
      cases gy with
      | true =>
        go_wp2_with fail
        go_ret
        exact ⟨rfl, SO.out.u⟩
      | false =>
        go_wp2_with fail
        refine (C1.out _).mono ?_
        rintro e w9 ⟨rfl, hb⟩
        have UB := Lib.hid (below_then SO.out.u hb SO.out.u.size)
        clear hb
        go_wp2_with fail
        go_ret
        exact ⟨rfl, UB.out⟩
end Go.Proofs.Ytbdaehcngmhhcaa
