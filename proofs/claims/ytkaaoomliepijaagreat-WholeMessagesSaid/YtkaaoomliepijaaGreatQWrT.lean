/-
  stream.Writer: send, Tick.
-/
import Derived.Test.YtkaaoomliepijaaGreatQWr
import Derived.Test.YtkaaoomliepijaaGreatQPar
import Derived.Test.YtkaaoomliepijaaGreatQThree
import Derived.Shelf.Abstract
import Derived.Deep.RegionHeld3
namespace Go.Proofs.YtkaaoomliepijaaGreat
open Go.RowKit
set_option linter.unusedVariables false

theorem alloc_belQ (w : World) (o : Obj) : Below w.heap.size w (w.alloc o) := (Below.refl _ _).alloc (Nat.le_refl _) _
/-- A segment in a block of its own, its bytes in a block of the call's own. -/
def SgCut (w : World) (nx : Nat) (data : List Int) (v : Value) (wx : World) : Prop :=
  ∃ (sb : Nat) (cv : Value), v = .pointer (some ⟨sb, 0, none⟩) ∧ w.heap.size ≤ sb ∧ Blk wx sb 67 [.int .i64 nx, cv, .bool false] ∧ Rw (Value.int .u8) 5 wx w.heap.size cv data ∧ Below w.heap.size w wx
theorem Rw.low {α : Type} {f : α → Value} {T : TypeId} {w : World} {b b' : Nat} {v : Value} {xs : List α} (h : Rw f T w b v xs) (hb : b' ≤ b) : Rw f T w b' v xs := by
  obtain ⟨a, c, e, h⟩ := h
  refine ⟨a, c, e, ?_⟩
  rcases h with h | ⟨g, sp, e1, e2, e3⟩
  · exact .inl h
  · exact .inr ⟨g, sp, e1, Nat.le_trans hb e2, e3⟩
theorem Rw.upd {α : Type} {f : α → Value} {T : TypeId} {w w' : World} {b : Nat} {v : Value} {xs : List α} {S : Nat → Prop} (h : Rw f T w b v xs) (u : Upd S w w') (hs : ∀ k, v.ownBlock = some k → ¬ S k) : Rw f T w' b v xs := by
  obtain ⟨a, c, e, h⟩ := h
  refine ⟨a, c, e, ?_⟩
  rcases h with h | ⟨g, sp, e1, e2, e3, e4⟩
  · exact .inl h
  · subst e; subst e1
    exact .inr ⟨g, sp, rfl, e2, e3.upd u (hs g rfl), e4⟩
theorem Rw.below {α : Type} {f : α → Value} {T : TypeId} {w w' : World} {b : Nat} {v : Value} {xs : List α} (h : Rw f T w b v xs) (q : Below w.heap.size w w') : Rw f T w' b v xs := h.upd (S := fun _ => False) (Upd.of_below q) (fun _ _ => id)
theorem Rw.lt {α : Type} {f : α → Value} {T : TypeId} {w : World} {b : Nat} {v : Value} {xs : List α} (h : Rw f T w b v xs) {k : Nat} (hk : v.ownBlock = some k) : b ≤ k ∧ k < w.heap.size := by
  obtain ⟨a, c, rfl, h⟩ := h
  rcases h with ⟨rfl, _⟩ | ⟨g, sp, rfl, e2, e3, _⟩
  · cases hk
  · have : g = k := by simpa [Value.ownBlock] using hk
    subst this
    exact ⟨e2, e3.lt⟩
def SgE (w w' : World) : Prop := Below w.heap.size w w'
def SgV (w0 : World) (nx : Nat) (data : List Int) (i : Nat) (v : Value) (w : World) : Prop :=
  if i = 13 then Rw (Value.int .u8) 5 w w0.heap.size v data
  else if i = 15 then ∃ cv, v = .agg #[.int .i64 nx, cv, .bool false] ∧ Rw (Value.int .u8) 5 w w0.heap.size cv data
  else ∃ b, v = .pointer (some ⟨b, 0, none⟩) ∧ w0.heap.size ≤ b ∧ Blk w b 67 [.int .i64 0, .slice none 0 0, .bool false]
theorem SgV.ext {w0 : World} {nx : Nat} {data : List Int} {i : Nat} {v : Value} {w w' : World} (hb : Below w.heap.size w w') (h : SgV w0 nx data i v w) : SgV w0 nx data i v w' := by
  unfold SgV at *
  by_cases e : i = 13
  · rw [if_pos e] at h ⊢; exact h.below hb
  · rw [if_neg e] at h ⊢
    by_cases e2 : i = 15
    · rw [if_pos e2] at h ⊢
      obtain ⟨cv, h1, h2⟩ := h
      exact ⟨cv, h1, h2.below hb⟩
    · rw [if_neg e2] at h ⊢
      obtain ⟨b, h1, h2, h3⟩ := h
      exact ⟨b, h1, h2, h3.bel hb⟩
theorem SgV.apt {w0 : World} {nx : Nat} {data : List Int} {i : Nat} {v : Value} {w : World} (h : SgV w0 nx data i v w) : Apt (.pointer (some ⟨w.heap.size, 0, none⟩)) v := by
  intro b c hb hc
  injection hb with hb; injection hb with hb; injection hb with hb
  subst hb
  subst hc
  unfold SgV at h
  by_cases e : i = 13
  · rw [if_pos e] at h
    obtain ⟨a, c', e', _⟩ := h
    cases e'
  · rw [if_neg e] at h
    by_cases e2 : i = 15
    · rw [if_pos e2] at h
      obtain ⟨cv, h1, _⟩ := h
      cases h1
    · rw [if_neg e2] at h
      obtain ⟨x, h1, h2, h3⟩ := h
      injection h1 with h1; injection h1 with h1; injection h1 with h1
      have := h3.lt
      omega
theorem sgS {w wx : World} {base wb : Nat} {kv : Value} {ks : List Int} {tk ba nx tp idl : Nat} (h : WrAt w base wb kv ks tk ba nx tp idl) (q : Below w.heap.size w wx) : wx.cell? ⟨wb, 5, none⟩ = some (.int .i64 nx) ∧ wx.cell? ⟨wb, 2, none⟩ = some kv ∧ Below w.heap.size w wx :=
  ⟨(h.b.bel q).cell rfl, (h.b.bel q).cell rfl, q⟩
theorem sg_build (w : World) (nx : Int) (a : Option Addr) (n c : Nat) : (Instr.build 67 #[(0, .int .i64 nx), (1, .slice a n c), (2, .bool false)]).run Tryz.prog w = .ok (.agg #[.int .i64 nx, .slice a n c, .bool false]) w := by
  go_simp
theorem op_build3 {P : Program} {Q : Exit → Act → World → Prop} {o : Oper} {a : Act} {w : World} {K : Act → World → Prop} {t : TypeId} {x0 x1 x2 : Operand} {v0 v1 v2 v : Value} (ho : o.op = .build t #[(0, x0), (1, x1), (2, x2)]) (h0 : a.eval x0 = v0) (h1 : a.eval x1 = v1) (h2 : a.eval x2 = v2)
    (hr : (Instr.build t #[(0, v0), (1, v1), (2, v2)]).run P w = .ok v w) (hk : K (a.put o.dst v) w) : Oper.wp P o a w K Q := by
  unfold Oper.wp
  simp [execOp, ho, h0, h1, h2, hr, Result.andThen]
  exact hk
theorem sg_store {w1 wp : World} {sb nx : Nat} {y : Int} {cv : Value} {data : List Int} (hy : y = (nx : Int)) (SB : Blk wp sb 67 [.int .i64 0, .slice none 0 0, .bool false]) (RW : Rw (Value.int .u8) 5 wp w1.heap.size cv data) (l8 : w1.heap.size ≤ sb) (H : Below w1.heap.size w1 wp) :
    SgCut w1 nx data (.pointer (some ⟨sb, 0, none⟩)) (((wp.setCell ⟨sb, 0, none⟩ (.int .i64 y)).setCell ⟨sb, 1, none⟩ cv).setCell ⟨sb, 2, none⟩ (.bool false)) := by
  subst hy
  have hne : ∀ k, cv.ownBlock = some k → ¬ k = sb := by
    intro k hk e
    subst e
    obtain ⟨a', c', rfl, hh⟩ := RW
    rcases hh with ⟨rfl, _⟩ | ⟨g', sp, rfl, _, hb', _⟩
    · cases hk
    · have : g' = k := by simpa [Value.ownBlock] using hk
      subst this
      unfold Blk at hb' SB
      rw [hb'] at SB
      injection SB with SB
      injection SB with _ SB _
      exact absurd SB (by decide)
  have u : Upd (fun k => k = sb) wp (((wp.setCell ⟨sb, 0, none⟩ (.int .i64 (nx : Int))).setCell ⟨sb, 1, none⟩ cv).setCell ⟨sb, 2, none⟩ (.bool false)) := (((Upd.refl (fun k => k = sb) wp).setCell _ _ (fun _ => rfl)).setCell _ _ (fun _ => rfl)).setCell _ _ (fun _ => rfl)
  exact ⟨sb, cv, rfl, l8, ((SB.set 0 (.int .i64 (nx : Int))).set 1 cv).set 2 (.bool false), RW.upd u hne, Upd.below H u (by have := SB.lt; omega) (fun i hi => by omega)⟩
/-- Behind the segment: the writer's numbers, the segment, the block of the result. -/
structure SnM (w wx : World) (base wb sb : Nat) (kv cv : Value) (ks data : List Int) (tk ba nx0 nx tp idl : Nat) : Prop where
  t : WrAt wx base wb kv ks tk ba nx tp idl
  s : Blk wx sb 67 [.int .i64 nx0, cv, .bool false]
  r : Blk wx w.heap.size 67 [.int .i64 0, .slice none 0 0, .bool false]
  d : Rw (Value.int .u8) 5 wx (w.heap.size + 1) cv data
  u : Upd (fun k => k = wb) w wx
theorem SnM.drew {w wx : World} {base wb sb : Nat} {kv cv : Value} {ks data : List Int} {tk ba nx0 nx tp idl : Nat} (h : SnM w wx base wb sb kv cv ks data tk ba nx0 nx tp idl) : SnM w wx.drew base wb sb kv cv ks data tk ba nx0 nx tp idl :=
  ⟨h.t.below (Qt.refl _).drew.bel, h.s.drew, h.r.drew, h.d.below (Qt.refl _).drew.bel, h.u.drew⟩
theorem SnM.num {w wx : World} {base wb sb : Nat} {kv cv : Value} {ks data : List Int} {tk ba nx0 nx tp idl nx' tp' idl' : Nat} (h : SnM w wx base wb sb kv cv ks data tk ba nx0 nx tp idl) (hs : sb ≠ wb) (hw : wb < w.heap.size) (i : Nat) (x : Value) (e : (wrC kv tk ba nx tp idl).set i x = wrC kv tk ba nx' tp' idl') :
    SnM w (wx.setCell ⟨wb, i, none⟩ x) base wb sb kv cv ks data tk ba nx0 nx' tp' idl' :=
  ⟨h.t.num i x e, h.s.setO _ hs, h.r.setO _ (by dsimp only; omega), h.d.upd ((Upd.refl (fun k => k = wb) wx).setCell _ _ (fun _ => rfl)) (fun k hk e => by have := (h.d.lt hk).1; omega), h.u.setCell _ _ (fun _ => rfl)⟩
set_option maxHeartbeats 8000000 in
set_option maxRecDepth 100000 in
theorem send_any (w : World) (base wb : Nat) (kv : Value) (ks : List Int) (tk ba nx tp idl n : Nat) (h : WrAt w base wb kv ks tk ba nx tp idl) (h1 : ba ≤ nx) (hn : 1 ≤ n) (hnk : nx - ba + n ≤ ks.length) (hks : ks.length ≤ 24) (hnx : nx ≤ 100000) :
    Calls Tryz.prog 53 #[.pointer (some ⟨wb, 0, none⟩), .int .i64 n, .bool false] w fun e w' =>
      ∃ cv, e = .returned (.agg #[.int .i64 nx, cv, .bool false]) ∧ Rw (Value.int .u8) 5 w' w.heap.size cv ((ks.drop (nx - ba)).take n) ∧ WrAt w' base wb kv ks tk ba (nx + n) (max tp (nx + n)) 0 ∧ Upd (fun k => k = wb) w w' := by
  obtain ⟨fr, rfl⟩ : ∃ fr, nx = ba + fr := ⟨nx - ba, by omega⟩
  rw [show ba + fr - ba = fr by omega] at hnk ⊢
  obtain ⟨a, c, rfl⟩ := h.k.shape
  have hsh : ∃ g o, a = some ⟨g, o, none⟩ ∧ ks.length ≤ c ∧ c ≤ maxLen := by
    rcases h.k with ⟨_, rfl⟩ | ⟨g, o, c', e, h1, h2, h3, h4, h5⟩
    · simp at hnk; omega
    · cases e; exact ⟨g, o, rfl, h3, h4⟩
  obtain ⟨g, o, rfl, hc1, hc2⟩ := hsh
  have hdl : ((ks.drop fr).take n).length = n := by rw [List.length_take, List.length_drop]; omega
  have SL : Sl (Value.int .u8) w (some ⟨g, o + fr, none⟩) ((ks.drop fr).take n) := by
    intro j x hj
    rw [List.getElem?_take] at hj
    split at hj
    · rw [List.getElem?_drop] at hj
      obtain ⟨_, c2⟩ := h.k.sl (fr + j) x hj
      refine ⟨rfl, ?_⟩
      rw [adr_mk] at c2 ⊢
      rw [Nat.add_assoc]
      exact c2
    · cases hj
  have CL := fun w' (q : Below w.heap.size w w') => cloneByte_any w' (some ⟨g, o + fr, none⟩) (c - fr) ((ks.drop fr).take n) (SL.below q) (by omega)
  rw [hdl] at CL
  generalize (ks.drop fr).take n = data at *
  generalize ks.length = kl at *
  unfold maxLen at hc2
  have H := Lib.hid h
  replace CL := Lib.hid CL
  have c2 := h.b.cell (i := 2) rfl
  have c4 := h.b.cell (i := 4) rfl
  have c5 := h.b.cell (i := 5) rfl
  have bz := h.b.lt
  have k1 : (0 : Int) ≤ (fr : Int) := by omega
  have k2 : (fr : Int) ≤ (fr : Int) + (n : Int) := by omega
  have k3 : (fr : Int) + (n : Int) ≤ (c : Int) := by omega
  have k4 : ¬ c = fr := by omega
  have k5 : fr ≤ 24 ∧ n ≤ 24 := by omega
  have k6 : (0 : Int) ≤ (fr : Int) + (n : Int) := by omega
  have kw : IntKind.i64.wrap ((fr : Int) + (n : Int)) = (fr : Int) + (n : Int) := IntWalk.i64_in _ (by omega)
  have k7 : ((fr : Int) + (n : Int)).toNat = fr + n := by omega
  have HDL := Lib.hid hdl
  obtain ⟨mx, hmx⟩ : ∃ mx, max tp (ba + fr + n) = mx := ⟨_, rfl⟩
  rw [hmx]
  have HMX : Hid ((tp < ba + fr + n ∧ mx = ba + fr + n) ∨ (¬ tp < ba + fr + n ∧ mx = tp)) := by show _ ∨ _; omega
  clear h SL hdl hmx
  go_enter Tryz.func53, Tryz.ntmps53
  go_upto_region 1 with (fail)
  go_quiet (fail)
  go_wp2_with fail
  rw [show ((ba : Int) + (fr : Int) - (ba : Int)) = (fr : Int) by omega]
  have B1 : Below w.heap.size w ((w.alloc (.cells #[.int .i64 0, .slice none 0 0, .bool false] 67)).drewN nq) := Below.drewNQ (alloc_belQ _ _) nq
  have R1 : Blk ((w.alloc (.cells #[.int .i64 0, .slice none 0 0, .bool false] 67)).drewN nq) w.heap.size 67 [.int .i64 0, .slice none 0 0, .bool false] := (Blk.new w 67 [.int .i64 0, .slice none 0 0, .bool false]).qt ((Qt.refl _).drewN nq)
  have T1 := Lib.hid (H.out.below B1)
  have z1 : ((w.alloc (.cells #[.int .i64 0, .slice none 0 0, .bool false] 67)).drewN nq).heap.size = w.heap.size + 1 := by show (w.alloc _).heap.size = _; simp
  replace B1 := Lib.hid B1
  replace R1 := Lib.hid R1
  clear c2 c4 c5
  generalize (w.alloc (.cells #[.int .i64 0, .slice none 0 0, .bool false] 67)).drewN nq = w1 at *
  have TB := T1.out.b.lt
  go_upto_region 2 with (fail)
  go_cut [8] (fun v wx => SgCut w1 (ba + fr) data v wx)
  case first =>
    have XB := Lib.hid (sgS T1.out (Qt.below (Qt.refl w1).drew _))
    refine wp_region_allH (fun wx => wx.cell? ⟨wb, 5, none⟩ = some (.int .i64 ((ba + fr : Nat) : Int)) ∧ wx.cell? ⟨wb, 2, none⟩ = some (.slice (some ⟨g, o, none⟩) kl c) ∧ Below w1.heap.size w1 wx) 18 (by kernel_rfl) rfl ?_ (fun hHeld => ?_)
    · (exact XB.out)
    refine wpAnyH_takeG (i := 0) (v := ?_) rfl (by kernel_rfl) (by kernel_rfl) (by kernel_rfl) (fun _ _ _ h => h) rfl ?_ hHeld ?_
    rotate_left
    · intro w hSw
      try dsimp only at hSw
      go_simp
      all_goals with_reducible rfl
    try simp only [Act.put, List.setIfInBounds_toArray, List.set_cons_zero, List.set_cons_succ]
    refine wpAnyH_takeG (i := 1) (v := ?_) rfl (by kernel_rfl) (by kernel_rfl) (by kernel_rfl) (fun _ _ _ h => h) rfl ?_ hHeld ?_
    rotate_left
    · intro w hSw
      try dsimp only at hSw
      go_simp
      all_goals with_reducible rfl
    try simp only [Act.put, List.setIfInBounds_toArray, List.set_cons_zero, List.set_cons_succ]
    refine wpAnyH_takeG (i := 2) (v := ?_) rfl (by kernel_rfl) (by kernel_rfl) (by kernel_rfl) (fun _ _ _ h => h) rfl ?_ hHeld ?_
    rotate_left
    · intro w hSw
      try dsimp only at hSw
      go_simp
      all_goals with_reducible rfl
    try simp only [Act.put, List.setIfInBounds_toArray, List.set_cons_zero, List.set_cons_succ]
    refine wpAnyH_takeG (i := 3) (v := ?_) rfl (by kernel_rfl) (by kernel_rfl) (by kernel_rfl) (fun _ _ _ h => h) rfl ?_ hHeld ?_
    rotate_left
    · intro w hSw
      try dsimp only at hSw
      go_simp
      all_goals with_reducible rfl
    try simp only [Act.put, List.setIfInBounds_toArray, List.set_cons_zero, List.set_cons_succ]
    refine wpAnyH_takeG (i := 4) (v := ?_) rfl (by kernel_rfl) (by kernel_rfl) (by kernel_rfl) (fun _ _ _ h => h) rfl ?_ hHeld ?_
    rotate_left
    · intro w hSw
      try dsimp only at hSw
      go_simp
      all_goals with_reducible rfl
    try simp only [Act.put, List.setIfInBounds_toArray, List.set_cons_zero, List.set_cons_succ]
    refine wpAnyH_takeG (i := 5) (v := ?_) rfl (by kernel_rfl) (by kernel_rfl) (by kernel_rfl) (fun _ _ _ h => h) rfl ?_ hHeld ?_
    rotate_left
    · intro w hSw
      try dsimp only at hSw
      go_simp
      all_goals with_reducible rfl
    try simp only [Act.put, List.setIfInBounds_toArray, List.set_cons_zero, List.set_cons_succ]
    refine wpAnyH_takeG (i := 6) (v := ?_) rfl (by kernel_rfl) (by kernel_rfl) (by kernel_rfl) (fun _ _ _ h => h) rfl ?_ hHeld ?_
    rotate_left
    · intro w hSw
      try dsimp only at hSw
      go_simp
      all_goals with_reducible rfl
    try simp only [Act.put, List.setIfInBounds_toArray, List.set_cons_zero, List.set_cons_succ]
    refine wpAnyH_takeG (i := 7) (v := ?_) rfl (by kernel_rfl) (by kernel_rfl) (by kernel_rfl) (fun _ _ _ h => h) rfl ?_ hHeld ?_
    rotate_left
    · intro w hSw
      try dsimp only at hSw
      go_simp
      all_goals with_reducible rfl
    try simp only [Act.put, List.setIfInBounds_toArray, List.set_cons_zero, List.set_cons_succ]
    refine wpAnyH_takeG (i := 8) (v := ?_) rfl (by kernel_rfl) (by kernel_rfl) (by kernel_rfl) (fun _ _ _ h => h) rfl ?_ hHeld ?_
    rotate_left
    · intro w hSw
      try dsimp only at hSw
      go_simp
      all_goals with_reducible rfl
    try simp only [Act.put, List.setIfInBounds_toArray, List.set_cons_zero, List.set_cons_succ]
    refine wpAnyH_takeG (i := 9) (v := ?_) rfl (by kernel_rfl) (by kernel_rfl) (by kernel_rfl) (fun _ _ _ h => h) rfl ?_ hHeld ?_
    rotate_left
    · intro w hSw
      try dsimp only at hSw
      go_simp
      all_goals with_reducible rfl
    try simp only [Act.put, List.setIfInBounds_toArray, List.set_cons_zero, List.set_cons_succ]
    refine wpAnyH_takeG (i := 10) (v := ?_) rfl (by kernel_rfl) (by kernel_rfl) (by kernel_rfl) (fun _ _ _ h => h) rfl ?_ hHeld ?_
    rotate_left
    · intro w hSw
      try dsimp only at hSw
      go_simp
      all_goals with_reducible rfl
    try simp only [Act.put, List.setIfInBounds_toArray, List.set_cons_zero, List.set_cons_succ]
    refine wpAnyH_takeG (i := 11) (v := ?_) rfl (by kernel_rfl) (by kernel_rfl) (by kernel_rfl) (fun _ _ _ h => h) rfl ?_ hHeld ?_
    rotate_left
    · intro w hSw
      try dsimp only at hSw
      go_simp
      all_goals with_reducible rfl
    try simp only [Act.put, List.setIfInBounds_toArray, List.set_cons_zero, List.set_cons_succ]
    refine wpAnyH_takeG (i := 12) (v := ?_) rfl (by kernel_rfl) (by kernel_rfl) (by kernel_rfl) (fun _ _ _ h => h) rfl ?_ hHeld ?_
    rotate_left
    · intro w hSw
      try dsimp only at hSw
      go_simp
      all_goals with_reducible rfl
    try simp only [Act.put, List.setIfInBounds_toArray, List.set_cons_zero, List.set_cons_succ]
    refine wpAnyH_takeG (i := 14) (v := ?_) rfl (by kernel_rfl) (by kernel_rfl) (by kernel_rfl) (fun _ _ _ h => h) rfl ?_ hHeld ?_
    rotate_left
    · intro w hSw
      try dsimp only at hSw
      go_simp
      all_goals with_reducible rfl
    try simp only [Act.put, List.setIfInBounds_toArray, List.set_cons_zero, List.set_cons_succ]
    refine par_go (I := [13, 15, 16]) (d := fun i => ([0, 0, 0, 0, 0, 0, 0, 0, 0, 0, 0, 0, 0, 31, 0, 33, 8] : List Nat).getD i 0) (dep := fun i => ([[], [], [], [], [], [], [], [], [], [], [], [], [], [], [], [13], []] : List (List Nat)).getD i []) (V := SgV w1 (ba + fr) data) (Ext := SgE) (fin := #[true, true, true, true, true, true, true, true, true, true, true, true, true, true, true, true, true, false]) 3 1 #[true, true, true, true, true, true, true, true, true, true, true, true, true, false, true, false, false, false] rfl (by kernel_rfl) (by kernel_rfl) (by kernel_rfl) ?_ ?_ ?_ hHeld ?_
    · intro i hi; simp only [List.mem_cons, List.not_mem_nil, or_false] at hi; rcases hi with rfl | rfl | rfl <;> simp
    · (exact fun i _ v w w' hb h => h.ext hb)
    · intro i hi; simp only [List.mem_cons, List.not_mem_nil, or_false] at hi
      rcases hi with rfl | rfl | rfl
      · intro a w hS hfr hdp K hK
        (exact op_call1 rfl (enters_of Tryz.func55 (by kernel_rfl) rfl) ((hfr 30 (by decide)).trans rfl) (CL.out w (B1.out.trans (hS.2.2.mono (by omega)))) (fun e w' ⟨cv, h1, h2, h3⟩ => ⟨cv, h1, hK _ _ (sgS T1.out (below_then hS.2.2 h3 hS.2.2.size)) (h2.low hS.2.2.size) h3 (fun _ _ _ _ _ b c hb _ => by obtain ⟨a', c', e', _⟩ := h2; rw [e'] at hb; cases hb)⟩))
      · intro a w hS hfr hdp K hK
        (obtain ⟨a', c', e', hq⟩ : Rw (Value.int .u8) 5 w w1.heap.size _ data := hdp 13 (by simp); exact op_build3 rfl ((hfr 21 (by decide)).trans rfl) e' ((hfr 32 (by decide)).trans rfl) (sg_build _ _ _ _ _) (hK _ _ hS ⟨_, rfl, ⟨a', c', rfl, hq⟩⟩ (Below.refl _ _) (fun _ _ _ _ _ b c hb _ => by cases hb)))
      · intro a w hS hfr hdp K hK
        (exact op_valueQ (w' := w.alloc (.cells #[.int .i64 0, .slice none 0 0, .bool false] 67)) (by first | kernel_rfl | rfl | go_simp) (hK _ _ (sgS T1.out (hS.2.2.alloc hS.2.2.size _)) ⟨_, rfl, hS.2.2.size, Blk.new _ _ _⟩ ((Below.refl _ _).alloc (Nat.le_refl _) _) (fun _ _ _ _ hu => hu.apt)))
    intro x wp hHeld hV hA
    have hV13 := hV 13 (by simp)
    have hV15 := hV 15 (by simp)
    have hV16 := hV 16 (by simp)
    ((obtain ⟨cv, e33, RW⟩ : ∃ cv, x 33 = .agg #[.int .i64 ((ba + fr : Nat) : Int), cv, .bool false] ∧ Rw (Value.int .u8) 5 wp w1.heap.size cv data := hV15); (obtain ⟨sb, e8, l8, SB⟩ : ∃ b, x 8 = .pointer (some ⟨b, 0, none⟩) ∧ w1.heap.size ≤ b ∧ Blk wp b 67 [.int .i64 0, .slice none 0 0, .bool false] := hV16); have HB := Lib.hid hHeld.2.2; obtain ⟨ca, cc, rfl, -⟩ := id RW; simp only [List.map, List.getD_cons_zero, List.getD_cons_succ, putsD, e33, e8]; clear hV hA hV13 e33 e8; have x0 := SB.cell (i := 0) rfl; have x1 := SB.cell (i := 1) rfl; have x2 := SB.cell (i := 2) rfl; have fx := SB.free)
    try simp only [List.map, List.getD_cons_zero, List.getD_cons_succ, putsD]
    try simp only [Act.put, List.setIfInBounds_toArray, List.set_cons_zero, List.set_cons_succ]
    refine wpAnyH_step (i := 17) (by kernel_rfl) rfl (fun KK hK => ?_)
    (go_simp)
    refine hK.out _ _ ?_ (fun hHeld => ?_)
    · (exact sgS T1.out (((hHeld.2.2.setCell (by dsimp only; omega) _).setCell (by dsimp only; omega) _).setCell (by dsimp only; omega) _))
    clear hK KK
    try simp only [Act.put, List.setIfInBounds_toArray, List.set_cons_zero, List.set_cons_succ]
    refine wpAnyH_done (by kernel_rfl) ?_ _
    have X := Lib.hid (sg_store (y := (ba : Int) + (fr : Int)) (nx := ba + fr) (by omega) SB RW l8 HB.out)
    clear x0 x1 x2 fx SB RW HB hHeld
    go_wp2_with fail
    go_meet
    exact X.out
  case rest =>
    obtain ⟨sb, cv, rfl, l8, SB, RW, BB⟩ := hcut
    have T := Lib.hid (T1.out.below BB)
    have RB := R1.out.bel BB
    have BW : Hid (Below w.heap.size w wc) := B1.out.trans (BB.mono (by omega))
    obtain ⟨ca, cc, rfl, -⟩ := id RW
    have hsb : sb ≠ wb := by omega
    have hwz : wb < w.heap.size := H.out.b.lt
    have M : Hid (SnM w wc base wb sb (.slice (some ⟨g, o, none⟩) kl c) (.slice ca data.length cc) ks data tk ba (ba + fr) (ba + fr) tp idl) := ⟨T.out, SB, RB, RW.low (by omega), Upd.of_below BW.out⟩
    have M3 := Lib.hid (M.out.num (nx' := ba + fr + n) (tp' := tp) (idl' := idl) hsb hwz 5 (.int .i64 ((ba : Int) + fr + n)) rfl)
    have e5 := T.out.b.cell (i := 5) rfl
    have ez := T.out.b.lt
    have ef := T.out.b.free
    have f5 := M3.out.t.b.cell (i := 5) rfl
    have f6 := M3.out.t.b.cell (i := 6) rfl
    have ff := M3.out.t.b.free
    have fz := M3.out.t.b.lt
    clear CL T1 B1 R1 T RB SB BW M
    go_wp2_with fail
    go_cut [] (fun wx => SnM w wx base wb sb (.slice (some ⟨g, o, none⟩) kl c) (.slice ca data.length cc) ks data tk ba (ba + fr) (ba + fr + n) mx idl)
    case first =>
      rcases HMX.out with ⟨hx, rfl⟩ | ⟨hx, rfl⟩
      · have hx1 : (tp : Int) < (ba : Int) + (fr : Int) + (n : Int) := by omega
        go_region
        try go_wp2_with fail
        go_meet
        exact (M3.out.num (nx' := ba + fr + n) (tp' := ba + fr + n) (idl' := idl) hsb hwz 6 (.int .i64 ((ba : Int) + fr + n)) rfl).drew
      · have hx1 : ¬ (mx : Int) < (ba : Int) + (fr : Int) + (n : Int) := by omega
        go_region
        try go_wp2_with fail
        go_meet
        exact (M3.out.num (nx' := ba + fr + n) (tp' := mx) (idl' := idl) hsb hwz 6 (.int .i64 (mx : Int)) rfl).drew
    case rest =>
      clear e5 ez ef f5 f6 ff fz M3
      have M5 := hcut.num (nx' := ba + fr + n) (tp' := mx) (idl' := 0) hsb hwz 8 (.int .i64 0) rfl
      have e8 := hcut.t.b.cell (i := 8) rfl
      have ez := hcut.t.b.lt
      have ef := hcut.t.b.free 8
      have s0 := M5.s.cell (i := 0) rfl
      have s1 := M5.s.cell (i := 1) rfl
      have s2 := M5.s.cell (i := 2) rfl
      have r0 := M5.r.cell (i := 0) rfl
      have r1 := M5.r.cell (i := 1) rfl
      have r2 := M5.r.cell (i := 2) rfl
      have rf := M5.r.free
      have rz := M5.r.lt
      replace M5 := Lib.hid M5
      clear hcut
      go_wp2_with fail
      have R6 := ((M5.out.r.set 0 (.int .i64 ((ba : Int) + fr))).set 1 (.slice ca data.length cc)).set 2 (.bool false)
      have u6 := (((Upd.refl (fun k => k = w.heap.size) (wc.setCell ⟨wb, 8, none⟩ (.int .i64 0))).setCell ⟨w.heap.size, 0, none⟩ (.int .i64 ((ba : Int) + fr)) (fun _ => rfl)).setCell ⟨w.heap.size, 1, none⟩ (.slice ca data.length cc) (fun _ => rfl)).setCell ⟨w.heap.size, 2, none⟩ (.bool false) (fun _ => rfl)
      have q0 := R6.cell (i := 0) rfl
      have q1 := R6.cell (i := 1) rfl
      have q2 := R6.cell (i := 2) rfl
      exact bodyPost_ret (v := .agg #[.int .i64 ((ba + fr : Nat) : Int), .slice ca data.length cc, .bool false]) (by simp [results, Tryz.results53, go_sem, q0, q1, q2]) rfl
        ⟨_, rfl, (M5.out.d.upd u6 (fun k hk e => by have := (M5.out.d.lt hk).1; omega)).low (by omega), M5.out.t.upd u6 (fun k hk e => by have := (H.out.lt hk).2; omega),
          ((M5.out.u.setCell _ _ (fun h => absurd h (Nat.lt_irrefl _))).setCell _ _ (fun h => absurd h (Nat.lt_irrefl _))).setCell _ _ (fun h => absurd h (Nat.lt_irrefl _))⟩
end Go.Proofs.YtkaaoomliepijaaGreat
