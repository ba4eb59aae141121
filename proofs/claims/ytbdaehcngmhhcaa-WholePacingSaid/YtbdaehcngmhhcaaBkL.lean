/-
  Contract of admit's Release.
-/
import Derived.Test.YtbdaehcngmhhcaaBkR
namespace Go.Proofs.Ytbdaehcngmhhcaa
open Go.RowKit
set_option linter.unusedVariables false

theorem keep5s {w : World} {b : Nat} {v v' : Value} {i j : Nat} {a0 a1 a2 a3 a4 : Addr} {v0 v1 v2 v3 v4 : Value}
    (h : w.cell? a0 = some v0 ∧ w.cell? a1 = some v1 ∧ w.cell? a2 = some v2 ∧ w.cell? a3 = some v3 ∧ w.cell? a4 = some v4) (h0 : a0.block ≠ b) (h1 : a1.block ≠ b) (h2 : a2.block ≠ b) (h3 : a3.block ≠ b) (h4 : a4.block ≠ b) :
    ((w.setCell ⟨b, i, none⟩ v).setCell ⟨b, j, none⟩ v').cell? a0 = some v0 ∧ ((w.setCell ⟨b, i, none⟩ v).setCell ⟨b, j, none⟩ v').cell? a1 = some v1 ∧ ((w.setCell ⟨b, i, none⟩ v).setCell ⟨b, j, none⟩ v').cell? a2 = some v2 ∧
      ((w.setCell ⟨b, i, none⟩ v).setCell ⟨b, j, none⟩ v').cell? a3 = some v3 ∧ ((w.setCell ⟨b, i, none⟩ v).setCell ⟨b, j, none⟩ v').cell? a4 = some v4 := by
  have u : Upd (fun k => k = b) w ((w.setCell ⟨b, i, none⟩ v).setCell ⟨b, j, none⟩ v') := ((Upd.refl (fun k => k = b) w).setCell _ _ (fun _ => rfl)).setCell _ _ (fun _ => rfl)
  have key : ∀ {a : Addr} {x : Value}, w.cell? a = some x → a.block ≠ b → ((w.setCell ⟨b, i, none⟩ v).setCell ⟨b, j, none⟩ v').cell? a = some x := fun ha hb => by rw [u.cell (World.block_lt_of_cell? _ _ ha) hb]; exact ha
  exact ⟨key h.1 h0, key h.2.1 h1, key h.2.2.1 h2, key h.2.2.2.1 h3, key h.2.2.2.2 h4⟩
def RlRel (w0 : World) (bb mb lb n lc : Nat) (sp : List Value) (cp : Nat → Rq) (k : Nat) (F : Nat → Option Rs) (x : Nat → Int) (z : Int) (lk : List Int) (g tb L c : Nat) (rt : Rq) (ix : Value) (wr : World) : Prop :=
  ∃ (p : Nat) (lf : Nat → Rq), p ≤ L ∧ ix = .int .i64 p ∧ Hid (BkB w0 wr bb mb lb n lc sp cp lf k F) ∧ Hid (∀ l < n, Rp1 uW (lf l) (x l + if (l : Int) ∈ lk.take p then z else 0)) ∧ Hid (SlI wr (some ⟨g, 0, none⟩) lk) ∧
    Hid (Blk wr tb 95 [.slice (some ⟨g, 0, none⟩) L c, .int .i64 rt.n, .int .i64 rt.d])
set_option maxRecDepth 100000 in
set_option maxHeartbeats 4000000 in
theorem release_none (w0 w : World) (bb mb lb n lc : Nat) (sp : List Value) (cp lf : Nat → Rq) (k : Nat) (F : Nat → Option Rs) (h : BkB w0 w bb mb lb n lc sp cp lf k F) (i : Nat) (hi : i ≤ 1000) (hF : F i = none) :
    Calls Try.prog 24 #[.pointer (some ⟨bb, 0, none⟩), .int .i64 i] w fun e w' => (∃ v, e = .returned v) ∧ BkB w0 w' bb mb lb n lc sp cp lf k F := by
  have HB := Lib.hid h
  have b1 := h.b.cell (i := 1) rfl
  have LK := h.m.look hi
  have e1 : rsW F i = rsZ := by unfold rsW; rw [hF]
  rw [e1, hF] at LK
  unfold rsZ at LK
  clear h e1
  go_enter Try.func24, Try.ntmps24
  go_wp2_with fail
  go_ret
  exact ⟨⟨_, rfl⟩, HB.out.below (alloc_belQ _ _)⟩
set_option maxRecDepth 100000 in
set_option maxHeartbeats 4000000 in
theorem release_some (w0 w : World) (bb mb lb n lc : Nat) (sp : List Value) (cp lf : Nat → Rq) (k : Nat) (F : Nat → Option Rs) (h : BkB w0 w bb mb lb n lc sp cp lf k F) (hn : n ≤ 1000)
    (x : Nat → Int) (hX : ∀ l < n, Rp1 uW (lf l) (x l) ∧ 0 ≤ x l ∧ x l ≤ uW) (a : Option Addr) (c : Nat) (lk : List Int) (hL : LnkOk w0 n a c lk) (i : Nat) (hi : i ≤ 1000) (g c' : Nat) (rt : Rq) (hF : F i = some ⟨g, lk.length, c', rt⟩) (hs : SlI w (some ⟨g, 0, none⟩) lk) (hg : g ≠ lb ∧ g ≠ mb) (z : Int) (hz : Rp1 uW rt z) (hz0 : 0 ≤ z ∧ z ≤ uW) :
    Calls Try.prog 24 #[.pointer (some ⟨bb, 0, none⟩), .int .i64 i] w fun e w' => (∃ v, e = .returned v) ∧ ∃ lf', BkB w0 w' bb mb lb n lc sp cp lf' k (updF F i none) ∧ ∀ l < n, Rp1 uW (lf' l) (x l + if (l : Int) ∈ lk then z else 0) := by
  have hW : uW = 31104000 := rfl
  have HB := Lib.hid h
  have HL := Lib.hid hL
  have HX := Lib.hid hX
  have HZ := Lib.hid hz
  have HS := Lib.hid hs
  have hl1 := hL.l
  have b1 := h.b.cell (i := 1) rfl
  have LK := h.m.look hi
  have e1 : rsW F i = rsV ⟨g, lk.length, c', rt⟩ := by unfold rsW; rw [hF]
  rw [e1, hF] at LK
  unfold rsV at LK
  obtain ⟨rn, rd⟩ := rt
  dsimp only at LK
  obtain ⟨z1, z2, z3, z4⟩ : bb < w.heap.size ∧ mb < w.heap.size ∧ lb < w.heap.size ∧ w0.heap.size ≤ w.heap.size := ⟨h.b.lt, h.m.lt, h.l.lt, h.u.size⟩
  clear h hL hX hz hs e1
  generalize hLL : lk.length = L at *
  have HLL := Lib.hid hLL
  clear hLL
  have B1 := Lib.hid (HB.out.below (alloc_belQ w (.cells #[.slice (some ⟨g, 0, none⟩) L c', .int .i64 rn, .int .i64 rd] 95)))
  have T1 := Lib.hid (Blk.new w 95 [.slice (some ⟨g, 0, none⟩) L c', .int .i64 rn, .int .i64 rd])
  have S1 := Lib.hid (HS.out.below (alloc_belQ w (.cells #[.slice (some ⟨g, 0, none⟩) L c', .int .i64 rn, .int .i64 rd] 95)))
  go_enter Try.func24, Try.ntmps24
  go_upto_region 6 with (fail)
  obtain ⟨w2, hdr, hm2, hu2⟩ := B1.out.m.drop hi 0
  have b2 := B1.out.b.cell (i := 1) rfl
  have B2 := Lib.hid (B1.out.putM hm2 hu2)
  have T2 := Lib.hid (T1.out.upd hu2 (by omega))
  have S2 := Lib.hid (S1.out.upd hu2 (fun _ e => by dsimp only [Option.getD] at e; omega))
  have t0 := T2.out.cell (i := 0) rfl
  clear B1 T1 S1 hm2 hu2 LK
  go_wp2_with fail
  generalize htb : w.heap.size = tb at *
  have HTB := Lib.hid htb
  clear htb t0 hdr b1 b2
  go_loopw [33] (fun ix wr => RlRel w0 bb mb lb n lc sp cp k (updF F i none) x z lk g tb L c' ⟨rn, rd⟩ ix wr) (fun ix _ => L - (intOf ix).toNat)
  case atStart => exact ⟨0, lf, Nat.zero_le _, rfl, B2, fun l hl => by rw [List.take_zero, if_neg (by simp), Int.add_zero]; exact (HX.out l hl).1, S2, T2⟩
  case round =>
    clear B2 T2 S2
    obtain ⟨p, lf2, hp, rfl, B, HF, S, T⟩ := hrel
    have b0 := B.out.b.cell (i := 0) rfl
    have t1 := T.out.cell (i := 1) rfl
    have t2 := T.out.cell (i := 2) rfl
    have tz := T.out.lt
    by_cases hpl : p < L
    · obtain ⟨y, ey, oky, cy⟩ := S.out.get (k := p) (by rw [HLL.out]; exact hpl)
      rw [adr_mk, Nat.zero_add] at cy
      obtain ⟨hy0, hy1⟩ := HL.out.r y (List.mem_of_getElem? ey.out)
      obtain ⟨yl, rfl⟩ := Int.eq_ofNat_of_zero_le hy0
      have hyn : yl < n := by omega
      have hln : (yl : Int) < (n : Int) := by omega
      have hnt := HL.out.d p _ ey.out
      obtain ⟨-, -, l2, l3, l4⟩ := B.out.cells hyn
      have lfr := B.out.l.free
      have lz := B.out.l.lt
      have hf0 := HF.out yl hyn
      rw [if_neg hnt, Int.add_zero] at hf0
      obtain ⟨hx1, hx2, hx3⟩ := HX.out yl hyn
      have AD := fun w => add_any (lf2 yl) ⟨rn, rd⟩ w (hf0.sm uW_pos uW_le (by omega)) (HZ.out.sm uW_pos uW_le (by omega))
      have hdd := hf0.add uW_pos HZ.out
      generalize (lf2 yl).add ⟨rn, rd⟩ = dd at *
      have HF3 : Hid (∀ l < n, Rp1 uW (updQ lf2 yl dd l) (x l + if (l : Int) ∈ lk.take (p + 1) then z else 0)) := fun l hl => by
        have hm : (l : Int) ∈ lk.take (p + 1) ↔ (l : Int) ∈ lk.take p ∨ l = yl := by
          rw [List.take_add_one, ey.out, List.mem_append]
          show ((l : Int) ∈ lk.take p ∨ (l : Int) ∈ [(yl : Int)]) ↔ _
          rw [List.mem_singleton]
          exact ⟨fun q => q.imp id (fun e => by omega), fun q => q.imp id (fun e => by omega)⟩
        unfold updQ
        by_cases e : l = yl
        · subst e
          rw [if_pos rfl, if_pos (hm.2 (.inr rfl))]
          exact hdd
        · rw [if_neg e]
          have h1 := HF.out l hl
          by_cases hq : (l : Int) ∈ lk.take p
          · rw [if_pos hq] at h1; rw [if_pos (hm.2 (.inl hq))]; exact h1
          · rw [if_neg hq] at h1; rw [if_neg (fun q => (hm.1 q).elim hq e)]; exact h1
      generalize hly : lf2 yl = ly at *
      obtain ⟨y1, y2⟩ := ly
      obtain ⟨d1, d2⟩ := dd
      unfold rV at AD
      dsimp only at *
      replace AD := Lib.hid AD
      clear hf0 hx1 hx2 hx3 hdd hnt ey HF hly
      go_upto_region 14 with (fail)
      have FX := Lib.hid (fun (wx : World) (hx : BkB w0 wx bb mb lb n lc sp cp lf2 k (updF F i none)) (ht : Blk wx tb 95 [.slice (some ⟨g, 0, none⟩) L c', .int .i64 rn, .int .i64 rd]) (hl : wx.cell? ⟨lb, yl * 5 + 2, none⟩ = some (.int .i64 y1) ∧ wx.cell? ⟨lb, yl * 5 + 3, none⟩ = some (.int .i64 y2)) =>
        (⟨hl.1, hl.2, ht.cell rfl, ht.cell rfl, hx.b.cell rfl⟩ : wx.cell? ⟨lb, yl * 5 + 2, none⟩ = some (.int .i64 y1) ∧ wx.cell? ⟨lb, yl * 5 + 3, none⟩ = some (.int .i64 y2) ∧ wx.cell? ⟨tb, 1, none⟩ = some (.int .i64 rn) ∧ wx.cell? ⟨tb, 2, none⟩ = some (.int .i64 rd) ∧ wx.cell? ⟨bb, 0, none⟩ = some (.slice (some ⟨lb, 0, none⟩) n lc)))
      have UA := Lib.hid ((alloc_belQ wr (.cells #[.int .i64 0, .int .i64 0] 29)).trans (Qt.below (Qt.refl _).drew _))
      refine wp_region_allH (fun wx => wx.cell? ⟨lb, yl * 5 + 2, none⟩ = some (.int .i64 y1) ∧ wx.cell? ⟨lb, yl * 5 + 3, none⟩ = some (.int .i64 y2) ∧ wx.cell? ⟨tb, 1, none⟩ = some (.int .i64 rn) ∧ wx.cell? ⟨tb, 2, none⟩ = some (.int .i64 rd) ∧ wx.cell? ⟨bb, 0, none⟩ = some (.slice (some ⟨lb, 0, none⟩) n lc)) 12 (by kernel_rfl) rfl ?_ (fun hHeld => ?_)
      · (exact FX.out _ (B.out.below UA.out) (T.out.bel UA.out) ⟨bel_cell UA.out l2, bel_cell UA.out l3⟩)
      refine wpAnyH_takeG (i := 0) (v := ?_) rfl (by kernel_rfl) (by kernel_rfl) (by kernel_rfl) (fun _ _ _ h => h) rfl ?_ hHeld ?_
      rotate_left
      · intro w hSw
        try dsimp only at hSw
        go_simp
        all_goals with_reducible rfl
      try simp only [Act.put, List.setIfInBounds_toArray, List.set_cons_zero, List.set_cons_succ]
      refine wpAnyH_takeG (i := 1) (v := ?_) rfl (by kernel_rfl) (by kernel_rfl) (by kernel_rfl) (fun _ _ _ h => h) rfl ?_ hHeld ?_
      rotate_left
      · intro w hSw
        try dsimp only at hSw
        go_simp
        all_goals with_reducible rfl
      try simp only [Act.put, List.setIfInBounds_toArray, List.set_cons_zero, List.set_cons_succ]
      refine wpAnyH_takeG (i := 2) (v := ?_) rfl (by kernel_rfl) (by kernel_rfl) (by kernel_rfl) (fun _ _ _ h => h) rfl ?_ hHeld ?_
      rotate_left
      · intro w hSw
        try dsimp only at hSw
        go_simp
        all_goals with_reducible rfl
      try simp only [Act.put, List.setIfInBounds_toArray, List.set_cons_zero, List.set_cons_succ]
      refine wpAnyH_takeG (i := 3) (v := ?_) rfl (by kernel_rfl) (by kernel_rfl) (by kernel_rfl) (fun _ _ _ h => h) rfl ?_ hHeld ?_
      rotate_left
      · intro w hSw
        try dsimp only at hSw
        go_simp
        all_goals with_reducible rfl
      try simp only [Act.put, List.setIfInBounds_toArray, List.set_cons_zero, List.set_cons_succ]
      refine wpAnyH_takeG (i := 4) (v := ?_) rfl (by kernel_rfl) (by kernel_rfl) (by kernel_rfl) (fun _ _ _ h => h) rfl ?_ hHeld ?_
      rotate_left
      · intro w hSw
        try dsimp only at hSw
        go_simp
        all_goals with_reducible rfl
      try simp only [Act.put, List.setIfInBounds_toArray, List.set_cons_zero, List.set_cons_succ]
      refine wpAnyH_takeG (i := 5) (v := ?_) rfl (by kernel_rfl) (by kernel_rfl) (by kernel_rfl) (fun _ _ _ h => h) rfl ?_ hHeld ?_
      rotate_left
      · intro w hSw
        try dsimp only at hSw
        go_simp
        all_goals with_reducible rfl
      try simp only [Act.put, List.setIfInBounds_toArray, List.set_cons_zero, List.set_cons_succ]
      refine wpAnyH_step (i := 6) (by kernel_rfl) rfl (fun KK hK => ?_)
      ((go_simp; go_at_call 10; (with_reducible refine (AD.out _).mono ?_); rintro e w4 ⟨rfl, hb⟩; have XB := Lib.hid ((Blk.drew (Blk.new wr 29 [.int .i64 0, .int .i64 0])).bel hb); have xf := XB.out.free; have xz := XB.out.lt; have xc0 := XB.out.cell (i := 0) rfl; have xc1 := XB.out.cell (i := 1) rfl; have UB := Lib.hid (UA.out.trans (hb.mono UA.out.size))))
      refine hK.out _ _ ?_ (fun hHeld => ?_)
      · (first | exact keep5 hb hHeld | exact keep5s hHeld (by dsimp only; omega) (by dsimp only; omega) (by dsimp only; omega) (by dsimp only; omega) (by dsimp only; omega))
      clear hK KK
      try simp only [Act.put, List.setIfInBounds_toArray, List.set_cons_zero, List.set_cons_succ]
      refine wpAnyH_takeG (i := 7) (v := ?_) rfl (by kernel_rfl) (by kernel_rfl) (by kernel_rfl) (fun _ _ _ h => h) rfl ?_ hHeld ?_
      rotate_left
      · intro w hSw
        try dsimp only at hSw
        go_simp
        all_goals with_reducible rfl
      try simp only [Act.put, List.setIfInBounds_toArray, List.set_cons_zero, List.set_cons_succ]
      refine wpAnyH_takeG (i := 8) (v := ?_) rfl (by kernel_rfl) (by kernel_rfl) (by kernel_rfl) (fun _ _ _ h => h) rfl ?_ hHeld ?_
      rotate_left
      · intro w hSw
        try dsimp only at hSw
        go_simp
        all_goals with_reducible rfl
      try simp only [Act.put, List.setIfInBounds_toArray, List.set_cons_zero, List.set_cons_succ]
      refine wpAnyH_takeG (i := 9) (v := ?_) rfl (by kernel_rfl) (by kernel_rfl) (by kernel_rfl) (fun _ _ _ h => h) rfl ?_ hHeld ?_
      rotate_left
      · intro w hSw
        try dsimp only at hSw
        go_simp
        all_goals with_reducible rfl
      try simp only [Act.put, List.setIfInBounds_toArray, List.set_cons_zero, List.set_cons_succ]
      refine wpAnyH_step (i := 10) (by kernel_rfl) rfl (fun KK hK => ?_)
      (go_simp)
      refine hK.out _ _ ?_ (fun hHeld => ?_)
      · (first | exact keep5 hb hHeld | exact keep5s hHeld (by dsimp only; omega) (by dsimp only; omega) (by dsimp only; omega) (by dsimp only; omega) (by dsimp only; omega))
      clear hK KK
      try simp only [Act.put, List.setIfInBounds_toArray, List.set_cons_zero, List.set_cons_succ]
      refine wpAnyH_takeG (i := 11) (v := ?_) rfl (by kernel_rfl) (by kernel_rfl) (by kernel_rfl) (fun _ _ _ h => h) rfl ?_ hHeld ?_
      rotate_left
      · intro w hSw
        try dsimp only at hSw
        go_simp
        all_goals with_reducible rfl
      try simp only [Act.put, List.setIfInBounds_toArray, List.set_cons_zero, List.set_cons_succ]
      refine wpAnyH_done (by kernel_rfl) ?_ _
      have US := Lib.hid (((Upd.of_below (S := fun i => wr.heap.size ≤ i) UB.out).setCell ⟨wr.heap.size, 0, none⟩ (.int .i64 d1) (fun _ => Nat.le_refl _)).setCell ⟨wr.heap.size, 1, none⟩ (.int .i64 d2) (fun _ => Nat.le_refl _))
      have X5 := Lib.hid ((XB.out.set 0 (.int .i64 d1)).set 1 (.int .i64 d2))
      have hgw := (S.out.old (by intro e; have := HLL.out; rw [e] at this; simp at this; omega))
      dsimp only [Option.getD] at hgw
      have S5 := Lib.hid (S.out.upd US.out (fun _ e => by dsimp only [Option.getD] at e; omega))
      have T5 := Lib.hid (T.out.upd US.out (by omega))
      have B5 := Lib.hid (B.out.far US.out (fun i h => h))
      generalize wr.heap.size = xb at *
      clear hHeld hb UA FX UB US XB xf xz xc0 xc1 b0 t1 t2 l2 l3 l4 lfr S B
      generalize (w4.setCell ⟨xb, 0, none⟩ (.int .i64 d1)).setCell ⟨xb, 1, none⟩ (.int .i64 d2) = W5 at *
      have x0 := X5.out.cell (i := 0) rfl
      have x1 := X5.out.cell (i := 1) rfl
      obtain ⟨-, -, l2, l3, l4⟩ := B5.out.cells hyn
      have lfr := B5.out.l.free
      have lz5 := B5.out.l.lt
      go_wp2_with fail
      go_roundw
      case rel => exact ⟨p + 1, updQ lf2 yl ⟨d1, d2⟩, by omega, by go_num, B5.out.put hyn ⟨d1, d2⟩, HF3, S5.out.upd (((Upd.refl (fun i => i = lb) W5).setCell _ _ (fun _ => rfl)).setCell _ _ (fun _ => rfl)) (fun _ e => by dsimp only [Option.getD] at e; omega), (T5.out.setO _ (by dsimp only; omega)).setO _ (by dsimp only; omega)⟩
      case measure => simp [intOf]; omega
    · obtain rfl : L = p := by omega
      have HF2 : Hid (∀ l < n, Rp1 uW (lf2 l) (x l + if (l : Int) ∈ lk then z else 0)) := fun l hl => by have h1 := HF.out l hl; rw [List.take_of_length_le (by rw [HLL.out]; omega)] at h1; exact h1
      go_wp2_with fail
      go_ret
      exact ⟨⟨_, rfl⟩, lf2, B.out, HF2.out⟩
end Go.Proofs.Ytbdaehcngmhhcaa
