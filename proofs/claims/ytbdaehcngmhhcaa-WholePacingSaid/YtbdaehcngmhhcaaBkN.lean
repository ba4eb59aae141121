/-
  Contract of admit.New.
-/
import Derived.Test.YtbdaehcngmhhcaaBkM
import Derived.Test.YtbdaehcngmhhcaaLvM
namespace Go.Proofs.Ytbdaehcngmhhcaa
open Go.RowKit
set_option linter.unusedVariables false

def capG (caps : List Rq) (l : Nat) : Rq := match caps[l]? with | some c => if c.n = 0 then ⟨0, 1⟩ else c | none => ⟨0, 1⟩
theorem capG_of {caps : List Rq} {l : Nat} {c : Rq} (h : caps[l]? = some c) : capG caps l = if c.n = 0 then ⟨0, 1⟩ else c := by unfold capG; rw [h]
theorem Rp1.zeroN {U : Nat} {c : Rq} {k : Int} (h : Rp1 U c k) (h0 : c.n = 0) : k = 0 := by
  have h1 := h.rp.2
  rw [h0, Int.zero_mul] at h1
  have hd : c.D ≠ 0 := by unfold Rq.D; have := h.d1; split <;> omega
  rcases Int.mul_eq_zero.1 h1.symm with h2 | h2
  · exact h2
  · omega
theorem capG_rp {U : Nat} {caps : List Rq} {l : Nat} {c : Rq} {k : Int} (h : caps[l]? = some c) (hr : Rp1 U c k) : Rp1 U (capG caps l) k := by
  rw [capG_of h]
  split
  · rename_i h0
    rw [hr.zeroN h0]
    exact Rp1.zero U
  · exact hr
theorem Try.infoLk : (Try.prog.info? 89).map (fun i => (i.zero, i.size, i.bytes)) = some (some (.agg #[.int .i64 0, .int .i64 0, .int .i64 0, .int .i64 0, .bool false]), 5, 40) := by kernel_rfl
theorem FX9 {w wr w' : World} {bb mb n k tb : Nat} {la : Option Addr} {lc : Nat} {cp lf : Nat → Rq} {F : Nat → Option Rs} {x0 x1 : Value} (h : BkAt w wr bb mb n la lc cp lf k F) (hB : Blk wr tb 29 [x0, x1]) (hgr : wr.grownBy w' (Value.slice la n lc).ownBlock) :
    (w'.cell? ⟨bb, 0, none⟩ = some (.slice la n lc) ∧ w'.cell? ⟨tb, 0, none⟩ = some x0 ∧ w'.cell? ⟨tb, 1, none⟩ = some x1) ∧ True ∧ bb < w'.heap.size ∧ ∀ i, w'.frozen? ⟨bb, i, none⟩ = false := by
  have q := Upd.of_grownV hgr
  have b := h.b.upd q h.ne.2.1
  have c := hB.upd q (own_ne h.l hB (by decide))
  exact ⟨⟨b.cell rfl, c.cell rfl, c.cell rfl⟩, trivial, b.lt, b.free⟩
def NwPost (w : World) (caps : List Rq) (e : Ending) (w' : World) : Prop :=
  ∃ (bb mb : Nat) (la : Option Addr) (lc : Nat), e = .returned (.tuple #[.pointer (some ⟨bb, 0, none⟩), .int .i64 0]) ∧ BkAt w w' bb mb caps.length la lc (capG caps) (capG caps) 0 (fun _ => none)
def Nw1Rel (w : World) (n : Nat) (ix : Value) (wr : World) : Prop := ∃ p : Nat, p ≤ n ∧ ix = .int .i64 p ∧ Hid (Below w.heap.size w wr)
def Nw2Rel (w : World) (caps : List Rq) (n bb mb : Nat) (ix : Value) (wr : World) : Prop :=
  ∃ (p : Nat) (la : Option Addr) (lc : Nat), p ≤ n ∧ ix = .int .i64 p ∧ Hid (BkAt w wr bb mb p la lc (capG caps) (capG caps) 0 (fun _ => none))
set_option maxRecDepth 100000 in
set_option maxHeartbeats 4000000 in
theorem new_any (w : World) (ca : Option Addr) (cc : Nat) (caps : List Rq) (C : Nat → Int) (h : SlC rC 2 w ca caps) (hn : caps.length ≤ 4) (hC : ∀ (l : Nat) c, caps[l]? = some c → Rp1 uU c (C l) ∧ 0 ≤ C l ∧ C l ≤ uU) :
    Calls Try.prog 22 #[.slice ca caps.length cc] w (NwPost w caps) := by
  have H := Lib.hid h
  have HC := Lib.hid hC
  clear h hC
  have hU : uU = 1244160 := rfl
  obtain ⟨n, hnn⟩ : ∃ n, caps.length = n := ⟨_, rfl⟩
  have HNN := Lib.hid hnn
  rw [hnn] at hn ⊢
  clear hnn
  have hmk : ∀ w : World, (Instr.makeMap 84 none).run Try.prog w = .ok (.map (some w.heap.size)) (w.alloc (.map #[] 0)) := fun _ => rfl
  go_enter Try.func22, Try.ntmps22
  go_wp2_with fail
  go_loopw [14] (fun ix wr => Nw1Rel w n ix wr) (fun ix _ => n - (intOf ix).toNat)
  case atStart => exact ⟨0, Nat.zero_le _, rfl, Below.refl _ _⟩
  case round =>
    obtain ⟨p, hp, rfl, T⟩ := hrel
    by_cases hpn : p < n
    · obtain ⟨c, ec, okc, cn, cd⟩ := (H.out.below T.out).r (k := p) (by rw [HNN.out]; exact hpn)
      obtain ⟨hc1, hc2, hc3⟩ := HC.out p c ec.out
      have hok : c.ok = true := Rp.ok uU_pos (by decide) (by omega) hc1.rp
      have hsm := hc1.sm uU_pos uU_le (by omega)
      obtain ⟨c1, c2⟩ := c
      have V := fun w => valid_any c1 c2 w (by have := hsm.n1; have := hsm.n2; dsimp only at *; omega) (by have := hsm.d1; have := hsm.d2; dsimp only at *; omega)
      simp only [hok] at V
      replace V := Lib.hid V
      have T1 := Lib.hid (T.out.trans (Below.mono (alloc_belQ wr (.cells #[.int .i64 c1, .int .i64 c2] 29)) T.out.size))
      dsimp only at *
      clear ec hc1 hok hsm hc2 hc3
      go_wp2_with fail
      refine (V.out _).mono ?_
      rintro e w1 ⟨rfl, hb⟩
      have T2 := Lib.hid (T1.out.trans (hb.mono T1.out.size))
      clear hb V
      go_wp2_with fail
      go_roundw
      case rel => exact ⟨p + 1, by omega, by go_num, T2⟩
      case measure => simp [intOf]; omega
    · obtain rfl : p = n := by omega
      have M0 := Lib.hid ((RsAt.made wr).below (alloc_belQ (wr.alloc (.map #[] 0)) (.cells #[.slice none 0 0, .map (some wr.heap.size)] 87)))
      have B0 := Lib.hid (Blk.new (wr.alloc (.map #[] 0)) 87 [.slice none 0 0, .map (some wr.heap.size)])
      have hsz := T.out.size
      have U0 := Lib.hid ((T.out.alloc hsz (.map #[] 0)).alloc (by simp; omega) (.cells #[.slice none 0 0, .map (some wr.heap.size)] 87))
      have BK : Hid (BkAt w ((wr.alloc (.map #[] 0)).alloc (.cells #[.slice none 0 0, .map (some wr.heap.size)] 87)) (wr.heap.size + 1) wr.heap.size 0 none 0 (capG caps) (capG caps) 0 (fun _ => none)) :=
        ⟨by omega, hsz, by have := B0.out; rw [World.size_alloc] at this; exact this, ⟨rfl, .inl ⟨rfl, rfl⟩⟩, M0.out, U0.out⟩
      clear M0 B0 U0 hsz
      go_wp2_with fail
      generalize wr.heap.size = mb at *
      go_loopw [27] (fun ix wr' => Nw2Rel w caps p (mb + 1) mb ix wr') (fun ix _ => p - (intOf ix).toNat)
      case atStart => exact ⟨0, none, 0, Nat.zero_le _, rfl, BK⟩
      case round =>
        clear BK
        obtain ⟨j, la, lc, hj, rfl, T⟩ := hrel
        by_cases hjn : j < p
        · obtain ⟨c, ec, okc, cn, cd⟩ := (H.out.below T.out.u).r (k := j) (by rw [HNN.out]; exact hjn)
          obtain ⟨hc1, hc2, hc3⟩ := HC.out j c ec.out
          have hok : c.ok = true := Rp.ok uU_pos (by decide) (by omega) hc1.rp
          have hnn : 0 ≤ c.n := (hc1.rp.n_nonneg uU_pos).2 hc2
          have hcm : ¬ 0 < c.cmp ⟨1000, 1⟩ := fun x => by
            have h1 : Rp uU ⟨1000, 1⟩ (1000 * uU) := ⟨.inr ⟨by decide, by decide⟩, by decide⟩
            have := (cmp_gt_iff uU_pos hc1.rp h1).1 x
            omega
          have CM := fun w => cmp_any c ⟨1000, 1⟩ w hok (by decide)
          have HG := Lib.hid (capG_of ec.out)
          generalize c.cmp ⟨1000, 1⟩ = cm at *
          obtain ⟨c1, c2⟩ := c
          unfold rV at CM
          dsimp only at *
          replace CM := Lib.hid CM
          clear hc1 hc2 hc3 hok ec
          have hneg : ¬ c1 < 0 := by omega
          have T1 := Lib.hid (T.out.below (alloc_belQ wr (.cells #[.int .i64 c1, .int .i64 c2] 29)))
          have B1 := Lib.hid (Blk.new wr 29 [.int .i64 c1, .int .i64 c2])
          have U1 := Lib.hid ((Upd.refl (fun _ => False) wr).alloc (.cells #[.int .i64 c1, .int .i64 c2] 29))
          have zwr : (wr.alloc (.cells #[.int .i64 c1, .int .i64 c2] 29)).heap.size = wr.heap.size + 1 := by simp
          go_wp2_with fail
          refine (CM.out _).mono ?_
          rintro e w1 ⟨rfl, hb⟩
          replace B1 := Lib.hid (B1.out.bel hb)
          replace T1 := Lib.hid (T1.out.below hb)
          replace U1 := Lib.hid (Upd.then (U1.out.mono (T := fun i => wr.heap.size ≤ i) (fun _ _ h => h.elim)) (Upd.of_below (S := fun i => wr.heap.size ≤ i) hb) (fun i _ h => h))
          have hb' := hb.size
          clear hb CM
          generalize htb : wr.heap.size = tb at *
          have HTB := Lib.hid htb
          clear htb
          have bf := B1.out.free
          have bz := B1.out.lt
          have b0 := B1.out.cell (i := 0) rfl
          have b1 := B1.out.cell (i := 1) rfl
          rcases Decidable.em (c1 = 0) with h0 | h0
          case' inl =>
            subst h0
            go_upto_region 17 with (fail)
            have B2 : Hid (Blk ((w1.setCell ⟨tb, 0, none⟩ (.int .i64 0)).setCell ⟨tb, 1, none⟩ (.int .i64 1)) tb 29 [.int .i64 (capG caps j).n, .int .i64 (capG caps j).d]) := Lib.hid (by rw [HG.out]; exact (B1.out.set 0 _).set 1 _)
            have T2 : Hid (BkAt w ((w1.setCell ⟨tb, 0, none⟩ (.int .i64 0)).setCell ⟨tb, 1, none⟩ (.int .i64 1)) (mb + 1) mb j la lc (capG caps) (capG caps) 0 (fun _ => none)) :=
              T.out.far ((U1.out.setCell _ _ (fun _ => Nat.le_refl _)).setCell _ _ (fun _ => Nat.le_refl _)) (fun i h => by rw [HTB.out]; exact h)
            clear b0 b1 bf bz T1 B1 U1
            generalize (w1.setCell ⟨tb, 0, none⟩ (.int .i64 0)).setCell ⟨tb, 1, none⟩ (.int .i64 1) = W at *
          case' inr =>
            have h00 : (c1 == 0) = false := by simp [h0]
            go_upto_region 17 with (fail)
            have B2 : Hid (Blk w1 tb 29 [.int .i64 (capG caps j).n, .int .i64 (capG caps j).d]) := Lib.hid (by rw [HG.out, if_neg h0]; exact B1.out)
            have T2 := T1
            clear b0 b1 bf bz T1 B1 U1
            generalize w1 = W at *
          all_goals
            generalize hgg : capG caps j = gg at *
            have HGG := Lib.hid hgg
            clear hgg
            obtain ⟨g1, g2⟩ := gg
            have FX := Lib.hid (fun (wx : World) (hx : BkAt w wx (mb + 1) mb j la lc (capG caps) (capG caps) 0 (fun _ => none)) (hy : Blk wx tb 29 [.int .i64 g1, .int .i64 g2]) =>
              (⟨hx.b.cell rfl, hy.cell rfl, hy.cell rfl⟩ : wx.cell? ⟨mb + 1, 0, none⟩ = some (.slice la j lc) ∧ wx.cell? ⟨tb, 0, none⟩ = some (.int .i64 g1) ∧ wx.cell? ⟨tb, 1, none⟩ = some (.int .i64 g2)))
            have T3 := Lib.hid (T2.out.below (Qt.refl W).drew.bel)
            have B3 := Lib.hid (B2.out.qt (Qt.refl W).drew)
            obtain ⟨i1, hi, hz0, hz1, hz2⟩ := info_parts Try.infoLk
            have JI := Lib.hid hi; have JZ0 := Lib.hid hz0; have JZ1 := Lib.hid hz1; have JZ2 := Lib.hid hz2
            have hsz := T3.out.u.size
            clear hi hz0 hz1 hz2
            refine wp_region_lastH (fun wx => wx.cell? ⟨mb + 1, 0, none⟩ = some (.slice la j lc) ∧ wx.cell? ⟨tb, 0, none⟩ = some (.int .i64 g1) ∧ wx.cell? ⟨tb, 1, none⟩ = some (.int .i64 g2)) 12 13 (by kernel_rfl) (by kernel_rfl) rfl rfl ?_ (fun hHeld => ?_)
            · (exact FX.out _ T3.out B3.out)
            simp only [nopFor, List.set_cons_succ, List.set_cons_zero]
            refine wpAnyH_takeL (i := 0) (v := ?_) rfl (by kernel_rfl) (by kernel_rfl) (by kernel_rfl) (fun _ _ _ h => h) rfl ?_ hHeld ?_
            rotate_left
            · intro w hSw
              try dsimp only at hSw
              go_simp
              all_goals with_reducible rfl
            try simp only [Act.put, List.setIfInBounds_toArray, List.set_cons_zero, List.set_cons_succ]
            refine wpAnyH_takeL (i := 1) (v := ?_) rfl (by kernel_rfl) (by kernel_rfl) (by kernel_rfl) (fun _ _ _ h => h) rfl ?_ hHeld ?_
            rotate_left
            · intro w hSw
              try dsimp only at hSw
              go_simp
              all_goals with_reducible rfl
            try simp only [Act.put, List.setIfInBounds_toArray, List.set_cons_zero, List.set_cons_succ]
            refine wpAnyH_takeL (i := 2) (v := ?_) rfl (by kernel_rfl) (by kernel_rfl) (by kernel_rfl) (fun _ _ _ h => h) rfl ?_ hHeld ?_
            rotate_left
            · intro w hSw
              try dsimp only at hSw
              go_simp
              all_goals with_reducible rfl
            try simp only [Act.put, List.setIfInBounds_toArray, List.set_cons_zero, List.set_cons_succ]
            refine wpAnyH_takeL (i := 3) (v := ?_) rfl (by kernel_rfl) (by kernel_rfl) (by kernel_rfl) (fun _ _ _ h => h) rfl ?_ hHeld ?_
            rotate_left
            · intro w hSw
              try dsimp only at hSw
              go_simp
              all_goals with_reducible rfl
            try simp only [Act.put, List.setIfInBounds_toArray, List.set_cons_zero, List.set_cons_succ]
            refine wpAnyH_takeL (i := 4) (v := ?_) rfl (by kernel_rfl) (by kernel_rfl) (by kernel_rfl) (fun _ _ _ h => h) rfl ?_ hHeld ?_
            rotate_left
            · intro w hSw
              try dsimp only at hSw
              go_simp
              all_goals with_reducible rfl
            try simp only [Act.put, List.setIfInBounds_toArray, List.set_cons_zero, List.set_cons_succ]
            refine wpAnyH_takeL (i := 5) (v := ?_) rfl (by kernel_rfl) (by kernel_rfl) (by kernel_rfl) (fun _ _ _ h => h) rfl ?_ hHeld ?_
            rotate_left
            · intro w hSw
              try dsimp only at hSw
              go_simp
              all_goals with_reducible rfl
            try simp only [Act.put, List.setIfInBounds_toArray, List.set_cons_zero, List.set_cons_succ]
            refine wpAnyH_takeL (i := 6) (v := ?_) rfl (by kernel_rfl) (by kernel_rfl) (by kernel_rfl) (fun _ _ _ h => h) rfl ?_ hHeld ?_
            rotate_left
            · intro w hSw
              try dsimp only at hSw
              go_simp
              all_goals with_reducible rfl
            try simp only [Act.put, List.setIfInBounds_toArray, List.set_cons_zero, List.set_cons_succ]
            refine wpAnyH_takeL (i := 7) (v := ?_) rfl (by kernel_rfl) (by kernel_rfl) (by kernel_rfl) (fun _ _ _ h => h) rfl ?_ hHeld ?_
            rotate_left
            · intro w hSw
              try dsimp only at hSw
              go_simp
              all_goals with_reducible rfl
            try simp only [Act.put, List.setIfInBounds_toArray, List.set_cons_zero, List.set_cons_succ]
            refine wpAnyH_step (i := 8) (by kernel_rfl) rfl (fun KK hK => ?_)
            (go_simp; have A8 := Lib.hid (And.intro (T3.out.below (alloc_belQ _ (.cells #[.int .i64 g1, .int .i64 g2, .int .i64 g1, .int .i64 g2, .bool true] 89))) (B3.out.alloc (.cells #[.int .i64 g1, .int .i64 g2, .int .i64 g1, .int .i64 g2, .bool true] 89))))
            refine hK.out _ _ ?_ (fun hHeld => ?_)
            · (first | exact K9.out.1 | exact FX.out _ A8.out.1 A8.out.2)
            clear hK KK
            try simp only [Act.put, List.setIfInBounds_toArray, List.set_cons_zero, List.set_cons_succ]
            refine wpAnyH_step (i := 9) (by kernel_rfl) rfl (fun KK hK => ?_)
            (refine step_append_cells (by rfl) _ _ 85 (by rfl) w.heap.size 89 i1 _ 5 40 Try.underlying85 JI.out JZ0.out JZ1.out JZ2.out rfl (by decide) (.slice la j lc) j (flC lkC (lkF j (capG caps) (capG caps))) (by rfl) A8.out.1.l (some ⟨W.drew.heap.size, 0, none⟩) 1 1 [.int .i64 g1, .int .i64 g2, .int .i64 g1, .int .i64 g2, .bool true] (by rfl) rfl (fun j u hj => ⟨rfl, by rw [adr_mk, Nat.zero_add]; exact (Blk.new W.drew 89 [.int .i64 g1, .int .i64 g2, .int .i64 g1, .int .i64 g2, .bool true]).cell hj⟩) (by intro u hu; simp at hu; rcases hu with rfl | rfl | rfl | rfl | rfl <;> rfl) (by unfold maxLen; omega) (by omega) A8.out.1.u.size ?_; intro v' w7 hown hgr hat; obtain ⟨la', lc', rfl, _⟩ := own_shape hown; have K9 := Lib.hid (FX9 A8.out.1 A8.out.2 hgr); have A9 := Lib.hid (A8.out.1.push (la' := la') (lc' := lc') (by rw [HGG.out]; exact hown) hgr); have bf := K9.out.2.2.2; have bz := K9.out.2.2.1; clear hown hgr hat)
            refine hK.out _ _ ?_ (fun hHeld => ?_)
            · (first | exact K9.out.1 | exact FX.out _ A8.out.1 A8.out.2)
            clear hK KK
            try simp only [Act.put, List.setIfInBounds_toArray, List.set_cons_zero, List.set_cons_succ]
            refine wpAnyH_takeL (i := 10) (v := ?_) rfl (by kernel_rfl) (by kernel_rfl) (by kernel_rfl) (fun _ _ _ h => h) rfl ?_ hHeld ?_
            rotate_left
            · intro w hSw
              try dsimp only at hSw
              go_simp
              all_goals with_reducible rfl
            try simp only [Act.put, List.setIfInBounds_toArray, List.set_cons_zero, List.set_cons_succ]
            refine wpAnyH_takeL (i := 11) (v := ?_) rfl (by kernel_rfl) (by kernel_rfl) (by kernel_rfl) (fun _ _ _ h => h) rfl ?_ hHeld ?_
            rotate_left
            · intro w hSw
              try dsimp only at hSw
              go_simp
              all_goals with_reducible rfl
            try simp only [Act.put, List.setIfInBounds_toArray, List.set_cons_zero, List.set_cons_succ]
            refine wpAnyH_takeL (i := 12) (v := ?_) rfl (by kernel_rfl) (by kernel_rfl) (by kernel_rfl) (fun _ _ _ h => h) rfl ?_ hHeld ?_
            rotate_left
            · intro w hSw
              try dsimp only at hSw
              go_simp
              all_goals with_reducible rfl
            try simp only [Act.put, List.setIfInBounds_toArray, List.set_cons_zero, List.set_cons_succ]
            refine wpAnyH_done (by kernel_rfl) ?_ _
            rw [LastQ_normal]
            go_wp2_with fail
            go_roundw
            case rel => exact ⟨j + 1, la', lc', by omega, by go_num, A9⟩
            case measure => simp [intOf]; omega
        · obtain rfl : j = p := by omega
          go_wp2_with fail
          exact bodyPost_ret (v := .tuple #[.pointer (some ⟨mb + 1, 0, none⟩), .int .i64 0]) (by simp [results, Try.results22, go_sem]) rfl ⟨mb + 1, mb, la, lc, rfl, by rw [HNN.out]; exact T.out⟩
end Go.Proofs.Ytbdaehcngmhhcaa
