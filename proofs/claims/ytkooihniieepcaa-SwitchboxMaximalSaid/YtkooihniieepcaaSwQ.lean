/-
  switchbox.New.
-/
import Derived.Test.YtkooihniieepcaaSwPa
namespace Go.Proofs.Ytkooihniieepcaa
open Go.RowKit
set_option linter.unusedVariables false

theorem Try.infoGvP : (Try.prog.info? 74).map (fun i => (i.zero, i.size, i.bytes)) = some (some (.pointer none), 1, 8) := by kernel_rfl
theorem Try.infoTkP : (Try.prog.info? 77).map (fun i => (i.zero, i.size, i.bytes)) = some (some (.pointer none), 1, 8) := by kernel_rfl
theorem Try.infoQRow : (Try.prog.info? 30).map (fun i => (i.zero, i.size, i.bytes)) = some (some (.slice none 0 0), 1, 24) := by kernel_rfl
theorem make_qrow (w : World) (n : Nat) (h : n ≤ 1000000) : (Instr.makeSlice 65 (.int .i64 n) (.int .i64 n)).run Try.prog w =
    .ok (.slice (some ⟨w.heap.size, 0, none⟩) n n) (w.alloc (.cells ((List.range n).map fun _ => Value.slice none 0 0).toArray 30)) := by
  obtain ⟨i, hi, hz, hs, hb⟩ := info_parts Try.infoQRow
  rw [run_make w 65 30 i _ Try.underlying65 hi hz .i64 .i64 n n (by omega) (by omega) (by rw [hb]; omega) (by omega)]
  have e : madeCells (Value.slice none 0 0).cells (((n : Int).toNat) * i.size) = ((List.range n).map fun _ => Value.slice none 0 0).toArray := by
    rw [hs, Nat.mul_one, Int.toNat_natCast]
    apply Array.toList_inj.1
    rw [show (Value.slice none 0 0).cells = #[Value.slice none 0 0] from rfl, toList_madeCells_one]
    have := fun_const (fun _ : Unit => Value.slice none 0 0) n ()
    rw [← this]
    simp
  rw [e, Int.toNat_natCast]
theorem newG_one (w : World) (b c0 : Nat) (z : Int) (h1 : 1 ≤ z) (h2 : z ≤ 64) (h : Blk w b 3 [.int .i64 z]) : Calls Try.prog 31 #[.slice (some ⟨b, 0, none⟩) 1 c0] w fun e w' =>
    e = .returned (.tuple #[.pointer (some ⟨w.heap.size + 1, 0, none⟩), .int .i64 0]) ∧ GAt w' w.heap.size (w.heap.size + 1) w.heap.size [newG z] ∧ Below w.heap.size w w' ∧ w'.heap.size = w.heap.size + 2 := by
  have hok : OkRooms [z] := ⟨Nat.le_refl _, by simp, fun y hy => by
    have : y = z := by simpa using hy
    rw [this]
    exact ⟨h1, h2⟩⟩
  refine (newG_any w (some ⟨b, 0, none⟩) c0 [z] (Blk.sl (T := 3) h) (by unfold maxLen; simp)).mono ?_
  rintro e w' (⟨_, h⟩ | ⟨h, _⟩)
  · exact h
  · exact absurd hok h
theorem newT_one (w : World) : Calls Try.prog 32 #[.int .i64 1] w fun e w' =>
    e = .returned (.tuple #[.pointer (some ⟨w.heap.size + 1, 0, none⟩), .int .i64 0]) ∧ TAt w' w.heap.size (w.heap.size + 1) w.heap.size [⟨0, 0⟩] ∧ Below w.heap.size w w' ∧ w'.heap.size = w.heap.size + 2 := newT_ok w 1 (by decide) (by decide)
def NvRel (W : World) (zs : List Int) (iv : Value) (w : World) : Prop := ∃ k ≤ zs.length, iv = .int .i64 k ∧ (∀ j z, j < k → zs[j]? = some z → 1 ≤ z ∧ z ≤ 64) ∧ W = w
def NoRel (W : World) (P bb : Nat) (zs : List Int) (iv : Value) (w : World) : Prop := ∃ p ≤ P, iv = .int .i64 p ∧ (∃ n L, NwI zs.length p 0 p n L ∧ St w W.heap.size (nwC P zs.length n L (mdNew zs)) ∧ L.bb = bb) ∧ Below W.heap.size W w
def NiRel (W : World) (P bb : Nat) (zs : List Int) (p : Nat) (iv : Value) (w : World) : Prop := ∃ c ≤ zs.length, iv = .int .i64 c ∧ (∃ n L, NwI zs.length p c (p + 1) n L ∧ St w W.heap.size (nwC P zs.length n L (mdNew zs)) ∧ L.bb = bb) ∧ Below W.heap.size W w
def NewYes (w : World) (P : Nat) (zs : List Int) (e : Ending) (w' : World) : Prop := ∃ L, e = .returned (.tuple #[.pointer (some ⟨L.bb, 0, none⟩), .int .i64 0]) ∧ BoxAt w' w.heap.size P zs.length L (mdNew zs) ∧ Below w.heap.size w w'
set_option maxHeartbeats 8000000 in
set_option maxRecDepth 100000 in
theorem new_yes (w : World) (P : Nat) (a : Option Addr) (c0 : Nat) (zs : List Int) (hs : SlI w a zs) (hok : OkBox P zs) :
    Calls Try.prog 15 #[.int .i64 P, .slice a zs.length c0] w (NewYes w P zs) := by
  have S := Lib.hid hs
  have p1 := hok.p1; have p8 := hok.p8; have k1 := hok.k1; have k8 := hok.k8
  have ZZ := Lib.hid hok.z
  have OK := Lib.hid hok
  obtain ⟨i1, hi, hz0, hz1, hz2⟩ := info_parts Try.infoGvP
  have GI := Lib.hid hi; have GZ0 := Lib.hid hz0; have GZ1 := Lib.hid hz1; have GZ2 := Lib.hid hz2
  clear hi hz0 hz1 hz2
  obtain ⟨i2, hi, hz0, hz1, hz2⟩ := info_parts Try.infoTkP
  have TI := Lib.hid hi; have TZ0 := Lib.hid hz0; have TZ1 := Lib.hid hz1; have TZ2 := Lib.hid hz2
  clear hi hz0 hz1 hz2 hs hok
  have g1 : ¬ (P : Int) < 1 := by omega
  have g2 : ¬ (8 : Int) < (P : Int) := by omega
  obtain ⟨K, hK⟩ : ∃ K, zs.length = K := ⟨_, rfl⟩
  rw [hK] at k1 k8 ⊢
  have HK := Lib.hid hK
  clear hK
  have g3 : ¬ (K : Int) < 1 := by omega
  have g4 : ¬ (8 : Int) < (K : Int) := by omega
  have BN := Lib.hid (fun w => barnew_ok P w (by omega) (by omega))
  go_enter Try.func15, Try.ntmps15
  go_wp2_with fail
  go_loopw [36] (fun iv wr => NvRel w zs iv wr) (fun iv _ => K - (intOf iv).toNat)
  case atStart => exact ⟨0, Nat.zero_le _, rfl, fun j z hj => absurd hj (Nat.not_lt_zero _), rfl⟩
  case round =>
    obtain ⟨k, hk, rfl, hv, rfl⟩ := hrel
    rw [HK.out] at hk
    have HV := Lib.hid hv
    clear hv
    by_cases hlt : k < K
    · obtain ⟨z, ez, okz, cz⟩ := S.out.get (k := k) (by rw [HK.out]; exact hlt)
      obtain ⟨hz1, hz2⟩ := ZZ.out z (List.mem_of_getElem? ez.out)
      go_wp2_with fail
      go_roundw
      case rel => exact ⟨k + 1, by rw [HK.out]; omega, by go_num, fun j z hj hz => ZZ.out z (List.mem_of_getElem? hz), rfl⟩
      case measure => simp [intOf]; omega
    · obtain rfl : k = K := by omega
      go_upto_region 9 with (fail)
      go_wp2_with fail
      refine (BN.out _).mono ?_
      rintro e w1 ⟨rfl, hb, hbw, hz⟩
      have h1 := nw_start (K := k) (zs := zs) hb hz
      have ST := Lib.hid h1
      have BW := Lib.hid hbw
      have HZ := Lib.hid hz
      clear hb hbw hz h1 HV
      go_upto_region 13 with (fail)
      obtain ⟨bb, hbb⟩ : ∃ bb, bb = w1.heap.size := ⟨_, rfl⟩
      have N0 : Hid (∃ n L, NwI k 0 0 0 n L ∧ St (w1.alloc (.cells #[.int .i64 P, .int .i64 k, .slice none 0 0, .slice none 0 0, .slice none 0 0, .slice none 0 0, .slice none 0 0, .slice none 0 0, .slice none 0 0, .slice none 0 0, .slice none 0 0, .slice none 0 0, .slice none 0 0, .slice none 0 0, .slice none 0 0, .slice none 0 0, .slice none 0 0, .slice none 0 0, .slice none 0 0, .slice none 0 0, .slice none 0 0, .slice none 0 0, .slice none 0 0, .slice none 0 0, .slice none 0 0, .slice none 0 0, .int .i64 0, .int .i64 0, .int .i64 0, .int .i64 0, .int .i64 0, .int .i64 0, .int .i64 0, .int .i64 0, .pointer (some ⟨w.heap.size, 0, none⟩), .int .i64 0] 73)) w.heap.size (nwC P k n L (mdNew zs)) ∧ L.bb = bb) := ⟨nw0, loc0 w1.heap.size w.heap.size, NwI.start _ _, ST.out, hbb.symm⟩
      have B0 : Hid (Below w.heap.size w (w1.alloc (.cells #[.int .i64 P, .int .i64 k, .slice none 0 0, .slice none 0 0, .slice none 0 0, .slice none 0 0, .slice none 0 0, .slice none 0 0, .slice none 0 0, .slice none 0 0, .slice none 0 0, .slice none 0 0, .slice none 0 0, .slice none 0 0, .slice none 0 0, .slice none 0 0, .slice none 0 0, .slice none 0 0, .slice none 0 0, .slice none 0 0, .slice none 0 0, .slice none 0 0, .slice none 0 0, .slice none 0 0, .slice none 0 0, .slice none 0 0, .int .i64 0, .int .i64 0, .int .i64 0, .int .i64 0, .int .i64 0, .int .i64 0, .int .i64 0, .int .i64 0, .pointer (some ⟨w.heap.size, 0, none⟩), .int .i64 0] 73))) := BW.out.alloc (by have := HZ.out; omega) _
      rw [← hbb]
      clear hbb ST BW HZ
      go_wp2_with fail
      go_loopw [62] (fun iv wr => NoRel w P bb zs iv wr) (fun iv _ => P - (intOf iv).toNat)
      case atStart => exact ⟨0, Nat.zero_le _, rfl, by rw [HK.out]; exact N0.out, B0.out⟩
      case round =>
        clear N0 B0
        obtain ⟨p, hp, rfl, hS, hB⟩ := hrel
        rw [HK.out] at hS
        have BB := Lib.hid hB
        obtain ⟨n, L, hI, hS, hLb⟩ := hS
        have NI := Lib.hid hI; have SS := Lib.hid hS; have LB := Lib.hid hLb
        clear hS hB hI hLb
        by_cases hlt : p < P
        · have hpi : (p : Int) < (P : Int) := by omega
          have hp0 : (0 : Int) ≤ (p : Int) := by omega
          have hp8 : (p : Int) < 8 := by omega
          have hmk := fun w => make_qrow w k (by omega)
          go_upto_region 16 with (fail)
          have hbs := BB.out.size
          have f0 := (nw_box SS.out).cell (j := 2 + p) (by omega)
          have f1 := (nw_box SS.out).free (2 + p)
          have f2 := (nw_box SS.out).lt
          rw [LB.out] at f0 f1 f2
          have S1 : Hid (St ((wr.setCell ⟨bb, 2 + p, none⟩ (.slice (some ⟨wr.heap.size, 0, none⟩) k k)).alloc (.cells ((List.range k).map fun _ => Value.slice none 0 0).toArray 30)).drew w.heap.size (nwC P k { n with q := Bar.upd n.q p true } { L with qr := Bar.upd L.qr p wr.heap.size } (mdNew zs))) := Lib.hid (by
            rw [← LB.out]
            exact (nw_q SS.out (by omega) (NI.out.q0 p (Nat.le_refl _)) hbs NI.out.qn).below (Qt.refl _).drew.bel)
          have BQ := Lib.hid (Below.trans ((BB.out.setCell (p := ⟨bb, 2 + p, none⟩) (by rw [← LB.out]; exact (SS.out.lt ⟨.box, _, rfl, rfl⟩).1) (.slice (some ⟨wr.heap.size, 0, none⟩) k k)).alloc (by simp; exact hbs) (.cells ((List.range k).map fun _ => Value.slice none 0 0).toArray 30)) ((Qt.refl _).drew.bel.mono (by simp; omega)))
          refine wp_region_lastH (fun wx => True) 8 9 (by kernel_rfl) (by kernel_rfl) rfl rfl ?_ (fun hHeld => ?_)
          · (trivial)
          simp only [nopFor, List.set_cons_succ, List.set_cons_zero]
          refine wpAnyH_takeL (i := 0) (v := ?_) rfl (by kernel_rfl) (by kernel_rfl) (by kernel_rfl) (fun _ _ _ h => h) rfl ?_ hHeld ?_
          rotate_left
          · intro w hSw
            try dsimp only at hSw
            go_simp
            all_goals with_reducible rfl
          try simp only [Act.put, List.setIfInBounds_toArray, List.set_cons_zero, List.set_cons_succ]
          refine wpAnyH_takeL (i := 1) (v := ?_) rfl (by kernel_rfl) (by kernel_rfl) (by kernel_rfl) (fun _ _ _ h => h) rfl ?_ hHeld ?_
          rotate_left
          · intro w hSw
            try dsimp only at hSw
            go_simp
            all_goals with_reducible rfl
          try simp only [Act.put, List.setIfInBounds_toArray, List.set_cons_zero, List.set_cons_succ]
          refine wpAnyH_takeL (i := 2) (v := ?_) rfl (by kernel_rfl) (by kernel_rfl) (by kernel_rfl) (fun _ _ _ h => h) rfl ?_ hHeld ?_
          rotate_left
          · intro w hSw
            try dsimp only at hSw
            go_simp
            all_goals with_reducible rfl
          try simp only [Act.put, List.setIfInBounds_toArray, List.set_cons_zero, List.set_cons_succ]
          refine wpAnyH_takeL (i := 5) (v := ?_) rfl (by kernel_rfl) (by kernel_rfl) (by kernel_rfl) (fun _ _ _ h => h) rfl ?_ hHeld ?_
          rotate_left
          · intro w hSw
            try dsimp only at hSw
            go_simp
            all_goals with_reducible rfl
          try simp only [Act.put, List.setIfInBounds_toArray, List.set_cons_zero, List.set_cons_succ]
          refine wpAnyH_takeL (i := 6) (v := ?_) rfl (by kernel_rfl) (by kernel_rfl) (by kernel_rfl) (fun _ _ _ h => h) rfl ?_ hHeld ?_
          rotate_left
          · intro w hSw
            try dsimp only at hSw
            go_simp
            all_goals with_reducible rfl
          try simp only [Act.put, List.setIfInBounds_toArray, List.set_cons_zero, List.set_cons_succ]
          refine wpAnyH_step (i := 3) (by kernel_rfl) rfl (fun KK hK => ?_)
          (go_simp)
          refine hK.out _ _ ?_ (fun hHeld => ?_)
          · (trivial)
          clear hK KK
          try simp only [Act.put, List.setIfInBounds_toArray, List.set_cons_zero, List.set_cons_succ]
          refine wpAnyH_step (i := 4) (by kernel_rfl) rfl (fun KK hK => ?_)
          (go_simp)
          refine hK.out _ _ ?_ (fun hHeld => ?_)
          · (trivial)
          clear hK KK
          try simp only [Act.put, List.setIfInBounds_toArray, List.set_cons_zero, List.set_cons_succ]
          refine wpAnyH_takeL (i := 7) (v := ?_) rfl (by kernel_rfl) (by kernel_rfl) (by kernel_rfl) (fun _ _ _ h => h) rfl ?_ hHeld ?_
          rotate_left
          · intro w hSw
            try dsimp only at hSw
            go_simp
            all_goals with_reducible rfl
          try simp only [Act.put, List.setIfInBounds_toArray, List.set_cons_zero, List.set_cons_succ]
          refine wpAnyH_takeL (i := 8) (v := ?_) rfl (by kernel_rfl) (by kernel_rfl) (by kernel_rfl) (fun _ _ _ h => h) rfl ?_ hHeld ?_
          rotate_left
          · intro w hSw
            try dsimp only at hSw
            go_simp
            all_goals with_reducible rfl
          try simp only [Act.put, List.setIfInBounds_toArray, List.set_cons_zero, List.set_cons_succ]
          refine wpAnyH_done (by kernel_rfl) ?_ _
          rw [LastQ_normal]
          clear hHeld hmk
          go_upto_region 17 with (fail)
          obtain ⟨w3, hw3⟩ : ∃ w3, w3 = ((wr.setCell ⟨bb, 2 + p, none⟩ (.slice (some ⟨wr.heap.size, 0, none⟩) k k)).alloc (.cells ((List.range k).map fun _ => Value.slice none 0 0).toArray 30)).drew := ⟨_, rfl⟩
          rw [← hw3] at S1 BQ ⊢
          have N1 : Hid (∃ n L, NwI k p 0 (p + 1) n L ∧ St w3 w.heap.size (nwC P k n L (mdNew zs)) ∧ L.bb = bb) := ⟨_, _, NI.out.row _, S1.out, LB.out⟩
          clear hw3 S1 BB f0 f1 f2 NI SS LB
          go_wp2_with fail
          go_loopw [75] (fun iv wr => NiRel w P bb zs p iv wr) (fun iv _ => k - (intOf iv).toNat)
          case atStart => exact ⟨0, Nat.zero_le _, rfl, by rw [HK.out]; exact N1.out, BQ.out⟩
          case round =>
            clear N1 BQ
            obtain ⟨c, hc, rfl, hS, hB⟩ := hrel
            rw [HK.out] at hS hc
            have BB := Lib.hid hB
            obtain ⟨n, L, hI, hS, hLb⟩ := hS
            have NI := Lib.hid hI; have SS := Lib.hid hS; have LB := Lib.hid hLb
            clear hS hB hI hLb
            by_cases hlc : c < k
            · obtain ⟨z, ez, okz, cz⟩ := (S.out.below BB.out).get (k := c) (by rw [HK.out]; exact hlc)
              obtain ⟨hz1, hz2⟩ := ZZ.out z (List.mem_of_getElem? ez.out)
              have hMz : Hid ((mdNew zs).gv p c = newG z) := by show newG (zs[c]?.getD 0) = newG z; rw [ez.out]; rfl
              have hci : (c : Int) < (k : Int) := by omega
              have hbs := BB.out.size
              have BA := Lib.hid (BB.out.alloc hbs (.cells #[.int .i64 z] 3))
              have SA := Lib.hid (SS.out.below ((Below.refl _ _).alloc (Nat.le_refl _) (.cells #[.int .i64 z] 3)))
              have NG := Lib.hid (newG_one (wr.alloc (.cells #[.int .i64 z] 3)) wr.heap.size 1 z hz1 hz2 (Blk.new wr 3 [.int .i64 z]))
              have NT := Lib.hid newT_one
              clear SS
              go_wp2_with fail
              refine NG.out.mono ?_
              rintro e w4 ⟨rfl, hg, hb4, hz4⟩
              rw [World.size_alloc] at hg ⊢
              generalize hgb : wr.heap.size + 1 + 1 = gb at hg ⊢
              clear hgb
              have S4 := Lib.hid (nw_gv SA.out (NI.out.b3 c (Nat.le_refl _)).1 (Nat.le_of_eq NI.out.g2.1) (by rw [hMz.out, World.size_alloc]; exact hg) hb4 BA.out.size)
              have B4 := Lib.hid (BA.out.trans (hb4.mono BA.out.size))
              clear hg hb4 hz4 SA BA NG cz
              go_wp2_with fail
              refine (NT.out _).mono ?_
              rintro e w5 ⟨rfl, ht, hb5, hz5⟩
              generalize htb : w4.heap.size + 1 = tb at ht ⊢
              clear htb
              have S5 := Lib.hid (nw_tk S4.out (NI.out.b3 c (Nat.le_refl _)).2 (Nat.le_of_eq NI.out.g2.2) ht hb5 B4.out.size)
              have B5 := Lib.hid (B4.out.trans (hb5.mono B4.out.size))
              clear ht hb5 hz5 S4 B4 NT
              go_upto_region 24 with (fail)
              have S5' := S5.out
              obtain ⟨n5, hn5⟩ : ∃ n5 : Nw, n5 = { n with bg := upd2 n.bg p c true, bt := upd2 n.bt p c true } := ⟨_, rfl⟩
              obtain ⟨L5, hL5⟩ : ∃ L5 : Loc, L5 = { L with gv := upd2 L.gv p c gb, gc := upd2 L.gc p c (wr.heap.size + 1), tk := upd2 L.tk p c tb, tc := upd2 L.tc p c w4.heap.size } := ⟨_, rfl⟩
              have S6 : St w5 w.heap.size (nwC P k n5 L5 (mdNew zs)) := by rw [hn5, hL5]; exact S5'
              have hng : n5.ng p = c := by rw [hn5]; exact NI.out.g2.1
              have hnt : n5.nt p = c := by rw [hn5]; exact NI.out.g2.2
              have hgv : L5.gv p c = gb := by rw [hL5]; exact upd2_same _ _ _ _
              have htk : L5.tk p c = tb := by rw [hL5]; exact upd2_same _ _ _ _
              have hLb : L5.bb = bb := by rw [hL5]; exact LB.out
              have FIN : Hid (∀ v u, NwI k p (c + 1) (p + 1) { q := n5.q, bg := n5.bg, bt := n5.bt, ng := Bar.upd n5.ng p (n5.ng p + 1), nt := Bar.upd n5.nt p (n5.nt p + 1) } { L5 with gr := Bar.upd L5.gr p v, tr := Bar.upd L5.tr p u }) := Lib.hid (fun v u => by
                rw [hn5, hL5]
                exact NI.out.step gb (wr.heap.size + 1) tb w4.heap.size v u)
              have HNG := Lib.hid hng; have HNT := Lib.hid hnt; have HGV := Lib.hid hgv; have HTK := Lib.hid htk; have HLB := Lib.hid hLb
              have OG := S6.row (r := .gr p) rfl
              have OT := S6.row (r := .tr p) rfl
              rw [hng] at OG
              rw [hnt] at OT
              obtain ⟨ga, gc, hga, _⟩ := own_shape OG
              obtain ⟨ta, tc, hta, _⟩ := own_shape OT
              have HGA := Lib.hid hga; have HTA := Lib.hid hta
              have SX := Lib.hid S6
              have AP : Hid (((List.range c).map (ptrF (L5.gv p))) ++ [Value.pointer (some ⟨gb, 0, none⟩)] = (List.range c).map (ptrF (L5.gv p)) ++ [ptrF (L5.gv p) c]) := Lib.hid (by unfold ptrF; rw [hgv])
              have AT : Hid (((List.range c).map (ptrF (L5.tk p))) ++ [Value.pointer (some ⟨tb, 0, none⟩)] = (List.range c).map (ptrF (L5.tk p)) ++ [ptrF (L5.tk p) c]) := Lib.hid (by unfold ptrF; rw [htk])
              clear hn5 hL5 hng hnt hgv htk hLb OG OT hga hta S6 S5' S5
              have SD := Lib.hid (SX.out.below (Qt.refl w5).drew.bel)
              have SE := Lib.hid (SD.out.below ((Below.refl _ _).alloc (Nat.le_refl _) (.cells #[.pointer (some ⟨gb, 0, none⟩)] 74)))
              have BE := Lib.hid (B5.out.trans ((((Qt.refl w5).drew.bel).trans ((Below.refl _ w5.drew).alloc (Nat.le_refl _) (.cells #[.pointer (some ⟨gb, 0, none⟩)] 74))).mono B5.out.size))
              have e0 : w5.drew.cell? ⟨bb, 10 + p, none⟩ = some (.slice ga c gc) := by rw [← HGA.out]; exact (nw_cells (nw_box SD.out) HLB.out (by omega)).1
              have e1 : (w5.drew.alloc (.cells #[.pointer (some ⟨gb, 0, none⟩)] 74)).cell? ⟨bb, 10 + p, none⟩ = some (.slice ga c gc) := by rw [← HGA.out]; exact (nw_cells (nw_box SE.out) HLB.out (by omega)).1
              have E0 := Lib.hid e0; have E1 := Lib.hid e1
              clear e0 e1
              have OG : Hid ((w5.drew.alloc (.cells #[.pointer (some ⟨gb, 0, none⟩)] 74)).ownsRow w.heap.size 74 1 (.slice ga c gc) c ((List.range c).map (ptrF (L5.gv p)))) := Lib.hid (by
                have := SE.out.row (r := .gr p) rfl
                rw [HNG.out, HGA.out] at this
                exact this)
              refine wp_region_lastH (fun wx => wx.cell? ⟨bb, 10 + p, none⟩ = some (.slice ga c gc)) 14 15 (by kernel_rfl) (by kernel_rfl) rfl rfl ?_ (fun hHeld => ?_)
              · (exact E0.out)
              simp only [nopFor, List.set_cons_succ, List.set_cons_zero]
              refine wpAnyH_takeL (i := 0) (v := ?_) rfl (by kernel_rfl) (by kernel_rfl) (by kernel_rfl) (fun _ _ _ h => h) rfl ?_ hHeld ?_
              rotate_left
              · intro w hSw
                try dsimp only at hSw
                go_simp
                all_goals with_reducible rfl
              try simp only [Act.put, List.setIfInBounds_toArray, List.set_cons_zero, List.set_cons_succ]
              refine wpAnyH_takeL (i := 1) (v := ?_) rfl (by kernel_rfl) (by kernel_rfl) (by kernel_rfl) (fun _ _ _ h => h) rfl ?_ hHeld ?_
              rotate_left
              · intro w hSw
                try dsimp only at hSw
                go_simp
                all_goals with_reducible rfl
              try simp only [Act.put, List.setIfInBounds_toArray, List.set_cons_zero, List.set_cons_succ]
              refine wpAnyH_takeL (i := 2) (v := ?_) rfl (by kernel_rfl) (by kernel_rfl) (by kernel_rfl) (fun _ _ _ h => h) rfl ?_ hHeld ?_
              rotate_left
              · intro w hSw
                try dsimp only at hSw
                go_simp
                all_goals with_reducible rfl
              try simp only [Act.put, List.setIfInBounds_toArray, List.set_cons_zero, List.set_cons_succ]
              refine wpAnyH_takeL (i := 3) (v := ?_) rfl (by kernel_rfl) (by kernel_rfl) (by kernel_rfl) (fun _ _ _ h => h) rfl ?_ hHeld ?_
              rotate_left
              · intro w hSw
                try dsimp only at hSw
                go_simp
                all_goals with_reducible rfl
              try simp only [Act.put, List.setIfInBounds_toArray, List.set_cons_zero, List.set_cons_succ]
              refine wpAnyH_takeL (i := 4) (v := ?_) rfl (by kernel_rfl) (by kernel_rfl) (by kernel_rfl) (fun _ _ _ h => h) rfl ?_ hHeld ?_
              rotate_left
              · intro w hSw
                try dsimp only at hSw
                go_simp
                all_goals with_reducible rfl
              try simp only [Act.put, List.setIfInBounds_toArray, List.set_cons_zero, List.set_cons_succ]
              refine wpAnyH_takeL (i := 5) (v := ?_) rfl (by kernel_rfl) (by kernel_rfl) (by kernel_rfl) (fun _ _ _ h => h) rfl ?_ hHeld ?_
              rotate_left
              · intro w hSw
                try dsimp only at hSw
                go_simp
                all_goals with_reducible rfl
              try simp only [Act.put, List.setIfInBounds_toArray, List.set_cons_zero, List.set_cons_succ]
              refine wpAnyH_takeL (i := 6) (v := ?_) rfl (by kernel_rfl) (by kernel_rfl) (by kernel_rfl) (fun _ _ _ h => h) rfl ?_ hHeld ?_
              rotate_left
              · intro w hSw
                try dsimp only at hSw
                go_simp
                all_goals with_reducible rfl
              try simp only [Act.put, List.setIfInBounds_toArray, List.set_cons_zero, List.set_cons_succ]
              refine wpAnyH_takeL (i := 7) (v := ?_) rfl (by kernel_rfl) (by kernel_rfl) (by kernel_rfl) (fun _ _ _ h => h) rfl ?_ hHeld ?_
              rotate_left
              · intro w hSw
                try dsimp only at hSw
                go_simp
                all_goals with_reducible rfl
              try simp only [Act.put, List.setIfInBounds_toArray, List.set_cons_zero, List.set_cons_succ]
              refine wpAnyH_takeL (i := 8) (v := ?_) rfl (by kernel_rfl) (by kernel_rfl) (by kernel_rfl) (fun _ _ _ h => h) rfl ?_ hHeld ?_
              rotate_left
              · intro w hSw
                try dsimp only at hSw
                go_simp
                all_goals with_reducible rfl
              try simp only [Act.put, List.setIfInBounds_toArray, List.set_cons_zero, List.set_cons_succ]
              refine wpAnyH_takeL (i := 11) (v := ?_) rfl (by kernel_rfl) (by kernel_rfl) (by kernel_rfl) (fun _ _ _ h => h) rfl ?_ hHeld ?_
              rotate_left
              · intro w hSw
                try dsimp only at hSw
                go_simp
                all_goals with_reducible rfl
              try simp only [Act.put, List.setIfInBounds_toArray, List.set_cons_zero, List.set_cons_succ]
              refine wpAnyH_takeL (i := 12) (v := ?_) rfl (by kernel_rfl) (by kernel_rfl) (by kernel_rfl) (fun _ _ _ h => h) rfl ?_ hHeld ?_
              rotate_left
              · intro w hSw
                try dsimp only at hSw
                go_simp
                all_goals with_reducible rfl
              try simp only [Act.put, List.setIfInBounds_toArray, List.set_cons_zero, List.set_cons_succ]
              refine wpAnyH_step (i := 9) (by kernel_rfl) rfl (fun KK hK => ?_)
              (go_simp)
              refine hK.out _ _ ?_ (fun hHeld => ?_)
              · (first | exact E1.out | exact Z1.out)
              clear hK KK
              try simp only [Act.put, List.setIfInBounds_toArray, List.set_cons_zero, List.set_cons_succ]
              refine wpAnyH_step (i := 10) (by kernel_rfl) rfl (fun KK hK => ?_)
              (refine step_append_cells (by rfl) _ _ 67 (by rfl) w.heap.size 74 i1 _ 1 8 Try.underlying67 GI.out GZ0.out GZ1.out GZ2.out rfl (by decide) (.slice ga c gc) c ((List.range c).map (ptrF (L5.gv p))) (by rfl) OG.out (some ⟨w5.drew.heap.size, 0, none⟩) 1 1 [Value.pointer (some ⟨gb, 0, none⟩)] (by rfl) rfl (fun j u hj => ⟨rfl, by rw [adr_mk, Nat.zero_add]; exact (Blk.new w5.drew 74 [Value.pointer (some ⟨gb, 0, none⟩)]).cell hj⟩) (fun u hu => by rw [List.mem_singleton.1 hu]; rfl) (by unfold maxLen; omega) (by omega) BE.out.size ?_; intro v' w7 g1 g2 g3; obtain ⟨ga2, gc2, rfl, _⟩ := own_shape g1; rw [AP.out] at g1; have h7 := nw_gr (p := p) (v' := .slice ga2 (c + 1) gc2) SE.out (by omega) (by rw [HNG.out]; exact g1) (by rw [HGA.out]; exact g2) (by rw [HGA.out]; exact g3); have A7 := Lib.hid h7; have B7 := Lib.hid (Upd.below BE.out (Upd.of_grownV g2) BE.out.size fun j hj => (own_lt OG.out hj).2); have hm := nw_midG (p := p) SE.out (by rw [HGA.out]; exact g2); obtain ⟨z1, z2, -, -⟩ := nw_cells hm HLB.out (by omega : p < 8); rw [HGA.out] at z1; have Z1 := Lib.hid z1; have hw7 : bb < w7.heap.size := by rw [← HLB.out]; exact hm.lt)
              refine hK.out _ _ ?_ (fun hHeld => ?_)
              · (first | exact E1.out | exact Z1.out)
              clear hK KK
              try simp only [Act.put, List.setIfInBounds_toArray, List.set_cons_zero, List.set_cons_succ]
              refine wpAnyH_takeL (i := 13) (v := ?_) rfl (by kernel_rfl) (by kernel_rfl) (by kernel_rfl) (fun _ _ _ h => h) rfl ?_ hHeld ?_
              rotate_left
              · intro w hSw
                try dsimp only at hSw
                go_simp
                all_goals with_reducible rfl
              try simp only [Act.put, List.setIfInBounds_toArray, List.set_cons_zero, List.set_cons_succ]
              refine wpAnyH_takeL (i := 14) (v := ?_) rfl (by kernel_rfl) (by kernel_rfl) (by kernel_rfl) (fun _ _ _ h => h) rfl ?_ hHeld ?_
              rotate_left
              · intro w hSw
                try dsimp only at hSw
                go_simp
                all_goals with_reducible rfl
              try simp only [Act.put, List.setIfInBounds_toArray, List.set_cons_zero, List.set_cons_succ]
              refine wpAnyH_done (by kernel_rfl) ?_ _
              rw [LastQ_normal]
              clear hHeld Z1 hm
              go_upto_region 25 with (fail)
              clear z1 z2 hw7 E0 E1 OG BE SE SD
              obtain ⟨w8, hw8⟩ : ∃ w8, w8 = w7.setCell ⟨bb, 10 + p, none⟩ (.slice ga2 (c + 1) gc2) := ⟨_, rfl⟩
              have hbb : w.heap.size ≤ bb := by rw [← HLB.out]; exact (SX.out.lt ⟨.box, _, rfl, rfl⟩).1
              have B8 : Hid (Below w.heap.size w w8) := Lib.hid (by rw [hw8]; exact B7.out.setCell (p := ⟨bb, 10 + p, none⟩) hbb _)
              have S8 : Hid (St w8 w.heap.size (nwC P k { n5 with ng := Bar.upd n5.ng p (n5.ng p + 1) } { L5 with gr := Bar.upd L5.gr p (.slice ga2 (c + 1) gc2) } (mdNew zs))) := Lib.hid (by rw [hw8, ← HLB.out]; exact A7.out)
              rw [← hw8]
              clear hw8 A7 B7 SX B5
              have SD := Lib.hid (S8.out.below (Qt.refl w8).drew.bel)
              have SE := Lib.hid (SD.out.below ((Below.refl _ _).alloc (Nat.le_refl _) (.cells #[.pointer (some ⟨tb, 0, none⟩)] 77)))
              have BE := Lib.hid (B8.out.trans ((((Qt.refl w8).drew.bel).trans ((Below.refl _ w8.drew).alloc (Nat.le_refl _) (.cells #[.pointer (some ⟨tb, 0, none⟩)] 77))).mono B8.out.size))
              have e0 : w8.drew.cell? ⟨bb, 18 + p, none⟩ = some (.slice ta c tc) := by rw [← HTA.out]; exact (nw_cells (nw_box SD.out) HLB.out (by omega)).2.2.1
              have e1 : (w8.drew.alloc (.cells #[.pointer (some ⟨tb, 0, none⟩)] 77)).cell? ⟨bb, 18 + p, none⟩ = some (.slice ta c tc) := by rw [← HTA.out]; exact (nw_cells (nw_box SE.out) HLB.out (by omega)).2.2.1
              have E0 := Lib.hid e0; have E1 := Lib.hid e1
              clear e0 e1
              have OG : Hid ((w8.drew.alloc (.cells #[.pointer (some ⟨tb, 0, none⟩)] 77)).ownsRow w.heap.size 77 1 (.slice ta c tc) c ((List.range c).map (ptrF (L5.tk p)))) := Lib.hid (by
                have := SE.out.row (r := .tr p) rfl
                dsimp only at this
                rw [HNT.out, HTA.out] at this
                exact this)
              refine wp_region_lastH (fun wx => wx.cell? ⟨bb, 18 + p, none⟩ = some (.slice ta c tc)) 14 15 (by kernel_rfl) (by kernel_rfl) rfl rfl ?_ (fun hHeld => ?_)
              · (exact E0.out)
              simp only [nopFor, List.set_cons_succ, List.set_cons_zero]
              refine wpAnyH_takeL (i := 0) (v := ?_) rfl (by kernel_rfl) (by kernel_rfl) (by kernel_rfl) (fun _ _ _ h => h) rfl ?_ hHeld ?_
              rotate_left
              · intro w hSw
                try dsimp only at hSw
                go_simp
                all_goals with_reducible rfl
              try simp only [Act.put, List.setIfInBounds_toArray, List.set_cons_zero, List.set_cons_succ]
              refine wpAnyH_takeL (i := 1) (v := ?_) rfl (by kernel_rfl) (by kernel_rfl) (by kernel_rfl) (fun _ _ _ h => h) rfl ?_ hHeld ?_
              rotate_left
              · intro w hSw
                try dsimp only at hSw
                go_simp
                all_goals with_reducible rfl
              try simp only [Act.put, List.setIfInBounds_toArray, List.set_cons_zero, List.set_cons_succ]
              refine wpAnyH_takeL (i := 2) (v := ?_) rfl (by kernel_rfl) (by kernel_rfl) (by kernel_rfl) (fun _ _ _ h => h) rfl ?_ hHeld ?_
              rotate_left
              · intro w hSw
                try dsimp only at hSw
                go_simp
                all_goals with_reducible rfl
              try simp only [Act.put, List.setIfInBounds_toArray, List.set_cons_zero, List.set_cons_succ]
              refine wpAnyH_takeL (i := 3) (v := ?_) rfl (by kernel_rfl) (by kernel_rfl) (by kernel_rfl) (fun _ _ _ h => h) rfl ?_ hHeld ?_
              rotate_left
              · intro w hSw
                try dsimp only at hSw
                go_simp
                all_goals with_reducible rfl
              try simp only [Act.put, List.setIfInBounds_toArray, List.set_cons_zero, List.set_cons_succ]
              refine wpAnyH_takeL (i := 4) (v := ?_) rfl (by kernel_rfl) (by kernel_rfl) (by kernel_rfl) (fun _ _ _ h => h) rfl ?_ hHeld ?_
              rotate_left
              · intro w hSw
                try dsimp only at hSw
                go_simp
                all_goals with_reducible rfl
              try simp only [Act.put, List.setIfInBounds_toArray, List.set_cons_zero, List.set_cons_succ]
              refine wpAnyH_takeL (i := 5) (v := ?_) rfl (by kernel_rfl) (by kernel_rfl) (by kernel_rfl) (fun _ _ _ h => h) rfl ?_ hHeld ?_
              rotate_left
              · intro w hSw
                try dsimp only at hSw
                go_simp
                all_goals with_reducible rfl
              try simp only [Act.put, List.setIfInBounds_toArray, List.set_cons_zero, List.set_cons_succ]
              refine wpAnyH_takeL (i := 6) (v := ?_) rfl (by kernel_rfl) (by kernel_rfl) (by kernel_rfl) (fun _ _ _ h => h) rfl ?_ hHeld ?_
              rotate_left
              · intro w hSw
                try dsimp only at hSw
                go_simp
                all_goals with_reducible rfl
              try simp only [Act.put, List.setIfInBounds_toArray, List.set_cons_zero, List.set_cons_succ]
              refine wpAnyH_takeL (i := 7) (v := ?_) rfl (by kernel_rfl) (by kernel_rfl) (by kernel_rfl) (fun _ _ _ h => h) rfl ?_ hHeld ?_
              rotate_left
              · intro w hSw
                try dsimp only at hSw
                go_simp
                all_goals with_reducible rfl
              try simp only [Act.put, List.setIfInBounds_toArray, List.set_cons_zero, List.set_cons_succ]
              refine wpAnyH_takeL (i := 8) (v := ?_) rfl (by kernel_rfl) (by kernel_rfl) (by kernel_rfl) (fun _ _ _ h => h) rfl ?_ hHeld ?_
              rotate_left
              · intro w hSw
                try dsimp only at hSw
                go_simp
                all_goals with_reducible rfl
              try simp only [Act.put, List.setIfInBounds_toArray, List.set_cons_zero, List.set_cons_succ]
              refine wpAnyH_takeL (i := 11) (v := ?_) rfl (by kernel_rfl) (by kernel_rfl) (by kernel_rfl) (fun _ _ _ h => h) rfl ?_ hHeld ?_
              rotate_left
              · intro w hSw
                try dsimp only at hSw
                go_simp
                all_goals with_reducible rfl
              try simp only [Act.put, List.setIfInBounds_toArray, List.set_cons_zero, List.set_cons_succ]
              refine wpAnyH_takeL (i := 12) (v := ?_) rfl (by kernel_rfl) (by kernel_rfl) (by kernel_rfl) (fun _ _ _ h => h) rfl ?_ hHeld ?_
              rotate_left
              · intro w hSw
                try dsimp only at hSw
                go_simp
                all_goals with_reducible rfl
              try simp only [Act.put, List.setIfInBounds_toArray, List.set_cons_zero, List.set_cons_succ]
              refine wpAnyH_step (i := 9) (by kernel_rfl) rfl (fun KK hK => ?_)
              (go_simp)
              refine hK.out _ _ ?_ (fun hHeld => ?_)
              · (first | exact E1.out | exact Z1.out)
              clear hK KK
              try simp only [Act.put, List.setIfInBounds_toArray, List.set_cons_zero, List.set_cons_succ]
              refine wpAnyH_step (i := 10) (by kernel_rfl) rfl (fun KK hK => ?_)
              (refine step_append_cells (by rfl) _ _ 69 (by rfl) w.heap.size 77 i2 _ 1 8 Try.underlying69 TI.out TZ0.out TZ1.out TZ2.out rfl (by decide) (.slice ta c tc) c ((List.range c).map (ptrF (L5.tk p))) (by rfl) OG.out (some ⟨w8.drew.heap.size, 0, none⟩) 1 1 [Value.pointer (some ⟨tb, 0, none⟩)] (by rfl) rfl (fun j u hj => ⟨rfl, by rw [adr_mk, Nat.zero_add]; exact (Blk.new w8.drew 77 [Value.pointer (some ⟨tb, 0, none⟩)]).cell hj⟩) (fun u hu => by rw [List.mem_singleton.1 hu]; rfl) (by unfold maxLen; omega) (by omega) BE.out.size ?_; intro v' w9 g1 g2 g3; obtain ⟨ta2, tc2, rfl, _⟩ := own_shape g1; rw [AT.out] at g1; have h7 := nw_tr (p := p) (v' := .slice ta2 (c + 1) tc2) SE.out (by omega) (by dsimp only; rw [HNT.out]; exact g1) (by dsimp only; rw [HTA.out]; exact g2) (by dsimp only; rw [HTA.out]; exact g3); have A7 := Lib.hid h7; have B7 := Lib.hid (Upd.below BE.out (Upd.of_grownV g2) BE.out.size fun j hj => (own_lt OG.out hj).2); have hm := nw_midT (p := p) SE.out (by dsimp only; rw [HTA.out]; exact g2); obtain ⟨-, -, z1, z2⟩ := nw_cells hm HLB.out (by omega : p < 8); dsimp only at z1; rw [HTA.out] at z1; have Z1 := Lib.hid z1; have hw9 : bb < w9.heap.size := by rw [← HLB.out]; exact hm.lt)
              refine hK.out _ _ ?_ (fun hHeld => ?_)
              · (first | exact E1.out | exact Z1.out)
              clear hK KK
              try simp only [Act.put, List.setIfInBounds_toArray, List.set_cons_zero, List.set_cons_succ]
              refine wpAnyH_takeL (i := 13) (v := ?_) rfl (by kernel_rfl) (by kernel_rfl) (by kernel_rfl) (fun _ _ _ h => h) rfl ?_ hHeld ?_
              rotate_left
              · intro w hSw
                try dsimp only at hSw
                go_simp
                all_goals with_reducible rfl
              try simp only [Act.put, List.setIfInBounds_toArray, List.set_cons_zero, List.set_cons_succ]
              refine wpAnyH_takeL (i := 14) (v := ?_) rfl (by kernel_rfl) (by kernel_rfl) (by kernel_rfl) (fun _ _ _ h => h) rfl ?_ hHeld ?_
              rotate_left
              · intro w hSw
                try dsimp only at hSw
                go_simp
                all_goals with_reducible rfl
              try simp only [Act.put, List.setIfInBounds_toArray, List.set_cons_zero, List.set_cons_succ]
              refine wpAnyH_done (by kernel_rfl) ?_ _
              rw [LastQ_normal]
              clear hHeld Z1 hm
              have FE : Hid (∃ n L, NwI k p (c + 1) (p + 1) n L ∧ St (w9.setCell ⟨bb, 18 + p, none⟩ (.slice ta2 (c + 1) tc2)) w.heap.size (nwC P k n L (mdNew zs)) ∧ L.bb = bb) := Lib.hid ⟨_, _, FIN.out (.slice ga2 (c + 1) gc2) (.slice ta2 (c + 1) tc2), by rw [← HLB.out]; exact A7.out, HLB.out⟩
              have B9 : Hid (Below w.heap.size w (w9.setCell ⟨bb, 18 + p, none⟩ (.slice ta2 (c + 1) tc2))) := Lib.hid (B7.out.setCell (p := ⟨bb, 18 + p, none⟩) hbb _)
              clear A7 B7 S8 B8 SD SE BE E0 E1 OG FIN
              go_wp2_with fail
              go_roundw
              case rel => exact ⟨c + 1, by rw [HK.out]; omega, by go_num, by rw [HK.out]; exact FE.out, B9.out⟩
              case measure => simp [intOf]; omega
            · obtain rfl : c = k := by omega
              go_wp2_with fail
              go_roundw
              case rel => exact ⟨p + 1, by omega, by go_num, by rw [HK.out]; exact ⟨n, L, NI.out.next k1, SS.out, LB.out⟩, BB.out⟩
              case measure => simp [intOf]; omega
        · obtain rfl : p = P := by omega
          have FN : Hid (BoxAt wr w.heap.size p k L (mdNew zs)) := Lib.hid (by
            rw [← HK.out]
            exact nw_done OK.out (by rw [HK.out]; exact SS.out) (by rw [HK.out]; exact NI.out))
          rw [← LB.out]
          go_wp2_with fail
          go_ret2
          exact ⟨L, rfl, by rw [HK.out]; exact FN.out, BB.out⟩
end Go.Proofs.Ytkooihniieepcaa
