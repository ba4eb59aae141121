/-
  The walk of the law BranchDrains.
-/
import Derived.Test.YteomiofmaopkhaaDrain
namespace Go.Proofs.Yteomiofmaopkhaa
open Go.RowKit
set_option linter.unusedVariables false

def AlRel (wc : World) (g o : Nat) (i : Value) (wr : World) : Prop :=
  ∃ k : Nat, k ≤ o ∧ i = .int .i64 k ∧ Blk wr g 4 ((List.replicate k true ++ List.replicate (o - k) false).map Value.bool) ∧ Below wc.heap.size wc wr
def DrRel (w0 : World) (o : Nat) (room : Int) (st : RunSt) (b ml : Nat) (ap : Option Addr) (cp g : Nat) (L : List Value) (i : Value) (wr : World) : Prop :=
  ∃ n : Nat, n ≤ st.fs.length ∧ i = .int .i64 n ∧ RanB w0 o room (drain o n st) b ml ap cp g L wr
def DiRel (w0 : World) (o : Nat) (room : Int) (st : RunSt) (b ml : Nat) (ap : Option Addr) (cp g : Nat) (L : List Value) (lr : Nat) (i : Value) (wr : World) : Prop :=
  ∃ j : Nat, j ≤ o ∧ i = .int .i64 j ∧ RanX w0 o room st b ml ap cp g L lr (stepAll (List.replicate o true) 0 st.fs).1 j wr
def DeRel (w0 : World) (o : Nat) (room : Int) (st : RunSt) (b ml : Nat) (ap : Option Addr) (cp : Nat) (i : Value) (w : World) : Prop := ∃ k : Nat, k ≤ o ∧ i = .int .i64 k ∧ Ran w0 o room st b ml ap cp w
def RanL (w0 : World) (o : Nat) (room : Int) (st : RunSt) (b ml : Nat) (ap : Option Addr) (cp k : Nat) (ar : Option Addr) (cr : Nat) (l : List Int) (w : World) : Prop :=
  w.cell? ⟨ml, k, none⟩ = some (.slice ar l.length cr) ∧ SlI w ar l ∧ Ran w0 o room st b ml ap cp w ∧ ml < w.heap.size
theorem RanL.below {w0 : World} {o : Nat} {room : Int} {st : RunSt} {b ml : Nat} {ap : Option Addr} {cp k : Nat} {ar : Option Addr} {cr : Nat} {l : List Int} {w w' : World} (h : RanL w0 o room st b ml ap cp k ar cr l w) (q : Below w.heap.size w w') : RanL w0 o room st b ml ap cp k ar cr l w' :=
  ⟨by rw [q.cell h.2.2.2]; exact h.1, h.2.1.below q, h.2.2.1.below q, Nat.lt_of_lt_of_le h.2.2.2 q.size⟩
theorem RanL.drew {w0 : World} {o : Nat} {room : Int} {st : RunSt} {b ml : Nat} {ap : Option Addr} {cp k : Nat} {ar : Option Addr} {cr : Nat} {l : List Int} {w : World} (h : RanL w0 o room st b ml ap cp k ar cr l w) : RanL w0 o room st b ml ap cp k ar cr l w.drew := h.below ((Qt.refl w).drewN 1).bel
theorem RanL.s {w0 : World} {o : Nat} {room : Int} {st : RunSt} {b ml : Nat} {ap : Option Addr} {cp k : Nat} {ar : Option Addr} {cr : Nat} {l : List Int} {w : World} (h : RanL w0 o room st b ml ap cp k ar cr l w) :
    w.cell? ⟨ml, k, none⟩ = some (.slice ar l.length cr) ∧ RanL w0 o room st b ml ap cp k ar cr l w := ⟨h.1, h⟩
set_option maxHeartbeats 8000000 in
set_option maxRecDepth 100000 in
theorem branchDrains_walk (W : World) (n : Int) (w0 : (Lit.int .i64 n).wf = true) (room : Int) (w1 : (Lit.int .i64 room).wf = true) (a2 : Option Addr) (c2 : Nat) (xs : List OpR) (s2 : SlOp W a2 xs) (g2 : ∀ x ∈ xs, OpOk W x) (m2 : xs.length ≤ maxLen) :
    Calls Try.prog 6 #[.int .i64 n, .int .i64 room, .slice a2 xs.length c2] W fun e W' => e = .returned (.bool true) ∧ Below W.heap.size W W' := by
  have HAW := Lib.hid (awake_ok W)
  obtain ⟨i0, hi, hz0, hz1, hz2⟩ := info_parts Try.infoBI
  have HI := Lib.hid hi; have HZ0 := Lib.hid hz0; have HZ1 := Lib.hid hz1; have HZ2 := Lib.hid hz2
  clear hi hz0 hz1 hz2
  have S := Lib.hid s2; have G := Lib.hid g2; have M := Lib.hid m2
  clear s2 g2 w0 w1 m2
  go_enter Try.func6, Try.ntmps6
  go_wp2_with fail
  refine HAW.out.mono ?_
  rintro e wa ⟨rfl, hb⟩
  have BA := Lib.hid hb; clear hb
  have S1 := Lib.hid (S.out.below BA.out)
  have G1 : Hid (∀ x ∈ xs, OpOk wa x) := fun x hx => (G.out x hx).below BA.out
  have F := Lib.hid (fits_any wa n room a2 c2 xs S1.out G1.out M.out)
  go_wp2_with fail
  refine F.out.mono ?_
  rintro e wb ⟨rfl, hb⟩
  have BB := Lib.hid (BA.out.trans (hb.mono BA.out.size))
  have S2 := Lib.hid (S1.out.below hb)
  have G2 : Hid (∀ x ∈ xs, OpOk wb x) := fun x hx => (G1.out x hx).below hb
  clear hb
  cases hf : fitsB n room xs with
  | false =>
    clear hf
    go_wp2_with fail
    go_ret
    exact ⟨rfl, BB.out⟩
  | true =>
    obtain ⟨h1, h2, h3, h4, h5, h6⟩ := fits_hb hf
    clear hf
    obtain ⟨o, rfl⟩ : ∃ o : Nat, n = o := ⟨n.toNat, by omega⟩
    have R := Lib.hid (run_any wb o room a2 c2 xs S2.out G2.out (by omega) (by omega) h3 h4 h5 h6)
    have HOLD := Lib.hid (runAll_held (o := o) (room := room) (by omega) (by omega) xs)
    have ORD := Lib.hid (runAll_order (o := o) (room := room) (by omega) (by omega) xs)
    clear h6
    go_wp2_with fail
    refine R.out.mono ?_
    rintro e wc ⟨b, ml, pv, rfl, hat, hinv⟩
    generalize runAll o room xs = st at *
    obtain ⟨ap, cp, rfl, hran⟩ := Ran.of hat
    have INV := Lib.hid hinv; have RAN := Lib.hid hran
    have hpl := hinv.pk; have hfl := hinv.fr; have hf0 := hinv.f0
    clear hat hinv hran
    have hmk := fun w => make_bools w o (by omega)
    generalize hLB : (List.replicate o false).map Value.bool = LB at hmk
    have HLB := Lib.hid hLB; clear hLB
    have hoo : ((o : Int) != (o : Int)) = false := by simp
    have hszx := RAN.out.bel.size
    have A0 : Hid (AlRel wc wc.heap.size o (.int .i64 ((0 : Nat) : Int)) (wc.alloc (.cells LB.toArray 4))) := by
      refine ⟨0, Nat.zero_le _, rfl, ?_, (Below.refl _ _).alloc (Nat.le_refl _) _⟩
      have := Blk.new wc 4 LB
      rw [← HLB.out] at this ⊢
      simpa using this
    go_wp2_with fail
    go_loopw [39] (fun i wr => AlRel wc wc.heap.size o i wr) (fun i _ => o - (intOf i).toNat)
    case atStart => exact A0.out
    case round =>
      obtain ⟨k, hk, rfl, hblk, hbel⟩ := hrel
      have BK := Lib.hid hblk; have HB := Lib.hid hbel
      clear hblk hbel A0 hmk
      by_cases hlt : k < o
      · have c0 : wr.cell? ⟨wc.heap.size, k, none⟩ = some (.bool false) := BK.out.cell (by
          rw [List.getElem?_map, List.getElem?_append_right (by simp), List.length_replicate, Nat.sub_self]
          obtain ⟨q, hq⟩ : ∃ q, o - k = q + 1 := ⟨o - k - 1, by omega⟩
          rw [hq]; rfl)
        have f0 := BK.out.free k
        have BN : Hid (Blk (wr.setCell ⟨wc.heap.size, k, none⟩ (.bool true)) wc.heap.size 4 ((List.replicate (k + 1) true ++ List.replicate (o - (k + 1)) false).map Value.bool)) := by
          have h1 := BK.out.set k (.bool true)
          rw [← List.map_set, List.set_append_right _ _ (by simp), List.length_replicate, Nat.sub_self] at h1
          obtain ⟨q, hq⟩ : ∃ q, o - k = q + 1 := ⟨o - k - 1, by omega⟩
          rw [hq, List.replicate_succ (n := q), List.set_cons_zero] at h1
          show Blk _ _ _ _
          rw [show o - (k + 1) = q by omega, List.replicate_succ' (n := k), List.append_assoc]
          exact h1
        have B1 := Lib.hid (HB.out.setCell (p := ⟨wc.heap.size, k, none⟩) (Nat.le_refl _) (.bool true))
        go_wp2_with fail
        go_roundw
        case rel => exact ⟨k + 1, by omega, by go_num, BN.out, B1.out⟩
        case measure => simp [intOf]; omega
      · obtain rfl : k = o := by omega
        have hb2 := BK.out
        rw [Nat.sub_self, List.replicate_zero, List.append_nil] at hb2
        have RB := Lib.hid (RanB.of RAN.out HB.out (Nat.le_refl _) hb2)
        clear hb2
        have H1 := Lib.hid (held_ran RB.out.ran INV.out h4)
        have HHL : Hid ((hIds st.fs).length = st.fs.length) := by show _ = _; simp [hIds]
        generalize wc.heap.size = g at *
        clear hlt hk
        go_wp2_with fail
        refine H1.out.mono ?_
        rintro e x1 ⟨v1, rfl, hr1, hb1⟩
        obtain ⟨ah, ch, rfl, hrest⟩ := hr1
        have R1 := Lib.hid (RB.out.below hb1)
        clear hrest hb1 H1 BK HB RAN
        generalize (hIds st.fs).length = nh at *
        obtain rfl : nh = st.fs.length := HHL.out
        clear HHL
        go_wp2_with fail
        go_loopw [49] (fun i wr => DrRel wb k room st b ml ap cp g ((List.replicate k true).map Value.bool) i wr) (fun i _ => st.fs.length - (intOf i).toNat)
        case atStart => exact ⟨0, Nat.zero_le _, rfl, R1.out⟩
        case round =>
          clear R1 RB
          obtain ⟨n, hn, rfl, hran⟩ := hrel
          have RB := Lib.hid hran
          obtain ⟨hi2, hh2, ho2, hl2⟩ := drain_inv INV.out HOLD.out ORD.out (by omega) n
          have INV2 := Lib.hid hi2
          clear hran hi2 hh2 ho2 hl2
          by_cases hlt : n < st.fs.length
          · have SA := Lib.hid (step_all RB.out INV2.out h4 (by omega) (by omega) (by omega))
            have NXT : Hid (drain k (n + 1) st = stepSt (List.replicate k true) (drain k n st)) := rfl
            have FIN : Hid (∀ w', RanB wb k room (stepSt (List.replicate k true) (drain k n st)) b ml ap cp g ((List.replicate k true).map Value.bool) w' → DrRel wb k room st b ml ap cp g ((List.replicate k true).map Value.bool) (.int .i64 ((n + 1 : Nat) : Int)) w') := fun w' h => ⟨n + 1, by omega, rfl, h⟩
            generalize drain k n st = s2 at *
            go_wp2_with fail
            refine SA.out.mono ?_
            rintro e x2 ⟨rfl, hX⟩
            have RX := Lib.hid hX
            clear hX SA RB
            obtain ⟨wo, rfl⟩ : ∃ wo : World, wo = wr := ⟨_, rfl⟩
            have IL : Hid ((stepAll (List.replicate k true) 0 s2.fs).1.length = k) := by show _ = _; rw [(stepAll_len _ _ _).2]; simp
            generalize hIDS : (stepAll (List.replicate k true) 0 s2.fs).1 = ids at RX IL
            have HIDS := Lib.hid hIDS; clear hIDS
            generalize wo.heap.size = lr at *
            go_wp2_with fail
            go_loopw [60] (fun i wr => DiRel wb k room s2 b ml ap cp g ((List.replicate k true).map Value.bool) lr i wr) (fun i _ => k - (intOf i).toNat)
            case atStart => exact ⟨0, Nat.zero_le _, rfl, by rw [HIDS.out]; exact RX.out⟩
            case round =>
              obtain ⟨j, hj, rfl, hX⟩ := hrel
              rw [HIDS.out] at hX
              have X := Lib.hid hX
              clear hX RX
              have LO := Lib.hid INV2.out.lo
              by_cases hlt : j < k
              · obtain ⟨x, ex⟩ : ∃ x, ids[j]? = some x := ⟨_, List.getElem?_eq_getElem (by rw [IL.out]; exact hlt)⟩
                obtain ⟨l, el⟩ : ∃ l, s2.left[j]? = some l := ⟨_, List.getElem?_eq_getElem (by rw [LO.out]; exact hlt)⟩
                have hll : l.length ≤ 1000 := by have := INV2.out.lk l (List.mem_of_getElem? el); omega
                have xc := X.out.cell ex
                have EX := Lib.hid ex; have EL := Lib.hid el
                clear ex el
                by_cases h0 : 0 ≤ x
                · obtain ⟨ar, cr, mc, ho1⟩ := X.out.at_ EL.out (by rw [IL.out, LO.out])
                  have O1 := Lib.hid ho1
                  have MC := Lib.hid mc
                  have XB := X.out.bel.size
                  clear ho1
                  go_wp2_with (at_builtin; refine wpList_append_lies _ rfl _ _ 26 rfl wb.heap.size 3 i0 _ 1 8 Try.underlying26 HI.out HZ0.out HZ1.out HZ2.out rfl (by decide) _ l.length (l.map (Value.int .i64)) rfl ?c0 ⟨wr.heap.size, 0, none⟩ 1 1 [.int .i64 x] rfl ?c1 ?c2 ?c3 (by decide) ?c4 ?c5 ?c6 (wr.heap.size + 1) ?c7 ?_)
                  case c0 => exact own_upd (S := fun _ => False) O1.out ((Upd.refl _ _).alloc _) (fun _ _ => id)
                  case c1 => rfl
                  case c2 => exact news_new (vs := [.int .i64 x]) rfl
                  case c3 => intro u hu; simp at hu; subst hu; rfl
                  case c4 => unfold maxLen; omega
                  case c5 => omega
                  case c6 => simp; omega
                  case c7 => simp
                  intro g2 cap w5 hown hgr hat hglt
                  obtain ⟨hX2, mfree, mc5⟩ := X.out.app EL.out EX.out h0 (by rw [IL.out, LO.out]) MC.out hown hgr hat
                  have X2 := Lib.hid hX2
                  clear hX2 hown hgr hat hglt mc
                  go_wp2_with fail
                  go_roundw
                  case rel => exact ⟨j + 1, by omega, by go_num, by rw [HIDS.out]; exact X2.out⟩
                  case measure => simp [intOf]; omega
                · have X2 := Lib.hid (X.out.next EL.out EX.out h0)
                  go_wp2_with fail
                  go_roundw
                  case rel => exact ⟨j + 1, by omega, by go_num, by rw [HIDS.out]; exact X2.out⟩
                  case measure => simp [intOf]; omega
              · obtain rfl : j = k := by omega
                have X3 := X.out
                rw [← HIDS.out] at X3
                have F1 := Lib.hid (FIN.out _ (X3.done LO.out))
                clear X3
                go_wp2_with fail
                go_roundw
                case rel => have := F1.out; simpa using this
                case measure => simp [intOf]; omega
          · obtain rfl : n = st.fs.length := by omega
            obtain ⟨d1, d2, d3⟩ := drain_end INV.out HOLD.out ORD.out (by omega)
            have D1 := Lib.hid d1; have D2 := Lib.hid d2; have D3 := Lib.hid d3
            have D4 := Lib.hid (drain_put k st st.fs.length)
            have RN := Lib.hid RB.out.ran
            clear d1 d2 d3 RB
            have PL := Lib.hid (show st.put.length ≤ 1000 by omega)
            generalize drain k st.fs.length st = s3 at *
            have e4 : st.put.length = s3.put.length := by rw [D4.out]
            rw [e4]
            have hpl3 : s3.put.length ≤ 1000 := by rw [← e4]; exact PL.out
            clear e4
            go_wp2_with fail
            go_loopw [80] (fun i wr => DeRel wb k room s3 b ml ap cp i wr) (fun i _ => k - (intOf i).toNat)
            case atStart => exact ⟨0, Nat.zero_le _, rfl, RN.out⟩
            case round =>
              clear RN
              obtain ⟨q, hq, rfl, hran⟩ := hrel
              have RN := Lib.hid hran
              clear hran
              by_cases hlt : q < k
              · have el := D3.out q hlt
                obtain ⟨ar, cr, mc, ms⟩ := RN.out.left el
                have hol := ownIds_len (q : Int) st.put 0
                have RL : Hid (RanL wb k room s3 b ml ap cp q ar cr (ownIds q 0 st.put) wr) := ⟨mc, ms, RN.out, World.block_lt_of_cell? _ _ mc⟩
                have OW : Hid (∀ w, Ran wb k room s3 b ml ap cp w → Calls Try.prog 27 #[.slice ap s3.put.length cp, .int .i64 q] w (RwPost (.int .i64) 3 w (ownIds q 0 st.put))) := fun w h => by
                  have := own_ran h hpl3 (q : Int)
                  rw [D4.out] at this
                  rw [D4.out]
                  exact this
                have EQ : Hid (∀ w b1 c1, RanL wb k room s3 b ml ap cp q ar cr (ownIds q 0 st.put) w → SlI w b1 (ownIds q 0 st.put) → Calls Try.prog 15 #[.slice ar (ownIds (q : Int) 0 st.put).length cr, .slice b1 (ownIds (q : Int) 0 st.put).length c1] w fun e w' => e = .returned (.bool true) ∧ Qt w w') := fun w b1 c1 h hs => equalInt_same w ar b1 cr c1 _ h.2.1 hs (by have := PL.out; unfold maxLen; omega)
                generalize ownIds (q : Int) 0 st.put = L at *
                have RLs := RL.out.s
                clear el ms
                go_wp2_with fail
                go_region_held3 (fun w' => w'.cell? ⟨ml, q, none⟩ = some (.slice ar L.length cr) ∧ RanL wb k room s3 b ml ap cp q ar cr L w')
                  ((go_split_ands; first | exact (RanL.drew (by assumption)).s | exact (RanL.below (by assumption) (by assumption)).s | exact RanL.s (by assumption) | go_keep))
                  (first
                    | (go_at_call 27; go_split_ands; refine (OW.out _ (RanL.below (by assumption) (Below.refl _ _)).2.2.1).mono ?_; rintro e w' ⟨v, rfl, hv, hb⟩; obtain ⟨av, cv, rfl, hv'⟩ := hv; have hsl : SlI w' av L := Rw.sl ⟨av, cv, rfl, hv'⟩; clear hv')
                    | (go_at_call 15; go_split_ands; refine (EQ.out _ _ _ (by assumption) (by assumption)).mono ?_; rintro e w' ⟨rfl, hq⟩; have hb := hq.bel))
                rename_i hHeld
                have RF := Lib.hid hHeld.2.2.2.1
                clear hHeld hb hq
                go_wp2_with fail
                go_roundw
                case rel => exact ⟨q + 1, by omega, by go_num, RF.out⟩
                case measure => simp [intOf]; omega
              · have H5 := Lib.hid (held_any wr wb.heap.size b k room RN.out.fork.choose s3.fs s3.freed RN.out.fork.choose_spec (by rw [D1.out]; simp))
                rw [D1.out] at H5
                have FR : Hid (∀ w, Below wr.heap.size wr w → Calls Try.prog 24 #[.pointer (some ⟨b, 0, none⟩)] w fun e w' => e = .returned (.int .i64 s3.put.length) ∧ w = w') := fun w hb => by
                  have := freed_ran (RN.out.below hb)
                  rw [D2.out, ← D4.out] at this
                  exact this
                have hff : ((s3.put.length : Int) == (s3.put.length : Int)) = true := by simp
                go_wp2_with fail
                refine H5.out.mono ?_
                rintro e z1 ⟨v4, rfl, hr4, hb4⟩
                obtain ⟨a5, c5, rfl, hrest⟩ := hr4
                have BZ := Lib.hid hb4
                clear hb4 hrest H5
                go_wp2_with fail
                refine (FR.out _ BZ.out).mono ?_
                rintro e z2 ⟨rfl, rfl⟩
                go_wp2_with fail
                go_ret
                exact ⟨rfl, BB.out.trans ((RN.out.below BZ.out).bel.mono BB.out.size)⟩
end Go.Proofs.Yteomiofmaopkhaa
