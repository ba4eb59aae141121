/-
  WholeMessages: the walk.
-/
import Derived.Test.YtkaaoomliepijaaGreatQWm
import Derived.Test.YtkaaoomliepijaaGreatQAw
import Derived.Test.YtkaaoomliepijaaGreatQOpen
namespace Go.Proofs.YtkaaoomliepijaaGreat
open Go.RowKit
set_option linter.unusedVariables false

def EvRel (bg : World) (B pb n : Nat) (p ix : Value) (wr : World) : Prop := ∃ (k tick : Nat) (x : PoV), k ≤ n ∧ ix = .int .i64 k ∧ p = .pointer (some ⟨pb, 0, none⟩) ∧ tick ≤ k ∧ Hid (Po bg wr B pb x tick k k)
def RnRel (bg : World) (B pb n : Nat) (ix : Value) (wr : World) : Prop := ∃ (i tick : Nat) (x : PoV), i ≤ 1200 ∧ ix = .int .i64 i ∧ tick ≤ n + i ∧ Hid (Po bg wr B pb x tick n 0) ∧ Hid (RndI i x)
def InRel (bg : World) (B pb n tick m : Nat) (x2 : PoV) (t1 : Wt) (ix : Value) (wr : World) : Prop := ∃ (k : Nat) (x3 : PoV), k ≤ m ∧ ix = .int .i64 k ∧ Hid (Po bg wr B pb x3 tick n 1) ∧ Hid (x3.fv = x2.fv ∧ x3.fl = x2.fl ∧ x3.ms = x2.ms ∧ x3.t = if k = 0 then x2.t else t1)
theorem fl_agg (w : World) (pl : Int) (a : Option Addr) (n c : Nat) : Blk (w.alloc (.cells #[.int .i64 pl, .slice a n c] 38)) w.heap.size 38 [.int .i64 pl, .slice a n c] := Blk.new w 38 [.int .i64 pl, .slice a n c]
set_option maxHeartbeats 32000000 in
set_option maxRecDepth 100000 in
theorem wholeMessages_walk (W : World) (a0 : Option Addr) (c0 : Nat) (x0 : List Int) (s0 : Sl (Value.int .u8) W a0 x0) (g0 : ∀ y ∈ x0, IntOk .u8 y) (m0 : x0.length ≤ maxLen) :
    Calls Tryz.prog 3 #[.slice a0 x0.length c0] W fun e W' => e = .returned (.bool true) ∧ Below W.heap.size W W' := by
  have AW := Lib.hid (awake_any W)
  have S0 := Lib.hid s0; have G0 := Lib.hid g0
  obtain ⟨n, hn⟩ : ∃ n, x0.length = n := ⟨_, rfl⟩
  have HN := Lib.hid hn
  rw [hn] at m0 ⊢
  clear s0 g0 hn
  go_enter Tryz.func3, Tryz.ntmps3
  go_wp2_with fail
  refine AW.out.mono ?_
  rintro e w1 ⟨rfl, b1⟩
  replace b1 := Lib.hid b1
  clear AW
  unfold maxLen at m0
  by_cases c80 : (80 : Int) < (n : Int)
  · go_wp2_with fail
    go_ret
    exact ⟨rfl, b1.out⟩
  have hn80 : n ≤ 80 := by omega
  have NP := Lib.hid (newPost_ok w1 (tS []))
  go_wp2_with fail
  refine NP.out.mono ?_
  rintro e w2 ⟨x, col, pb, rfl, hbg, hN, hP⟩
  obtain ⟨hQ, hS⟩ := new_inv hN
  have P2 : Hid (Po w1 w2 w1.heap.size pb x 0 0 0) := ⟨col, by rw [hS]; exact hP, hQ, hbg⟩
  have q3 : w2.cell? ⟨pb, 3, none⟩ = some (.pointer (some ⟨x.gb, 0, none⟩)) := P2.out.cell rfl
  clear NP hN hP hQ hS hbg
  obtain ⟨B, hB⟩ : ∃ B, w1.heap.size = B := ⟨_, rfl⟩
  rw [hB] at P2
  have HBB := Lib.hid hB
  clear hB
  go_wp2_with fail
  go_loopw [29] (fun ix wr => EvRel w1 B pb n (.pointer (some ⟨pb, 0, none⟩)) ix wr) (fun ix _ => n - (intOf ix).toNat)
  case atStart => exact ⟨0, 0, x, Nat.zero_le _, rfl, rfl, Nat.le_refl _, P2⟩
  case round =>
    clear P2 q3
    obtain ⟨k, tick, x, hk, rfl, -, ht, P⟩ := hrel
    by_cases hkn : k < n
    · obtain ⟨y, hy⟩ : ∃ y, x0[k]? = some y := ⟨x0[k]'(by rw [HN.out]; exact hkn), by simp [show k < x0.length by rw [HN.out]; exact hkn]⟩
      have SR : Sl (Value.int .u8) wr a0 x0 := by
        have h1 := S0.out.below b1.out
        have h2 := P.out.old
        rw [← HBB.out] at h2
        exact h1.below h2
      obtain ⟨oka, cka⟩ := SR k y hy
      have hyb : 0 ≤ y ∧ y ≤ 255 := by
        have h := G0.out y (List.mem_of_getElem? hy)
        simpa [IntOk, Lit.wf, IntKind.min, IntKind.max, IntKind.signed, IntKind.bits] using h
      obtain ⟨kk, rfl⟩ : ∃ kk : Nat, y = (kk : Int) := ⟨y.toNat, by omega⟩
      have EV := Lib.hid (event_q w1 wr B pb tick k k kk x P.out (by omega) (by omega) (by omega) (by omega))
      clear SR hy hyb
      go_wp2_with fail
      refine EV.out.mono ?_
      rintro e w3 ⟨rfl, x', tick', ht', P3⟩
      have PF := Lib.hid (prefix_q w1 w3 B pb tick' (k + 1) (k + 1) x' P3)
      have r10 : w3.cell? ⟨pb, 10, none⟩ = some (.bool true) := P3.cell rfl
      clear EV P P3 cka
      go_wp2_with fail
      refine PF.out.mono ?_
      rintro e w4 ⟨rfl, P4⟩
      replace P4 := Lib.hid P4
      clear PF r10
      go_wp2_with fail
      go_roundw
      case rel => exact ⟨k + 1, tick', x', by omega, by go_num, rfl, by omega, P4⟩
      case measure => simp [intOf]; omega
    · have hk2 : k = n := by omega
      subst hk2
      have q5 := P.out.lt.1
      have q6 := P.out.lt.2
      have q7 : wr.cell? ⟨pb, 5, none⟩ = some x.fv := P.out.cell rfl
      obtain ⟨fa, fc, efv, -⟩ := P.out.fly
      rw [efv] at q7
      have P5 := Lib.hid P.out.nofly
      clear P efv
      generalize x.fl.length = fl0 at *
      go_upto_region 16 with (fail)
      generalize wr.setCell ⟨pb, 5, none⟩ (.slice none 0 0) = w5 at *
      clear q5 q6 q7
      go_wp2_with fail
      go_loopw [50] (fun ix wr => RnRel w1 B pb k ix wr) (fun ix _ => 1200 - (intOf ix).toNat)
      case atStart => exact ⟨0, tick, _, Nat.zero_le _, rfl, by omega, P5, .inl rfl⟩
      case round =>
        clear P5
        obtain ⟨i, tk, x, hi, rfl, htk, P, R⟩ := hrel
        have z2 := P.out.cell (i := 2) rfl
        have PH := Lib.hid (phase_q P.out)
        have hph := P.out.inv.wt.a9
        by_cases hin : i < 1200
        · go_wp2_with fail
          refine PH.out.mono ?_
          rintro e w6 ⟨rfl, hw⟩
          subst hw
          clear PH z2
          go_upto_if 57 with (fail)
          go_cut [6] (fun v wx => v = .int .i64 (x.t.plc : Nat) ∧ wx = wr)
          case first =>
            by_cases e0 : x.t.ph = 0
            · have E0 : Hid (x.t.plc = 0) := by show _ = _; unfold Wt.plc; rw [if_pos e0]
              have e1 : ((x.t.ph : Int) == 0) = true := by rw [e0]; rfl
              have e2 : (x.t.ph : Int) = 0 := by omega
              clear e0
              go_wp2_with fail
              go_meet
              exact ⟨by rw [E0.out]; rfl, rfl⟩
            · have E0 : Hid (x.t.plc = 1) := by show _ = _; unfold Wt.plc; rw [if_neg e0]
              have e1 : ((x.t.ph : Int) == 0) = false := by rw [beq_eq_false_iff_ne]; omega
              have e2 : ¬ (x.t.ph : Int) = 0 := by omega
              clear e0
              go_wp2_with fail
              go_meet
              exact ⟨by rw [E0.out]; rfl, rfl⟩
          case rest =>
            obtain ⟨rfl, rfl⟩ := hcut
            have hplc : x.t.plc ≤ 1 := by unfold Wt.plc; split <;> omega
            obtain ⟨pl, hpl⟩ : ∃ pl, x.t.plc = pl := ⟨_, rfl⟩
            rw [hpl] at hplc ⊢
            have SN := Lib.hid (send_q P.out (by omega) (by omega) pl 16 hplc (by decide) (by decide))
            have HPL := Lib.hid hpl
            clear hpl
            go_wp2_with fail
            refine SN.out.mono ?_
            rintro e w7 ⟨rfl, x1, x2, hA, hB, P7⟩
            obtain ⟨t1, hms, hrd, hcase⟩ := rd_facts P.out.inv hA HPL.out hplc hB
            have RN := Lib.hid (fun (x' : PoV) (h1 : x'.t = t1.take) (h2 : x'.ms = x1.ms) => rnd_step P.out.inv hn80 hA R.out (h1.trans hrd) h2)
            replace hms := Lib.hid hms
            obtain ⟨m, hm⟩ : ∃ m, x2.fl.length = m := ⟨_, rfl⟩
            have hm1 : m ≤ 1 := by have := P7.inv.fn; omega
            obtain ⟨fa, fc, efv, -⟩ := P7.fly
            rw [hm] at efv
            have z5 : w7.cell? ⟨pb, 5, none⟩ = some x2.fv := P7.cell rfl
            rw [efv] at z5
            replace hcase := Lib.hid hcase
            have HM := Lib.hid hm
            have EFV := Lib.hid efv
            replace P7 := Lib.hid P7
            clear hA hB SN P R hrd hm efv
            go_wp2_with fail
            go_loopw [66] (fun ix wr => InRel w1 B pb k (tk + 1) m x2 t1 ix wr) (fun ix _ => m - (intOf ix).toNat)
            case atStart => exact ⟨0, x2, Nat.zero_le _, rfl, P7, ⟨rfl, rfl, rfl, by rw [if_pos rfl]⟩⟩
            case round =>
              clear P7 z5
              obtain ⟨q, x3, hq, rfl, P8, h8⟩ := hrel
              by_cases hqm : q < m
              · have hq0 : q = 0 := by omega
                subst hq0
                have hm2 : m = 1 := by omega
                subst hm2
                rcases hcase.out with ⟨hc, _⟩ | ⟨g, o, nn, c1, c2, c3, c4, c5, c6, c7⟩
                · exact absurd HM.out (by rw [hc]; decide)
                · have e8 := h8.out
                  rw [if_pos rfl] at e8
                  obtain ⟨e81, e82, e83, e84⟩ := e8
                  have hfl3 : x3.fl = [g] := e82.trans c1
                  obtain ⟨gb, gc, ef3, hcl⟩ := ev_flies P8.out (by rw [hfl3]; exact List.cons_ne_nil _ _)
                  obtain ⟨k0, k1⟩ := hcl 0 g (by rw [hfl3]; rfl)
                  rw [e81, EFV.out] at ef3
                  injection ef3 with ef3 ef4 ef5
                  clear ef4 ef5
                  subst ef3
                  rw [Nat.zero_mul] at k0 k1
                  obtain ⟨ln, hln⟩ : ∃ ln, g.d.length = ln := ⟨_, rfl⟩
                  rw [hln] at k1
                  have A9 := alloc_belQ wr (.cells #[.int .i64 g.pl, .slice g.a ln g.c] 38)
                  have DL := deliver_q (P8.out.bel A9) g (by rw [hfl3]; exact List.mem_singleton.2 rfl) o nn (by rw [e83]; exact c3) c4 c5 (by rw [e84]; exact c6) (by omega)
                  rw [hln] at DL
                  replace DL := Lib.hid DL
                  have F9 := Lib.hid (fl_agg wr g.pl g.a ln g.c)
                  have f0 := F9.out.cell (i := 0) rfl
                  have f1 := F9.out.cell (i := 1) rfl
                  have E9 : Hid ({ x3 with t := x3.t.deliv g.pl o nn }.fv = x2.fv ∧ { x3 with t := x3.t.deliv g.pl o nn }.fl = x2.fl ∧ { x3 with t := x3.t.deliv g.pl o nn }.ms = x2.ms ∧ { x3 with t := x3.t.deliv g.pl o nn }.t = t1) := ⟨e81, e82, e83, by show x3.t.deliv g.pl o nn = t1; rw [e84, c2, c7]⟩
                  clear e81 e82 e83 e84 hfl3 hcl c1 c2 c3 c6 c7 hln A9 P8 h8 EFV
                  go_wp2_with fail
                  refine DL.out.mono ?_
                  rintro e w9 ⟨rfl, P9⟩
                  replace P9 := Lib.hid P9
                  clear DL F9 f0 f1
                  go_wp2_with fail
                  go_roundw
                  case rel => exact ⟨_, _, _, _, _, _, _, _, _, ⟨1, _, by omega, by go_num, P9, ⟨E9.out.1, E9.out.2.1, E9.out.2.2.1, by rw [if_neg (by decide)]; exact E9.out.2.2.2⟩⟩, rfl⟩
                  case measure => simp [intOf]
              · have hqm2 : q = m := by omega
                have e84 : Hid (x3.t = t1) := by
                  have e4 := h8.out.2.2.2
                  show _ = _
                  rw [e4]
                  rcases hcase.out with ⟨hc, ht⟩ | ⟨g, o, nn, c1, _⟩
                  · have : m = 0 := by rw [← HM.out, hc]; rfl
                    rw [if_pos (by omega), ht]
                  · have : m = 1 := by rw [← HM.out, c1]; rfl
                    rw [if_neg (by omega)]
                have e83 : Hid (x3.ms = x1.ms) := h8.out.2.2.1.trans hms.out
                have y5 : wr.cell? ⟨pb, 5, none⟩ = some x3.fv := P8.out.cell rfl
                rw [h8.out.1, EFV.out] at y5
                have yz := P8.out.lt.1
                have yf := P8.out.lt.2
                have P9 := Lib.hid P8.out.nofly
                clear P8 h8 hcase
                go_upto_region 28 with (fail)
                generalize wr.setCell ⟨pb, 5, none⟩ (.slice none 0 0) = w9 at *
                have TQ := Lib.hid (take_q P9.out)
                clear P9 y5 yz yf
                go_wp2_with fail
                refine TQ.out.mono ?_
                rintro e w11 ⟨rfl, x5, h1, h2, -, -, -, P11⟩
                have R11 := Lib.hid (RN.out x5 (by rw [h1]; show x3.t.take = t1.take; rw [e84.out]) (by rw [h2]; exact e83.out))
                replace P11 := Lib.hid P11
                clear TQ h1 h2 RN e84 e83
                go_wp2_with fail
                go_roundw
                case rel => exact ⟨i + 1, tk + 1, x5, by omega, by go_num, by omega, P11, R11⟩
                case measure => simp [intOf]; omega
        · have R2 : RndI 1200 x := by rw [show 1200 = i by omega]; exact R.out
          obtain ⟨hst, hol⟩ := rnd_end P.out.inv hn80 R2
          clear R2
          have I := Lib.hid P.out.inv
          have HST := Lib.hid hst
          have HOL := Lib.hid hol
          obtain ⟨nd, hnd⟩ : ∃ nd, x.dl.length = nd := ⟨_, rfl⟩
          have hmn : Hid (x.ms.length = nd) := by show _ = _; have := len_map I.out.dl; rw [List.length_map] at this; omega
          have hn100 : nd ≤ 100 := by have := I.out.mi.l; have := hmn.out; omega
          have q6 : wr.cell? ⟨pb, 6, none⟩ = some x.dv := P.out.cell rfl
          obtain ⟨da, dc, edv⟩ : ∃ a c, x.dv = .slice a nd c := by obtain ⟨col, PP, _⟩ := P.out; obtain ⟨a, c, e⟩ := PP.m.da.h.shape; exact ⟨a, c, by rw [e, hnd]⟩
          have DS : Hid (Sl RwB.val wr da x.dl) := by
            obtain ⟨col, PP, _⟩ := P.out
            have := PP.m.da.h
            rw [edv] at this
            exact this.sl
          rw [edv] at q6
          have Q0 := Lib.hid (fun w' (q : Below wr.heap.size wr w') => (P.out.bel q))
          have HND := Lib.hid hnd
          obtain ⟨i1, hi1, hz0, hz1, hz2⟩ := info_parts Tryz.infoRw
          have JI := Lib.hid hi1; have JZ0 := Lib.hid hz0; have JZ1 := Lib.hid hz1; have JZ2 := Lib.hid hz2
          have T0 : Hid (PfAt wr wr x sentL 0 (.slice none 0 0) []) := ⟨Vw.nil _ _ _ _, by simp [sentL], (fun r hr => by cases hr), Below.refl _ _⟩
          clear hnd edv hi1 hz0 hz1 hz2 hst hol z2 PH P R
          obtain ⟨w0, hw0⟩ : ∃ w0, wr = w0 := ⟨_, rfl⟩
          rw [hw0] at T0 Q0 DS q6 ⊢
          clear hw0
          go_wp2_with fail
          go_loopw [9, 85] (fun v ix wr => PfRel w0 x sentL nd v ix wr) (fun _ ix _ => nd - (intOf ix).toNat)
          case atStart => exact ⟨0, [], none, 0, 0, Nat.zero_le _, rfl, rfl, rfl, Nat.le_refl _, T0⟩
          case round =>
            clear T0
            obtain ⟨kq, wl, va, vm, vc, hkq, rfl, rfl, hwl, hvm, T⟩ := hrel
            by_cases hkn2 : kq < nd
            · obtain ⟨r, hr⟩ : ∃ r, x.dl[kq]? = some r := ⟨x.dl[kq]'(by rw [HND.out]; exact hkn2), by simp [show kq < x.dl.length by rw [HND.out]; exact hkn2]⟩
              obtain ⟨m, hm⟩ : ∃ m, x.ms[kq]? = some m := ⟨x.ms[kq]'(by rw [hmn.out]; exact hkn2), by simp [show kq < x.ms.length by rw [hmn.out]; exact hkn2]⟩
              obtain ⟨oka, cka⟩ := (DS.out.below T.out.b) kq r hr
              obtain ⟨ra, rm, rc, erv⟩ : ∃ a m c, r.val = .slice a m c := ⟨_, _, _, rfl⟩
              rw [erv] at cka
              have ST := state_q (Q0.out wr T.out.b) (kq : Int)
              have est : stOf (x.ms.map Msg.st) (kq : Int) = (m.st : Int) := by
                unfold stOf
                rw [if_neg (by omega), Int.toNat_natCast, List.getElem?_map, hm]
                rfl
              rw [est] at ST
              replace ST := Lib.hid ST
              have p0 : wr.cell? ⟨pb, 0, none⟩ = some (.pointer (some ⟨x.b, 0, none⟩)) := (Q0.out wr T.out.b).cell rfl
              have BS := Lib.hid (sent_step hm)
              have hst := HST.out m (List.mem_of_getElem? hm)
              have HR := Lib.hid hr; have HMk := Lib.hid hm; have ERV := Lib.hid erv
              obtain ⟨st, est2⟩ : ∃ s, m.st = s := ⟨_, rfl⟩
              rw [est2] at ST BS hst
              clear hr hm erv est est2
              by_cases c3 : st = 3
              · have e2 : Hid (sentL (x.ms.take (kq + 1)) = sentL (x.ms.take kq) ++ [m.data]) := by have := BS.out; rw [if_pos c3] at this; exact this
                have A4 := Lib.hid (alloc_belQ wr (.cells #[.slice ra rm rc] 22))
                have SR := Lib.hid (pf_sl (w := wr) r (.slice ra rm rc) ERV.out)
                have V4 := Lib.hid (T.out.v.below A4.out)
                have zr : w0.heap.size ≤ wr.heap.size := T.out.b.size
                subst c3
                clear BS hst
                go_wp2_with fail
                refine ST.out.mono ?_
                rintro e w2 ⟨rfl, hw⟩
                subst hw
                clear ST
                go_wp2_with (at_builtin; refine wpList_append_vw rfl _ _ 31 rfl w0.heap.size 22 i1 _ 24 Tryz.underlying31 JI.out JZ0.out JZ1.out JZ2.out rfl RwB.val (fun _ => rfl) (.slice va vm vc) wl rfl V4.out (some ⟨wr.heap.size, 0, none⟩) 1 [r] (by simp [Act.eval, Act.put]) SR.out ?c1 ?c2 ?c3 ?_)
                case c1 => rw [hwl.out]; unfold maxLen; simp; omega
                case c2 => rw [hwl.out]; simp; omega
                case c3 => simp; omega
                intro v6 w6 g1 g2 g3
                obtain ⟨va6, m6, vc6, e6⟩ : ∃ a m c, v6 = .slice a m c := by obtain ⟨a, c, e⟩ := g1.shape; exact ⟨a, _, c, e⟩
                have hm6 : Hid ((wl ++ [r]).length = m6) := by
                  obtain ⟨a, c, e⟩ := g1.shape
                  rw [e6] at e
                  injection e with _ e _
                  exact e.symm
                subst e6
                have T6 := Lib.hid (T.out.yes A4.out HR.out HMk.out I.out.dl e2.out g1 g2)
                have hm7 : m6 ≤ kq + 1 := by have := hm6.out; rw [List.length_append, hwl.out] at this; simp at this; omega
                clear g1 g2 g3 A4 SR V4
                go_wp2_with fail
                go_roundw
                case rel => exact ⟨kq + 1, _, _, _, _, by omega, by go_num, rfl, hm6, by omega, T6⟩
                case measure => simp [intOf]; omega
              · have e2 : sentL (x.ms.take (kq + 1)) = sentL (x.ms.take kq) := by have := BS.out; rw [if_neg c3, List.append_nil] at this; exact this
                have T6 := Lib.hid (T.out.no (Below.refl _ _) HMk.out e2)
                clear BS e2
                rcases (show st = 4 ∨ st = 5 by omega) with rfl | rfl
                all_goals
                  go_wp2_with fail
                  refine ST.out.mono ?_
                  rintro e w2 ⟨rfl, hw⟩
                  subst hw
                  clear ST
                  go_wp2_with fail
                  go_roundw
                  case rel => exact ⟨kq + 1, wl, va, vm, vc, by omega, by go_num, rfl, hwl, by omega, T6⟩
                  case measure => simp [intOf]; omega
            · have hk2 : kq = nd := by omega
              subst hk2
              have em := T.out.m
              rw [List.take_of_length_le (by rw [hmn.out]; omega), ← HOL.out] at em
              obtain ⟨oa, om, oc, eov⟩ : ∃ a m c, x.ov = .slice a m c := by obtain ⟨col, PP, _⟩ := Q0.out wr T.out.b; obtain ⟨a, c, e⟩ := PP.m.ou.h.shape; exact ⟨a, _, c, e⟩
              have P := Q0.out wr T.out.b
              have ho : Hid (x.ol.length = om) := by
                obtain ⟨col, PP, _⟩ := P
                obtain ⟨a, c, e⟩ := PP.m.ou.h.shape
                rw [eov] at e
                injection e with _ e _
                exact e.symm
              have p7 : wr.cell? ⟨pb, 7, none⟩ = some x.ov := P.cell rfl
              rw [eov] at p7
              have p10 : wr.cell? ⟨pb, 10, none⟩ = some (.bool true) := P.cell rfl
              have RO : RdB wr oa x.ol := by
                obtain ⟨col, PP, _⟩ := P
                have := PP.m.ou.h
                rw [eov] at this
                exact ⟨this.sl, fun r hr => (PP.m.ou.r r hr).1⟩
              have hne : ∀ r ∈ x.ol, r.d ≠ [] := by
                obtain ⟨col, PP, _⟩ := P
                exact fun r hr => (PP.m.ou.r r hr).2.1
              have RW : RdB wr va wl := by
                obtain ⟨col, PP, _⟩ := P
                exact ⟨T.out.v.sl, fun r hr => (PP.m.da.r r (T.out.s r hr)).1⟩
              have hlo : om ≤ 100 := by
                have := congrArg List.length em
                rw [List.length_map, List.length_map, hwl.out, ho.out] at this
                omega
              have EQ := eqf_yes wr oa va oc vc x.ol wl RO RW em.symm hne (by have := ho.out; omega)
              rw [ho.out, hwl.out] at EQ
              replace EQ := Lib.hid EQ
              have BF : Hid (Below W.heap.size W wr) := by
                have h2 := P.old
                rw [← HBB.out] at h2
                exact b1.out.trans (h2.mono b1.out.size)
              clear em eov RO RW hne P Q0 q6
              go_wp2_with fail
              refine EQ.out.mono ?_
              rintro e w9 ⟨rfl, hw⟩
              subst hw
              clear EQ
              go_wp2_with fail
              go_ret
              exact ⟨rfl, BF.out⟩
end Go.Proofs.YtkaaoomliepijaaGreat
