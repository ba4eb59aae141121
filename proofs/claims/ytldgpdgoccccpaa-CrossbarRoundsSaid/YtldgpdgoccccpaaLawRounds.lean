/-
  The walk of the law CrossbarRounds.
-/
import Derived.Test.YtldgpdgoccccpaaBarGen
namespace Go.Proofs.Ytldgpdgoccccpaa
open Go.RowKit
set_option linter.unusedVariables false

/-- Two crossbars with the same pointers. -/
structure Two (W : World) (ca cb n : Nat) (p : (Nat → Nat) × (Nat → Nat)) (w : World) : Prop where
  a : BarAt w ca n p.1 p.2
  b : BarAt w cb n p.1 p.2
  rg : Bar.Rg n p
  bel : Below W.heap.size W w
def TwoRel (W : World) (ca cb n l : Nat) (i : Value) (w : World) : Prop := ∃ (k : Nat) (p : (Nat → Nat) × (Nat → Nat)), k ≤ l ∧ i = .int .i64 k ∧ Two W ca cb n p w
theorem req_offn {W : World} {a : Option Addr} {rs : List (RowOf Bool)} (h : Req W a rs) {cb : Nat} (hc : W.heap.size ≤ cb) : Off a rs (fun j => j = cb) :=
  h.off (S := fun _ => False) ⟨fun _ => id, fun _ _ _ => id⟩ fun j hj => .inr (by rw [hj]; exact hc)
def RdEnd (W : World) (mb qb n : Nat) (m q : Nat → Int) (w : World) : Prop := Fun w mb 3 n (iF m) ∧ Fun w qb 3 n (iF q) ∧ Below W.heap.size W w
def RdRel (W : World) (mb qb n : Nat) (m q : Nat → Int) (f i : Value) (w : World) : Prop :=
  ∃ k c : Nat, k ≤ n ∧ c ≤ k ∧ i = .int .i64 k ∧ f = .int .i64 c ∧ (c = 0 ↔ ∀ j < k, ¬ (m j < 0 ∧ 0 ≤ q j)) ∧ RdEnd W mb qb n m q w

set_option maxHeartbeats 8000000 in
set_option maxRecDepth 100000 in
theorem crossbarRounds_walk (W : World) (a0 : Option Addr) (c0 : Nat) (x0 : List (RowOf (RowOf Bool))) (s0 : Sl RowOf.val W a0 x0) (g0 : ∀ r ∈ x0, Sl RowOf.val W (RowOf.a r) r.xs ∧ (∀ l ∈ r.xs, Sl Value.bool W (RowOf.a l) l.xs ∧ (∀ y ∈ l.xs, True) ∧ l.xs.length ≤ maxLen) ∧ r.xs.length ≤ maxLen) (m0 : x0.length ≤ maxLen)
    (a1 : Option Addr) (c1 : Nat) (x1 : List (RowOf Bool)) (s1 : Sl RowOf.val W a1 x1) (g1 : ∀ r ∈ x1, Sl Value.bool W (RowOf.a r) r.xs ∧ (∀ y ∈ r.xs, True) ∧ r.xs.length ≤ maxLen) (m1 : x1.length ≤ maxLen) (z : Int) (w2 : (Lit.int .u8 z).wf = true) :
    Calls Try.prog 9 #[.slice a0 x0.length c0, .slice a1 x1.length c1, .int .u8 z] W fun e W' => e = .returned (.bool true) ∧ Below W.heap.size W W' := by
  obtain ⟨rqs, lns⟩ := reqs_of s0 g0
  obtain ⟨rq, ln⟩ := req_of s1 g1 m1
  have RQS := Lib.hid rqs; have LNS := Lib.hid lns; have RQ := Lib.hid rq; have LN := Lib.hid ln; have M0 := Lib.hid m0
  have HAW := Lib.hid (awake_ok W)
  obtain ⟨hz0, hz255⟩ := u8_bounds w2
  obtain ⟨q, rfl⟩ := Int.eq_ofNat_of_zero_le hz0
  have mm1 := m1
  unfold maxLen at mm1 m0
  clear s0 g0 rqs lns s1 g1 rq ln m1 w2 hz0
  cases hgs : grsB x0 with
  | true =>
    have HGS := Lib.hid hgs; clear hgs
    go_enter Try.func9, Try.ntmps9
    go_wp2_with fail
    go_fit HAW.out
    rintro e w1 ⟨rfl, hb⟩
    have B1 := Lib.hid hb; clear hb
    have G := greats_any w1 a0 c0 x0 (RQS.out.below B1.out) M0.out LNS.out
    rw [HGS.out] at G
    have G1 := Lib.hid G; clear G
    go_wp2_with fail
    go_fit G1.out
    rintro e w2 ⟨rfl, rfl⟩
    go_wp2_with fail
    go_ret
    exact ⟨rfl, B1.out⟩
  | false =>
    have HGS := Lib.hid hgs; clear hgs
    cases hgr : grB x1 with
    | true =>
      have HGR := Lib.hid hgr; clear hgr
      go_enter Try.func9, Try.ntmps9
      go_wp2_with fail
      go_fit HAW.out
      rintro e w1 ⟨rfl, hb⟩
      have B1 := Lib.hid hb; clear hb
      have G := greats_any w1 a0 c0 x0 (RQS.out.below B1.out) M0.out LNS.out
      rw [HGS.out] at G
      have G1 := Lib.hid G; clear G
      go_wp2_with fail
      go_fit G1.out
      rintro e w2 ⟨rfl, rfl⟩
      have G := great_any w1 a1 c1 x1 (RQ.out.below B1.out) LN.out
      rw [HGR.out] at G
      have G1 := Lib.hid G; clear G
      go_wp2_with fail
      go_fit G1.out
      rintro e w2 ⟨rfl, rfl⟩
      go_wp2_with fail
      go_ret
      exact ⟨rfl, B1.out⟩
    | false =>
      have HGR := Lib.hid hgr
      obtain ⟨h10, _⟩ := grB_false hgr
      clear hgr
      by_cases hbad : (x1.length : Int) < 1 ∨ (8 : Int) < x1.length
      · go_enter Try.func9, Try.ntmps9
        go_wp2_with fail
        go_fit HAW.out
        rintro e w1 ⟨rfl, hb⟩
        have B1 := Lib.hid hb; clear hb
        have G := greats_any w1 a0 c0 x0 (RQS.out.below B1.out) M0.out LNS.out
        rw [HGS.out] at G
        have G1 := Lib.hid G; clear G
        go_wp2_with fail
        go_fit G1.out
        rintro e w2 ⟨rfl, rfl⟩
        have G := great_any w1 a1 c1 x1 (RQ.out.below B1.out) LN.out
        rw [HGR.out] at G
        have G1 := Lib.hid G; clear G
        have NB := Lib.hid (barnew_bad (x1.length : Int) w1 hbad)
        go_wp2_with fail
        go_fit G1.out
        rintro e w2 ⟨rfl, rfl⟩
        go_wp2_with fail
        go_fit NB.out
        rintro e w2 ⟨rfl, rfl⟩
        go_wp2_with fail
        go_fit NB.out
        rintro e w2 ⟨rfl, rfl⟩
        rcases hbad with h1 | h1
        · go_wp2_with fail
          go_ret
          exact ⟨rfl, B1.out⟩
        · have h2 : ¬ (x1.length : Int) < 1 := by omega
          go_wp2_with fail
          go_ret
          exact ⟨rfl, B1.out⟩
      · have hn1 : 1 ≤ x1.length := by omega
        have hn8 : x1.length ≤ 8 := by omega
        clear hbad
        have HLQ : Hid (x1.length = x1.length) := rfl
        have RGZ : Hid (Bar.Rg x1.length (fun _ => 0, fun _ => 0)) := ⟨fun k hk => by show 0 < _; omega, fun k hk => by show 0 < _; omega⟩
        generalize hn : x1.length = n at *
        have HN := Lib.hid hn
        clear hn HLQ
        go_enter Try.func9, Try.ntmps9
        go_wp2_with fail
        go_fit HAW.out
        rintro e w1 ⟨rfl, hb⟩
        have B1 := Lib.hid hb; clear hb
        have G := greats_any w1 a0 c0 x0 (RQS.out.below B1.out) M0.out LNS.out
        rw [HGS.out] at G
        have G1 := Lib.hid G; clear G
        go_wp2_with fail
        go_fit G1.out
        rintro e w2 ⟨rfl, rfl⟩
        have G := great_any w1 a1 c1 x1 (RQ.out.below B1.out) LN.out
        rw [HGR.out, HN.out] at G
        have G1 := Lib.hid G; clear G
        have N1 := Lib.hid (barnew_ok n w1 hn1 hn8)
        go_wp2_with fail
        go_fit G1.out
        rintro e w2 ⟨rfl, rfl⟩
        go_wp2_with fail
        go_fit N1.out
        rintro e w2 ⟨rfl, hA, hb, hz⟩
        have N2 := Lib.hid (barnew_ok n w2 hn1 hn8)
        have B2 := Lib.hid (B1.out.trans (hb.mono B1.out.size))
        have A2 := Lib.hid hA
        have lw2 : w1.heap.size < w2.heap.size := by omega
        have lw1 := B1.out.size
        clear hA hb hz N1
        go_wp2_with fail
        go_fit N2.out
        rintro e w3 ⟨rfl, hA, hb, hz⟩
        have T3 : Hid (Two W w1.heap.size w2.heap.size n (fun _ => 0, fun _ => 0) w3) := ⟨A2.out.below hb, hA, RGZ.out, B2.out.trans (hb.mono B2.out.size)⟩
        clear hA hb hz N2 A2 B2 G1
        generalize hca : w1.heap.size = ca at *
        generalize hcb : w2.heap.size = cb at *
        have hWa : W.heap.size ≤ ca := by omega
        have hWb : W.heap.size ≤ cb := by omega
        have hab : ca ≠ cb := by omega
        clear hca hcb lw1 lw2
        go_wp2_with fail
        generalize hlx : x0.length = lx at *
        have HLX := Lib.hid hlx
        clear hlx
        go_loopw [63] (fun i w => TwoRel W ca cb n lx i w) (fun i _ => lx - (intOf i).toNat)
        case atStart => exact ⟨0, _, Nat.zero_le _, rfl, T3.out⟩
        case round =>
          clear T3
          obtain ⟨k, p, hk, rfl, hT⟩ := hrel
          have T := Lib.hid hT; clear hT
          by_cases hlt : k < lx
          · obtain ⟨x, ex, okx, cx⟩ := (RQS.out.below T.out.bel).hs.get (k := k) (by rw [HLX.out]; exact hlt)
            have hxm := List.mem_of_getElem? ex.out
            have RX := Lib.hid (RQS.out.rows x hxm)
            have LX := Lib.hid (LNS.out x hxm)
            have RX1 := Lib.hid (RX.out.below T.out.bel)
            obtain ⟨xa, xc, xs⟩ := x
            unfold RowOf.val at cx
            dsimp only at cx RX LX RX1
            have MA := Lib.hid (match_gen wr ca n 2 p xa xc xs T.out.a RX1.out LX.out (by decide) (by decide) hn1 hn8 T.out.rg (req_offn RX.out hWa))
            clear hxm
            go_wp2_with fail
            go_fit MA.out
            rintro e w4 ⟨v1, v2, rfl, hA4, hU4⟩
            have la := T.out.a.lt
            have B4 : Hid (Below W.heap.size W w4) := Upd.below T.out.bel hU4 T.out.bel.size fun i hi => by omega
            have A4 := Lib.hid hA4
            have MB := Lib.hid (match_gen w4 cb n 2 p xa xc xs (T.out.b.upd hU4 (fun e => hab e.symm)) (RX.out.below B4.out) LX.out (by decide) (by decide) hn1 hn8 T.out.rg (req_offn RX.out hWb))
            clear hA4 hU4 MA
            go_wp2_with fail
            go_fit MB.out
            rintro e w5 ⟨v3, v4, rfl, hA5, hU5⟩
            have T5 : Hid (Two W ca cb n (mst xs n 2 p) w5) := ⟨A4.out.upd hU5 hab, hA5, mst_rg T.out.rg, Upd.below B4.out hU5 B4.out.size fun i hi => by omega⟩
            clear hA5 hU5 MB
            go_wp2_with fail
            go_roundw
            case rel => exact ⟨k + 1, _, by omega, by go_num, T5.out⟩
            case measure => simp [intOf]; omega
          · obtain rfl : lx = k := by omega
            have RQ1 := Lib.hid (RQ.out.below T.out.bel)
            have hqm : (0 : Int) ≤ (q : Int) % 8 ∧ (q : Int) % 8 < 8 := by omega
            obtain ⟨hqm0, hqm8⟩ := hqm
            by_cases h7 : q % 8 = 7
            · have hb7 : ((q : Int) % 8 + 1 == 8) = true := by rw [beq_iff_eq]; omega
              obtain ⟨kk, hk1, hk7, ek⟩ : ∃ kk : Nat, 1 ≤ kk ∧ kk ≤ 7 ∧ Hid ((q : Int) % 8 + 1 - 1 = (kk : Int)) := ⟨7, by omega, by omega, by show _ = _; omega⟩
              clear h7
              go_wp2_with fail
              first | rw [ek.out] | (have ek2 : (q : Int) % 8 = (kk : Int) := by have := ek.out; omega
                                     rw [ek2])
              cases hsq : sqB x1 n with
              | false =>
                have MA := Lib.hid (match_arg wr ca n p.1 p.2 a1 c1 x1 kk T.out.a RQ1.out LN.out.1 LN.out.2 hsq)
                have MB := match_arg wr cb n p.1 p.2 a1 c1 x1 ((kk + 1 : Nat) : Int) T.out.b RQ1.out LN.out.1 LN.out.2 hsq
                rw [HN.out] at MA MB
                rw [show ((kk + 1 : Nat) : Int) = (kk : Int) + 1 by simp] at MB
                have MB2 := Lib.hid MB
                clear hsq MB
                go_fit MA.out
                rintro e w4 ⟨rfl, rfl⟩
                go_wp2_with fail
                go_fit MB2.out
                rintro e w4 ⟨rfl, rfl⟩
                go_wp2_with fail
                go_ret
                exact ⟨rfl, T.out.bel⟩
              | true =>
                have HSQ := Lib.hid hsq
                have OF : ∀ c, W.heap.size ≤ c → Off a1 x1 (fun j => j = c) := fun c hc => req_offn RQ.out hc
                have OO := Bar.start_ok (req := reqF x1) T.out.rg.g T.out.rg.a
                have O := Lib.hid (Bar.rounds_ok OO kk)
                have OA := OF ca hWa
                have OB := OF cb hWb
                have MA := match_ok wr ca n kk p.1 p.2 a1 c1 x1 T.out.a RQ1.out LN.out.1 LN.out.2 hsq hk1 (by omega) hn1 hn8 T.out.rg.g T.out.rg.a OA
                have hmore : Hid (∀ i < n, (Bar.rounds (reqF x1) n (Bar.start p.1 p.2) (kk + 1)).m i = (Bar.round (reqF x1) n false (Bar.rounds (reqF x1) n (Bar.start p.1 p.2) kk)).m i) := by
                  intro i hi
                  show (Bar.round (reqF x1) n (kk == 0) _).m i = _
                  rw [show (kk == 0) = false by rw [beq_eq_false_iff_ne]; omega]
                have MBF : Hid (∀ w, BarAt w cb n p.1 p.2 → Req w a1 x1 → Calls Try.prog 16 #[.pointer (some ⟨cb, 0, none⟩), .slice a1 n c1, .int .i64 ((kk : Int) + 1)] w (MatchPost w cb n (Bar.rounds (reqF x1) n (Bar.start p.1 p.2) (kk + 1)))) := fun w h1 h2 => by
                  have := match_ok w cb n (kk + 1) p.1 p.2 a1 c1 x1 h1 h2 LN.out.1 LN.out.2 HSQ.out (by omega) (by omega) hn1 hn8 T.out.rg.g T.out.rg.a OB
                  rw [HN.out] at this
                  rwa [show ((kk + 1 : Nat) : Int) = (kk : Int) + 1 by simp] at this
                generalize Bar.rounds (reqF x1) n (Bar.start p.1 p.2) (kk + 1) = s2 at *
                generalize Bar.rounds (reqF x1) n (Bar.start p.1 p.2) kk = s1 at *
                rw [HN.out] at MA
                have MA2 := Lib.hid MA
                have HWA := Lib.hid hWa; have HWB := Lib.hid hWb
                clear MA OO hsq OF OA OB
                go_fit MA2.out
                rintro e w4 ⟨rfl, hA4, hF4, hU4⟩
                have la := T.out.a.lt
                have lb := T.out.b.lt
                have B4 : Hid (Below W.heap.size W w4) := Upd.below T.out.bel hU4 T.out.bel.size fun i hi => by omega
                have MB := Lib.hid (MBF.out w4 (T.out.b.upd hU4 (fun e => hab e.symm)) (RQ1.out.upd hU4 (req_offn RQ.out HWA.out)))
                have F4 := Lib.hid hF4
                have hsz4 := hU4.size
                clear hA4 hF4 hU4 MA2 MBF
                generalize hmb : wr.heap.size = mb at *
                go_wp2_with fail
                go_fit MB.out
                rintro e w5 ⟨rfl, hA5, hF5, hU5⟩
                have l4 := F4.out.lt
                have B5 : Hid (Below W.heap.size W w5) := Upd.below B4.out hU5 B4.out.size fun i hi => by omega
                have E5 : Hid (RdEnd W mb w4.heap.size n s1.m s2.m w5) := ⟨F4.out.upd hU5 (by omega), hF5, B5.out⟩
                clear hA5 hF5 hU5 MB F4 hmb
                generalize hqb : w4.heap.size = qb at *
                clear hqb
                go_wp2_with fail
                go_loopw [19, 128] (fun f i w => RdRel W mb qb n s1.m s2.m f i w) (fun _ i _ => n - (intOf i).toNat)
                case atStart => exact ⟨0, 0, Nat.zero_le _, Nat.le_refl _, rfl, rfl, ⟨fun _ j hj => by omega, fun _ => rfl⟩, E5.out⟩
                case round =>
                  clear E5 B5 B4
                  obtain ⟨i, f, hi, hfi, rfl, rfl, hff, hE⟩ := hrel
                  have FF := Lib.hid hff; have E := Lib.hid hE
                  clear hff hE
                  by_cases hit : i < n
                  · have y1 := E.out.1.cell hit
                    have y2 := E.out.2.1.cell hit
                    unfold iF at y1 y2
                    have i_n : (i : Int) < (n : Int) := by omega
                    by_cases hm : 0 ≤ s1.m i
                    · have he : s2.m i = s1.m i := by rw [hmore.out i hit]; exact Bar.round_keeps O.out false hit hm
                      have NX : Hid (f = 0 ↔ ∀ j < i + 1, ¬ (s1.m j < 0 ∧ 0 ≤ s2.m j)) := by
                        show _ ↔ _
                        rw [FF.out]
                        exact ⟨fun h j hj => by
                          by_cases e : j = i
                          · subst e; omega
                          · exact h j (by omega), fun h j hj => h j (by omega)⟩
                      rw [he] at y2
                      generalize s1.m i = x at *
                      have hmd : decide (x < 0) = false := by simp; omega
                      clear he
                      go_wp2_with fail
                      go_quiet (fail)
                      go_wp2_with fail
                      go_roundw
                      case rel => exact ⟨i + 1, f, by omega, by omega, by go_num, rfl, NX.out, ⟨E.out.1.below (Qt.drewN' _ _).bel, E.out.2.1.below (Qt.drewN' _ _).bel, E.out.2.2.trans ((Qt.drewN' _ _).below _)⟩⟩
                      case measure => simp [intOf]; omega
                    · have hmd : decide (0 ≤ s1.m i) = false := by simp; omega
                      have hm0 : s1.m i < 0 := by omega
                      by_cases hq2 : 0 ≤ s2.m i
                      · have NX : Hid (f + 1 = 0 ↔ ∀ j < i + 1, ¬ (s1.m j < 0 ∧ 0 ≤ s2.m j)) := ⟨fun h => by omega, fun h => absurd ⟨hm0, hq2⟩ (h i (by omega))⟩
                        generalize s1.m i = x at *
                        generalize s2.m i = y at *
                        go_wp2_with fail
                        go_quiet (fail)
                        go_wp2_with fail
                        go_roundw
                        case rel => exact ⟨i + 1, f + 1, by omega, by omega, by go_num, by go_num, NX.out, ⟨E.out.1.below (Qt.drewN' _ _).bel, E.out.2.1.below (Qt.drewN' _ _).bel, E.out.2.2.trans ((Qt.drewN' _ _).below _)⟩⟩
                        case measure => simp [intOf]; omega
                      · have NX : Hid (f = 0 ↔ ∀ j < i + 1, ¬ (s1.m j < 0 ∧ 0 ≤ s2.m j)) := by
                          show _ ↔ _
                          rw [FF.out]
                          exact ⟨fun h j hj => by
                            by_cases e : j = i
                            · subst e; omega
                            · exact h j (by omega), fun h j hj => h j (by omega)⟩
                        generalize s1.m i = x at *
                        generalize s2.m i = y at *
                        go_wp2_with fail
                        go_quiet (fail)
                        go_wp2_with fail
                        go_roundw
                        case rel => exact ⟨i + 1, f, by omega, by omega, by go_num, rfl, NX.out, ⟨E.out.1.below (Qt.drewN' _ _).bel, E.out.2.1.below (Qt.drewN' _ _).bel, E.out.2.2.trans ((Qt.drewN' _ _).below _)⟩⟩
                        case measure => simp [intOf]; omega
                  · obtain rfl : n = i := by omega
                    have HFM : fmB x1 = true := by
                      simp only [fmB, Bool.and_eq_true, decide_eq_true_eq]
                      rw [HN.out]; exact ⟨hn8, HSQ.out⟩
                    have MO := maximal_any wr a1 (some ⟨mb, 0, none⟩) c1 n x1 ((List.range n).map s1.m) (RQ.out.below E.out.2.2) E.out.1.sl LN.out.1 LN.out.2 (by simp [maxLen]; omega)
                    rw [HN.out, show ((List.range n).map s1.m).length = n by simp] at MO
                    have MO1 := Lib.hid MO
                    have MIF : Hid (f = 0 ↔ MaxOk x1 ((List.range n).map s1.m)) := by
                      show _ ↔ _
                      have e := HN.out
                      rw [FF.out]
                      subst e
                      rw [maxok_maxi HFM O.out]
                      constructor
                      · intro h
                        refine Classical.byContradiction fun hno => ?_
                        obtain ⟨i, hi, h1, h2⟩ := Bar.round_more O.out false hno
                        exact h i hi ⟨h1, by rw [hmore.out i hi]; exact h2⟩
                      · intro h j hj ⟨h1, h2⟩
                        rw [hmore.out j hj, Bar.round_max O.out false h j hj] at h2
                        omega
                    clear MO HFM
                    go_wp2_with fail
                    go_fit MO1.out
                    rintro e w6 ⟨b, rfl, hbm, hb6⟩
                    have hbb : ((f : Int) == 0) = b := by
                      rw [Bool.eq_iff_iff, hbm, ← MIF.out]
                      simp
                    have B6 := Lib.hid (E.out.2.2.trans (hb6.mono E.out.2.2.size))
                    clear hbm hb6
                    go_wp2_with fail
                    go_ret
                    exact ⟨by simp, B6.out⟩
            · have hb7 : ((q : Int) % 8 + 1 == 8) = false := by rw [beq_eq_false_iff_ne]; omega
              obtain ⟨kk, hk1, hk7, ek⟩ : ∃ kk : Nat, 1 ≤ kk ∧ kk ≤ 7 ∧ Hid ((q : Int) % 8 + 1 = (kk : Int)) := ⟨q % 8 + 1, by omega, by omega, by show _ = _; omega⟩
              clear h7
              go_wp2_with fail
              rw [ek.out]
              cases hsq : sqB x1 n with
              | false =>
                have MA := Lib.hid (match_arg wr ca n p.1 p.2 a1 c1 x1 kk T.out.a RQ1.out LN.out.1 LN.out.2 hsq)
                have MB := match_arg wr cb n p.1 p.2 a1 c1 x1 ((kk + 1 : Nat) : Int) T.out.b RQ1.out LN.out.1 LN.out.2 hsq
                rw [HN.out] at MA MB
                rw [show ((kk + 1 : Nat) : Int) = (kk : Int) + 1 by simp] at MB
                have MB2 := Lib.hid MB
                clear hsq MB
                go_fit MA.out
                rintro e w4 ⟨rfl, rfl⟩
                go_wp2_with fail
                go_fit MB2.out
                rintro e w4 ⟨rfl, rfl⟩
                go_wp2_with fail
                go_ret
                exact ⟨rfl, T.out.bel⟩
              | true =>
                have HSQ := Lib.hid hsq
                have OF : ∀ c, W.heap.size ≤ c → Off a1 x1 (fun j => j = c) := fun c hc => req_offn RQ.out hc
                have OO := Bar.start_ok (req := reqF x1) T.out.rg.g T.out.rg.a
                have O := Lib.hid (Bar.rounds_ok OO kk)
                have OA := OF ca hWa
                have OB := OF cb hWb
                have MA := match_ok wr ca n kk p.1 p.2 a1 c1 x1 T.out.a RQ1.out LN.out.1 LN.out.2 hsq hk1 (by omega) hn1 hn8 T.out.rg.g T.out.rg.a OA
                have hmore : Hid (∀ i < n, (Bar.rounds (reqF x1) n (Bar.start p.1 p.2) (kk + 1)).m i = (Bar.round (reqF x1) n false (Bar.rounds (reqF x1) n (Bar.start p.1 p.2) kk)).m i) := by
                  intro i hi
                  show (Bar.round (reqF x1) n (kk == 0) _).m i = _
                  rw [show (kk == 0) = false by rw [beq_eq_false_iff_ne]; omega]
                have MBF : Hid (∀ w, BarAt w cb n p.1 p.2 → Req w a1 x1 → Calls Try.prog 16 #[.pointer (some ⟨cb, 0, none⟩), .slice a1 n c1, .int .i64 ((kk : Int) + 1)] w (MatchPost w cb n (Bar.rounds (reqF x1) n (Bar.start p.1 p.2) (kk + 1)))) := fun w h1 h2 => by
                  have := match_ok w cb n (kk + 1) p.1 p.2 a1 c1 x1 h1 h2 LN.out.1 LN.out.2 HSQ.out (by omega) (by omega) hn1 hn8 T.out.rg.g T.out.rg.a OB
                  rw [HN.out] at this
                  rwa [show ((kk + 1 : Nat) : Int) = (kk : Int) + 1 by simp] at this
                generalize Bar.rounds (reqF x1) n (Bar.start p.1 p.2) (kk + 1) = s2 at *
                generalize Bar.rounds (reqF x1) n (Bar.start p.1 p.2) kk = s1 at *
                rw [HN.out] at MA
                have MA2 := Lib.hid MA
                have HWA := Lib.hid hWa; have HWB := Lib.hid hWb
                clear MA OO hsq OF OA OB
                go_fit MA2.out
                rintro e w4 ⟨rfl, hA4, hF4, hU4⟩
                have la := T.out.a.lt
                have lb := T.out.b.lt
                have B4 : Hid (Below W.heap.size W w4) := Upd.below T.out.bel hU4 T.out.bel.size fun i hi => by omega
                have MB := Lib.hid (MBF.out w4 (T.out.b.upd hU4 (fun e => hab e.symm)) (RQ1.out.upd hU4 (req_offn RQ.out HWA.out)))
                have F4 := Lib.hid hF4
                have hsz4 := hU4.size
                clear hA4 hF4 hU4 MA2 MBF
                generalize hmb : wr.heap.size = mb at *
                go_wp2_with fail
                go_fit MB.out
                rintro e w5 ⟨rfl, hA5, hF5, hU5⟩
                have l4 := F4.out.lt
                have B5 : Hid (Below W.heap.size W w5) := Upd.below B4.out hU5 B4.out.size fun i hi => by omega
                have E5 : Hid (RdEnd W mb w4.heap.size n s1.m s2.m w5) := ⟨F4.out.upd hU5 (by omega), hF5, B5.out⟩
                clear hA5 hF5 hU5 MB F4 hmb
                generalize hqb : w4.heap.size = qb at *
                clear hqb
                go_wp2_with fail
                go_loopw [19, 128] (fun f i w => RdRel W mb qb n s1.m s2.m f i w) (fun _ i _ => n - (intOf i).toNat)
                case atStart => exact ⟨0, 0, Nat.zero_le _, Nat.le_refl _, rfl, rfl, ⟨fun _ j hj => by omega, fun _ => rfl⟩, E5.out⟩
                case round =>
                  clear E5 B5 B4
                  obtain ⟨i, f, hi, hfi, rfl, rfl, hff, hE⟩ := hrel
                  have FF := Lib.hid hff; have E := Lib.hid hE
                  clear hff hE
                  by_cases hit : i < n
                  · have y1 := E.out.1.cell hit
                    have y2 := E.out.2.1.cell hit
                    unfold iF at y1 y2
                    have i_n : (i : Int) < (n : Int) := by omega
                    by_cases hm : 0 ≤ s1.m i
                    · have he : s2.m i = s1.m i := by rw [hmore.out i hit]; exact Bar.round_keeps O.out false hit hm
                      have NX : Hid (f = 0 ↔ ∀ j < i + 1, ¬ (s1.m j < 0 ∧ 0 ≤ s2.m j)) := by
                        show _ ↔ _
                        rw [FF.out]
                        exact ⟨fun h j hj => by
                          by_cases e : j = i
                          · subst e; omega
                          · exact h j (by omega), fun h j hj => h j (by omega)⟩
                      rw [he] at y2
                      generalize s1.m i = x at *
                      have hmd : decide (x < 0) = false := by simp; omega
                      clear he
                      go_wp2_with fail
                      go_quiet (fail)
                      go_wp2_with fail
                      go_roundw
                      case rel => exact ⟨i + 1, f, by omega, by omega, by go_num, rfl, NX.out, ⟨E.out.1.below (Qt.drewN' _ _).bel, E.out.2.1.below (Qt.drewN' _ _).bel, E.out.2.2.trans ((Qt.drewN' _ _).below _)⟩⟩
                      case measure => simp [intOf]; omega
                    · have hmd : decide (0 ≤ s1.m i) = false := by simp; omega
                      have hm0 : s1.m i < 0 := by omega
                      by_cases hq2 : 0 ≤ s2.m i
                      · have NX : Hid (f + 1 = 0 ↔ ∀ j < i + 1, ¬ (s1.m j < 0 ∧ 0 ≤ s2.m j)) := ⟨fun h => by omega, fun h => absurd ⟨hm0, hq2⟩ (h i (by omega))⟩
                        generalize s1.m i = x at *
                        generalize s2.m i = y at *
                        go_wp2_with fail
                        go_quiet (fail)
                        go_wp2_with fail
                        go_roundw
                        case rel => exact ⟨i + 1, f + 1, by omega, by omega, by go_num, by go_num, NX.out, ⟨E.out.1.below (Qt.drewN' _ _).bel, E.out.2.1.below (Qt.drewN' _ _).bel, E.out.2.2.trans ((Qt.drewN' _ _).below _)⟩⟩
                        case measure => simp [intOf]; omega
                      · have NX : Hid (f = 0 ↔ ∀ j < i + 1, ¬ (s1.m j < 0 ∧ 0 ≤ s2.m j)) := by
                          show _ ↔ _
                          rw [FF.out]
                          exact ⟨fun h j hj => by
                            by_cases e : j = i
                            · subst e; omega
                            · exact h j (by omega), fun h j hj => h j (by omega)⟩
                        generalize s1.m i = x at *
                        generalize s2.m i = y at *
                        go_wp2_with fail
                        go_quiet (fail)
                        go_wp2_with fail
                        go_roundw
                        case rel => exact ⟨i + 1, f, by omega, by omega, by go_num, rfl, NX.out, ⟨E.out.1.below (Qt.drewN' _ _).bel, E.out.2.1.below (Qt.drewN' _ _).bel, E.out.2.2.trans ((Qt.drewN' _ _).below _)⟩⟩
                        case measure => simp [intOf]; omega
                  · obtain rfl : n = i := by omega
                    have HFM : fmB x1 = true := by
                      simp only [fmB, Bool.and_eq_true, decide_eq_true_eq]
                      rw [HN.out]; exact ⟨hn8, HSQ.out⟩
                    have MO := maximal_any wr a1 (some ⟨mb, 0, none⟩) c1 n x1 ((List.range n).map s1.m) (RQ.out.below E.out.2.2) E.out.1.sl LN.out.1 LN.out.2 (by simp [maxLen]; omega)
                    rw [HN.out, show ((List.range n).map s1.m).length = n by simp] at MO
                    have MO1 := Lib.hid MO
                    have MIF : Hid (f = 0 ↔ MaxOk x1 ((List.range n).map s1.m)) := by
                      show _ ↔ _
                      have e := HN.out
                      rw [FF.out]
                      subst e
                      rw [maxok_maxi HFM O.out]
                      constructor
                      · intro h
                        refine Classical.byContradiction fun hno => ?_
                        obtain ⟨i, hi, h1, h2⟩ := Bar.round_more O.out false hno
                        exact h i hi ⟨h1, by rw [hmore.out i hi]; exact h2⟩
                      · intro h j hj ⟨h1, h2⟩
                        rw [hmore.out j hj, Bar.round_max O.out false h j hj] at h2
                        omega
                    clear MO HFM
                    go_wp2_with fail
                    go_fit MO1.out
                    rintro e w6 ⟨b, rfl, hbm, hb6⟩
                    have hbb : ((f : Int) == 0) = b := by
                      rw [Bool.eq_iff_iff, hbm, ← MIF.out]
                      simp
                    have B6 := Lib.hid (E.out.2.2.trans (hb6.mono E.out.2.2.size))
                    clear hbm hb6
                    go_wp2_with fail
                    go_ret
                    exact ⟨by simp, B6.out⟩
end Go.Proofs.Ytldgpdgoccccpaa
